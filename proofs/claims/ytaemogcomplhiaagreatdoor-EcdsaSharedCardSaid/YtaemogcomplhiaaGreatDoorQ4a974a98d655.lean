/- Laws that the proof rests on. -/
import Derived.Test.YtaemogcomplhiaaGreatDoorQ24f90b8c201c
set_option maxRecDepth 100000
set_option maxHeartbeats 16000000
namespace Go.Proofs.YtaemogcomplhiaaGreatDoor
open Go.RowKit
open Sha
def KW (w:World):Prop:=∀ i,i<64→∃ y:Nat,w.cell? ⟨3,i,none⟩=some (.int .u64 (y:Int))∧y<18446744073709551616∧y/4294967296=(wd kk i).toNat
theorem KW.ext {w X:World}(h:KW w)(hE:Ext w X):KW X:=fun i hi=>let ⟨y,h1,h2⟩:=h i hi;⟨y,hE.cell h1,h2⟩
def vl (s:List W) (wt:Value) (n:Nat):List Value:=.int .i64 3::(s.map (fun x=>Value.int .u64 (x.toNat:Int))++[wt,.int .u64 (n:Int)])
def HB (w:World) (b:Nat) (s:List W) (wt:Value) (n:Nat):Prop:=w.heap[b]?=some (.cells (vl s wt n).toArray 192 (0,0))∧s.length=8
theorem HB.lt {w:World}{b n:Nat}{s:List W}{wt:Value}(h:HB w b s wt n):b<w.heap.size:=qr h.1
theorem HB.cell {w:World}{b n:Nat}{s:List W}{wt:Value}(h:HB w b s wt n){i:Nat}(hi:i<8):w.cell? ⟨b,1+i,none⟩=some (.int .u64 ((wd s i).toNat:Int)):=by
 obtain⟨h,h8⟩:=h;rw[zQ h];have:i<s.length:=by omega
 simp[vl,vp 1 i,wZ,wd,this]
theorem HB.free {w:World}{b n:Nat}{s:List W}{wt:Value}(h:HB w b s wt n)(i:Nat):w.frozen? ⟨b,i,none⟩=false:=qu h.1 i
theorem HB.kind {w:World}{b n:Nat}{s:List W}{wt:Value}(h:HB w b s wt n):w.cell? ⟨b,0,none⟩=some (.int .i64 3):=by
 rw[zQ h.1];rfl
theorem HB.wait {w:World}{b n:Nat}{s:List W}{wt:Value}(h:HB w b s wt n):w.cell? ⟨b,9,none⟩=some wt:=by
 obtain⟨h,h8⟩:=h;rw[zQ h];simp[vl,h8]
theorem HB.num {w:World}{b n:Nat}{s:List W}{wt:Value}(h:HB w b s wt n):w.cell? ⟨b,10,none⟩=some (.int .u64 (n:Int)):=by
 obtain⟨h,h8⟩:=h;rw[zQ h];simp[vl,h8]
theorem HB.set {w:World}{b n:Nat}{s:List W}{wt:Value}(h:HB w b s wt n){i:Nat}(hi:i<8)(x:W):HB (w.setCell ⟨b,1+i,none⟩ (.int .u64 (x.toNat:Int))) b (s.set i x) wt n:=by
 refine⟨?_,by simpa using h.2⟩;have:=jM h.1 (1+i) (.int .u64 (x.toNat:Int));rw[this];have e:1+i=i+1:=by omega
 have h8:=h.2;simp[vl,e,List.map_set,h8,hi]
theorem HB.setWait {w:World}{b n:Nat}{s:List W}{wt:Value}(h:HB w b s wt n)(v:Value):HB (w.setCell ⟨b,9,none⟩ v) b s v n:=by
 refine⟨?_,h.2⟩;rw[jM h.1 9 v];have h8:=h.2;simp[vl,h8]
theorem HB.setNum {w:World}{b n:Nat}{s:List W}{wt:Value}(h:HB w b s wt n)(m:Nat):HB (w.setCell ⟨b,10,none⟩ (.int .u64 (m:Int))) b s wt m:=by
 refine⟨?_,h.2⟩;rw[jM h.1 10 _];have h8:=h.2;simp[vl,h8]
theorem HB.ext {w X:World}{b n:Nat}{s:List W}{wt:Value}(h:HB w b s wt n)(hE:Ext w X):HB X b s wt n:=⟨hE.at_ h.1,h.2⟩
theorem HB.just {w X:World}{g b n:Nat}{s:List W}{wt:Value}(h:HB w b s wt n)(hE:jQ g w X)(hg:b≠g):HB X b s wt n:=⟨hE.at_ hg h.1,h.2⟩
theorem zCk (p:List Nat)(i:Nat):be (p.drop i) 0=be p i:=by
 simp[be,List.getElem?_drop]
theorem oh (b:Nat)(s:St)(wt:Value)(n:Nat)(P:Nat→Prop)(A:Option Addr)(c:Nat)(p:List Nat)(w:World)(hb:HB w b s.list wt n)(hk:KW w)(hp:RB w P A c p)(hl:p.length=64)(hP:∀ b,P b→b<w.heap.size) :
 Calls Tryz.prog 160 #[.pointer (some ⟨b,0,none⟩),.slice A 64 c] w fun e w'=>e=.returned (.tuple #[])∧HB w' b (tU s p).list wt n∧jQ b w w':=by
 obtain⟨ad,rfl⟩:∃ ad,A=some ad:=by obtain⟨ad,e,_⟩:=hp.dg (i:=0) (by omega);exact⟨ad,e⟩
 obtain⟨m,hm⟩:=eV (sch p 64)
 have hm64:m.length=64:=by rw[←hm];exact uW p 64
 have hmg:∀ j,j<64→wd m j=if j<16 then be p (4*j)else nxt (sch p j):=fun j hj=>by rw[←hm];exact fF p 64 j hj
 have hmn:∀ j,16≤j→j<64→wd m j=wd m (j-16)+g0 (wd m (j-15))+wd m (j-7)+g1 (wd m (j-2)):=fun j h1 h2=>by rw[←hm];exact zAJ p h1 h2
 have Hcomp:=zF (show tU s p=s.add (de m s 64) by rw[←hm];rfl)
 have Hb:=zF hb
 have Hk:=zF hk
 have Hp:=zF hp
 have HP:=zF hP
 have Hl:=zF hl
 have Hmg:=zF hmg
 have Hmn:=zF hmn
 have hcap:=hp.cap
 have hc64:(64:Int)≤(c:Int):=by omega
 have H64:=zF hm64
 have hz0:VB (w.alloc (.cells (vs (List.replicate 64 0)).toArray 209)) w.heap.size (List.replicate 64 0) 209:=zS w _
 have hE0:=zO w (.cells (vs (List.replicate 64 0)).toArray 209)
 have Hst:Hid (gy (List.replicate 64 0) m 0):=zF (gy.zero _ _ (by rw[hm64];rfl))
 clear hb hk hp hP hl hmg hmn hm64 hm
 obtain⟨W0,hW0⟩:=eV (w.alloc (.cells (vs (List.replicate 64 0)).toArray 209))
 have HW0:=zF (show ∀ cs:Array Value,cs=(vs (List.replicate 64 0)).toArray→w.alloc (.cells cs 209)=W0 from fun cs e=>by rw[e];exact hW0)
 rw[hW0]at hz0 hE0
 obtain⟨g,hg⟩:=eV w.heap.size
 rw[hg]at hz0
 clear hW0
 go_enter Tryz.func160,Tryz.ntmps160
 go_wp2_with fail
 rw[HW0.out]
 case a=>rfl
 have Hg:=zF hg
 clear hg HW0
 go_loopw [21] (fun iv wr=>∃(k:Nat) (L:List W),iv=.int .i64 (k:Int)∧k≤64∧Hid (gy L m k)∧Hid (VB wr g L 209)∧Hid (Ext w wr)) (fun iv _=>(64-intOf iv).toNat)
 case atStart=>exact⟨0,_,rfl,by omega,Hst,zF hz0,zF hE0⟩
 case round =>
  clear hz0 hE0 Hst;obtain⟨k,L,rfl,hk64,HU,HV,HE⟩:=hrel;have hL64:L.length=64:=HU.out.1.trans H64.out;have fr:=HV.out.free k;by_cases hlt:k<64
  · have k64:(k:Int)<64:=by omega
    by_cases h16:k<16
    · have k16:(k:Int)<16:=by omega
      have hw4:IntKind.i64.wrap (4*(k:Int))=((4*k:Nat):Int):=by rw[jW _ (by omega)];omega
      obtain⟨k4,hk4⟩:=eV (4*k);rw[hk4]at hw4;have q1:(0:Int)≤(k4:Int):=by omega
      have q2:(k4:Int)≤64:=by omega
      have q3:¬(c:Int)=(k4:Int):=by omega
      have hget:=tJ P (some (ad.add k4)) (c-k4) (p.drop k4) wr ((Hp.out.below HE.out HP.out).from' (by have:=Hl.out;omega) (by have:=Hl.out;omega) (by have:=hcap.2.1;unfold maxLen;omega) (fun _=>rfl)) (by rw[qn,Hl.out];omega);rw[zCk,qn,Hl.out]at hget;have Hget:=zF hget;have Hk4:=zF hk4;clear hget hk4;go_wp2_with fail;refine Hget.out.mono ?_;rintro e w2 ⟨rfl,hE2⟩;have hV2:=HV.out.ext hE2;have fr2:=hV2.free k;have hV3:=hV2.set k (be p k4);have hU3:=HU.out.step (x:=be p k4) (by rw[H64.out];omega) (by rw[Hmg.out k hlt,qg h16,←Hk4.out]);have hE3:=(HE.out.trans hE2).setCell (p:=⟨g,k,none⟩) (by rw[Hg.out];exact zG _) (.int .u32 ((be p k4).toNat:Int));have ce2:=hV2.cell (i:=k) (by omega);have HU3:=zF hU3;have HV3:=zF hV3;have HE3:=zF hE3;clear fr Hget hV2 hU3 hV3 hE3 hE2;go_wp2_with fail;go_roundw;case rel=>exact⟨k+1,_,by go_num,by omega,HU3,HV3,HE3⟩
      case measure=>simp[intOf];omega
    · have k16:¬(k:Int)<16:=by omega
      obtain⟨z,hz⟩:=eV (k-16);obtain⟨z15,hz15⟩:=eV (k-15);obtain⟨z7,hz7⟩:=eV (k-7);obtain⟨z2,hz2⟩:=eV (k-2);have l16:(z:Int)<64:=by omega
      have l15:(z15:Int)<64:=by omega
      have l7:(z7:Int)<64:=by omega
      have l2:(z2:Int)<64:=by omega
      have w16:IntKind.i64.wrap ((k:Int)-16)=(z:Int):=by rw[jW _ (by omega)];omega
      have w15:IntKind.i64.wrap ((k:Int)-15)=(z15:Int):=by rw[jW _ (by omega)];omega
      have w7:IntKind.i64.wrap ((k:Int)-7)=(z7:Int):=by rw[jW _ (by omega)];omega
      have w2:IntKind.i64.wrap ((k:Int)-2)=(z2:Int):=by rw[jW _ (by omega)];omega
      have d16:=HV.out.cell (i:=z) (by omega);have d15:=HV.out.cell (i:=z15) (by omega);have d7:=HV.out.cell (i:=z7) (by omega);have d2:=HV.out.cell (i:=z2) (by omega);have dk:=HV.out.cell (i:=k) (by omega);have he:wd m k=wd L z+g0 (wd L z15)+wd L z7+g1 (wd L z2):=by
       rw[Hmn.out k (by omega) hlt,hz,hz15,hz7,hz2,HU.out.2 z (by omega),HU.out.2 z15 (by omega),HU.out.2 z7 (by omega),HU.out.2 z2 (by omega)]
      have HU3:=zF (HU.out.step (x:=wd m k) (by rw[H64.out];omega) rfl);rw[he]at HU3;clear he hz hz15 hz7 hz2;generalize wd L z=x16 at *;generalize wd L z15=x15 at *;generalize wd L z7=x7 at *;generalize wd L z2=x2 at *;go_wp2_with fail;go_quiet (fail);have E4:=kW wr nq;have HE4:=zF (HE.out.trans E4);have hV4:=HV.out.ext E4;replace d16:=E4.cell d16;replace d7:=E4.cell d7;replace dk:=E4.cell dk;generalize wr.drewN nq=w4 at *;have HV4:=zF hV4;clear E4 hV4 fr d15 d2 w15 w2 l15 l2 HV HE HU;obtain⟨y1,y2,e1,e2,e3⟩:=gw0 x15;go_wp2_with fail;refine(rot7 _ _).mono ?_;rintro e w5 ⟨rfl,rfl⟩;go_wp2_with fail;refine(rot18 _ _).mono ?_;rintro e w5 ⟨rfl,rfl⟩;go_upto_region 8 with fail;clear e1 e2 e3;obtain⟨y3,y4,e1,e2,e3⟩:=gw1 x2;obtain⟨nw,hnw⟩:=eV (x16+g0 x15+x7+g1 x2);rw[hnw]at HU3;have Hnw:=zF hnw;clear hnw;go_wp2_with fail;refine(rot17 _ _).mono ?_;rintro e w5 ⟨rfl,rfl⟩;go_wp2_with fail;refine(rot19 _ _).mono ?_;rintro e w5 ⟨rfl,rfl⟩;go_upto_region 9 with fail;clear e1 e2 e3
      refine zh (by kernel_rfl) 15 [0,0,2,6,14,0,62,0,128,384,896,2046,0,8190,16383,32767] [] (fun j f X=>match j with
       | 0=>f 0=.int .i64 (k:Int)
       | 1=>f 1=.int .i64 (k:Int)
       | 2=>f 2=.int .i64 (z:Int)
       | 3=>f 3=.pointer (some ⟨g,z,none⟩)
       | 4=>f 4=.int .u32 ((x16).toNat:Int)
       | 5=>f 5=.int .u32 ((g0 x15).toNat:Int)
       | 6=>f 6=.int .u32 ((x16+(g0 x15)).toNat:Int)
       | 7=>f 7=.int .i64 (k:Int)
       | 8=>f 8=.int .i64 (z7:Int)
       | 9=>f 9=.pointer (some ⟨g,z7,none⟩)
       | 10=>f 10=.int .u32 ((x7).toNat:Int)
       | 11=>f 11=.int .u32 (((x16+(g0 x15))+x7).toNat:Int)
       | 12=>f 12=.int .u32 ((g1 x2).toNat:Int)
       | 13=>f 13=.int .u32 ((nw).toNat:Int)
       | 14=>f 14=.pointer (some ⟨g,k,none⟩)
       | _=>True) (by kernel_rfl) [(57,0),(58,1),(59,2),(60,3),(61,4),(62,5),(63,6),(64,7),(65,8),(66,9),(67,10),(68,11),(69,12),(70,13),(71,14)] (by kernel_rfl) ?_
      refine zJ 1 14 ?_;refine zJ 2 13 ?_;refine qN 3 12 1 (hR:=fun _ _ h=>h.trans (congrArg (Value.int .i64) w16)) ?_;refine zt 4 11 [(57,0),(58,1),(59,2),(62,5),(64,7),(65,8),(66,9),(67,10),(69,12)] (fun f X hX hR K hK=>?_) ?_
      · have e2:f 2=_:=hR.out 2 rfl;simp only[yZ,e2];refine⟨?_⟩;go_simp;exact qd hK (s:=by simp only[yZ,e2])
      refine qK 5 10 3 d16 ?_;refine zJ 6 9 ?_;refine jm 7 8 4 5 (hR:=fun _ _ h=>h.trans (ut _ _)) ?_;refine zJ 8 7 ?_;refine qN 9 6 7 (hR:=fun _ _ h=>h.trans (congrArg (Value.int .i64) w7)) ?_;refine zt 10 5 [(57,0),(58,1),(59,2),(60,3),(61,4),(62,5),(63,6),(64,7),(65,8),(69,12)] (fun f X hX hR K hK=>?_) ?_
      · have e8:f 8=_:=hR.out 8 rfl;simp only[yZ,e8];refine⟨?_⟩;go_simp;exact qd hK (s:=by simp only[yZ,e8])
      refine qK 11 4 9 d7 ?_;refine jm 12 3 6 10 (hR:=fun _ _ h=>h.trans (ut _ _)) ?_;refine zJ 13 2 ?_;refine jm 14 1 11 12 (hR:=fun _ _ h=>h.trans ((ut (x16+g0 x15+x7) (g1 x2)).trans (congrArg (fun y:W=>Value.int .u32 (y.toNat:Int)) Hnw.out))) ?_;refine zt 15 0 [(57,0),(58,1),(59,2),(60,3),(61,4),(62,5),(63,6),(64,7),(65,8),(66,9),(67,10),(68,11),(69,12),(70,13)] (fun f X hX hR K hK=>?_) ?_
      · have e0:f 0=_:=hR.out 0 rfl;simp only[yZ,e0];refine⟨?_⟩;go_simp;exact qd hK (s:=by simp only[yZ,e0])
      refine yF ⟨fun f X hX hR hal hap=>?_⟩;have e13:f 13=_:=hR 13 (by decide);have e14:f 14=_:=hR 14 (by decide);simp only[yZ,e13,e14];clear hR hal hap e13 e14;replace dk:=hX.cell dk;have hV5:=HV4.out.ext hX;have fk:=hV5.free k;refine zP (fun K hK=>⟨zU (by kernel_rfl) ?_⟩);go_simp;refine hK.out _ _ ?_;refine zH ?_;have HV6:=zF (hV5.set k nw);have HE6:=zF ((HE4.out.trans hX).setCell (p:=⟨g,k,none⟩) (by rw[Hg.out];exact zG _) (.int .u32 (nw.toNat:Int)));clear dk hV5 fk hX;generalize World.setCell X ⟨g,k,none⟩ (.int .u32 (nw.toNat:Int))=w7 at *;go_wp2_with fail;go_roundw;case rel=>exact⟨k+1,_,by go_num,by omega,HU3,HV6,HE6⟩
      case measure=>simp[intOf];omega
  · obtain rfl:k=64:=by omega
    rw[show((64:Nat):Int)=64 from rfl];have hU:=HU.out;rw[←H64.out]at hU;obtain rfl:=hU.fin;clear hU fr HU hL64 hlt hk64 Hmg Hmn Hp HP Hl hcap hc64;have hz2:VB (wr.alloc (.cells (vs (List.replicate 8 0)).toArray 210)) wr.heap.size (List.replicate 8 0) 210:=zS wr _;have hE2:=HE.out.trans (zO wr (.cells (vs (List.replicate 8 0)).toArray 210));have hV2:=HV.out.ext (zO wr (.cells (vs (List.replicate 8 0)).toArray 210));have Hst:Hid (gy (List.replicate 8 0) s.list 0):=zF (gy.zero _ _ rfl);obtain⟨W2,hW2⟩:=eV (wr.alloc (.cells (vs (List.replicate 8 0)).toArray 210));have HW2:=zF (show ∀ cs:Array Value,cs=(vs (List.replicate 8 0)).toArray→wr.alloc (.cells cs 210)=W2 from fun cs e=>by rw[e];exact hW2);rw[hW2]at hz2 hE2 hV2;obtain⟨g2,hg2⟩:=eV wr.heap.size;have hgg:w.heap.size≤g2:=by rw[←hg2];exact HE.out.bsize
    have hne:g≠g2:=by have:=HV.out.lt;omega
    rw[hg2]at hz2;have HZ2:=zF hz2;have HE2:=zF hE2;have HV2:=zF hV2;clear hW2 hz2 hE2 hV2 HV HE;have HL8:=zF (show s.list.length=8 from rfl);have HB0:=Hb;go_wp2_with fail;rw[HW2.out];case a=>rfl
    clear HW2 hg2;go_loopw [73] (fun iv wr=>∃(k:Nat) (V:List W),iv=.int .i64 (k:Int)∧k≤8∧Hid (gy V s.list k)∧Hid (VB wr g2 V 210)∧Hid (VB wr g L 209)∧Hid (Ext w wr)) (fun iv _=>(8-intOf iv).toNat);case atStart=>exact⟨0,_,rfl,by omega,Hst,HZ2,HV2,HE2⟩
    case round =>
     clear HZ2 HE2 HV2 Hst;obtain⟨k,V,rfl,hk8,HU,HZ,HV,HE⟩:=hrel;have hV8:V.length=8:=HU.out.1;have fr:=HZ.out.free k;by_cases hlt:k<8
     · have k8:(k:Int)<8:=by omega
       have ck:=HZ.out.cell (i:=k) (by omega);have hbk:=(Hb.out.ext HE.out).cell hlt;have HU3:=zF (HU.out.step (x:=wd s.list k) (by rw[HL8.out];exact hlt) rfl);generalize wd s.list k=x at *;have HZ3:=zF (HZ.out.set k x);have HE3:=zF (HE.out.setCell (p:=⟨g2,k,none⟩) hgg (.int .u32 (x.toNat:Int)));have HV3:=zF (show VB (wr.setCell ⟨g2,k,none⟩ (.int .u32 (x.toNat:Int))) g L 209 from((jk g2 wr).set k _).at_ hne HV.out);have hx:=rC x;go_wp2_with fail;go_roundw;case rel=>exact⟨k+1,_,by go_num,by omega,HU3,HZ3,HV3,HE3⟩
       case measure=>simp[intOf];omega
     · obtain rfl:k=8:=by omega
       rw[show((8:Nat):Int)=8 from rfl];have hU:=HU.out;rw[←HL8.out]at hU;obtain rfl:=hU.fin;clear hU fr HU hV8 hlt hk8;obtain⟨t,ht⟩:=eV (de L s 0);have HZt:=zF (show VB wr g2 (de L s 0).list 210 from HZ.out);have hvL:wr.heap[g]?=some (.cells (vs L).toArray 209 (0,0)):=HV.out;have i64L:(Tryz.prog.info? 209).map (·.size)=some (vs L).toArray.size:=by rw[qX,aE,H64.out];kernel_rfl
       have hLk:∀ k,k<64→(vs L).toArray[k]?=some (.int .u32 ((wd L k).toNat:Int)):=fun k hk=>by rw[zR];exact oW (by rw[H64.out];exact hk)
       have HLk:=zF hLk;have HI:=zF i64L;have hsz:(vs L).toArray.size=64:=by rw[qX,aE,H64.out]
       have HS:=zF hsz;generalize(vs L).toArray=arr at *;clear ht HZ HV t hLk hsz HL8;go_upto_region 17 with fail
       refine zN 2 [0,0] [] (fun j f X=>match j with
        | 0=>f 0=.agg arr
        | 1=>f 1=Value.int IntKind.i64 0
        | _=>True) (by kernel_rfl) [(86,0),(87,1)] (by kernel_rfl) ?_
       refine lV0 1 1 hvL i64L ?_;refine zJ 2 0 ?_;refine yF ⟨fun f X hX hR hal hap=>?_⟩;have e0:f 0=_:=hR 0 (by decide);have e1:f 1=_:=hR 1 (by decide);simp only[yZ,e0,e1];clear hR hal hap e0 e1;refine zH ?_;replace HE:=zF (HE.out.trans hX);replace HZt:=zF (HZt.out.ext hX);clear hvL hX i64L;rename World=>wq;go_wp2_with fail;go_loopw [87] (fun iv wr=>∃(k:Nat),iv=.int .i64 (k:Int)∧k≤64∧Hid (VB wr g2 (de L s k).list 210)∧Hid (Ext w wr)) (fun iv _=>(64-intOf iv).toNat);case atStart=>exact⟨0,rfl,by omega,HZt,HE⟩
       case round =>
        clear HZt HE;obtain⟨k,rfl,hk64,HZ,HE⟩:=hrel;by_cases hlt:k<64
        · have k64:(k:Int)<64:=by omega
          have hidx:∀ W:World,(Instr.index 209 (.agg arr) (.int .i64 (k:Int))).run Tryz.prog W=.ok (.int .u32 ((wd L k).toNat:Int)) W:=fun W=>uA Tryz.underlying209 (fun _=>by kernel_rfl) (fun _=>by kernel_rfl) hlt (HLk.out k hlt);go_upto_region 20 with fail;clear hidx;obtain⟨x,hx⟩:=eV (wd L k);have Hr:=zF (show de L s (k+1)=rnd (de L s k) (wd kk k) x by rw[←hx];rfl);rw[hx];generalize de L s k=r at *;obtain⟨ra,rb,rc,rd,re,rf,rg,rh⟩:=r;have hvz:wr.heap[g2]?=some (.cells #[.int .u32 (ra.toNat:Int),.int .u32 (rb.toNat:Int),.int .u32 (rc.toNat:Int),.int .u32 (rd.toNat:Int),.int .u32 (re.toNat:Int),.int .u32 (rf.toNat:Int),.int .u32 (rg.toNat:Int),.int .u32 (rh.toNat:Int)] 210 (0,0)):=HZ.out;have v0:=zQ hvz 0;have v1:=zQ hvz 1;have v2:=zQ hvz 2;have v3:=zQ hvz 3;have v4:=zQ hvz 4;have v5:=zQ hvz 5;have v6:=zQ hvz 6;have v7:=zQ hvz 7;simp only[zR,zi,qo]at v0 v1 v2 v3 v4 v5 v6 v7;clear hx HZ;go_quiet (fail);have E4:=kW wr nq;have HE4:=zF (HE.out.trans E4);replace hvz:=E4.at_ hvz;replace v0:=E4.cell v0;replace v1:=E4.cell v1;replace v2:=E4.cell v2;replace v3:=E4.cell v3;replace v4:=E4.cell v4;replace v5:=E4.cell v5;replace v6:=E4.cell v6;replace v7:=E4.cell v7;generalize wr.drewN nq=w4 at *;clear E4 HE;obtain⟨y1,e1,e2⟩:=sw1 re;go_wp2_with fail;refine(rot6 _ _).mono ?_;rintro e w5 ⟨rfl,rfl⟩;go_wp2_with fail;refine(rot11 _ _).mono ?_;rintro e w5 ⟨rfl,rfl⟩;go_wp2_with fail;refine(rot25 _ _).mono ?_;rintro e w5 ⟨rfl,rfl⟩;go_upto_region 22 with fail;clear e1 e2;obtain⟨kd,hkd,hkl,hkv⟩:=(Hk.out.ext HE4.out) k hlt;obtain⟨kw,hkw⟩:=eV (wd kk k);rw[hkw]at Hr hkv
          have Hkv:=zF (show Value.int .u32 (IntKind.u32.wrap (Int.fdiv (kd:Int) (2^32)))=.int .u32 (kw.toNat:Int) by
           have:=kw.isLt
           rw[Int.fdiv_eq_ediv_of_nonneg _ (by omega),IntKind.wrap_u32,←hkv]
           congr 1
           omega)
          clear hkw hkl hkv;have k80:(k:Int)<80:=by omega
          obtain⟨t,Ht⟩:=eG (rh+S1 re+ch re rf rg+kw+x)
          refine zh (by kernel_rfl) 24 [0,1,0,7,0,0,32,112,0,256,0,1024,3840,8176,16383,0,32768,98304,229376,491520,1048575,0,4194303,8388607] [] (fun j f X=>match j with
           | 0=>f 0=.pointer (some ⟨g2,7,none⟩)
           | 1=>f 1=.int .u32 ((rh).toNat:Int)
           | 2=>f 2=.int .u32 ((S1 re).toNat:Int)
           | 3=>f 3=.int .u32 ((rh+(S1 re)).toNat:Int)
           | 4=>f 4=.int .u32 ((re).toNat:Int)
           | 5=>f 5=.pointer (some ⟨g2,5,none⟩)
           | 6=>f 6=.int .u32 ((rf).toNat:Int)
           | 7=>f 7=.int .u32 ((re &&& rf).toNat:Int)
           | 8=>f 8=.int .u32 ((re).toNat:Int)
           | 9=>f 9=.int .u32 ((~~~re).toNat:Int)
           | 10=>f 10=.pointer (some ⟨g2,6,none⟩)
           | 11=>f 11=.int .u32 ((rg).toNat:Int)
           | 12=>f 12=.int .u32 (((~~~re) &&& rg).toNat:Int)
           | 13=>f 13=.int .u32 ((ch re rf rg).toNat:Int)
           | 14=>f 14=.int .u32 (((rh+(S1 re))+(ch re rf rg)).toNat:Int)
           | 15=>f 15=.int .i64 (k:Int)
           | 16=>f 16=.pointer (some ⟨3,k,none⟩)
           | 17=>f 17=.int .u64 (kd:Int)
           | 18=>f 18=.int .u64 (Int.fdiv (kd:Int) (2^32))
           | 19=>f 19=.int .u32 ((kw).toNat:Int)
           | 20=>f 20=.int .u32 ((((rh+(S1 re))+(ch re rf rg))+kw).toNat:Int)
           | 21=>f 21=.int .u32 ((x).toNat:Int)
           | 22=>f 22=.int .u32 ((t).toNat:Int)
           | 23=>f 23=.int .u32 ((t).toNat:Int)
           | _=>True) (by kernel_rfl) [(103,0),(104,1),(105,2),(106,3),(107,4),(108,5),(109,6),(110,7),(111,8),(112,9),(113,10),(114,11),(115,12),(116,13),(117,14),(118,15),(119,16),(120,17),(121,18),(122,19),(123,20),(124,21),(125,22),(17,23)] (by kernel_rfl) ?_
          refine zJ 1 23 ?_;refine qK 2 22 0 v7 ?_;refine zJ 3 21 ?_;refine jm 4 20 1 2 (hR:=fun _ _ h=>h.trans (ut _ _)) ?_;refine zJ 5 19 ?_;refine zJ 6 18 ?_;refine qK 7 17 5 v5 ?_;refine jm 8 16 4 6 (hR:=fun _ _ h=>h.trans (mr _ _)) ?_;refine zJ 9 15 ?_;refine qN 10 14 8 (hR:=fun _ _ h=>h.trans (v_not _)) ?_;refine zJ 11 13 ?_;refine qK 12 12 10 v6 ?_;refine jm 13 11 9 11 (hR:=fun _ _ h=>h.trans (mr _ _)) ?_;refine jm 14 10 7 12 (hR:=fun _ _ h=>h.trans (tk _ _)) ?_;refine jm 15 9 3 13 (hR:=fun _ _ h=>h.trans (ut _ _)) ?_;refine zJ 16 8 ?_;refine zt 17 7 [(103,0),(104,1),(105,2),(106,3),(107,4),(108,5),(109,6),(110,7),(111,8),(112,9),(113,10),(114,11),(115,12),(116,13),(117,14),(118,15),(124,21)] (fun f X hX hR K hK=>?_) ?_
          · have e15:f 15=_:=hR.out 15 rfl;simp only[yZ,e15];refine⟨?_⟩;go_simp;exact qd hK (s:=by simp only[yZ,e15])
          refine qK 18 6 16 hkd ?_;refine qN 19 5 17 ?_;refine qN 20 4 18 (hR:=fun _ _ h=>h.trans (Hkv.out)) ?_;refine jm 21 3 14 19 (hR:=fun _ _ h=>h.trans (ut _ _)) ?_;refine zJ 22 2 ?_;refine jm 23 1 20 21 (hR:=fun _ _ h=>h.trans ((ut _ _).trans (congrArg (fun y:W=>Value.int .u32 (y.toNat:Int)) Ht.out))) ?_;refine qN 24 0 22 ?_;refine yF ⟨fun f X hX hR hal hap=>?_⟩;have e23:f 23=_:=hR 23 (by decide);simp only[yZ,e23];clear hR hal hap e23;refine zH ?_;replace HE4:=zF (HE4.out.trans hX);replace hvz:=hX.at_ hvz;replace v0:=hX.cell v0;replace v1:=hX.cell v1;replace v2:=hX.cell v2;replace v3:=hX.cell v3;replace v4:=hX.cell v4;replace v5:=hX.cell v5;replace v6:=hX.cell v6;replace v7:=hX.cell v7;clear hX;rename World=>w6;clear Hkv hkd;obtain⟨y2,e1,e2⟩:=sw0 ra;go_wp2_with fail;refine(rot2 _ _).mono ?_;rintro e w7 ⟨rfl,rfl⟩;go_wp2_with fail;refine(rot13 _ _).mono ?_;rintro e w7 ⟨rfl,rfl⟩;go_wp2_with fail;refine(rot22 _ _).mono ?_;rintro e w7 ⟨rfl,rfl⟩;go_upto_region 24 with fail;clear e1 e2;obtain⟨u,Hu⟩:=eG (S0 ra+mj ra rb rc)
          refine zN 18 [0,0,0,4,14,0,0,64,224,510,0,1024,0,4096,15360,32766,65535,131071] [] (fun j f X=>match j with
           | 0=>f 0=.int .u32 ((S0 ra).toNat:Int)
           | 1=>f 1=.int .u32 ((ra).toNat:Int)
           | 2=>f 2=.pointer (some ⟨g2,1,none⟩)
           | 3=>f 3=.int .u32 ((rb).toNat:Int)
           | 4=>f 4=.int .u32 ((ra &&& rb).toNat:Int)
           | 5=>f 5=.int .u32 ((ra).toNat:Int)
           | 6=>f 6=.pointer (some ⟨g2,2,none⟩)
           | 7=>f 7=.int .u32 ((rc).toNat:Int)
           | 8=>f 8=.int .u32 ((ra &&& rc).toNat:Int)
           | 9=>f 9=.int .u32 (((ra &&& rb) ^^^(ra &&& rc)).toNat:Int)
           | 10=>f 10=.pointer (some ⟨g2,1,none⟩)
           | 11=>f 11=.int .u32 ((rb).toNat:Int)
           | 12=>f 12=.pointer (some ⟨g2,2,none⟩)
           | 13=>f 13=.int .u32 ((rc).toNat:Int)
           | 14=>f 14=.int .u32 ((rb &&& rc).toNat:Int)
           | 15=>f 15=.int .u32 ((mj ra rb rc).toNat:Int)
           | 16=>f 16=.int .u32 ((u).toNat:Int)
           | 17=>f 17=.int .u32 ((u).toNat:Int)
           | _=>True) (by kernel_rfl) [(134,0),(135,1),(136,2),(137,3),(138,4),(139,5),(140,6),(141,7),(142,8),(143,9),(144,10),(145,11),(146,12),(147,13),(148,14),(149,15),(150,16),(18,17)] (by kernel_rfl) ?_
          refine zJ 1 17 ?_;refine zJ 2 16 ?_;refine zJ 3 15 ?_;refine qK 4 14 2 v1 ?_;refine jm 5 13 1 3 (hR:=fun _ _ h=>h.trans (mr _ _)) ?_;refine zJ 6 12 ?_;refine zJ 7 11 ?_;refine qK 8 10 6 v2 ?_;refine jm 9 9 5 7 (hR:=fun _ _ h=>h.trans (mr _ _)) ?_;refine jm 10 8 4 8 (hR:=fun _ _ h=>h.trans (tk _ _)) ?_;refine zJ 11 7 ?_;refine qK 12 6 10 v1 ?_;refine zJ 13 5 ?_;refine qK 14 4 12 v2 ?_;refine jm 15 3 11 13 (hR:=fun _ _ h=>h.trans (mr _ _)) ?_;refine jm 16 2 9 14 (hR:=fun _ _ h=>h.trans (tk _ _)) ?_;refine jm 17 1 0 15 (hR:=fun _ _ h=>h.trans ((ut _ _).trans (congrArg (fun y:W=>Value.int .u32 (y.toNat:Int)) Hu.out))) ?_;refine qN 18 0 16 ?_;refine yF ⟨fun f X hX hR hal hap=>?_⟩;have e17:f 17=_:=hR 17 (by decide);simp only[yZ,e17];clear hR hal hap e17;refine zH ?_;replace HE4:=zF (HE4.out.trans hX);replace hvz:=hX.at_ hvz;replace v0:=hX.cell v0;replace v1:=hX.cell v1;replace v2:=hX.cell v2;replace v3:=hX.cell v3;replace v4:=hX.cell v4;replace v5:=hX.cell v5;replace v6:=hX.cell v6;replace v7:=hX.cell v7;clear hX;rename World=>w8;go_upto_region 25 with fail;obtain⟨na,hna⟩:=eV (t+u);obtain⟨ne,hne'⟩:=eV (rd+t)
          have Hn:=zF (show de L s (k+1)=⟨na,ra,rb,rc,ne,re,rf,rg⟩ by
           rw[Hr.out,←hna,←hne',←Ht.out,←Hu.out];rfl)
          have Hna:=zF hna;have Hne:=zF hne';clear hna hne'
          refine zN 18 [0,0,3,0,0,16,0,64,0,256,0,1792,0,0,8192,0,32768,131071,262143] [] (fun j f X=>match j with
           | 0=>f 0=.int .u32 ((t).toNat:Int)
           | 1=>f 1=.int .u32 ((u).toNat:Int)
           | 2=>f 2=.int .u32 ((na).toNat:Int)
           | 3=>f 3=.int .u32 ((ra).toNat:Int)
           | 4=>f 4=.pointer (some ⟨g2,1,none⟩)
           | 5=>f 5=.int .u32 ((rb).toNat:Int)
           | 6=>f 6=.pointer (some ⟨g2,2,none⟩)
           | 7=>f 7=.int .u32 ((rc).toNat:Int)
           | 8=>f 8=.pointer (some ⟨g2,3,none⟩)
           | 9=>f 9=.int .u32 ((rd).toNat:Int)
           | 10=>f 10=.int .u32 ((t).toNat:Int)
           | 11=>f 11=.int .u32 ((ne).toNat:Int)
           | 12=>f 12=.int .u32 ((re).toNat:Int)
           | 13=>f 13=.pointer (some ⟨g2,5,none⟩)
           | 14=>f 14=.int .u32 ((rf).toNat:Int)
           | 15=>f 15=.pointer (some ⟨g2,6,none⟩)
           | 16=>f 16=.int .u32 ((rg).toNat:Int)
           | 17=>f 17=.agg #[.int .u32 (na.toNat:Int),.int .u32 (ra.toNat:Int),.int .u32 (rb.toNat:Int),.int .u32 (rc.toNat:Int),.int .u32 (ne.toNat:Int),.int .u32 (re.toNat:Int),.int .u32 (rf.toNat:Int),.int .u32 (rg.toNat:Int)]
           | _=>True) (by kernel_rfl) [(151,0),(152,1),(153,2),(154,3),(155,4),(156,5),(157,6),(158,7),(159,8),(160,9),(161,10),(162,11),(163,12),(164,13),(165,14),(166,15),(167,16),(168,17)] (by kernel_rfl) ?_
          refine zJ 1 17 ?_;refine zJ 2 16 ?_;refine jm 3 15 0 1 (hR:=fun _ _ h=>h.trans ((ut _ _).trans (congrArg (fun y:W=>Value.int .u32 (y.toNat:Int)) Hna.out))) ?_;refine zJ 4 14 ?_;refine zJ 5 13 ?_;refine qK 6 12 4 v1 ?_;refine zJ 7 11 ?_;refine qK 8 10 6 v2 ?_;refine zJ 9 9 ?_;refine qK 10 8 8 v3 ?_;refine zJ 11 7 ?_;refine jm 12 6 9 10 (hR:=fun _ _ h=>h.trans ((ut _ _).trans (congrArg (fun y:W=>Value.int .u32 (y.toNat:Int)) Hne.out))) ?_;refine zJ 13 5 ?_;refine zJ 14 4 ?_;refine qK 15 3 13 v5 ?_;refine zJ 16 2 ?_;refine qK 17 1 15 v6 ?_;refine zt 18 0 [(151,0),(152,1),(153,2),(154,3),(155,4),(156,5),(157,6),(158,7),(159,8),(160,9),(161,10),(162,11),(163,12),(164,13),(165,14),(166,15),(167,16)] (fun f X hX hR K hK=>?_) ?_
          · have e2:f 2=_:=hR.out 2 rfl;have e3:f 3=_:=hR.out 3 rfl;have e5:f 5=_:=hR.out 5 rfl;have e7:f 7=_:=hR.out 7 rfl;have e11:f 11=_:=hR.out 11 rfl;have e12:f 12=_:=hR.out 12 rfl;have e14:f 14=_:=hR.out 14 rfl;have e16:f 16=_:=hR.out 16 rfl;simp only[yZ,e2,e3,e5,e7,e11,e12,e14,e16];refine⟨?_⟩;go_simp;exact qd hK (s:=by simp only[yZ,e2,e3,e5,e7,e11,e12,e14,e16])
          refine yF ⟨fun f X hX hR hal hap=>?_⟩;have e17:f 17=_:=hR 17 (by decide);simp only[yZ,e17];clear hR hal hap e17;refine zP (fun K hK=>⟨zU (by kernel_rfl) (jJ (cs':=#[.int .u32 (na.toNat:Int),.int .u32 (ra.toNat:Int),.int .u32 (rb.toNat:Int),.int .u32 (rc.toNat:Int),.int .u32 (ne.toNat:Int),.int .u32 (re.toNat:Int),.int .u32 (rf.toNat:Int),.int .u32 (rg.toNat:Int)]) (t:=210) 210 (.tmp 10) (.tmp 168) rfl rfl rfl rfl (hX.at_ hvz) (by kernel_rfl) rfl (by simp[Value.oneCell']) (fun Y hY1 hY2 hY3=>hK.out _ _ ?_))⟩);refine zH ?_;have HZ9:=zF (show VB Y g2 (de L s (k+1)).list 210 by rw[Hn.out];exact hY1);have HE9:=zF (hY2.ext (HE4.out.trans hX) hgg);clear hX hY1 hY2 hY3 hvz v0 v1 v2 v3 v4 v5 v6 v7;go_wp2_with fail;go_roundw;case rel=>exact⟨k+1,by go_num,by omega,HZ9,HE9⟩
          case measure=>simp[intOf];omega
        · obtain rfl:k=64:=by omega
          rw[show((64:Nat):Int)=64 from rfl];obtain⟨t,ht⟩:=eV (de L s 64);rw[ht]at HZ;have Hm:=zF (show tU s p=s.add t by rw[Hcomp.out,ht]);have hwt:wr.heap[g2]?=some (.cells (vs t.list).toArray 210 (0,0)):=HZ.out;have HLk:=zF (show ∀ k,k<8→(vs t.list).toArray[k]?=some (.int .u32 ((wd t.list k).toNat:Int))from fun k hk=>by rw[zR];exact oW hk);have i8:(Tryz.prog.info? 210).map (·.size)=some (vs t.list).toArray.size:=by kernel_rfl
          have Hts:=zF (show ∀ k,k<8→wd (s.add t).list k=wd s.list k+wd t.list k from fun k hk=>by
           match k,hk with
           | 0,_|1,_|2,_|3,_|4,_|5,_|6,_|7,_=>rfl)
          generalize(vs t.list).toArray=ar2 at *;clear HZ hlt hk64 ht;go_upto_region 27 with fail
          refine zN 2 [0,0] [] (fun j f X=>match j with
           | 0=>f 0=.agg ar2
           | 1=>f 1=Value.int IntKind.i64 0
           | _=>True) (by kernel_rfl) [(170,0),(171,1)] (by kernel_rfl) ?_
          refine lV0 1 1 hwt i8 ?_;refine zJ 2 0 ?_;refine yF ⟨fun f X hX hR hal hap=>?_⟩;have e0:f 0=_:=hR 0 (by decide);have e1:f 1=_:=hR 1 (by decide);simp only[yZ,e0,e1];clear hR hal hap e0 e1;refine zH ?_;have HJ0:=zF (jQ.of_below (g:=b) (HE.out.trans hX) (zG _));have HB1:=zF (Hb.out.ext (HE.out.trans hX));clear hX hwt i8 HE;rename World=>wh;go_wp2_with fail;go_loopw [171] (fun iv wr=>∃(k:Nat) (H:List W),iv=.int .i64 (k:Int)∧k≤8∧Hid (HB wr b H wt n)∧Hid (gy H (s.add t).list k)∧Hid (∀ j,k≤j→wd H j=wd s.list j)∧Hid (jQ b w wr)) (fun iv _=>(8-intOf iv).toNat);case atStart=>exact⟨0,_,rfl,by omega,HB1,zF (gy.zero _ _ rfl),zF (fun _ _=>rfl),HJ0⟩
          case round =>
           clear HB1 HJ0;obtain⟨k,H,rfl,hk8,HB2,HU,HR,HJ⟩:=hrel;by_cases hlt:k<8
           · have k8:(k:Int)<8:=by omega
             have hidx:∀ W:World,(Instr.index 210 (.agg ar2) (.int .i64 (k:Int))).run Tryz.prog W=.ok (.int .u32 ((wd t.list k).toNat:Int)) W:=fun W=>uA Tryz.underlying210 (fun _=>by kernel_rfl) (fun _=>by kernel_rfl) hlt (HLk.out k hlt);go_upto_region 30 with fail;clear hidx;obtain⟨x,hx⟩:=eV (wd t.list k);obtain⟨y,hy⟩:=eV (wd H k);obtain⟨z,hz⟩:=eV (y+x);have HU3:=zF (HU.out.step (x:=z) hlt (by rw[Hts.out k hlt,←hz,←hx,←hy,HR.out k (zG _)]));have HR3:=zF (show ∀ j,k+1≤j→wd (H.set k z) j=wd s.list j from fun j hj=>by rw[aD _ (by omega)];exact HR.out j (by omega));have ck:=HB2.out.cell hlt;have Hz:=zF hz;rw[hy]at ck;rw[hx];clear hx hy hz
             refine zh (by kernel_rfl) 15 [0,0,0,0,4,20,60,124,252,0,1020,2044,1,4097,16383,32767] [] (fun j f X=>match j with
              | 0=>f 0=.pointer (some ⟨b,0,none⟩)
              | 1=>f 1=.int .i64 (k:Int)
              | 2=>f 2=.pointer (some ⟨b,0,none⟩)
              | 3=>f 3=.int .i64 (k:Int)
              | 4=>f 4=.pointer (some ⟨b,0,none⟩)
              | 5=>f 5=.pointer (some ⟨b,1,none⟩)
              | 6=>f 6=.pointer (some ⟨b,1+k,none⟩)
              | 7=>f 7=.int .u64 ((y).toNat:Int)
              | 8=>f 8=.int .u32 ((y).toNat:Int)
              | 9=>f 9=.int .u32 ((x).toNat:Int)
              | 10=>f 10=.int .u32 ((z).toNat:Int)
              | 11=>f 11=.int .u64 ((z).toNat:Int)
              | 12=>f 12=.pointer (some ⟨b,0,none⟩)
              | 13=>f 13=.pointer (some ⟨b,1,none⟩)
              | 14=>f 14=.pointer (some ⟨b,1+k,none⟩)
              | _=>True) (by kernel_rfl) [(175,0),(176,1),(177,2),(178,3),(179,4),(180,5),(181,6),(182,7),(183,8),(184,9),(185,10),(186,11),(187,12),(188,13),(189,14)] (by kernel_rfl) ?_
             refine zJ 1 14 ?_;refine zJ 2 13 ?_;refine zJ 3 12 ?_;refine zJ 4 11 ?_;refine qN 5 10 2 ?_;refine qN 6 9 4 ?_;refine zt 7 8 [(175,0),(176,1),(177,2),(178,3),(179,4),(180,5),(184,9),(187,12),(188,13)] (fun f X hX hR K hK=>?_) ?_
             · have e3:f 3=_:=hR.out 3 rfl;have e5:f 5=_:=hR.out 5 rfl;simp only[yZ,e3,e5];refine⟨?_⟩;go_simp;exact qd hK (s:=by simp only[yZ,e3,e5])
             refine qK 8 7 6 ck ?_;refine qN 9 6 7 (hR:=fun _ _ h=>h.trans (zDG _)) ?_;refine zJ 10 5 ?_;refine jm 11 4 8 9 (hR:=fun _ _ h=>h.trans ((ut _ _).trans (congrArg (fun y:W=>Value.int .u32 (y.toNat:Int)) Hz.out))) ?_;refine qN 12 3 10 (hR:=fun _ _ h=>h.trans (v_up _)) ?_;refine qN 13 2 0 ?_;refine qN 14 1 12 ?_;refine zt 15 0 [(175,0),(176,1),(177,2),(178,3),(179,4),(180,5),(181,6),(182,7),(183,8),(184,9),(185,10),(186,11),(187,12),(188,13)] (fun f X hX hR K hK=>?_) ?_
             · have e1:f 1=_:=hR.out 1 rfl;have e13:f 13=_:=hR.out 13 rfl;simp only[yZ,e1,e13];refine⟨?_⟩;go_simp;exact qd hK (s:=by simp only[yZ,e1,e13])
             refine yF ⟨fun f X hX hR hal hap=>?_⟩;have e11:f 11=_:=hR 11 (by decide);have e14:f 14=_:=hR 14 (by decide);simp only[yZ,e11,e14];clear hR hal hap e11 e14;replace ck:=hX.cell ck;have hB5:=HB2.out.ext hX;have fk:=hB5.free (1+k);refine zP (fun K hK=>⟨zU (by kernel_rfl) ?_⟩);go_simp;refine hK.out _ _ ?_;refine zH ?_;have HB6:=zF (hB5.set hlt z);have HJ6:=zF ((HJ.out.trans (jQ.of_below hX (zG _))).set (1+k) (.int .u64 (z.toNat:Int)));clear ck hB5 fk hX;generalize World.setCell X ⟨b,1+k,none⟩ (.int .u64 (z.toNat:Int))=w9 at *;go_wp2_with fail;go_roundw;case rel=>exact⟨k+1,_,by go_num,by omega,HB6,HU3,HR3,HJ6⟩
             case measure=>simp[intOf];omega
           · obtain rfl:k=8:=by omega
             have hH:=HU.out.fin;go_wp2_with fail;go_end0;exact⟨rfl,by rw[Hm.out,←hH];exact HB2.out,HJ.out⟩
end Go.Proofs.YtaemogcomplhiaaGreatDoor
namespace Go.Proofs.YtaemogcomplhiaaGreatDoor
open Go.RowKit
def OW (w:World) (base:Nat) (A:Option Addr) (c:Nat) (bs:List Nat):Prop:=w.ownsRow base 5 1 (.slice A bs.length c) bs.length (bys bs)∧∀ b∈bs,b<256
theorem nW {w:World}{base n size:Nat}{e:TypeId}{v:Value}{cs:List Value}(h:w.ownsRow base e size v n cs)(k:Nat)(hk:v.ownBlock=some k):base≤k:=by
 rcases h.2 with⟨rfl,rfl⟩|⟨g,cap,cur,rfl,hg,_⟩
 · cases hk
 · simp[Value.ownBlock]at hk;omega
theorem OW.rb {w:World}{base:Nat}{A:Option Addr}{c:Nat}{bs:List Nat}(h:OW w base A c bs)(hl:bs.length≤100000000):RB w (In base w.heap.size) A c bs:=⟨RS.of_own h.1,h.2,by omega⟩
theorem OW.lit (w:World)(b:Nat)(hb:b<256):OW (w.alloc (.cells #[.int .u8 (b:Int)] 5)) w.heap.size (some ⟨w.heap.size,0,none⟩) 1 [b] :=
 ⟨World.ownsRow_lit w #[.int .u8 (b:Int)] 1 (zG _) (by unfold maxLen;omega) rfl,by simp;exact hb⟩
theorem OW.ext {w X:World}{base:Nat}{A:Option Addr}{c:Nat}{bs:List Nat}(h:OW w base A c bs)(hE:w.grownBy X none):OW X base A c bs:=⟨zAe h.1 hE,h.2⟩
theorem RB.upE {w X:World}{A:Option Addr}{c:Nat}{bs:List Nat}(h:RB w (fun b=>b<w.heap.size) A c bs)(hE:Ext w X):RB X (fun b=>b<X.heap.size) A c bs:=(h.below hE (fun _ hb=>hb)).mono fun _ hb=>zI hb hE.bsize
section
variable {w:World} {ops:Array Oper} {rest:List Oper} {o:Oper} {a:Act} {Q:Exit→Act→World→Prop}
theorem zCl (hgd:o.guard=none)(s x:Operand)(ho:o.op=.call { callee:=.builtin .append,args:=#[s,x],argTypes:=#[22,22] })(base:Nat){A Au:Option Addr}{c cu:Nat}{bs cs:List Nat}{B:Nat→Prop}
 (hs:a.eval s=.slice A bs.length c) (hown:OW w base A c bs) (hx:a.eval x=.slice Au cs.length cu) (hr:RB w B Au cu cs) (hl:bs.length+cs.length≤100000000) (hbase:base≤w.heap.size)
 (h:∀ A' c' w',OW w' base A' c' (bs++cs)→Below base w w'→wpList Tryz.prog ops Q rest (a.put o.dst (.slice A' (bs++cs).length c')) w'):wpList Tryz.prog ops Q (o::rest) a w:=by
 obtain⟨i0,hi,hz0,hz1,hz2⟩:=info_parts gn
 refine jf w hgd s x 22 ho base 5 i0 (.int .u8 0) 1 1 Tryz.underlying22 hi hz0 hz1 hz2 rfl (by decide) _ bs.length (bys bs) hs hown.1 B Au cs.length cu (bys cs) hx hr.1 (by intro u hu;obtain⟨b,_,rfl⟩:=List.mem_map.1 hu;rfl) (bs.length+cs.length) rfl (by unfold maxLen;omega) (by omega) hbase ?_
 intro A' c' w' h1 h2 h3
 have hlen:(bs++cs).length=bs.length+cs.length:=zz
 refine(hlen▸h A' c' w' ⟨?_,?_⟩ ?_:_)
 · rw[hlen,show bys (bs++cs)=bys bs++bys cs by simp[bys]];exact h1
 · intro b hb;rcases List.mem_append.1 hb with hb|hb
   · exact hown.2 b hb
   · exact hr.2.1 b hb
 · exact Below.grown (zl base w) h2 hbase (nW hown.1)
end
end Go.Proofs.YtaemogcomplhiaaGreatDoor
namespace Go.Proofs.YtaemogcomplhiaaGreatDoor
open Go.RowKit
open Sha
theorem dO (w:World):Calls Tryz.prog 134 #[.int .i64 3] w fun e w'=>e=.returned (.int .i64 64)∧w'=w:=by
 go_enter Tryz.func134,Tryz.ntmps134;go_wp2;go_ret;exact⟨rfl,rfl⟩
theorem zAF (w:World):Calls Tryz.prog 127 #[.int .i64 3] w fun e w'=>e=.returned (.int .i64 32)∧w'=w:=by
 go_enter Tryz.func127,Tryz.ntmps127;go_wp2;go_ret;exact⟨rfl,rfl⟩
def dC:List Nat:=[7640891576956012808,13503953896175478587,4354685564936845355,11912009170470909681,5840696475078001361,11170449401992604703,2270897969802886507,6620516959819538809]
def two8:List Nat:=[14680500436340154072,7105036623409894663,10473403895298186519,1526699215303891257,7436329637833083697,10282925794625328401,15784041429090275239,5167115440072839076]
def NB (w:World) (g:Nat) (l:List Nat) (t:TypeId):Prop:=w.heap[g]?=some (.cells (nts l).toArray t (0,0))
theorem NB.cell {w:World}{g:Nat}{l:List Nat}{t:TypeId}(h:NB w g l t){i:Nat}(hi:i<l.length):w.cell? ⟨g,i,none⟩=some (.int .u64 (dg l i:Int)):=by
 rw[zQ h];simpa using ub hi
theorem NB.free {w:World}{g:Nat}{l:List Nat}{t:TypeId}(h:NB w g l t)(i:Nat):w.frozen? ⟨g,i,none⟩=false:=qu h i
theorem NB.set {w:World}{g:Nat}{l:List Nat}{t:TypeId}(h:NB w g l t)(i x:Nat):NB (w.setCell ⟨g,i,none⟩ (.int .u64 (x:Int))) g (l.set i x) t:=by
 unfold NB;have:=jM h i (.int .u64 (x:Int));rw[this];simp[nts,List.map_set]
def fC (k:Nat):List Nat:=(dC.take k).map (· / 4294967296)++dC.drop k
theorem sf {k:Nat}(h:k<8):(fC k).set k (dg dC k/4294967296)=fC (k+1):=by
 match k,h with
 | 0,_|1,_|2,_|3,_|4,_|5,_|6,_|7,_=>rfl
theorem zAI {k:Nat}(h:k<8):dg (fC k) k=dg dC k:=by
 match k,h with
 | 0,_|1,_|2,_|3,_|4,_|5,_|6,_|7,_=>rfl
theorem zAH {k:Nat}(h:k≤8):(fC k).length=8:=by simp[fC,dC];omega
theorem zC7 {fn:Func}{R:Ending→World→Prop}{a:Act}{W:World}{p:Tmp}{g:Nat}{cs:Array Value}{t ty:TypeId}{d:TypeDesc}(hr:fn.results=#[.cell p t])(hp:a.tmps.getD p undef=.pointer (some ⟨g,0,none⟩))(hd:a.defers=[])
 (hg:W.heap[g]?=some (.cells cs ty (0,0))) (hu:Tryz.prog.underlying t=some d) (hk:d.isRow=true) (hi:(Tryz.prog.info? t).map (·.size)=some cs.size) (hR:R (.returned (.agg cs)) W):bodyPost Tryz.prog fn R .ret a W :=
 wI (wY hr a.tmps W g _ _ _ d hp hg hu (by cases d<;>first|rfl|exact hk) hi) hd hR
theorem zDL (w:World):Calls Tryz.prog 143 #[.int .i64 3] w fun e w'=>e=.returned (.agg (nts (fC 8)).toArray)∧Ext w w':=by
 obtain⟨W3,hW3⟩:=eV (((w.alloc (.cells (nts (List.replicate 8 0)).toArray 175)).alloc (.cells (nts dC).toArray 175)).alloc (.cells (nts two8).toArray 175));have HW:=zF (show ∀ c1 c2 c3:Array Value,c1=(nts (List.replicate 8 0)).toArray→c2=(nts dC).toArray→c3=(nts two8).toArray→((w.alloc (.cells c1 175)).alloc (.cells c2 175)).alloc (.cells c3 175)=W3 from fun c1 c2 c3 e1 e2 e3=>by rw[e1,e2,e3];exact hW3);have hE:Ext w W3:=by rw[←hW3];exact((zO _ _).trans (zO _ _)).trans (zO _ _)
 have h0:NB W3 w.heap.size (List.replicate 8 0) 175:=by
  rw[←hW3];exact(zO _ _).at_ ((zO _ _).at_ (zS w _))
 have h1:NB W3 (w.heap.size+1) (fC 0) 175:=by
  rw[←hW3];have:=zS (w.alloc (.cells (nts (List.replicate 8 0)).toArray 175)) (.cells (nts dC).toArray 175);rw[qB]at this;exact(zO _ _).at_ this
 obtain⟨g,hg⟩:=eV w.heap.size;rw[hg]at h0 h1;have Hg:=zF hg;have HE:=zF hE;have H0:=zF h0;have H1:=zF h1;clear hW3 hE h0 h1;go_enter Tryz.func143,Tryz.ntmps143;go_wp2_with fail;rw[HW.out];case a=>rfl
 case a=>rfl
 case a=>rfl
 clear HW hg;go_loopw [27] (fun iv wr=>∃(k:Nat),iv=.int .i64 (k:Int)∧k≤8∧Hid (NB wr (g+1) (fC k) 175)∧Hid (NB wr g (List.replicate 8 0) 175)∧Hid (Ext w wr)) (fun iv _=>(8-intOf iv).toNat);case atStart=>exact⟨0,rfl,by omega,H1,H0,HE⟩
 case round =>
  clear H1 H0 HE;obtain⟨k,rfl,hk8,H1,H0,HE⟩:=hrel;by_cases hlt:k<8
  · have k8:(k:Int)<8:=by omega
    have ck:=H1.out.cell (i:=k) (by rw[zAH (by omega)];exact hlt);have fk:=H1.out.free k;rw[zAI hlt]at ck;have HN:=H1.out.set k (dg dC k/4294967296);rw[sf hlt]at HN;have H1':=zF HN;have H0':=zF (show NB (wr.setCell ⟨g+1,k,none⟩ (.int .u64 ((dg dC k/4294967296:Nat):Int))) g (List.replicate 8 0) 175 from((jk (g+1) wr).set k _).at_ (by omega) H0.out);have HE':=zF (HE.out.setCell (p:=⟨g+1,k,none⟩) (by have:=Hg.out;show w.heap.size≤g+1;omega) (.int .u64 ((dg dC k/4294967296:Nat):Int)));obtain⟨x,hx⟩:=eV (dg dC k);obtain⟨y,hy⟩:=eV (x/4294967296);rw[hx]at ck H1' H0' HE';rw[hy]at H1' H0' HE';have hxy:(x:Int)/4294967296=(y:Int):=by rw[←hy];omega
    clear hx hy HN;go_wp2_with fail;go_roundw;case rel=>exact⟨k+1,by go_num,by omega,H1',H0',HE'⟩
    case measure=>simp[intOf];omega
  · obtain rfl:k=8:=by omega
    rw[show((8:Nat):Int)=8 from rfl];have h1:=H1.out;have h0:=H0.out;have hi:(Tryz.prog.info? 175).map (·.size)=some (nts (fC 8)).toArray.size:=by kernel_rfl
    have hb:(Tryz.prog.info? 175).map (·.size)=some (nts (List.replicate 8 0)).toArray.size:=by kernel_rfl
    have h1c:(nts (fC 8)).toArray.all (·.oneCell')=true:=by simp[nts,Value.oneCell']
    have hsz:(nts (List.replicate 8 0)).toArray.size=(nts (fC 8)).toArray.size:=rfl;unfold NB at h1 h0;obtain⟨c8,hc8⟩:=eV ((nts (fC 8)).toArray);rw[hc8]at h1 hi h1c hsz;have Hc8:=zF hc8;clear hc8;generalize(nts (List.replicate 8 0)).toArray=z8 at *;clear H1 H0 hlt hk8;go_upto_region 21 with fail
    refine zN 1 [0,1] [] (fun j f X=>match j with
     | 0=>f 0=.agg c8
     | _=>True) (by kernel_rfl) [(39,0)] (by kernel_rfl) ?_
    refine lV0 1 0 h1 hi ?_;refine yF ⟨fun f X hX hR hal hap=>?_⟩;have e0:f 0=.agg c8:=hR 0 (by decide);simp only[Par.vH,Act.put,ka,List.set_cons_succ,xw,e0];clear hR hal hap e0;refine zP (fun K hK=>⟨zU (by kernel_rfl) (jJ (cs':=c8) (t:=175) 175 (.tmp 2) (.tmp 39) rfl rfl rfl rfl (hX.at_ h0) hi hsz h1c (fun Y hY1 hY2 hY3=>hK.out _ _ ?_))⟩);refine zH ?_;go_wp2;exact zC7 rfl rfl rfl hY1 Tryz.underlying175 rfl hi ⟨by rw[Hc8.out],hY2.ext (HE.out.trans hX) (by have:=Hg.out;omega)⟩
theorem zAo:nts (fC 8)=uX.list.map fun x=>Value.int .u64 (x.toNat:Int):=by
 simp[nts,fC,dC,uX,St.list]
theorem new3 (w:World):Calls Tryz.prog 136 #[.int .i64 3] w fun e w'=>∃ b,e=.returned (.pointer (some ⟨b,0,none⟩))∧HB w' b uX.list (.slice none 0 0) 0∧w.heap.size≤b∧Ext w w':=by
 have hst:=zF (zDL w);go_enter Tryz.func136,Tryz.ntmps136;go_wp2_with fail;refine(zAF _).mono ?_;rintro e w1 ⟨rfl,rfl⟩;go_wp2_with fail;refine hst.out.mono ?_;rintro e w2 ⟨rfl,hE⟩;rw[zAo];go_wp2_with fail;go_ret;exact⟨_,rfl,⟨zS _ _,rfl⟩,hE.bsize,hE.trans (zO _ _)⟩
theorem zBP (P:Nat→Prop)(A:Option Addr)(c:Nat)(bs:List Nat)(w:World)(h:RB w P A c bs)(hP:∀ b,P b→b<w.heap.size)(hA:bs=[]→A=none∧c=0)(h3:bs.length≤1000000) :
 Calls Tryz.prog 146 #[.slice A bs.length c] w fun e w'=>∃ A' c',e=.returned (.slice A' bs.length c')∧OW w' w.heap.size A' c' bs∧(bs=[]→A'=none∧c'=0)∧Ext w w':=by
 obtain⟨i0,hi,hz0,hz1,hz2⟩:=info_parts gn
 have q22:∀(w:World) (a:Option Addr) (n c n' c':Nat),(binOp .eql 22 (.slice a n c) (.slice none n' c')).run Tryz.prog w=.ok (.bool a.isNone) w:=fun w a n c n' c'=>Lib.run_eql_slice_nil w _ _ a n c n' c' Tryz.underlying22
 obtain⟨h1,h2,_⟩:=h.cap
 have hc0:=h.2.1
 by_cases he:bs=[]
 · obtain⟨rfl,rfl⟩:=hA he;subst he;clear hA;go_enter Tryz.func146,Tryz.ntmps146;go_wp2;go_ret;exact⟨none,0,rfl,⟨⟨by simp[bys],.inl ⟨rfl,rfl⟩⟩,by simp⟩,fun _=>⟨rfl,rfl⟩,zX _⟩
 · have hpos:0<bs.length:=List.length_pos_iff.2 he;obtain⟨ad,rfl,_⟩:=h.1.2.2.2 hpos;have h':RB (w.alloc (.cells #[] 5)) P (some ad) c bs:=h.keep fun p hp=>World.cell?_alloc_lt w _ p (hP _ hp);have hw0:OW (w.alloc (.cells #[] 5)) w.heap.size (some ⟨w.heap.size,0,none⟩) 0 []:=⟨World.ownsRow_made w #[] 0 (zG _) (vr _) rfl,by simp⟩
   have HE:=zF he;have hE0:=zO w (.cells #[] 5);clear h hA hpos he;go_enter Tryz.func146,Tryz.ntmps146;go_wp2_with (at_builtin;refine zCl rfl (.tmp 5) (.tmp 6) rfl w.heap.size rfl hw0 rfl h' (by simp;omega) (by simp) ?_);intro A' c' w1 hw1 hb1;go_wp2;go_ret;exact⟨A',c',rfl,hw1,fun e=>absurd e HE.out,kG hE0 hb1⟩
theorem take3 (b:Nat)(s:St)(wt:Value)(n:Nat)(P:Nat→Prop)(A:Option Addr)(c:Nat)(p:List Nat)(w:World)(hb:HB w b s.list wt n)(hk:KW w)(hp:RB w P A c p)(hl:p.length=64)(hP:∀ b,P b→b<w.heap.size) :
 Calls Tryz.prog 145 #[.pointer (some ⟨b,0,none⟩),.slice A 64 c] w fun e w'=>e=.returned (.tuple #[])∧HB w' b (tU s p).list wt n∧jQ b w w':=by
 have hs:=zF (oh b s wt n P A c p w hb hk hp hl hP)
 have h0:=hb.kind
 clear hb hk hp hP
 go_enter Tryz.func145,Tryz.ntmps145
 go_wp2_with fail
 refine hs.out.mono ?_
 rintro e w1 ⟨rfl,h1,h2⟩
 have H1:=zF h1
 have H2:=zF h2
 clear h1 h2
 go_wp2_with fail
 go_end0
 exact⟨rfl,H1.out,H2.out⟩
end Go.Proofs.YtaemogcomplhiaaGreatDoor
namespace Go.Proofs.YtaemogcomplhiaaGreatDoor
open Go.RowKit
def zBb {β:Type} (P:Program) (g:Nat) (lb:Array Value) (xs:Nat→β→Array Value) (Vs:Nat→β→World→Prop) (Nd:Nat→World→Prop) (T:Nat→Nat→World→World→Prop) (Kp:World→World→Prop) (m N:Nat) (fin:Bool) (w:World):Prop :=
  ∀ (n l : Nat) (J J' Jx : Nat → World → Prop) (W : World), 1 ≤ n → Below w.heap.size w W → l < W.heap.size → OwnFrom W.heap.size J → OwnFrom W.heap.size J' → OwnFrom W.heap.size Jx →
    (∀ k W1,k≤N→J k W1→Nd k W1)→(∀ k W1 W2,k≤N→J k W1→T W.heap.size k W1 W2→J' k W2)→(fin=false→∀ W',¬ J' N W') →
    (∀ k b W1,J' k W1→Vs k b W1→k<N→W.heap.size+m≤W1.heap.size→YieldAt Fence.wide (n-1) P l (xs k b) W1 fun e W' =>
      (e=.returned (.bool true)∧J (k+1) W'∧Kp W1 W'∧jN W.heap.size W.heap.size m W1 W')∨(e=.returned (.bool false)∧Jx (k+1) W'∧jN W.heap.size W.heap.size m W1 W')) →
    J 0 W →
    CallsIn Fence.wide n P g (#[.func (.yield l) #[] #[]]++lb) W fun e W'=>(∃ v,e=.returned v)∧(J' N W'∨∃ k,0<k∧k≤N∧Jx k W')
theorem oV {β:Type}{n:Nat}{P:Program}{g:Operand}{ps:Array Tmp}{assign body:Code}{Q:Exit→Act→World→Prop}{a:Act}{w:World}
   (h2:2≤n) {gf:Nat} {lb:Array Value} (hg:a.eval g=.func (.func gf) #[] lb) (eg:∀ args w,(callFunc gf args).run P w=.ok (.enter gf args) w)
   {xs:Nat→β→Array Value} {Vs:Nat→β→World→Prop} {Nd:Nat→World→Prop} {T:Nat→Nat→World→World→Prop} {Kp:World→World→Prop} {m N:Nat} {fin:Bool} {w0:World} (hseq:zBb P gf lb xs Vs Nd T Kp m N fin w0)
   (hKt:∀ {A B C:World},Kp A B→Kp B C→Kp A C) (hKb:∀(W:World) (l:Nat) (o o':Obj),w.heap.size≤l→W.heap[l]?=some o→o.isCells=false→o.isWalk=false→Kp W (W.putObj l o'))
   (hT:∀ B k W1 W2,T B k W1 W2→W1.heap.size≤W2.heap.size∧∀ b o,b<B→W1.heap[b]?=some o→o.isCells=false→W2.heap[b]?=some o)
   (hb0:Below w0.heap.size w0 w) (hps:∀ k b,(xs k b).size=ps.size) (hVp:∀ k b (W:World) (l:Nat) (o o':Obj),Vs k b W→W.heap[l]?=some o→o.isCells=false→Vs k b (W.putObj l o'))
   (I I':Nat→World→Prop) (Ix:Code→Nat→World→Prop) (hI:OwnFrom w.heap.size I) (hI':OwnFrom w.heap.size I') (hIx:∀ c,OwnFrom w.heap.size (Ix c))
   (hNd:∀ k W,k≤N→I k W→Nd k W) (hIT:∀ B k W1 W2,w.heap.size≤B→k≤N→I k W1→T B k W1 W2→I' k W2) (hfin:fin=false→∀ W',¬ I' N W') (h0:I 0 w) (a₁:Nat→β→Act)
   (hassign:∀(l k:Nat) (b:β) (W:World) (K:Act→World→Prop),K (a₁ k b) W →
     assign.wpIn (Fence.wide.inRound l) (n-1-1) P (Exit.then K (fun _ _ _=>False)) { tmps:=(ps.zip (xs k b)).foldl (fun t (p,v)=>t.setIfInBounds p v) a.tmps,defers:=[] } W)
   (hbody:∀(l k:Nat) (b:β) (W:World),I' k W→Vs k b W→k<N→w.heap.size+2+m≤W.heap.size→body.wpIn (Fence.wide.inRound l) (n-1-1) P (oE w.heap.size m Kp I Ix (k+1) W) (a₁ k b) W)
   (hdone:∀(D:Nat) (W:World),w.heap.size≤D→I' N W→W.heap[D]?=some (.deferred (some []))→Q .normal { a with defers:={ target:=.collected D,args:=#[] }::a.defers } W)
   (hstop:∀(D:Nat) (c:Code) (k:Nat) (W:World),w.heap.size≤D→0<k→k≤N→Ix c k W→W.heap[D]?=some (.deferred (some []))→c.wpIn Fence.wide n P Q { a with defers:={ target:=.collected D,args:=#[] }::a.defers } W) :
   (Code.rangeFunc g ps assign body).wpIn Fence.wide n P Q a w:=by
 refine wpIn_rangeFunc ?_;intro fn hfn;obtain⟨rc,hrc⟩:∃ rc:LoopState→Option Code→Loop,rc=fun st pe=>{ state:=st,pending:=pe,fn,tmps:=a.tmps,params:=ps,assign,body,defers:=w.heap.size }:=⟨_,rfl⟩
 obtain⟨L,hL⟩:=eV (w.heap.size+1);obtain⟨D,hD⟩:=eV w.heap.size;obtain⟨W1,hW1⟩:=eV ((w.alloc (.deferred (some []))).alloc (.loop (rc .ready none)));have hz1:W1.heap.size=D+2:=by rw[←hW1,←hD];simp
 have hl1:W1.heap[L]?=some (.loop (rc .ready none)):=by
   rw[←hW1,←hL];have:=World.alloc_heap_new (w.alloc (.deferred (some []))) (.loop (rc .ready none));rwa [qB]at this
 have hd1:W1.heap[D]?=some (.deferred (some [])):=by
   rw[←hW1,←hD];exact(kE _ _ _ (by simp)).trans (World.alloc_heap_new w _)
 have hi1:I 0 W1:=by rw[←hW1];exact hI.alloc _ (hI.alloc _ h0)
 have hb1:Below w0.heap.size w0 W1:=by rw[←hW1];exact hb0.trans ((((zl _ w).alloc (zG _) _).alloc (by simp) _).mono hb0.size)
 have hlD:L=D+1:=by omega
 refine⟨L,[{ target:=.collected D,args:=#[] }],W1,{ target:=.fn (.func gf) lb,args:=#[.func (.yield L) #[] #[]] },W1,gf,
   #[.func (.yield L) #[] #[]]++lb,W1,?_,?_,?_,?_,fun _=>by omega,?_⟩
 · rw[←hW1,hrc,←hL,←hD];exact run_enterLoop_outer _ _ _ _ _
 · simp only[resolve,hg];simp[go_sem]
 · exact fun _ _=>trivial
 · simp[invoke,go_sem,eg]
 -- the record's two blocks,beside what the caller holds
 have recs:∀(st:LoopState) (pe:Option Code),OwnFrom W1.heap.size (fun(_:Nat) (W:World)=>(L<W.heap.size∧W.heap[L]?=some (.loop (rc st pe)))∧D<W.heap.size∧W.heap[D]?=some (.deferred (some []))):=fun st pe =>
   OwnFrom.and (xe _ (by omega)) (xe _ (by omega))
 have lt:∀ {W:World} {b:Nat} {o:Obj},W.heap[b]?=some o→b<W.heap.size:=fun h=>(Array.getElem?_eq_some_iff.1 h).1
 refine(hseq (n-1) L
   (fun k W=>I k W∧(L<W.heap.size∧W.heap[L]?=some (.loop (rc .ready none)))∧D<W.heap.size∧W.heap[D]?=some (.deferred (some [])))
   (fun k W=>I' k W∧(L<W.heap.size∧W.heap[L]?=some (.loop (rc .ready none)))∧D<W.heap.size∧W.heap[D]?=some (.deferred (some [])))
   (fun k W=>∃ c,Ix c k W∧(L<W.heap.size∧W.heap[L]?=some (.loop (rc .done (some c))))∧D<W.heap.size∧W.heap[D]?=some (.deferred (some [])))
   W1 (by omega) hb1 (by omega) (OwnFrom.and (vz hI (by omega)) (recs _ _)) (OwnFrom.and (vz hI' (by omega)) (recs _ _))
   (fun k A B row hs hg' hr=>by obtain⟨c,hc,hr2⟩:=hs;exact⟨c,vz (hIx c) (by omega) k A B row hc hg' hr,recs _ _ k A B row hr2 hg' hr⟩)
   (fun k A hk hs=>hNd k A hk hs.1) ?_ (fun hf W' hs=>hfin hf W' hs.1) ?_ ⟨hi1,⟨lt hl1,hl1⟩,lt hd1,hd1⟩).mono ?_
 · rintro k A B hk ⟨hi,⟨_,hl⟩,_,hd⟩ ht;have hl':=(hT _ _ _ _ ht).2 L _ (by omega) hl rfl;have hd':=(hT _ _ _ _ ht).2 D _ (by omega) hd rfl;exact⟨hIT _ k A B (by omega) hk hi ht,⟨lt hl',hl'⟩,lt hd',hd'⟩
 · -- one round
   rintro k b W ⟨hi,⟨_,hl⟩,_,hd⟩ hvs hlen hm;have hlt:L<W.heap.size:=lt hl;have hy:=run_yield (P:=P) (args:=xs k b) hl (by rw[hrc];exact hps k b);rw[hrc]at hy;refine⟨fn,_,assign,body,hy,roundIn_of_wpIn hfn (hassign _ k b W _ ⟨_,run_beginRound hl (by rw[hrc]),?_⟩)⟩;have hl2:(W.putObj L (.loop { rc .ready none with state:=.busy })).heap[L]?=some (.loop { rc .ready none with state:=.busy }):=World.putObj_heap_same hlt;have hd2:(W.putObj L (.loop { rc .ready none with state:=.busy })).heap[D]?=some (.deferred (some [])):=(qJ (by omega)).trans hd;have hw2:Kp W (W.putObj L (.loop { rc .ready none with state:=.busy })):=hKb _ _ _ _ (by omega) hl rfl rfl;have hk2:jN W1.heap.size W1.heap.size m W (W.putObj L (.loop { rc .ready none with state:=.busy })):=jN.putObj (by omega) (by omega);refine wpIn_mono (hbody _ k b _ (hI'.putObj _ hi (by omega) hl rfl) (hVp k b W _ _ _ hvs hl rfl) hlen (by simp;omega)) ?_
   have fin:∀(jump:Option Code) (W3:World),jN w.heap.size (w.heap.size+2) m (W.putObj L (.loop { rc .ready none with state:=.busy })) W3 →
       (Instr.endRound L jump).run P W3=.ok (.bool jump.isNone) (W3.putObj L (.loop (rc (if jump.isNone then .ready else .done) jump))) ∧
       W3.heap[L]?=some (.loop { rc .ready none with state:=.busy }) ∧
       (W3.putObj L (.loop (rc (if jump.isNone then .ready else .done) jump))).heap[L]?=some (.loop (rc (if jump.isNone then .ready else .done) jump)) ∧
       (W3.putObj L (.loop (rc (if jump.isNone then .ready else .done) jump))).heap[D]?=some (.deferred (some [])) ∧
       jN W1.heap.size W1.heap.size m W (W3.putObj L (.loop (rc (if jump.isNone then .ready else .done) jump))):=fun jump W3 hk3=>by
     have hl3:=hk3.others L _ (by omega) hl2 rfl;have hd3:=hk3.others D _ (by omega) hd2 rfl;have:=run_endRound (P:=P) jump hl3;rw[hrc]at this ⊢;exact⟨this,by rw[hrc]at hl3;exact hl3,World.putObj_heap_same (lt hl3),(qJ (by omega)).trans hd3,by rw[hrc]at hk2 hk3;exact hk2.trans ((hk3.mono (by omega) (by omega) (by omega)).trans (jN.putObj (by omega) (by omega)))⟩
   rintro e a3 W3 hp;cases e with
   | normal =>
     obtain⟨hk3,hkp3,hi3⟩:=hp;obtain⟨hr,hl3,hl4,hd4,hk4⟩:=fin none W3 hk3;exact⟨_,_,hr,.inl ⟨rfl,⟨hI.putObj _ hi3 (by omega) hl3 rfl,⟨lt hl4,hl4⟩,lt hd4,hd4⟩,hKt (hKt hw2 hkp3) (hKb _ _ _ _ (by omega) hl3 rfl rfl),hk4⟩⟩
   | ret =>
     obtain⟨hk3,hi3⟩:=hp;obtain⟨hr,hl3,hl4,hd4,hk4⟩:=fin (some .ret) W3 hk3;exact⟨_,_,hr,.inr ⟨rfl,⟨.ret,(hIx _).putObj _ hi3 (by omega) hl3 rfl,⟨lt hl4,hl4⟩,lt hd4,hd4⟩,hk4⟩⟩
   | exit id =>
     obtain⟨hk3,hi3⟩:=hp;obtain⟨hr,hl3,hl4,hd4,hk4⟩:=fin (some (.exit id)) W3 hk3;exact⟨_,_,hr,.inr ⟨rfl,⟨.exit id,(hIx _).putObj _ hi3 (by omega) hl3 rfl,⟨lt hl4,hl4⟩,lt hd4,hd4⟩,hk4⟩⟩
   | goto t =>
     obtain⟨hk3,hi3⟩:=hp;obtain⟨hr,hl3,hl4,hd4,hk4⟩:=fin (some (.goto t)) W3 hk3;exact⟨_,_,hr,.inr ⟨rfl,⟨.goto t,(hIx _).putObj _ hi3 (by omega) hl3 rfl,⟨lt hl4,hl4⟩,lt hd4,hd4⟩,hk4⟩⟩
   | panic ch=>exact hp.elim
   | outgrown=>exact hp.elim
 · -- behind the iterator
   rintro e W2 ⟨⟨v,rfl⟩,(⟨hi,⟨_,hl⟩,_,hd⟩|⟨k,hk0,hk,c,hi,⟨_,hl⟩,_,hd⟩)⟩
   · exact⟨none,_,by have:=run_endLoop (P:=P) hl (by rw[hrc];simp);rw[hrc]at this;exact this,hdone _ _ (by omega) (hI'.putObj _ hi (by omega) hl rfl) ((qJ (by omega)).trans hd)⟩
   · exact⟨some c,_,by have:=run_endLoop (P:=P) hl (by rw[hrc];simp);rw[hrc]at this;exact this,hstop _ c k _ (by omega) hk0 hk ((hIx c).putObj _ hi (by omega) hl rfl) ((qJ (by omega)).trans hd)⟩
section
variable {P:Program} {ops:Array Oper} {Q:Exit→Act→World→Prop} {n:Nat}
theorem s7 {o:Oper}{a:Act}{w:World}{K:Act→World→Prop}(hd:Par.wM o=true)(hh:o.wp P a w K Q):o.wpIn Fence.wide n P a w K Q:=by
 refine⟨fun _ _=>trivial,?_⟩;rw[Oper.semAt_eq _ _ _ (Par.fS hd)];unfold Oper.wp at hh;generalize(execOp a.eval o).run P w=r at *;cases r with
 | ok x w' =>
   cases x<;>simp only[Oper.upon,Oper.uponIn]at hh ⊢;case enter f args=>exact⟨(fun h=>by cases h),(callsIn_wide (n:=n-1)).2 hh⟩
   case row r args=>exact⟨(fun h=>by cases h),fun c cs _=>let ⟨v,w'',r,s⟩:=hh c cs;⟨v,w'',r,stepsIn_wide.2 s⟩⟩
   all_goals first|exact hh|exact hh.elim
 | halt x w'=>cases x<;>simp only[Oper.upon,Oper.uponIn]at hh ⊢ <;> exact hh
theorem xA {i:Nat}{rest:List Nat}{o:Oper}{a:Act}{w:World}(ho:ops[i]?=some o)(hw:Region.wanted o (yielded ops a.tmps)=true)(hd:Par.wM o=true)(h:∀ K:Act→World→Prop,(∀ a' w',wpOpsIn Fence.wide n P ops Q rest a' w'→K a' w')→o.wp P a w K Q):wpOpsIn Fence.wide n P ops Q (i::rest) a w:=by
 rw[wpOpsIn_cons];refine wpOpIn_step ho fun K hK=>?_;rw[qg hw];exact s7 hd (h K hK)
end
theorem RB.takeS {w:World}{P:Nat→Prop}{A:Option Addr}{c:Nat}{bs:List Nat}(h:RB w P A c bs)(n:Nat):RB w P A c (bs.take n):=by
 obtain⟨⟨h1,h2,h3,h4⟩,h5,h6⟩:=h;refine⟨⟨by rw[zo];omega,h2,by simp[bys],fun hn=>?_⟩,fun x hx=>h5 x (qM hx),by rw[zo];omega⟩;obtain⟨ad,e,hP,hc⟩:=h4 (by rw[zo]at hn;omega);refine⟨ad,e,hP,fun j u hu=>hc j u ?_⟩;rw[bys,List.map_take,List.getElem?_take]at hu;split at hu
 · exact hu
 · cases hu
end Go.Proofs.YtaemogcomplhiaaGreatDoor
namespace Go.Proofs.YtaemogcomplhiaaGreatDoor
open Go.RowKit
open Sha
attribute [local go_sem] Oper.semAt_some
theorem pj (A:Option Addr)(len c:Nat)(w:World):Calls Tryz.prog 144 #[.slice A len c,.int .i64 64] w fun e w'=>e=.returned (.func (.func 158) #[] #[.pointer (some ⟨w.heap.size+1,0,none⟩),.pointer (some ⟨w.heap.size,0,none⟩)]) ∧
 w'=(w.alloc (.cells #[.slice A len c] 22)).alloc (.cells #[.int .i64 64] 3):=by
 go_enter Tryz.func144,Tryz.ntmps144
 go_wp2
 go_ret
 exact⟨rfl,rfl⟩
theorem OW.mono {w:World}{base base':Nat}{A:Option Addr}{c:Nat}{bs:List Nat}(h:OW w base A c bs)(hb:base'≤base):OW w base' A c bs:=by
 obtain⟨⟨h1,h2⟩,h3⟩:=h;refine⟨⟨h1,?_⟩,h3⟩;rcases h2 with h2|⟨g,cap,cur,e,hg,h4⟩
 · exact .inl h2
 · exact .inr ⟨g,cap,cur,e,zK hb hg,h4⟩
def pc (l:List Nat) (k:Nat):List Nat:=(l.drop (64*k)).take 64
def zBa (bb:Nat) (_B _k:Nat) (W W':World):Prop:=jQ bb W W'∧∃ cs t,W.heap[bb]?=some (.cells cs t (0,0))
def rB (bb bn:Nat) (W W':World):Prop:=W'.heap[bb]?=W.heap[bb]?∧W'.heap[bn]?=W.heap[bn]?
theorem rB.trans {bb bn:Nat}{a b c:World}(h:rB bb bn a b)(k:rB bb bn b c):rB bb bn a c:=⟨k.1.trans h.1,k.2.trans h.2⟩
theorem oa (bb:Nat):∀ B k W1 W2,zBa bb B k W1 W2→W1.heap.size≤W2.heap.size∧∀(b:Nat) (o:Obj),b<B→W1.heap[b]?=some o→o.isCells=false→W2.heap[b]?=some o:=fun _ _ _ _ h =>
 ⟨h.1.size, fun b o _ hb ho => h.1.at_ (fun e => by
  obtain⟨cs,t,hc⟩:=h.2
  rw[e,hc]at hb
  injection hb with hb
  rw[←hb]at ho
  cases ho) hb⟩
def mn (w:World) (bb:Nat) (A:Option Addr) (_c:Nat) (all:List Nat) (k:Nat):Prop :=
 ∃ A' c',w.heap[bb]?=some (.cells #[.slice A' (all.drop (64*k)).length c'] 22 (0,0))∧(all.drop (64*k)).length≤c'∧c'≤maxLen∧(64*k<all.length→A'=A.map (·.add (64*k)))
theorem zCP {X:World}{c k:Nat}{A:Option Addr}{P:Nat→Prop}{all:List Nat}{A':Option Addr}{c':Nat}(h1:(all.drop (64*k)).length≤c')(h2:c'≤maxLen)(h3:64*k<all.length→A'=A.map (·.add (64*k)))(hk:64*k≤all.length)(hr:RB X P A c all):RB X P A' c' (all.drop (64*k)) :=
 hr.from' hk (by rw[qn]at h1;exact h1) h2 h3
theorem pi {bb bn:Nat}{A:Option Addr}{c:Nat}{P:Nat→Prop}(all:List Nat)(w:World)(hb:w.heap[bb]?=some (.cells #[.slice A all.length c] 22 (0,0)))(hn:w.heap[bn]?=some (.cells #[.int .i64 64] 3 (0,0)))(hne:bb≠bn)
 (hc:all.length≤c) (hc':c≤maxLen) (hl:all.length≤1000000) (hP:∀ b,P b→b<w.heap.size∧b≠bb) :
 zBb Tryz.prog 158 #[.pointer (some ⟨bn,0,none⟩),.pointer (some ⟨bb,0,none⟩)] (fun k v=>#[.int .i64 (k:Int),v]) (fun k v X=>∃ A' c',v=.slice A' (pc all k).length c'∧OW X w.heap.size A' c' (pc all k)) (fun _ X=>RB X P A c all) (zBa bb) (rB bb bn) 0 ((all.length+63)/64) true w:=by
 intro n l' J J' Jx W hnn hW _ _ _ _ hNd hT hfin hY h0
 have hbW:=(hW.block bb (qr hb)).trans hb
 have hnW:=(hW.block bn (qr hn)).trans hn
 have zb:=qr hb
 have zn:=qr hn
 have zW:=hW.size
 have HT:=zF hT
 have HY:=zF hY
 have HN:=zF hNd
 have HP:=zF hP
 obtain⟨N,hN⟩:=eV ((all.length+63)/64)
 rw[hN]at HY HT HN ⊢
 have HNN:=zF hN
 clear hT hY hfin hNd hP hN
 have hLe:mn W bb A c all 0:=⟨A,c,hbW,by simpa using hc,hc',fun _=>by cases A<;>simp[Addr.add]⟩
 have HL0:=zF hLe
 have nc:=zQ hnW 0
 simp only[zR,zi]at nc
 clear hLe hbW hb hn
 refine callsIn_of_wp Tryz.func158 rfl trivial ?_ rfl
 simp only[Tryz.ntmps158,qX,jZ,kA,Nat.reduceAdd,Nat.reduceSub,Array.replicate_succ,Array.replicate_zero,List.push_toArray,List.append_toArray,wm,uS]
 refine wpIn_wide.2 ?_
 go_wp2_with fail
 refine(wpIn_wide (n:=n)).1 ?_
 gi_loopg [4] N (fun d i wr=>∃(k:Nat) (Wk:World),d+k=N∧i=.int .i64 (k:Int)∧J k Wk∧zBa bb W.heap.size k Wk wr∧mn wr bb A c all k∧wr.heap[bn]?=some (.cells #[.int .i64 64] 3 (0,0))∧W.heap.size≤Wk.heap.size)
 case atStart=>exact⟨0,W,q9 _,rfl,h0,⟨jk _ _,let ⟨_,_,h,_⟩:=HL0.out;⟨_,_,h⟩⟩,HL0.out,hnW,zG _⟩
 case round =>
  obtain⟨k,Wk,hdk,rfl,hJk,hTk,hLk,hnk,hzk⟩:=hrel;clear HL0 h0 nc;have hrk:=HN.out k Wk (by omega) hJk;have hrr:RB wr P A c all:=hrk.keep fun p hp=>qH (hTk.1.block _ (zI (HP.out _ hp).1 (by omega)) (HP.out _ hp).2);obtain⟨A',c',hbk,q1,q2,q3⟩:=hLk;have hNk:64*k≤all.length∨all.length<64*k:=by omega
  have cb:=zQ hbk 0;have cn:=zQ hnk 0;simp only[zR,zi]at cb cn;by_cases hkN:k<N
  · have hkl:64*k<all.length:=by have:=HNN.out;omega
    have HRB:=zF (zCP q1 q2 q3 (by omega) hrr);obtain⟨rest,hrest⟩:=eV (all.drop (64*k));rw[hrest]at hbk cb q1 HRB;have hrl:rest.length=all.length-64*k:=by rw[←hrest,qn]
    have hr0:(0:Int)<(rest.length:Int):=by omega
    have Hrl:=zF hrl;have Hrest:=zF hrest;clear hrest hrl hNk;obtain⟨ad,rfl⟩:∃ ad,A'=some ad:=by obtain⟨ad,e,_⟩:=HRB.out.dg (i:=0) (by omega);exact⟨ad,e⟩
    have Q3:=zF q3;obtain⟨m,hm⟩:∃ m:Nat,min 64 rest.length=m:=⟨_,rfl⟩
    have hmin:min (64:Int) (rest.length:Int)=(m:Int):=by omega
    have hm1:(0:Int)≤(m:Int):=by omega
    have hm2:(m:Int)≤(rest.length:Int):=by omega
    have hm3:(m:Int)≤(c':Int):=by omega
    obtain⟨p,hp⟩:=eV (rest.take m);have hpl:p.length=m:=by rw[←hp,zo];omega
    have hpk:pc all k=p:=by
     rw[pc,Hrest.out,←hp,←hm];rcases Nat.le_total 64 rest.length with h|h
     · rw[qU h]
     · rw[Nat.min_eq_right h,jE,zx h]
    have hrl:=Hrl.out;have hcl:=zBP P (some ad) c' p wr (by rw[←hp];exact HRB.out.takeS m) (fun b hb=>zI (HP.out b hb).1 (zK (zK zW hzk) hTk.1.size)) (fun e=>by rw[e]at hpl;simp at hpl;omega) (by omega);rw[hpl]at hcl;have Hcl:=zF hcl;have Hpk:=zF hpk;have Hpl:=zF hpl;have Hp:=zF hp;have Hm:=zF hm;clear hm hp hpl hpk hcl q3 hrl;gi_upto_region 5 with fail
    refine wpIn_region ?_;show wpOpsIn _ _ _ _ _ [0,1,2,3,4,5,6,7] _ _;refine xA rfl (by kernel_rfl) (by kernel_rfl) (fun K hK=>?_);go_simp;refine hK _ _ ?_;clear hK;refine xA rfl (by kernel_rfl) (by kernel_rfl) (fun K hK=>?_);go_simp;refine hK _ _ ?_;clear hK;refine xA rfl (by kernel_rfl) (by kernel_rfl) (fun K hK=>?_);go_simp;refine hK _ _ ?_;clear hK;refine xA rfl (by kernel_rfl) (by kernel_rfl) (fun K hK=>?_);go_simp;refine hK _ _ ?_;clear hK;refine xA rfl (by kernel_rfl) (by kernel_rfl) (fun K hK=>?_);go_simp;refine hK _ _ ?_;clear hK;refine xA rfl (by kernel_rfl) (by kernel_rfl) (fun K hK=>?_);go_simp;refine Hcl.out.mono ?_;rintro e w4 ⟨A2,c2,rfl,ho2,_,hE4⟩;go_simp;refine hK _ _ ?_;clear hK;have hJ4:=HT.out k Wk w4 (by omega) hJk ⟨hTk.1.trans (jQ.of_below hE4 (zG _)),hTk.2⟩;have z4:=hE4.bsize;obtain⟨fn,tmps,assign,body,hy,hRo⟩:=HY.out k (.slice A2 m c2) w4 hJ4 ⟨A2,c2,by rw[Hpk.out,Hpl.out],by rw[Hpk.out];exact ho2.mono (zK (zK zW hzk) hTk.1.size)⟩ hkN (by have:=hTk.1.size;omega);have HE4:=zF hE4;clear ho2 hE4 hJ4 hJk;rw[wpOpsIn_cons];refine wpOpIn_step rfl (fun K hK=>?_);rw[qg (by kernel_rfl)];gi_wp2;refine hRo.mono ?_;rintro e W3 (⟨rfl,hJ3,hk3,hs3⟩|⟨rfl,hJx3,_⟩)
    · have hb3:=hk3.1.trans (HE4.out.at_ hbk);have hn3:=hk3.2.trans (HE4.out.at_ hnk);have c3:=zQ hb3 0;have f3:=qu hb3 0;simp only[zR,zi]at c3;have z3:=hs3.size;have hrl:=Hrl.out;have hmm:=Hm.out;have hs0:=hTk.1.size;have hdl:(all.drop (64*(k+1))).length=rest.length-m:=by rw[qn];omega
      clear hk3 hs3 hbk hnk cb cn hy hRo HE4 HRB;by_cases hcm:c'=m
      · obtain rfl:m=c':=hcm.symm;have hset:=jM hb3 0 (.slice (some ad) 0 0);rw[show(#[Value.slice (some ad) rest.length m]:Array Value).setIfInBounds 0 (.slice (some ad) 0 0)=#[.slice (some ad) 0 0]from rfl]at hset;have hjs:=(jk bb W3).set 0 (.slice (some ad) 0 0);have hn4:=hjs.at_ (fun e=>hne e.symm) hn3;have hT4:zBa bb W.heap.size (k+1) W3 (W3.setCell ⟨bb,0,none⟩ (.slice (some ad) 0 0)):=⟨hjs,_,_,hb3⟩
        have hL4:mn (W3.setCell ⟨bb,0,none⟩ (.slice (some ad) 0 0)) bb A c all (k+1):=⟨(some ad),0,by rw[hdl,show rest.length-m=0 by omega];exact hset,by omega,by omega,fun h=>absurd h (by omega)⟩
        have HT4:=zF hT4;have HL4:=zF hL4;have HN4:=zF hn4;clear hset hjs hn4 hT4 hL4 hb3 hn3 hrl hmm hdl;gi_wp2;refine xA rfl (by kernel_rfl) (by kernel_rfl) (fun K hK=>?_);go_simp;refine hK _ _ ?_;clear hK;simp only[wpOpsIn];gi_upto_region 6 with fail
        gi_wp2;gi_roundg (gk-1);case rel=>exact⟨k+1,W3,by omega,by go_num,hJ3,HT4.out,HL4.out,HN4.out,by omega⟩
        case measure=>omega
      · have hcm':¬(c':Int)=(m:Int):=by omega
        have hset:=jM hb3 0 (.slice (some (ad.add m)) (rest.length-m) (c'-m));rw[show(#[Value.slice (some ad) rest.length c']:Array Value).setIfInBounds 0 (.slice (some (ad.add m)) (rest.length-m) (c'-m))=#[.slice (some (ad.add m)) (rest.length-m) (c'-m)]from rfl]at hset;have hjs:=(jk bb W3).set 0 (.slice (some (ad.add m)) (rest.length-m) (c'-m));have hn4:=hjs.at_ (fun e=>hne e.symm) hn3;have hT4:zBa bb W.heap.size (k+1) W3 (W3.setCell ⟨bb,0,none⟩ (.slice (some (ad.add m)) (rest.length-m) (c'-m))):=⟨hjs,_,_,hb3⟩
        have hL4:mn (W3.setCell ⟨bb,0,none⟩ (.slice (some (ad.add m)) (rest.length-m) (c'-m))) bb A c all (k+1):=⟨(some (ad.add m)),c'-m,by rw[hdl];exact hset,by omega,by omega,fun h=>by have h1:=Q3.out hkl;cases A with|none=>cases h1|some a0=>(injection h1 with h1;simp only[yM];rw[h1,gx];congr 2;omega)⟩
        have HT4:=zF hT4;have HL4:=zF hL4;have HN4:=zF hn4;clear hset hjs hn4 hT4 hL4 hb3 hn3 hrl hmm hdl;gi_wp2;refine xA rfl (by kernel_rfl) (by kernel_rfl) (fun K hK=>?_);go_simp;refine hK _ _ ?_;clear hK;simp only[wpOpsIn];gi_upto_region 6 with fail
        gi_wp2;gi_roundg (gk-1);case rel=>exact⟨k+1,W3,by omega,by go_num,hJ3,HT4.out,HL4.out,HN4.out,by omega⟩
        case measure=>omega
    · gi_wp2;refine xA rfl (by kernel_rfl) (by kernel_rfl) (fun K hK=>?_);go_simp;refine hK _ _ ?_;clear hK;simp only[wpOpsIn];gi_wp2;exact wI (results_none rfl _ _ _) rfl ⟨⟨_,rfl⟩,.inr ⟨k+1,by omega,by omega,hJx3⟩⟩
  · obtain rfl:k=N:=by omega
    have hd0:(all.drop (64*k)).length=0:=by have:=HNN.out;rw[qn];omega
    rw[hd0]at hbk cb;have hJ':=HT.out k Wk wr (zG _) hJk hTk;gi_wp2;go_end0;exact⟨⟨_,rfl⟩,.inl hJ'⟩
def rem (m:List Nat):List Nat:=m.drop (64*(m.length/64))
theorem vN (m:List Nat):(rem m).length=m.length%64:=by rw[rem,qn];omega
theorem zBu (m p:List Nat):rem m++p=(m++p).drop (64*(m.length/64)):=by
 rw[rem,List.drop_append_of_le_length (by omega)]
theorem oc (s:St){M all:List Nat}{q:Nat}(h:M.drop (64*q)=all)(k:Nat):vM s M (q+k+1)=tU (vM s M (q+k)) (pc all k):=by
 rw[vM,pc,←h,List.drop_drop,show 64*(q+k)=64*q+64*k by omega]
structure Fr (b F:Nat) (w w':World):Prop where
 os:w'.os=w.os
 tape:w'.tape=w.tape
 output:w'.output=w.output
 size:w.heap.size≤w'.heap.size
 block:∀ k,k<F→k≠b→w'.heap[k]?=w.heap[k]?
theorem Fr.refl (b F:Nat)(w:World):Fr b F w w:=⟨rfl,rfl,rfl,zG _,fun _ _ _=>rfl⟩
theorem Fr.trans {b F:Nat}{x y z:World}(h:Fr b F x y)(k:Fr b F y z):Fr b F x z:=⟨k.os.trans h.os,k.tape.trans h.tape,k.output.trans h.output,zK h.size k.size,fun i hi hn=>(k.block i hi hn).trans (h.block i hi hn)⟩
theorem Fr.mono {b F G:Nat}{x y:World}(h:Fr b F x y)(hG:G≤F):Fr b G x y:=⟨h.os,h.tape,h.output,h.size,fun i hi hn=>h.block i (zI hi hG) hn⟩
theorem Fr.below {b F G:Nat}{x y:World}(h:Below F x y)(hG:G≤F):Fr b G x y:=⟨h.os,h.tape,h.output,h.size,fun i hi _=>h.block i (zI hi hG)⟩
theorem Fr.just {b F:Nat}{x y:World}(h:jQ b x y)(hF:F≤x.heap.size):Fr b F x y:=⟨h.os,h.tape,h.output,h.size,fun i hi hn=>h.block i (zI hi hF) hn⟩
theorem Fr.justTo {b g F:Nat}{x y:World}(h:jQ g x y)(hF:F≤g)(hx:F≤x.heap.size):Fr b F x y:=⟨h.os,h.tape,h.output,h.size,fun i hi _=>h.block i (zI hi hx) (by omega)⟩
theorem Fr.at_ {b F k:Nat}{x y:World}{o:Obj}(h:Fr b F x y)(hk:k<F)(hn:k≠b)(hx:x.heap[k]?=some o):y.heap[k]?=some o:=(h.block k hk hn).trans hx
theorem Fr.ext {b F:Nat}{x y:World}(h:Fr b F x y)(hb:x.heap.size≤b)(hF:x.heap.size≤F):Ext x y:=⟨h.os,h.tape,h.output,h.size,fun i hi=>h.block i (zI hi hF) (by omega)⟩
theorem KW.fr {b F n:Nat}{s:List W}{wt:Value}{x y:World}(h:KW x)(hb:HB x b s wt n)(hf:Fr b F x y)(hF:3<F):KW y:=fun i hi=>by
 obtain⟨z,h1,h2⟩:=h i hi;refine⟨z,(qH (hf.block _ hF ?_)).trans h1,h2⟩;intro e;obtain⟨z0,h3,_⟩:=h 0 (by omega);have:=hb.kind;have e':3=b:=e;rw[←e',h3]at this;cases this
theorem KW.lt {w:World}(h:KW w):3<w.heap.size:=by
 obtain⟨z,h1,_⟩:=h 0 (by omega);exact World.block_lt_of_cell? w _ h1
def HS (w:World) (b:Nat) (m:List Nat) (F:Nat):Prop :=
 ∃ A c,HB w b (vM uX m (m.length/64)).list (.slice A (rem m).length c) m.length∧OW w F A c (rem m)∧(rem m=[]→A=none∧c=0)∧m.length≤500000
theorem HS.lt {w:World}{b F:Nat}{m:List Nat}(h:HS w b m F):b<w.heap.size:=let ⟨_,_,h,_⟩:=h;h.lt
theorem HB.no8 {w:World}{b n len c:Nat}{s:List W}{A:Option Addr}{q:Addr}{v:Int}(h:HB w b s (.slice A len c) n)(hq:w.cell? q=some (.int .u8 v)):q.block≠b:=by
 intro e;unfold World.cell? at hq;rw[e,h.1]at hq;simp only at hq;split at hq
 · cases hq
 · have hm:=List.mem_of_getElem? (l:=vl s (.slice A len c) n) (i:=q.off) (by simpa using hq);simp[vl]at hm
theorem RB.by_ {w w':World}{P:Nat→Prop}{A:Option Addr}{c:Nat}{bs:List Nat}(h:RB w P A c bs)(hk:∀(q:Addr) (v:Int),P q.block→w.cell? q=some (.int .u8 v)→w'.cell? q=some (.int .u8 v)):RB w' P A c bs:=by
 obtain⟨⟨h1,h2,h3,h4⟩,h5⟩:=h;refine⟨⟨h1,h2,h3,fun hn=>?_⟩,h5⟩;obtain⟨ad,e,hb,hc⟩:=h4 hn;refine⟨ad,e,hb,fun j u hu=>?_⟩;have h6:=hc j u hu;obtain⟨x,_,rfl⟩:=List.mem_map.1 (List.mem_of_getElem? hu);exact hk _ _ (by rw[yI];exact hb) h6
theorem tz (w:World)(o1 o2:Obj):((w.alloc o1).alloc o2).heap[w.heap.size]?=some o1∧((w.alloc o1).alloc o2).heap[w.heap.size+1]?=some o2∧((w.alloc o1).alloc o2).heap.size=w.heap.size+2:=by
 refine⟨(zO _ _).at_ (zS w o1),?_,by simp⟩;have:=zS (w.alloc o1) o2;rwa [qB]at this
theorem pN {B C g:Nat}{x y:World}{cs:Array Value}{t:TypeId}(h:jQ g x y)(_hg:g<C)(hx:x.heap[g]?=some (.cells cs t (0,0))):jN B C 0 x y :=
 ⟨h.size,fun k o _ hk ho=>h.at_ (fun e=>by rw[e,hx]at hk;rw[←jX hk]at ho;cases ho) hk,fun k h1 h2=>absurd h2 (by omega)⟩
theorem oT {M all:List Nat}{q:Nat}(h:M.drop (64*q)=all)(hq:64*q≤M.length):M.length=64*q+all.length:=by
 rw[←h,qn];omega
section
variable {w:World} {ops:Array Oper} {rest:List Oper} {o:Oper} {a:Act} {Q:Exit→Act→World→Prop}
theorem zDB (hgd:o.guard=none)(s x:Operand)(ho:o.op=.call { callee:=.builtin .append,args:=#[s,x],argTypes:=#[22,22] })(base:Nat){A Au:Option Addr}{c cu:Nat}{bs cs:List Nat}{B:Nat→Prop}
 (hs:a.eval s=.slice A bs.length c) (hown:OW w base A c bs) (hx:a.eval x=.slice Au cs.length cu) (hr:RB w B Au cu cs) (hl:bs.length+cs.length≤100000000) (hbase:base≤w.heap.size)
 (h:∀ A' c' w',OW w' base A' c' (bs++cs)→w.grownBy w' (Value.slice A bs.length c).ownBlock→wpList Tryz.prog ops Q rest (a.put o.dst (.slice A' (bs++cs).length c')) w'):wpList Tryz.prog ops Q (o::rest) a w:=by
 obtain⟨i0,hi,hz0,hz1,hz2⟩:=info_parts gn
 refine jf w hgd s x 22 ho base 5 i0 (.int .u8 0) 1 1 Tryz.underlying22 hi hz0 hz1 hz2 rfl (by decide) _ bs.length (bys bs) hs hown.1 B Au cs.length cu (bys cs) hx hr.1 (by intro u hu;obtain⟨b,_,rfl⟩:=List.mem_map.1 hu;rfl) (bs.length+cs.length) rfl (by unfold maxLen;omega) (by omega) hbase ?_
 intro A' c' w' h1 h2 h3
 have hlen:(bs++cs).length=bs.length+cs.length:=zz
 refine(hlen▸h A' c' w' ⟨?_,?_⟩ h2:_)
 · rw[hlen,show bys (bs++cs)=bys bs++bys cs by simp[bys]];exact h1
 · intro b hb;rcases List.mem_append.1 hb with hb|hb
   · exact hown.2 b hb
   · exact hr.2.1 b hb
end
theorem OW.own {w:World}{base:Nat}{A:Option Addr}{c:Nat}{bs:List Nat}(h:OW w base A c bs){k:Nat}(hk:(Value.slice A bs.length c).ownBlock=some k):base≤k∧∃ cs,w.heap[k]?=some (.cells cs 5 (0,0)):=by
 rcases h.1.2 with⟨e,_⟩|⟨g,cap,cur,e,hg,hb,_⟩
 · injection e with e1
   subst e1;cases hk
 · injection e with e1
   subst e1;simp[Value.ownBlock]at hk;subst hk;exact⟨hg,_,hb⟩
theorem OW.same {w w':World}{base:Nat}{A:Option Addr}{c:Nat}{bs:List Nat}(h:OW w base A c bs)(hk:∀ k,base≤k→∀ cs,w.heap[k]?=some (.cells cs 5 (0,0))→w'.heap[k]?=some (.cells cs 5 (0,0))):OW w' base A c bs:=by
 obtain⟨⟨h1,h2⟩,h3⟩:=h;refine⟨⟨h1,?_⟩,h3⟩;rcases h2 with h2|⟨g,cap,cur,e,hg,hb,h4⟩
 · exact .inl h2
 · exact .inr ⟨g,cap,cur,e,hg,hk g hg _ hb,h4⟩
theorem HS.nil_up {w:World}{b F G:Nat}{m:List Nat}(h:HS w b m F)(hr:m.length%64=0):HS w b m G:=by
 obtain⟨A,c,h1,h2,h3,h4⟩:=h;have hr':rem m=[]:=qQ (by rw[vN];exact hr);obtain⟨rfl,rfl⟩:=h3 hr';refine⟨none,0,h1,⟨⟨by simp[bys],.inl ⟨by rw[hr'];rfl,by rw[hr'];rfl⟩⟩,by rw[hr'];simp⟩,h3,h4⟩
theorem HS.ext {w X:World}{b F:Nat}{m:List Nat}(h:HS w b m F)(hE:Ext w X):HS X b m F:=by
 obtain⟨A,c,h1,h2,h3,h4⟩:=h;exact⟨A,c,h1.ext hE,h2.same fun k _ cs hk=>hE.at_ hk,h3,h4⟩
theorem HS.fr {w X:World}{b b' F:Nat}{m:List Nat}(h:HS w b m F)(hf:Fr b' w.heap.size w X){s:List W}{wt:Value}{n:Nat}(hb':HB w b' s wt n)(hn:b≠b'):HS X b m F:=by
 obtain⟨A,c,h1,h2,h3,h4⟩:=h;refine⟨A,c,⟨hf.at_ h1.lt hn h1.1,h1.2⟩,h2.same fun k _ cs hk=>hf.at_ (qr hk) (fun e=>?_) hk,h3,h4⟩;rw[e,hb'.1]at hk;injection jX hk with _ e2
 exact absurd e2 (by decide)
theorem uH {b F:Nat}{P:Nat→Prop}{A:Option Addr}{c:Nat}{m p:List Nat}(w:World)(hs:HS w b m F)(hk:KW w)(hp:RB w P A c p)(hP:∀ k,P k→k<w.heap.size)(hbF:b<F)(hgF:3<F)(hF:F≤w.heap.size)(hl:(m++p).length≤500000) :
 Calls Tryz.prog 137 #[.pointer (some ⟨b,0,none⟩),.slice A p.length c] w fun e w'=>e=.returned (.tuple #[])∧HS w' b (m++p) w.heap.size∧Fr b F w w':=by
 obtain⟨Aw,cw,hB,hO,hN,hm5⟩:=hs
 have hll:=hl
 rw[zz]at hl
 have zk:=hk.lt
 have zb:=hB.lt
 obtain⟨g0,hg0⟩:=eV w.heap.size
 have hE0:=zO w (.cells #[.pointer (some ⟨b,0,none⟩)] 171)
 have hx0:=zS w (.cells #[.pointer (some ⟨b,0,none⟩)] 171)
 obtain⟨W0,hW0⟩:=eV (w.alloc (.cells #[.pointer (some ⟨b,0,none⟩)] 171))
 rw[hW0]at hE0 hx0
 have hz0:W0.heap.size=g0+1:=by rw[←hW0,qB,hg0]
 rw[hg0]at hx0
 have HB0:=zF (hB.ext hE0)
 have HO0:=zF (hO.same fun k _ cs hk=>hE0.at_ hk)
 have HP0:=zF (hp.below hE0 hP)
 have HK0:=zF (hk.ext hE0)
 have HE0:=zF hE0
 have HN:=zF hN
 have Hz0:=zF hz0
 have Hm5:=zF hm5
 have HW0:=zF hW0
 have Hg0:=zF hg0
 have c0:=zQ hx0 0
 simp only[zR,zi]at c0
 have cn:=HB0.out.num
 have fn0:=HB0.out.free 10
 have e1:IntKind.u64.wrap (p.length:Int)=(p.length:Int):=by rw[wi];omega
 have e2:IntKind.u64.wrap ((m.length:Int)+(p.length:Int))=(((m++p).length:Nat):Int):=by rw[wi,zz];omega
 have hBn:=HB0.out.setNum (m++p).length
 obtain⟨M,hM⟩:=eV (m++p)
 rw[hM]at e2 hBn
 clear hB hO hN hp hk hE0 hz0 hg0 hW0 hm5
 refine(callsIn_wide (n:=6)).1 ?_
 refine callsIn_of_wp_marks Tryz.func137 rfl trivial ?_ rfl
 simp only[Tryz.ntmps137,qX,jZ,kA,Nat.reduceAdd,Nat.reduceSub,Array.replicate_succ,Array.replicate_zero,List.push_toArray,List.append_toArray,wm,uS]
 refine wpIn_wide.2 ?_
 go_upto_region 2 with fail
 rw[HW0.out,Hg0.out]
 have hne0:g0≠b:=by have:=Hg0.out;omega
 have hj1:=(jk b W0).set 10 (.int .u64 (M.length:Int))
 have hx1:=hj1.at_ hne0 hx0
 have HM:=zF hM
 have Hll:=zF hll
 clear hM hx0 hll
 go_upto_region 3 with fail
 clear c0 cn fn0 e1 e2
 have hO1:OW (W0.setCell ⟨b,10,none⟩ (.int .u64 (M.length:Int))) F Aw cw (rem m):=HO0.out.same fun k hk cs hb=>hj1.at_ (by omega) hb
 have hP1:RB (W0.setCell ⟨b,10,none⟩ (.int .u64 (M.length:Int))) P A c p:=HP0.out.by_ fun q v _ hq=>(hj1.cell (World.block_lt_of_cell? _ _ hq) (HB0.out.no8 hq)).trans hq
 have HK1:=zF (KW.fr (F:=W0.heap.size) HK0.out HB0.out (Fr.just hj1 (zG _)) HK0.out.lt)
 have hz1:(W0.setCell ⟨b,10,none⟩ (.int .u64 (M.length:Int))).heap.size=g0+1:=by rw[←Hz0.out];simp[World.setCell]
 have HF1:=zF (Fr.trans (Fr.below (b:=b) HE0.out hF) (Fr.just hj1 (by have:=HE0.out.bsize;omega)))
 generalize W0.setCell ⟨b,10,none⟩ (.int .u64 (M.length:Int))=W1 at *
 have cw1:=hBn.wait
 have c0:=zQ hx1 0
 simp only[zR,zi]at c0
 have Hz1:=zF hz1
 have HO1:=zF hO1
 have hrl:=vN m
 have hbase:F≤W1.heap.size:=by rw[hz1];have:=Hg0.out;omega
 have hlen:(rem m).length+p.length≤100000000:=by omega
 clear hj1 hz1 hrl
 go_upto_region 4 with(at_builtin;refine zDB rfl (.tmp 22) (.tmp 23) rfl F rfl hO1 rfl hP1 hlen hbase ?_;intro A2 c2 W2 ho2 hg2)
 obtain⟨all,hall⟩:=eV (rem m++p)
 rw[hall]at ho2
 have hal:(rem m).length+p.length=all.length:=by rw[←hall,zz]
 have haq:M.drop (64*(m.length/64))=all:=by rw[←HM.out,←zBu,hall]
 have hown:∀ k (o:Obj),W1.heap[k]?=some o→(∀ cs,o≠.cells cs 5 (0,0))→W2.heap[k]?=some o:=fun k o hk hno=>(hg2.block k (qr hk) (fun e=>by
  obtain⟨_,cs,hc⟩:=HO1.out.own e.symm
  rw[hk]at hc
  exact hno cs (jX hc))).trans hk
 have hlowB:Fr b F W1 W2:=⟨hg2.os,hg2.tape,hg2.output,hg2.size,fun k hk _=>hg2.block k (by omega) (fun e=>by have:=(HO1.out.own e.symm).1;omega)⟩
 have hB2:HB W2 b (vM uX m (m.length/64)).list (.slice Aw (rem m).length cw) M.length:=⟨hown _ _ hBn.1 (by intro cs e;injection e with _ e2;exact absurd e2 (by decide)),hBn.2⟩
 have hx2:=hown _ _ hx1 (by intro cs e;injection e with _ e2;exact absurd e2 (by decide))
 have HF2:=zF (HF1.out.trans hlowB)
 have HK2:=zF (HK1.out.fr hBn hlowB hgF)
 have hz2:g0+1≤W2.heap.size:=by rw[←Hz1.out];exact hg2.size
 have Hall:=zF hall
 have Hal:=zF hal
 have Haq:=zF haq
 rw[hal]
 clear hown hlowB hg2 hx1 hBn hO1 hP1 HO1 hall haq hal HK1 HF1 c0 cw1 hlen hbase Hz1 HB0 HO0 HP0 HK0
 have c0:=zQ hx2 0
 simp only[zR,zi]at c0
 have cw2:=hB2.wait
 have fw2:=hB2.free 9
 have hj2:=(jk b W2).set 9 (.slice none 0 0)
 have hB3:=hB2.setWait (.slice none 0 0)
 have hx3:=hj2.at_ hne0 hx2
 have ho3:OW (W2.setCell ⟨b,9,none⟩ (.slice none 0 0)) F A2 c2 all:=ho2.same fun k hk cs hb=>hj2.at_ (by omega) hb
 have HF3:=zF (HF2.out.trans (Fr.just hj2 (by have:=Hg0.out;omega)))
 have HK3:=zF (HK2.out.fr hB2 (Fr.just hj2 (zG _)) HK2.out.lt)
 have hz3:g0+1≤(W2.setCell ⟨b,9,none⟩ (.slice none 0 0)).heap.size:=by simp[World.setCell];exact hz2
 have HO3:=zF ho3
 clear hx2 hB2 ho2 HF2 HK2 hj2 hz2 ho3
 go_upto_region 5 with fail
 clear c0 cw2 fw2
 generalize W2.setCell ⟨b,9,none⟩ (.slice none 0 0)=W3 at *
 have c0:=zQ hx3 0
 simp only[zR,zi]at c0
 have ck:=hB3.kind
 go_wp2_with fail
 refine(dO _).mono ?_
 rintro e W4 ⟨rfl,rfl⟩
 go_wp2_with fail
 refine(pj _ _ _ _).mono ?_
 rintro e W5 ⟨rfl,rfl⟩
 obtain⟨D,hD⟩:=eV W4.heap.size
 obtain⟨hbb,hbn,hz6⟩:=tz W4 (.cells #[.slice A2 all.length c2] 22) (.cells #[.int .i64 64] 3)
 have hE6:Ext W4 ((W4.alloc (.cells #[.slice A2 all.length c2] 22)).alloc (.cells #[.int .i64 64] 3)):=(zO _ _).trans (zO _ _)
 rw[hD]at hbb hbn hz6 hz3 ⊢
 generalize(W4.alloc (.cells #[.slice A2 all.length c2] 22)).alloc (.cells #[.int .i64 64] 3)=W6 at *
 have hB6:=hB3.ext hE6
 have hx6:=hE6.at_ hx3
 have hO6:OW W6 F A2 c2 all:=HO3.out.same fun k _ cs hb=>hE6.at_ hb
 have hR4:=HO3.out.rb (by have:=Hal.out;have:=vN m;omega)
 rw[hD]at hR4
 have hcap:=hR4.cap
 have hR6:RB W6 (In F D) A2 c2 all:=hR4.below hE6 (fun k hk=>by rw[hD];exact hk.2)
 have HF6:=zF (HF3.out.trans (Fr.below hE6 (by have:=Hg0.out;omega)))
 have HK6:=zF (HK3.out.ext hE6)
 have HB6:=zF hB6
 have HR6:=zF hR6
 have HX6:=zF hx6
 have zbD:b<D:=by have:=Hg0.out;omega
 have hal5:all.length≤1000000:=by have:=Hal.out;have:=vN m;omega
 have hseq:=zF (pi (P:=In F D) all W6 hbb hbn (by omega) hcap.1 (by unfold maxLen;omega) hal5 (fun k hk=>⟨by have:=hk.2;omega,by have:=hk.2;omega⟩))
 obtain⟨q,hq⟩:=eV (m.length/64)
 have Hq:=zF hq
 rw[hq,←ax uX m p q (by omega),HM.out]at HB6
 have hHaq:=Haq.out
 rw[hq]at hHaq
 have HAQ:=zF hHaq
 have hInv:OwnFrom W6.heap.size (fun(k:Nat) X=>HB X b (vM uX M (q+k)).list (.slice none 0 0) M.length∧Fr b D W6 X∧64*k≤all.length):=by
  rintro k X X' row ⟨h1,h2,h0⟩ hg hr;have hr':=fun r e=>(hr r e).2;refine⟨⟨(x9 hg hr' h1.1 rfl).trans h1.1,h1.2⟩,h2.trans ⟨hg.os,hg.tape,hg.output,hg.size,fun i hi _=>hg.block i (by have:=h2.size;omega) (fun e=>by have:=(hr i e.symm).1;omega)⟩,h0⟩
 clear c0 ck hB3 hx3 hE6 hbb hbn hO6 hR4 hR6 hB6 hx6 hq hHaq
 go_wp2_with fail
 refine(wpIn_wide (n:=6)).1 ?_
 refine' oV (by omega) (gf:=158) (lb:=#[.pointer (some ⟨D+1,0,none⟩),.pointer (some ⟨D,0,none⟩)]) rfl (enters_of Tryz.func158 (by kernel_rfl) rfl)
  hseq.out (fun h k=>rB.trans h k) (fun X l o o' hl _ _ _=>⟨qJ (by omega),qJ (by omega)⟩) (oa D) (zl _ _) (fun _ _=>rfl)
  (fun k v X l o o' hV hl hc=>?hVp)
  (fun k X=>HB X b (vM uX M (q+k)).list (.slice none 0 0) M.length∧Fr b D W6 X∧64*k≤all.length) (fun k X=>HB X b (vM uX M (q+k)).list (.slice none 0 0) M.length∧Fr b D W6 X∧64*k≤all.length)
  (fun cc k X=>cc=.ret∧∃ k0 A5 c5,k=k0+1∧HB X b (vM uX M (q+k0)).list (.slice A5 (pc all k0).length c5) M.length∧OW X W6.heap.size A5 c5 (pc all k0)∧(pc all k0).length<64∧Fr b D W6 X)
  hInv hInv ?hIx (fun k X _ hi=>?hNd) (fun B k X X' _ _ hi ht=>?hIT) (fun h=>by cases h) ⟨HB6.out,Fr.refl _ _ _,vr _⟩ _ ?assign ?body ?done ?stop
 case hVp =>
  obtain⟨A5,c5,e,h5⟩:=hV;exact⟨A5,c5,e,h5.same fun i _ cs hb=>(qJ (fun e=>by subst e;rw[hl]at hb;cases hb;cases hc)).trans hb⟩
 case hIx =>
  rintro cc k X X' row ⟨rfl,k0,A5,c5,rfl,h1,h2,h3,h4⟩ hg hr;have hr':=fun r e=>(hr r e).2;exact⟨rfl,k0,A5,c5,rfl,⟨(x9 hg hr' h1.1 rfl).trans h1.1,h1.2⟩,h2.same (fun i _ cs hb=>(x9 hg hr' hb rfl).trans hb),h3,h4.trans ⟨hg.os,hg.tape,hg.output,hg.size,fun i hi _=>hg.block i (by have:=h4.size;omega) (fun e=>by have:=(hr i e.symm).1;omega)⟩⟩
 case hNd =>
  exact HR6.out.by_ fun q' v hq' hc'=>(qH (hi.2.1.block _ hq'.2 (HB6.out.no8 hc'))).trans hc'
 case hIT =>
  exact⟨⟨ht.1.at_ (by omega) hi.1.1,hi.1.2⟩,hi.2.1.trans (Fr.justTo ht.1 (zG _) (by have:=hi.2.1.size;omega)),hi.2.2⟩
 case assign =>
  intro l k v X K hK;gi_wp2;exact hK
 case body =>
  rintro l k v Xb ⟨h1,h2,h0⟩ ⟨A5,c5,rfl,h5⟩ hlt _;have hx:=h2.at_ (by omega) hne0 HX6.out;have c0:=zQ hx 0;simp only[zR,zi]at c0;have ck:=h1.kind;have H1:=zF h1;have H2:=zF h2;have H5:=zF h5;have hpl:(pc all k).length=min 64 (all.length-64*k):=by rw[pc,zo,qn]
  obtain⟨n5,hn5⟩:=eV ((pc all k).length);have Hn5:=zF hn5;rw[hn5]at hpl ⊢;have Hpl:=zF hpl;clear h1 h2 h5 hn5 hpl;gi_upto_region 7 with fail
  by_cases h64:n5<64
  · have t64:(n5:Int)<64:=by omega
    refine Par.wH 8 [0,1,0,4,12,28,60,127] [] (fun j f X=>match j with
     | 0=>f 0=.slice A5 n5 c5
     | 1=>f 1=.int .i64 (n5:Int)
     | 2=>f 2=.pointer (some ⟨b,0,none⟩)
     | 3=>f 3=.pointer (some ⟨b,0,none⟩)
     | 4=>f 4=.pointer (some ⟨b,0,none⟩)
     | 5=>f 5=.int .i64 3
     | 6=>f 6=.int .i64 64
     | 7=>f 7=.bool true
     | _=>True) (by kernel_rfl) [(37,0),(38,1),(39,2),(40,3),(41,4),(42,5),(43,6),(44,7)] (by kernel_rfl) (by kernel_rfl) ?_
    refine zt 1 7 [(39,2),(40,3),(41,4),(42,5),(43,6)] (fun f X hX hR K hK=>?_) ?_
    · simp only[yZ];refine⟨?_⟩;go_simp;exact qd hK (s:=by simp only[yZ])
    refine zt 2 6 [(37,0),(39,2),(40,3),(41,4),(42,5),(43,6)] (fun f X hX hR K hK=>?_) ?_
    · have e0:f 0=_:=hR.out 0 rfl;simp only[yZ,e0];refine⟨?_⟩;go_simp;exact qd hK (s:=by simp only[yZ,e0])
    refine zt 3 5 [(37,0),(38,1)] (fun f X hX hR K hK=>?_) ?_
    · have x0:=hX.cell c0;simp only[yZ];refine⟨?_⟩;go_simp;exact qd hK (s:=by simp only[yZ])
    refine zt 4 4 [(37,0),(38,1),(39,2)] (fun f X hX hR K hK=>?_) ?_
    · have e2:f 2=_:=hR.out 2 rfl;simp only[yZ,e2];refine⟨?_⟩;go_simp;exact qd hK (s:=by simp only[yZ,e2])
    refine zt 5 3 [(37,0),(38,1),(39,2),(40,3)] (fun f X hX hR K hK=>?_) ?_
    · have e3:f 3=_:=hR.out 3 rfl;simp only[yZ,e3];refine⟨?_⟩;go_simp;exact qd hK (s:=by simp only[yZ,e3])
    refine zt 6 2 [(37,0),(38,1),(39,2),(40,3),(41,4)] (fun f X hX hR K hK=>?_) ?_
    · have e4:f 4=_:=hR.out 4 rfl;have x0:=hX.cell ck;simp only[yZ,e4];refine⟨?_⟩;go_simp;exact qd hK (s:=by simp only[yZ,e4])
    refine zt 7 1 [(37,0),(38,1),(39,2),(40,3),(41,4),(42,5)] (fun f X hX hR K hK=>?_) ?_
    · have e5:f 5=_:=hR.out 5 rfl;simp only[yZ,e5];refine⟨?_⟩;go_simp;refine(dO _).mono ?_;rintro e w2 ⟨rfl,rfl⟩;exact hK.out _ _ _ (by simp only[yZ,e5]) (zX _) trivial (fun _ _=>rfl)
    refine zt 8 0 [(37,0),(38,1),(39,2),(40,3),(41,4),(42,5),(43,6)] (fun f X hX hR K hK=>?_) ?_
    · have e1:f 1=_:=hR.out 1 rfl;have e6:f 6=_:=hR.out 6 rfl;simp only[yZ,e1,e6];refine⟨?_⟩;go_simp;exact qd hK (s:=by simp only[yZ,e1,e6])
    refine yF ⟨fun f X hX hR hal hap=>?_⟩;have e0:f 0=_:=hR 0 (by decide);have e1:f 1=_:=hR 1 (by decide);have e2:f 2=_:=hR 2 (by decide);have e3:f 3=_:=hR 3 (by decide);have e4:f 4=_:=hR 4 (by decide);have e5:f 5=_:=hR 5 (by decide);have e6:f 6=_:=hR 6 (by decide);have e7:f 7=_:=hR 7 (by decide);simp only[yZ,e0,e1,e2,e3,e4,e5,e6,e7];clear hR hal hap e0 e1 e2 e3 e4 e5 e6 e7;refine zH ?_;refine⟨nofun,?_⟩;have HX:=zF hX;replace H1:=zF (H1.out.ext hX);replace H2:=zF (H2.out.trans (Fr.below hX (by have:=H2.out.size;omega)));replace H5:=zF (H5.out.same fun i _ cs hb=>hX.at_ hb);replace hx:=hX.at_ hx;have c0:=zQ hx 0;simp only[zR,zi]at c0;have cw:=H1.out.wait;have fw:=H1.out.free 9;have hj:=(jk b X).set 9 (.slice A5 n5 c5);have HB9:=zF (H1.out.setWait (.slice A5 n5 c5));have HF9:=zF (H2.out.trans (Fr.just hj (by have:=H2.out.size;omega)));have HO9:=zF (H5.out.same fun i hi cs hb=>hj.at_ (by omega) hb);have HK9:=zF ((jN.below (B:=W6.heap.size) (C:=W6.heap.size+2) (m:=0) hX (zG _)).trans (jN.setCell _ _ _ X (a:=⟨b,9,none⟩) (.inl (by show b<_;omega)) (.slice A5 n5 c5)));clear hX hj hx ck;gi_wp2;exact⟨HK9.out,rfl,k,A5,c5,rfl,by rw[Hn5.out];exact HB9.out,HO9.out,by rw[Hn5.out];exact h64,HF9.out⟩
  · obtain rfl:n5=64:=by have:=Hpl.out;omega
    have t64:¬((64:Nat):Int)<64:=by omega
    refine Par.wH 8 [0,1,0,4,12,28,60,127] [] (fun j f X=>match j with
     | 0=>f 0=.slice A5 64 c5
     | 1=>f 1=.int .i64 64
     | 2=>f 2=.pointer (some ⟨b,0,none⟩)
     | 3=>f 3=.pointer (some ⟨b,0,none⟩)
     | 4=>f 4=.pointer (some ⟨b,0,none⟩)
     | 5=>f 5=.int .i64 3
     | 6=>f 6=.int .i64 64
     | 7=>f 7=.bool false
     | _=>True) (by kernel_rfl) [(37,0),(38,1),(39,2),(40,3),(41,4),(42,5),(43,6),(44,7)] (by kernel_rfl) (by kernel_rfl) ?_
    refine zt 1 7 [(39,2),(40,3),(41,4),(42,5),(43,6)] (fun f X hX hR K hK=>?_) ?_
    · simp only[yZ];refine⟨?_⟩;go_simp;exact qd hK (s:=by simp only[yZ])
    refine zt 2 6 [(37,0),(39,2),(40,3),(41,4),(42,5),(43,6)] (fun f X hX hR K hK=>?_) ?_
    · have e0:f 0=_:=hR.out 0 rfl;simp only[yZ,e0];refine⟨?_⟩;go_simp;exact qd hK (s:=by simp only[yZ,e0])
    refine zt 3 5 [(37,0),(38,1)] (fun f X hX hR K hK=>?_) ?_
    · have x0:=hX.cell c0;simp only[yZ];refine⟨?_⟩;go_simp;exact qd hK (s:=by simp only[yZ])
    refine zt 4 4 [(37,0),(38,1),(39,2)] (fun f X hX hR K hK=>?_) ?_
    · have e2:f 2=_:=hR.out 2 rfl;simp only[yZ,e2];refine⟨?_⟩;go_simp;exact qd hK (s:=by simp only[yZ,e2])
    refine zt 5 3 [(37,0),(38,1),(39,2),(40,3)] (fun f X hX hR K hK=>?_) ?_
    · have e3:f 3=_:=hR.out 3 rfl;simp only[yZ,e3];refine⟨?_⟩;go_simp;exact qd hK (s:=by simp only[yZ,e3])
    refine zt 6 2 [(37,0),(38,1),(39,2),(40,3),(41,4)] (fun f X hX hR K hK=>?_) ?_
    · have e4:f 4=_:=hR.out 4 rfl;have x0:=hX.cell ck;simp only[yZ,e4];refine⟨?_⟩;go_simp;exact qd hK (s:=by simp only[yZ,e4])
    refine zt 7 1 [(37,0),(38,1),(39,2),(40,3),(41,4),(42,5)] (fun f X hX hR K hK=>?_) ?_
    · have e5:f 5=_:=hR.out 5 rfl;simp only[yZ,e5];refine⟨?_⟩;go_simp;refine(dO _).mono ?_;rintro e w2 ⟨rfl,rfl⟩;exact hK.out _ _ _ (by simp only[yZ,e5]) (zX _) trivial (fun _ _=>rfl)
    refine zt 8 0 [(37,0),(38,1),(39,2),(40,3),(41,4),(42,5),(43,6)] (fun f X hX hR K hK=>?_) ?_
    · have e1:f 1=_:=hR.out 1 rfl;have e6:f 6=_:=hR.out 6 rfl;simp only[yZ,e1,e6];refine⟨?_⟩;go_simp;exact qd hK (s:=by simp only[yZ,e1,e6])
    refine yF ⟨fun f X hX hR hal hap=>?_⟩;have e0:f 0=_:=hR 0 (by decide);have e1:f 1=_:=hR 1 (by decide);have e2:f 2=_:=hR 2 (by decide);have e3:f 3=_:=hR 3 (by decide);have e4:f 4=_:=hR 4 (by decide);have e5:f 5=_:=hR 5 (by decide);have e6:f 6=_:=hR 6 (by decide);have e7:f 7=_:=hR 7 (by decide);simp only[yZ,e0,e1,e2,e3,e4,e5,e6,e7];clear hR hal hap e0 e1 e2 e3 e4 e5 e6 e7;refine zH ?_;refine⟨nofun,?_⟩;have HX:=zF hX;replace H1:=zF (H1.out.ext hX);replace H2:=zF (H2.out.trans (Fr.below hX (by have:=H2.out.size;omega)));replace H5:=zF (H5.out.same fun i _ cs hb=>hX.at_ hb);replace hx:=hX.at_ hx;have c0:=zQ hx 0;simp only[zR,zi]at c0;clear hX hx ck;have HKX:=zF (HK6.out.fr HB6.out H2.out (by have:=Hg0.out;omega));have htk:=zF (take3 b (vM uX M (q+k)) (.slice none 0 0) M.length (In W6.heap.size X.heap.size) A5 c5 (pc all k) X H1.out HKX.out (H5.out.rb (by rw[Hn5.out];omega)) Hn5.out (fun i hi=>hi.2));gi_wp2;refine⟨trivial,(callsIn_wide.2 htk.out).mono ?_⟩;rintro e w9 ⟨rfl,h9,hj9⟩;rw[←oc uX HAQ.out k]at h9;have H9:=zF h9;have HF9:=zF (H2.out.trans (Fr.just hj9 (by have:=H2.out.size;omega)));have HK9:=zF (show jN W6.heap.size (W6.heap.size+2) 0 Xb w9 from(jN.below HX.out (zG _)).trans (pN hj9 (by omega) H1.out.1));have HB9:=zF (show rB D (D+1) Xb w9 from⟨(hj9.block D (by have:=HX.out.bsize;omega) (by omega)).trans (HX.out.block D (by omega)),(hj9.block (D+1) (by have:=HX.out.bsize;omega) (by omega)).trans (HX.out.block (D+1) (by omega))⟩);clear h9 hj9;gi_wp2;exact⟨HK9.out,HB9.out,H9.out,HF9.out,by have:=Hpl.out;omega⟩
 case done =>
  rintro D2 X hD2 ⟨h1,h2,h0⟩ hK;have hFY:=h2.trans (y:=X) (z:=X.putObj D2 (.deferred none)) ⟨rfl,rfl,rfl,by simp,fun i hi _=>qJ (by omega)⟩;have hBY:HB (X.putObj D2 (.deferred none)) b (vM uX M (q+(all.length+63)/64)).list (.slice none 0 0) M.length:=⟨(qJ (by omega)).trans h1.1,h1.2⟩
  have hML:=oT HAQ.out (by rw[←HM.out,zz];have:=Hq.out;omega);rw[show q+(all.length+63)/64=M.length/64 by omega]at hBY;have hr:rem M=[]:=qQ (by rw[vN];omega);have hS:HS (X.putObj D2 (.deferred none)) b (m++p) w.heap.size:=by
   rw[HM.out];refine⟨none,0,by rw[hr];exact hBY,⟨⟨by simp[bys],.inl ⟨by rw[hr];rfl,by rw[hr];rfl⟩⟩,by rw[hr];simp⟩,fun _=>⟨rfl,rfl⟩,by rw[←HM.out];exact Hll.out⟩
  have hF9:=HF6.out.trans (hFY.mono (by have:=Hg0.out;omega));have HS9:=zF hS;have HF9:=zF hF9;clear hS hF9 hFY hBY h1 h2 hML hr;gi_wp2;exact⟨by simp,.inl ⟨_,_,rfl,run_takeDeferred hK,_,results_none rfl _ _ _,rfl,HS9.out,HF9.out⟩⟩
 case stop =>
  rintro D2 cc k X hD2 hk0 hk ⟨rfl,k0,A5,c5,rfl,h1,h2,h3,h4⟩ hK;have hFY:=h4.trans (y:=X) (z:=X.putObj D2 (.deferred none)) ⟨rfl,rfl,rfl,by simp,fun i hi _=>qJ (by omega)⟩;have hBY:HB (X.putObj D2 (.deferred none)) b (vM uX M (q+k0)).list (.slice A5 (pc all k0).length c5) M.length:=⟨(qJ (by omega)).trans h1.1,h1.2⟩
  have hML:=oT HAQ.out (by rw[←HM.out,zz];have:=Hq.out;omega);have hpl:(pc all k0).length=min 64 (all.length-64*k0):=by rw[pc,zo,qn]
  have hqk:M.length/64=q+k0:=by omega
  have hr:rem M=pc all k0:=by
   rw[rem,hqk,pc,←HAQ.out,List.drop_drop,show 64*(q+k0)=64*q+64*k0 by omega,zx (by rw[qn];omega)]
  have hOY:OW (X.putObj D2 (.deferred none)) W6.heap.size A5 c5 (pc all k0):=h2.same fun i _ cs hb=>(qJ (fun e=>by subst e;rw[hK]at hb;cases hb)).trans hb;have hS:HS (X.putObj D2 (.deferred none)) b (m++p) w.heap.size:=by
   rw[HM.out];refine⟨A5,c5,by rw[hr,hqk];exact hBY,by rw[hr];exact hOY.mono (by have:=Hg0.out;omega),fun e=>?_,by rw[←HM.out];exact Hll.out⟩;rw[hr]at e;rw[e]at hpl;simp at hpl;omega
  have hF9:=HF6.out.trans (hFY.mono (by have:=Hg0.out;omega));have HS9:=zF hS;have HF9:=zF hF9;clear hS hF9 hFY hBY h1 h2 h3 h4 hML hr hpl hqk hOY;gi_wp2;exact⟨by simp,.inl ⟨_,_,rfl,run_takeDeferred hK,_,results_none rfl _ _ _,rfl,HS9.out,HF9.out⟩⟩
end Go.Proofs.YtaemogcomplhiaaGreatDoor
namespace Go.Proofs.YtaemogcomplhiaaGreatDoor
theorem vq:type_of% @Fr.below:=@Fr.below
end Go.Proofs.YtaemogcomplhiaaGreatDoor
namespace Go.Proofs.YtaemogcomplhiaaGreatDoor
open Go.RowKit
open Sha
theorem zAV (w:World)(cs:Array Value)(bs:List Nat)(h:cs.toList=bys bs)(hb:∀ b∈bs,b<256)(hl:bs.length≤1000):RB (w.alloc (.cells cs 5)) (fun b=>b=w.heap.size) (some ⟨w.heap.size,0,none⟩) bs.length bs:=by
 have hs:cs.size=bs.length*1:=by rw[←Array.length_toList,h];simp[bys]
 have:=RS.fresh (w:=w) (P:=fun b=>b=w.heap.size) cs 5 1 bs.length hs (by unfold maxLen;omega) rfl;rw[h]at this;exact⟨this,hb,by omega⟩
theorem zCi (n:Nat):bys (byt n)=[.int .u8 ((n:Int)/16777216%256),.int .u8 ((n:Int)/65536%256),.int .u8 ((n:Int)/256%256),.int .u8 ((n:Int)%256)]:=by
 simp[bys,byt]
theorem RS.cell_ {w:World}{P:Nat→Prop}{size n c:Nat}{ad:Addr}{cs:List Value}(h:RS w P size (some ad) n c cs){j:Nat}{v:Value}(hv:cs[j]?=some v):w.cell? (ad.add j)=some v:=by
 obtain⟨_,_,h3,h4⟩:=h;have hn:0<n:=by
  rcases zT n with h0|h0
  · rw[h0,Nat.zero_mul]at h3;rw[qQ h3]at hv;cases hv
  · exact h0
 obtain⟨a,e,_,hc⟩:=h4 hn;injection e with e
 subst e;exact hc j v hv
def vf (n:Nat):List Nat:=[n/72057594037927936%256,n/281474976710656%256,n/1099511627776%256,n/4294967296%256,n/16777216%256,n/65536%256,n/256%256,n%256]
theorem zCg (n:Nat):vf n=byt (n/4294967296)++byt (n%4294967296):=by
 have e1:n/72057594037927936%256=n/4294967296/16777216%256:=by omega
 have e2:n/281474976710656%256=n/4294967296/65536%256:=by omega
 have e3:n/1099511627776%256=n/4294967296/256%256:=by omega
 have e5:n/16777216%256=n%4294967296/16777216%256:=by omega
 have e6:n/65536%256=n%4294967296/65536%256:=by omega
 have e7:n/256%256=n%4294967296/256%256:=by omega
 have e8:n%256=n%4294967296%256:=by omega
 rw[vf,e1,e2,e3,e5,e6,e7,e8];rfl
theorem sM (n:Nat):∀ x∈vf n,x<256:=by
 intro x hx;simp only[vf,List.mem_cons,List.not_mem_nil,or_false]at hx;omega
theorem zBR (n:Nat):bys (vf n)=[.int .u8 ((n:Int)/72057594037927936%256),.int .u8 ((n:Int)/281474976710656%256),.int .u8 ((n:Int)/1099511627776%256),.int .u8 ((n:Int)/4294967296%256),.int .u8 ((n:Int)/16777216%256),.int .u8 ((n:Int)/65536%256),.int .u8 ((n:Int)/256%256),.int .u8 ((n:Int)%256)]:=by
 simp[bys,vf]
theorem pq (x:W){base:Nat}{A:Option Addr}{c:Nat}{bs:List Nat}(w:World)(h:OW w base A c bs)(hbase:base≤w.heap.size)(hl:bs.length≤1000) :
 Calls Tryz.prog 148 #[.slice A bs.length c,.int .u32 (x.toNat:Int)] w fun e w'=>∃ A' c',e=.returned (.slice A' (bs++byt x.toNat).length c')∧OW w' base A' c' (bs++byt x.toNat)∧Below base w w':=by
 obtain⟨n,hn⟩:=eV x.toNat
 rw[hn]
 have hE:=zO w (.cells #[.int .u8 ((n:Int)/16777216%256),.int .u8 ((n:Int)/65536%256),.int .u8 ((n:Int)/256%256),.int .u8 ((n:Int)%256)] 5)
 have hr:=zAV w #[.int .u8 ((n:Int)/16777216%256),.int .u8 ((n:Int)/65536%256),.int .u8 ((n:Int)/256%256),.int .u8 ((n:Int)%256)] (byt n) (by rw[zCi]) (zBQ n) (by simp[byt])
 have ho:=h.same (w':=w.alloc (.cells #[.int .u8 ((n:Int)/16777216%256),.int .u8 ((n:Int)/65536%256),.int .u8 ((n:Int)/256%256),.int .u8 ((n:Int)%256)] 5)) fun k _ cs hb=>hE.at_ hb
 have hb:base≤(w.alloc (.cells #[.int .u8 ((n:Int)/16777216%256),.int .u8 ((n:Int)/65536%256),.int .u8 ((n:Int)/256%256),.int .u8 ((n:Int)%256)] 5)).heap.size:=by simp;omega
 have hll:bs.length+(byt n).length≤100000000:=by rw[uh];omega
 have Hn:=zF hn
 rw[uh]at hr
 clear hn
 go_enter Tryz.func148,Tryz.ntmps148
 go_wp2_with (at_builtin;refine zCl rfl (.tmp 5) (.tmp 17) rfl base rfl ho (by rw[uh];rfl) hr hll hb ?_;intro A' c' w1 hw1 hb1)
 go_ret
 exact⟨A',c',by rw[zz];rfl,hw1,kG (hE.mono hbase) hb1⟩
theorem po (n:Nat)(w:World) :
 Calls Tryz.prog 149 #[.slice none 0 0,.int .u64 (n:Int)] w fun e w'=>∃ A' c',e=.returned (.slice A' 8 c')∧OW w' w.heap.size A' c' (vf n)∧Ext w w':=by
 have hE:=zO w (.cells (bys (vf n)).toArray 5)
 have hr:=zAV w (bys (vf n)).toArray (vf n) rfl (sM n) (by simp[vf])
 have ho:OW (w.alloc (.cells (bys (vf n)).toArray 5)) w.heap.size none 0 []:=⟨⟨by simp[bys],.inl ⟨rfl,rfl⟩⟩,by simp⟩
 have hb:w.heap.size≤(w.alloc (.cells (bys (vf n)).toArray 5)).heap.size:=by simp
 have hll:([]:List Nat).length+(vf n).length≤100000000:=by simp[vf]
 rw[zBR]at hE hr ho hb
 go_enter Tryz.func149,Tryz.ntmps149
 go_wp2_with (at_builtin;refine zCl rfl (.tmp 5) (.tmp 29) rfl w.heap.size rfl ho rfl hr hll hb ?_;intro A' c' w1 hw1 hb1)
 go_ret
 exact⟨A',c',rfl,hw1,kG hE hb1⟩
theorem zB2 (n g:Nat)(w:World)(hg:vQ w g (List.replicate 8 0)) :
 Calls Tryz.prog 147 #[.slice (some ⟨g,0,none⟩) 8 8,.int .u64 (n:Int)] w fun e w'=>e=.returned (.tuple #[])∧vQ w' g (vf n)∧jQ g w w':=by
 go_enter Tryz.func147,Tryz.ntmps147
 refine zh (by kernel_rfl) 4 [0,1,0,4,15] [] (fun j f X=>match j with
  | 0=>f 0=.slice (some ⟨g,0,none⟩) 8 8
  | 1=>f 1=.slice (some ⟨g,0,none⟩) 8 8
  | 2=>f 2=.int .u64 (n:Int)
  | 3=>∃ A c,f 3=.slice A 8 c∧OW X w.heap.size A c (vf n)
  | _=>True) (by kernel_rfl) [(4,0),(5,1),(6,2),(7,3)] (by kernel_rfl) ?_
 refine zJ 1 3 ?_
 refine zt 2 2 [(4,0),(6,2),(7,3)] (fun f X hX hR K hK=>?_) ?_
 · have e0:f 0=_:=hR.out 0 rfl;simp only[yZ,e0];refine⟨?_⟩;go_simp;exact qd hK (s:=by simp only[yZ,e0])
 refine zJ 3 1 ?_
 refine qI 4 0 (fun f=>#[Value.slice none 0 0,f 2]) (F':=149) (fun f X hX hR=>?_) ?_
 · have e2:f 2=_:=hR.out 2 rfl;simp only[e2];refine(po n X).mono ?_;rintro e w2 ⟨A2,c2,rfl,ho,hB⟩;exact⟨_,rfl,hB,fun Y hY=>⟨_,_,rfl,(ho.mono hX.bsize).same fun k _ cs hb=>hY.at_ hb⟩⟩
 refine yF ⟨fun f X hX hR hal hap=>?_⟩
 have e1:f 1=_:=hR 1 (by decide)
 obtain⟨A3,c3,(e3:f 3=_),h3⟩:=hR 3 (by decide)
 simp only[yZ,e1,e3]
 clear hR hal hap e1 e3
 obtain⟨ad,rfl⟩:∃ ad,A3=some ad:=by obtain⟨ad,e,_⟩:=(h3.rb (by simp[vf])).dg (i:=0) (by simp[vf]);exact⟨ad,e⟩
 have hcp:=run_copy_row (P:=Tryz.prog) X 22 22 3 5 g 0 8 8 ad 8 c3 (bys (List.replicate 8 0)).toArray 5 (bys (vf n)) Tryz.underlying22 (by kernel_rfl) (hX.at_ hg) rfl (fun j v hv=>(h3.rb (by simp[vf])).1.cell_ hv) (by simp[bys,vf]) (by intro v hv;obtain⟨b,_,rfl⟩:=List.mem_map.1 hv;rfl)
 have hY1:=Go.setRow_heap X g _ (bys (vf n)).toArray 5 _ (hX.at_ hg)
 have hY2:jQ g X (X.setRow g (bys (vf n)).toArray):=⟨rfl,rfl,rfl,by simp[World.setRow],fun k _ hk=>Go.setRow_other X g k _ hk⟩
 rw[show((bys (List.replicate 8 0)).toArray.toList.take 0++bys (vf n)++(bys (List.replicate 8 0)).toArray.toList.drop (0+(bys (vf n)).length))=bys (vf n) by simp[bys,vf]]at hcp
 generalize X.setRow g (bys (vf n)).toArray=Y1 at *
 refine zP (fun K hK=>⟨zU (by kernel_rfl) ?_⟩)
 go_simp
 refine hK.out _ _ ?_
 refine zH ?_
 go_wp2
 go_end0
 exact⟨rfl,hY1,(jQ.of_below hX (zG _)).trans hY2⟩
theorem dJ {b F:Nat}{m:List Nat}(w:World)(hs:HS w b m F) :
 Calls Tryz.prog 138 #[.pointer (some ⟨b,0,none⟩)] w fun e w'=>∃ b',e=.returned (.pointer (some ⟨b',0,none⟩))∧w.heap.size≤b'∧HS w' b' m (b'+1)∧Ext w w':=by
 obtain⟨A,c,hB,hO,hN,hm⟩:=hs
 obtain⟨s,hst⟩:=eV ((vM uX m (m.length/64)).list)
 rw[hst]at hB
 have zb:=hB.lt
 have hcs:=hB.1
 have hsz:(vl s (.slice A (rem m).length c) m.length).length=11:=by simp[vl,hB.2]
 have hi:(Tryz.prog.info? 192).map (·.size)=some (vl s (.slice A (rem m).length c) m.length).toArray.size:=by rw[qX,hsz];kernel_rfl
 have h1c:(vl s (.slice A (rem m).length c) m.length).toArray.all (·.oneCell')=true:=by simp[vl,Value.oneCell']
 have HBo:=zF hB
 have HO:=zF hO
 have HN:=zF hN
 have Hst:=zF hst
 have HM:=zF hm
 have Hsz:=zF hsz
 obtain⟨cs,hce⟩:=eV ((vl s (.slice A (rem m).length c) m.length).toArray)
 rw[hce]at hcs hi h1c
 have Hce:=zF hce
 have hcz:cs.size=11:=by rw[←hce,qX,hsz]
 clear hB hO hN hst hm hsz hce
 go_enter Tryz.func138,Tryz.ntmps138
 go_upto_region 3 with fail
 refine zN 4 [0,1,3,0,15] [3] (fun j f X=>match j with
  | 0=>f 0=.pointer (some ⟨b,0,none⟩)
  | 1=>f 1=.pointer (some ⟨b,0,none⟩)
  | 2=>f 2=.agg cs
  | 3=>∃ b,f 3=.pointer (some ⟨b,0,none⟩)∧w.heap.size≤b∧X.heap[b]?=some (.cells #[.int .i64 0,.int .u64 0,.int .u64 0,.int .u64 0,.int .u64 0,.int .u64 0,.int .u64 0,.int .u64 0,.int .u64 0,.slice none 0 0,.int .u64 0] 192 (0,0))
  | _=>True) (by kernel_rfl) [(6,0),(7,1),(8,2),(3,3)] (by kernel_rfl) ?_
 refine zJ 1 3 ?_
 refine qN 2 2 0 ?_
 refine lV1 3 1 1 hcs hi ?_
 refine kK 4 0 ?_
 refine yF ⟨fun f X hX hR hal hap=>?_⟩
 have e2:f 2=_:=hR 2 (by decide)
 obtain⟨b3,(e3:f 3=_),l3,h3⟩:=hR 3 (by decide)
 simp only[yZ,e2,e3]
 clear hR hal hap e2 e3
 refine zP (fun K hK=>⟨zU (by kernel_rfl) (jJ (cs':=cs) (t:=192) 192 (.tmp 3) (.tmp 8) rfl rfl rfl rfl h3 hi (by rw[hcz];rfl) h1c (fun Y hY1 hY2 hY3=>hK.out _ _ ?_))⟩)
 refine zH ?_
 have hEY:=hY2.ext hX l3
 have hB3:HB Y b3 s (.slice A (rem m).length c) m.length:=⟨by rw[hY1,←Hce.out],HBo.out.2⟩
 have hBY:=HBo.out.ext hEY
 have hOY:OW Y F A c (rem m):=HO.out.same fun k _ cs hb=>hEY.at_ hb
 have cw:=hBY.wait
 have z3:=hB3.lt
 have hcl:=zF (zBP (In F Y.heap.size) A c (rem m) Y (hOY.rb (by rw[vN];omega)) (fun k hk=>hk.2) HN.out (by rw[vN];omega))
 have HE:=zF hEY
 have HB3:=zF hB3
 clear hX hY1 hY2 hY3 hEY hB3 hBY hOY h3
 go_upto_region 4 with fail
 go_wp2_with fail
 refine hcl.out.mono ?_
 rintro e w4 ⟨A4,c4,rfl,ho4,hn4,hE4⟩
 have hB4:=HB3.out.ext hE4
 have c4':=hB4.wait
 have f4:=hB4.free 9
 have hj:=(jk b3 w4).set 9 (.slice A4 (rem m).length c4)
 have HB5:=zF (hB4.setWait (.slice A4 (rem m).length c4))
 have HO5:=zF (show OW (w4.setCell ⟨b3,9,none⟩ (.slice A4 (rem m).length c4)) (b3+1) A4 c4 (rem m)from(ho4.mono (by omega)).same fun k hk cs hb=>hj.at_ (by omega) hb)
 have HE5:=zF (hj.ext (HE.out.trans hE4) l3)
 have HN4:=zF hn4
 clear hj hB4 ho4 hn4 hE4
 go_wp2_with fail
 go_ret
 exact⟨b3,rfl,l3,⟨A4,c4,by rw[Hst.out];exact HB5.out,HO5.out,HN4.out,HM.out⟩,HE5.out⟩
end Go.Proofs.YtaemogcomplhiaaGreatDoor
namespace Go.Proofs.YtaemogcomplhiaaGreatDoor
open Go.RowKit
open Sha
attribute [local go_sem] Oper.semAt_some
theorem tj {op:Oper}{a:Act}{X:World}{K:Act→World→Prop}{Q:Exit→Act→World→Prop}(t:TypeId)(x:Operand)(ho:op.op=.load t x){p:Addr}{v:Value}(hx:a.eval x=.pointer (some p))(hr:(Instr.loadAt t (.pointer (some p))).run Tryz.prog X=.ok v X)(hK:K (a.put op.dst v) X):op.wp Tryz.prog a X K Q:=by
 unfold Oper.wp execOp;simp only[ho,hx,vC,hr,qw];exact hK
theorem Fr.ext' {b F:Nat}{w x y:World}(h:Fr b F x y)(hE:Ext w x)(hb:w.heap.size≤b)(hF:w.heap.size≤F):Ext w y :=
 ⟨h.os.trans hE.os,h.tape.trans hE.tape,h.output.trans hE.output,zK hE.bsize h.size,fun i hi=>(h.block i (by omega) (by omega)).trans (hE.block i hi)⟩
theorem sZ (n:Nat):bc n=(128::List.replicate ((119-n%64)%64) 0)++vf (n*8):=by
 rw[bc,zCg];simp
theorem zDa {w:World}{g z zc v:Nat}(h:w.heap[g]?=some (.cells ((bys (List.replicate v 0)).toArray.setIfInBounds 0 (.int .u8 128)) 5 (0,0)))(hz:z=zc+1)(hv:z≤v)(hv':v≤1000) :
 OW w g (some ⟨g,0,none⟩) v (128::List.replicate zc 0)∧(128::List.replicate zc 0).length=z:=by
 have hl:(128::List.replicate zc 0).length=z:=by simp;omega
 refine⟨⟨⟨by simp[bys],.inr ⟨g,v,_,rfl,zG _,h,by omega,by unfold maxLen;omega,by simp[bys],?_⟩⟩,?_⟩,hl⟩
 · obtain⟨u,rfl⟩:∃ u,v=u+1:=⟨v-1,by omega⟩
   rw[hl,hz];simp[bys,List.replicate_succ,List.take_replicate];omega
 · intro b hb;rcases List.mem_cons.1 hb with rfl|hb
   · omega
   · rw[(List.mem_replicate.1 hb).2];omega
def dK (l:List W) (k:Nat):List Nat:=(l.take k).flatMap fun x=>byt x.toNat
theorem aT {l:List W}{k:Nat}(h:k<l.length):dK l (k+1)=dK l k++byt (wd l k).toNat:=by
 have e:l[k]?=some (wd l k):=by simp[wd,h]
 rw[dK,List.take_add_one,e,List.flatMap_append];simp[dK]
theorem bP {l:List W} : ∀ {k:Nat},k≤l.length→(dK l k).length=4*k
 | 0,_=>by simp[dK]
 | k+1,h=>by rw[aT (by omega),zz,bP (by omega),uh];omega
theorem rH {b F:Nat}{m:List Nat}(w:World)(hs:HS w b m F)(hk:KW w)(hm:m.length≤400000)(_hmb:∀ x∈m,x<256) :
 Calls Tryz.prog 139 #[.pointer (some ⟨b,0,none⟩)] w fun e w'=>∃ A c,e=.returned (.slice A 32 c)∧OW w' w.heap.size A c (sha m)∧Ext w w':=by
 obtain⟨r,hr⟩:=eV (m.length%64)
 have hr64:r<64:=by omega
 have hcopy:=zF (fun X (hX:Ext w X)=>dJ X (hs.ext hX))
 obtain⟨A0,c0,hB0,_,_,_⟩:=hs
 have zk:=hk.lt
 have ck:=hB0.kind
 have cn:=hB0.num
 have HK:=zF hk
 have HR:=zF hr
 have Hm:=zF hm
 clear hB0 hk hr hm
 go_enter Tryz.func139,Tryz.ntmps139
 go_upto_region 3 with fail
 refine zh (by kernel_rfl) 9 [0,1,0,4,12,28,63,127,255] [] (fun j f X=>match j with
  | 0=>f 0=.pointer (some ⟨b,0,none⟩)
  | 1=>∃ b',f 1=.pointer (some ⟨b',0,none⟩)∧w.heap.size≤b'∧HS X b' m (b'+1)
  | 2=>f 2=.pointer (some ⟨b,0,none⟩)
  | 3=>f 3=.pointer (some ⟨b,0,none⟩)
  | 4=>f 4=.pointer (some ⟨b,0,none⟩)
  | 5=>f 5=.int .i64 3
  | 6=>f 6=.int .i64 64
  | 7=>∃ b',f 7=.pointer (some ⟨b',0,none⟩)∧w.heap.size≤b'∧HS X b' m (b'+1)
  | 8=>f 8=.int .i64 64
  | _=>True) (by kernel_rfl) [(13,0),(14,1),(15,2),(16,3),(17,4),(18,5),(19,6),(3,7),(4,8)] (by kernel_rfl) ?_
 refine zJ 1 8 ?_
 refine qI 2 7 (fun f=>#[f 0]) (F':=138) (fun f X hX hR=>?_) ?_
 · have e0:f 0=_:=hR.out 0 rfl;simp only[e0];refine(hcopy.out X hX).mono ?_;rintro e w2 ⟨b',rfl,hl,hs,hB⟩;exact⟨_,rfl,hB,fun Y hY=>⟨b',rfl,zK hX.bsize hl,hs.ext hY⟩⟩
 refine zJ 3 6 ?_
 refine qN 4 5 2 ?_
 refine qN 5 4 3 ?_
 refine qK 6 3 4 ck ?_
 refine qI 7 2 (fun f=>#[f 5]) (F':=134) (fun f X hX hR=>?_) ?_
 · have e5:f 5=_:=hR.out 5 rfl;simp only[e5];refine(dO _).mono ?_;rintro e w2 ⟨rfl,rfl⟩;exact⟨_,rfl,(zX _),fun _ _=>rfl⟩
 refine zt 8 1 [(13,0),(14,1),(15,2),(16,3),(17,4),(18,5),(19,6)] (fun f X hX hR K hK=>?_) ?_
 · obtain⟨b1,(e1:f 1=_),l1,h1⟩:=hR.out 1 rfl;simp only[yZ,e1];refine⟨?_⟩;go_simp;exact hK.out _ _ _ (by simp only[yZ,e1]) (zX _) trivial (fun Y hY=>⟨b1,rfl,l1,h1.ext hY⟩)
 refine qN 9 0 6 ?_
 refine yF ⟨fun f X hX hR hal hap=>?_⟩
 obtain⟨b1,(e1:f 1=_),l1,h1⟩:=hR 1 (by decide)
 obtain⟨b7,(e7:f 7=_),l7,h7⟩:=hR 7 (by decide)
 have e8:f 8=_:=hR 8 (by decide)
 simp only[yZ,e1,e7,e8]
 clear hR hal hap e1 e7 e8
 refine zH ?_
 obtain⟨A,c,hB,hO,hN,hm5⟩:=id h7
 have HS7:=zF h7
 have HE:=zF hX
 have hrl:=(vN m).trans HR.out
 have cw:=hB.wait
 rw[hrl]at cw
 have zb7:=hB.lt
 clear hB hO hN hm5 h7 h1 l1 hX hrl hcopy
 rename World=>wa
 obtain⟨t,ht⟩:=eV ((r+9)%64)
 obtain⟨v,hv⟩:=eV (65-t)
 obtain⟨r1,h1⟩:=eV (r+1)
 obtain⟨r9,h9⟩:=eV (r+9)
 obtain⟨u,hu⟩:=eV (64-t)
 have e1:IntKind.i64.wrap ((r:Int)+1)=(r1:Int):=by rw[jW _ (by omega)];omega
 have e2:IntKind.i64.wrap ((r1:Int)+8)=(r9:Int):=by rw[jW _ (by omega)];omega
 have e3:(r9:Int).tmod 64=(t:Int):=by rw[Int.tmod_eq_emod_of_nonneg (by omega)];omega
 have e4:IntKind.i64.wrap (64-(t:Int))=(u:Int):=by rw[jW _ (by omega)];omega
 have e5:IntKind.i64.wrap ((u:Int)+1)=(v:Int):=by rw[jW _ (by omega)];omega
 have v0:(0:Int)≤(v:Int):=by omega
 have v1:(v:Int)≤65:=by omega
 have hmk:=jD (P:=Tryz.prog) 22 5 (.int .u8 0) 1 Tryz.underlying22 gn rfl .i64 .i64 v (by omega) (by omega)
 have hmd:=vQ.made wa v
 have hEm:=zO wa (.cells (madeCells #[.int .u8 0] v) 5)
 obtain⟨g,hg⟩:=eV wa.heap.size
 have Hg:=zF hg
 have HT:=zF ht
 have Hv:=zF hv
 have Hu:=zF hu
 have H1:=zF h1
 have H9:=zF h9
 clear ht hv h1 h9 hu
 go_upto_region 6 with fail
 have HEm:=zF hEm
 clear hmk hEm
 rw[hg]at hmd
 generalize wa.alloc (.cells (madeCells #[.int .u8 0] v) 5)=wb at *
 have cw:=HEm.out.cell cw
 obtain⟨z,hz⟩:=eV ((119-r)%64+1)
 have Hz:=zF hz
 clear hz hg
 go_upto_if 46 with fail
 go_cut [6]from 47 (fun s6 wx=>s6=.slice (some ⟨g,0,none⟩) z v∧wb=wx)
 case first =>
  have hT:=HT.out;have hv:=Hv.out;have hz:=Hz.out;by_cases ht0:t=0
  · have z1:z=1:=by omega
    have v65:v=65:=by omega
    subst z1 v65 ht0;clear hT hv hz;go_wp2_with fail;go_meet;case rel=>exact⟨rfl,rfl⟩
  · have z1:z=v:=by omega
    subst z1;have t0:¬(t:Int)=0:=by omega
    clear hT hv hz;go_wp2_with fail;go_meet;case rel=>exact⟨rfl,rfl⟩
 case rest =>
  obtain⟨rfl,rfl⟩:=hcut;clear e1 e2 e3 e4 e5 cw;have hzv:z≤v:=by have:=HT.out;have:=Hv.out;have:=Hz.out;omega
  have hz0:(0:Int)<(z:Int):=by have:=Hz.out;omega
  have cg:=hmd.cell (i:=0) (by simp;omega);have fg:=hmd.free 0;have hset:=jM hmd 0 (.int .u8 128);have hjg:=(jk g wb).set 0 (.int .u8 128);obtain⟨zc,hzc⟩:=eV ((119-m.length%64)%64);obtain⟨hop,hpl⟩:=zDa (z:=z) (zc:=zc) hset (by rw[←hzc,HR.out];exact Hz.out.symm) hzv (by omega);have HJg:=zF hjg;have HOP:=zF hop;have Hpl:=zF hpl;have Hzc:=zF hzc;clear hset hjg hop hpl hzc hmd;go_upto_region 9 with fail;clear cg fg;generalize wb.setCell ⟨g,0,none⟩ (.int .u8 128)=wq at *;have hmk8:=jD (P:=Tryz.prog) 22 5 (.int .u8 0) 1 Tryz.underlying22 gn rfl .i64 .i64 8 (by omega) (by omega);have hb8:=vQ.made wq 8;have HE8:=zF (zO wq (.cells (madeCells #[.int .u8 0] 8) 5));simp only[qW]at hmk8;go_upto_region 10 with fail;clear hmk8;generalize wq.alloc (.cells (madeCells #[.int .u8 0] 8) 5)=we at *;obtain⟨g8,hg8⟩:=eV wq.heap.size;have Hg8:=zF hg8;rw[hg8]at hb8 ⊢;have hEd:Ext w wq:=HJg.out.ext (HE.out.trans HEm.out) (by have:=Hg.out;have:=HE.out.bsize;omega);have HEe:=zF (hEd.trans HE8.out);have cn':=HEe.out.cell cn;obtain⟨nn,hnn⟩:=eV (m.length*8);have e8:(m.length:Int)*8%18446744073709551616=(nn:Int):=by have:=Hm.out;omega
  have Hnn:=zF hnn;clear hnn hEd
  refine zh (by kernel_rfl) 9 [0,0,2,7,0,16,48,112,240,511] [] (fun j f X=>match j with
   | 0=>f 0=.slice (some ⟨g8,0,none⟩) 8 8
   | 1=>f 1=.int .i64 8
   | 2=>f 2=.int .i64 0
   | 3=>f 3=.slice (some ⟨g8,0,none⟩) 8 8
   | 4=>f 4=.pointer (some ⟨b,0,none⟩)
   | 5=>f 5=.pointer (some ⟨b,0,none⟩)
   | 6=>f 6=.pointer (some ⟨b,10,none⟩)
   | 7=>f 7=.int .u64 (m.length:Int)
   | 8=>f 8=.int .u64 (nn:Int)
   | _=>True) (by kernel_rfl) [(53,0),(54,1),(55,2),(56,3),(57,4),(58,5),(59,6),(60,7),(61,8)] (by kernel_rfl) ?_
  refine zJ 1 8 ?_;refine zJ 2 7 ?_;refine qN 3 6 1 ?_;refine zt 4 5 [(53,0),(54,1),(55,2),(57,4),(58,5),(59,6),(60,7),(61,8)] (fun f X hX hR K hK=>?_) ?_
  · have e0:f 0=_:=hR.out 0 rfl;have e2:f 2=_:=hR.out 2 rfl;simp only[yZ,e0,e2];refine⟨?_⟩;go_simp;exact qd hK (s:=by simp only[yZ,e0,e2])
  refine zJ 5 4 ?_;refine qN 6 3 4 ?_;refine qN 7 2 5 ?_;refine qK 8 1 6 cn' ?_;refine qN 9 0 7 (hR:=fun _ _ h=>h.trans (congrArg (Value.int .u64) (show IntKind.u64.wrap ((m.length:Int)*2^3)=(nn:Int) by rw[wi];exact e8))) ?_;refine yF ⟨fun f X hX hR hal hap=>?_⟩;have e3:f 3=_:=hR 3 (by decide);have e8:f 8=_:=hR 8 (by decide);simp only[yZ,e3,e8];clear hR hal hap e3 e8;replace hb8:=hX.at_ hb8;refine zP (fun K hK=>⟨zU (by kernel_rfl) ?_⟩);go_simp;refine(zB2 nn g8 X hb8).mono ?_;rintro e wf ⟨rfl,hb9,hj9⟩;refine hK.out _ _ ?_;refine zH ?_;have HB9:=zF hb9;have HJ9:=zF hj9;have HX9:=zF hX;clear hb8 hb9 hj9 hX e8 cn';go_upto_region 13 with fail;have hgd:g<wq.heap.size:=by have:=HOP.out.own rfl;obtain⟨_,cs,hc⟩:=this;exact qr hc
  have hEwd:Ext wa wq:=HJg.out.ext HEm.out (by have:=Hg.out;omega);have hEdf:Ext wq wf:=HJ9.out.ext (HE8.out.trans HX9.out) (by have:=Hg8.out;omega);have HEA:=zF (hEwd.trans hEdf);have hopf:OW wf g (some ⟨g,0,none⟩) v (128::List.replicate zc 0):=HOP.out.same fun k _ cs hb=>hEdf.at_ hb;have hrf:RB wf (fun k=>k=g8) (some ⟨g8,0,none⟩) 8 (vf nn):=HB9.out.rb rfl (sM nn) (by simp[vf]);have hgs:g≤wf.heap.size:=by have:=hEdf.bsize;omega
  have hlen:(128::List.replicate zc 0).length+(vf nn).length≤100000000:=by rw[Hpl.out];simp[vf];omega
  have htl:(128::List.replicate zc 0)++vf nn=bc m.length:=by rw[sZ,Hzc.out,Hnn.out]
  have HTL:=zF htl;have HSf:=zF (HS7.out.ext HEA.out);clear hgd hEwd hEdf htl;go_wp2_with (at_builtin;refine zCl rfl (.tmp 76) (.tmp 77) rfl g (by rw[Hpl.out];rfl) hopf rfl hrf hlen hgs ?_;intro A5 c5 wg ho5 hb5);rw[HTL.out]at ho5;have hEfg:Ext wa wg:=kG HEA.out (hb5.mono (by have:=Hg.out;omega));rw[show zc+(vf nn).length+1=(bc m.length).length by rw[←HTL.out];simp];have htl:(bc m.length).length≤80:=by rw[m5];omega
  have hwr:=zF (uH (p:=bc m.length) wg (HS7.out.ext hEfg) (HK.out.ext (HE.out.trans hEfg)) (ho5.rb (by omega)) (fun k hk=>hk.2) (Nat.lt_succ_self b7) (by omega) (by have:=hEfg.bsize;omega) (by rw[zz];have:=Hm.out;omega));have HEg:=zF (HE.out.trans hEfg);have zbg:b7<wg.heap.size:=by have:=hEfg.bsize;omega
  clear hEfg ho5 hb5 hopf hrf hgs hlen htl HSf;refine hwr.out.mono ?_;rintro e wh ⟨rfl,hsh,hfh⟩;have HEh:=zF (hfh.ext' HEg.out l7 (by omega));obtain⟨A6,c6,hB6,_,_,_⟩:=hsh;have hpm:m++bc m.length=pad m:=rfl;rw[hpm]at hB6;obtain⟨s8,hs8⟩:=eV (vM uX (pad m) ((pad m).length/64));rw[hs8]at hB6;have Hsha:=zF (show sha m=s8.out by rw[sha,hs8])
  have hmid:=zF (show ∀ X,Ext wh X→(Instr.loadAt 175 (.pointer (some ⟨b7,1,none⟩))).run Tryz.prog X=.ok (.agg (s8.list.map fun x=>Value.int .u64 (x.toNat:Int)).toArray) X from fun X hX =>
   run_loadAt_mid X b7 1 175 (s8.list.map fun x=>Value.int .u64 (x.toNat:Int)) _ (fun j u hu=>by
    have hj:j<8:=by have:=(List.getElem?_eq_some_iff.1 hu).1;simpa[St.list]using this
    rw[(hB6.ext hX).cell hj]
    have h8:j<s8.list.length:=hj
    rw[←hu]
    simp[wd,h8]) Tryz.underlying175 rfl (by kernel_rfl))
  have ck':=HEh.out.cell ck;clear hwr hfh hs8 hpm hB6;go_upto_region 15 with fail;obtain⟨arr,harr⟩:=eV ((s8.list.map fun x=>Value.int .u64 (x.toNat:Int)).toArray);rw[harr]at hmid
  have hai:=zF (show ∀ k,k<8→arr[k]?=some (.int .u64 ((wd s8.list k).toNat:Int))from fun k hk=>by
   have h8:k<s8.list.length:=hk
   rw[←harr,zR]
   simp[wd,h8])
  clear harr
  refine zN 5 [0,1,3,7,0] [] (fun j f X=>match j with
   | 0=>f 0=.pointer (some ⟨b7,0,none⟩)
   | 1=>f 1=.pointer (some ⟨b7,0,none⟩)
   | 2=>f 2=.pointer (some ⟨b7,1,none⟩)
   | 3=>f 3=.agg arr
   | 4=>f 4=Value.int IntKind.i64 0
   | _=>True) (by kernel_rfl) [(80,0),(81,1),(82,2),(83,3),(84,4)] (by kernel_rfl) ?_
  refine zJ 1 4 ?_;refine qN 2 3 0 ?_;refine qN 3 2 1 ?_;refine zt 4 1 [(80,0),(81,1),(82,2),(84,4)] (fun f X hX hR K hK=>?_) ?_
  · have e2:f 2=_:=hR.out 2 rfl;simp only[yZ,e2];refine⟨zU (by kernel_rfl) (tj 175 (.tmp 82) rfl rfl (hmid.out X hX) ?_)⟩;exact qd hK (s:=by simp only[yZ,e2])
  refine zJ 5 0 ?_;refine yF ⟨fun f X hX hR hal hap=>?_⟩;have e3:f 3=_:=hR 3 (by decide);have e4:f 4=_:=hR 4 (by decide);simp only[yZ,e3,e4];clear hR hal hap e3 e4;refine zH ?_;have HEx:=zF (HEh.out.trans hX);clear hX ck' hmid;rename World=>wl;obtain⟨D,hD⟩:=eV wl.heap.size;have HD:=zF hD;have how:OW wl D none 0 (dK s8.list 0):=⟨⟨by simp[dK,bys],.inl ⟨rfl,rfl⟩⟩,by simp[dK]⟩
  clear hD;go_wp2_with fail;go_loopw [8,84] (fun sv iv wr=>∃(k:Nat) (A:Option Addr) (c:Nat),iv=.int .i64 (k:Int)∧k≤8∧sv=.slice A (dK s8.list k).length c∧Hid (OW wr D A c (dK s8.list k))∧Hid (Below D wl wr)) (fun _ iv _=>(8-intOf iv).toNat);case atStart=>exact⟨0,none,0,rfl,by omega,rfl,zF how,zF (zl _ _)⟩
  case round =>
   clear how;obtain⟨k,Ao,co,rfl,hk8,rfl,HO,HBl⟩:=hrel;by_cases hlt:k<8
   · have k8:(k:Int)<8:=by omega
     have hidx:∀ W:World,(Instr.index 175 (.agg arr) (.int .i64 (k:Int))).run Tryz.prog W=.ok (.int .u64 ((Sha.wd s8.list k).toNat:Int)) W:=fun W=>uA Tryz.underlying175 (fun _=>by kernel_rfl) (fun _=>by kernel_rfl) hlt (hai.out k hlt);have hfl:=aT (l:=s8.list) (k:=k) hlt;have hll:=bP (l:=s8.list) (k:=k) (by show k≤8;omega);obtain⟨x,hx⟩:=eV (Sha.wd s8.list k);rw[hx]at hidx hfl;have ha:=pq x wr HO.out (by have:=HBl.out.size;have:=HD.out;omega) (by omega);rw[←hfl]at ha;have Ha:=zF ha;have hxm:=rC x;clear hfl hx ha hll;go_wp2_with fail;refine Ha.out.mono ?_;rintro e wn ⟨A2,c2,rfl,ho2,hb2⟩;have HO2:=zF ho2;have HB2:=zF (HBl.out.trans hb2);clear ho2 hb2 Ha hidx hxm;go_wp2_with fail;go_roundw;case rel=>exact⟨k+1,A2,c2,by go_num,by omega,rfl,HO2,HB2⟩
     case measure=>simp[intOf];omega
   · obtain rfl:k=8:=by omega
     rw[show((8:Nat):Int)=8 from rfl];have hf8:dK s8.list 8=s8.out:=rfl;have hl8:(dK s8.list 8).length=32:=bP (l:=s8.list) (k:=8) (zG _);rw[hl8];have HEz:=zF (kG HEx.out (HBl.out.mono (by have:=HD.out;have:=HEx.out.bsize;omega)));have hoz:OW wr w.heap.size Ao co (sha m):=by rw[Hsha.out,←hf8];exact HO.out.mono (by have:=HD.out;have:=HEx.out.bsize;omega)
     have ckz:=Ext.cell HEz.out ck;have hc32:(32:Int)≤(co:Int):=by have h1:=(HO.out.rb (by rw[hl8];omega)).cap.1;rw[hl8]at h1;omega
     have HOz:=zF hoz;clear hf8 hl8 hoz HO HBl hlt hk8;go_wp2_with fail;refine(zAF _).mono ?_;rintro e wn ⟨rfl,rfl⟩;go_wp2_with fail;go_ret;exact⟨Ao,co,rfl,HOz.out,HEz.out⟩
end Go.Proofs.YtaemogcomplhiaaGreatDoor
namespace Go.Proofs.YtaemogcomplhiaaGreatDoor
open Go.RowKit
open Sha
theorem HS.new {w:World}{b F:Nat}(h:HB w b uX.list (.slice none 0 0) 0):HS w b [] F :=
 ⟨none,0,h,⟨⟨by simp[rem,bys],.inl ⟨rfl,rfl⟩⟩,by simp[rem]⟩,fun _=>⟨rfl,rfl⟩,by simp⟩
theorem HS.nilfr {w X:World}{b b' F G:Nat}{m:List Nat}(h:HS w b m F)(hr:m.length%64=0)(hf:Fr b' G w X)(hb:b<G)(hn:b≠b'):HS X b m F:=by
 obtain⟨A,c,h1,h2,h3,h4⟩:=h;have hr':rem m=[]:=qQ (by rw[vN];exact hr);obtain⟨rfl,rfl⟩:=h3 hr';exact⟨none,0,⟨hf.at_ hb hn h1.1,h1.2⟩,⟨⟨by rw[hr'];simp[bys],.inl ⟨by rw[hr'];rfl,by rw[hr'];rfl⟩⟩,by rw[hr'];simp⟩,h3,h4⟩
theorem HS.justk {w X:World}{b g F:Nat}{m:List Nat}{cs:Array Value}{t:TypeId}(h:HS w b m F)(hj:jQ g w X)(hn:b≠g)(hg:w.heap[g]?=some (.cells cs t (0,0)))(ht:t≠5):HS X b m F:=by
 obtain⟨A,c,h1,h2,h3,h4⟩:=h;refine⟨A,c,h1.just hj hn,h2.same fun k _ cs' hk=>hj.at_ (fun e=>?_) hk,h3,h4⟩;rw[e,hg]at hk;injection jX hk with _ e2
 exact ht e2
def vT (kz:List Nat) (c k:Nat):List Nat:=(kz.take k).map (· ^^^ c)++kz.drop k
theorem cM (kz:List Nat)(c k:Nat):(vT kz c k).length=kz.length:=by simp[vT];omega
theorem oY {kz:List Nat}{c k:Nat}(h:k<kz.length):dg (vT kz c k) k=dg kz k:=by
 simp only[dg,qA,vT];rw[uF (by simp;omega),List.length_map,zo,List.getElem?_drop,show k+(k-min k kz.length)=k by omega]
theorem dP {kz:List Nat}{c k:Nat}(h:k<kz.length):(vT kz c k).set k (dg kz k ^^^ c)=vT kz c (k+1):=by
 have e1:kz.drop k=dg kz k::kz.drop (k+1):=by
  rw[qa h];simp[dg,h]
 have e2:kz.take (k+1)=kz.take k++[dg kz k]:=by
  rw[List.take_add_one];simp[dg,h]
 have hl:((kz.take k).map (· ^^^ c)).length=k:=by simp;omega
 rw[vT,vT,e1,e2,wG _ _ (by omega),hl,Nat.sub_self];simp
theorem cN {key:List Nat}{n c:Nat}(hl:key.length≤n)(hn:n=64):vT (key++List.replicate (n-key.length) 0) c n=qj key c:=by
 subst hn;have hl':(key++List.replicate (64-key.length) 0).length=64:=by simp;omega
 rw[vT,xy (by omega),List.append_nil,zx (by omega),qj];apply List.ext_getElem
 · simp;omega
 · intro i h1 h2;have hi:i<64:=by simpa using h2
   simp only[List.getElem_map,List.getElem_range];congr 1;rw[List.getElem_append];split
   · rename_i h;simp[h]
   · rename_i h;simp[jL (Nat.le_of_not_lt h)]
theorem xn (k:List Nat)(c:Nat):(qj k c).length=64:=by simp[qj]
theorem zDD {x c:Nat}(h:x<256)(hc:c<256):x ^^^ c<256:=Nat.xor_lt_two_pow (n:=8) h hc
theorem cC {k:List Nat}{c:Nat}(h:∀ b∈k,b<256)(hc:c<256):∀ x∈qj k c,x<256:=by
 intro x hx;obtain⟨i,_,rfl⟩:=List.mem_map.1 hx;refine zDD ?_ hc;rcases qF i k.length with h1|h1
 · have:k.getD i 0=k[i]:=by simp[h1]
   rw[this];exact h _ (xa h1)
 · rw[qA,jL h1];simp
theorem zC9 {w:World}{g n c:Nat}{P:Nat→Prop}{ad:Addr}{key:List Nat}(hb:vQ w g (List.replicate n 0))(hp:RB w P (some ad) c key)(hl:key.length≤n) :
 ∃ W',(Builtin.copy_ #[22,22] 3 #[.slice (some ⟨g,0,none⟩) n n,.slice (some ad) key.length c]).run Tryz.prog w=.ok (.int .i64 (key.length:Int)) W'∧vQ W' g (key++List.replicate (n-key.length) 0)∧jQ g w W':=by
 have hbl:(bys key).length=key.length:=by simp[bys]
 have hr:=run_copy_row (P:=Tryz.prog) w 22 22 3 5 g 0 n n ad key.length c (bys (List.replicate n 0)).toArray 5 (bys key) Tryz.underlying22 (by kernel_rfl) hb (by rw[hbl];exact(qU hl).symm) (fun j v hv=>hp.1.cell_ hv) (by rw[hbl];simp[bys];omega) (by intro v hv;obtain⟨b,_,rfl⟩:=List.mem_map.1 hv;rfl)
 have hrow:(bys (List.replicate n 0)).toArray.toList.take 0++bys key++(bys (List.replicate n 0)).toArray.toList.drop (0+(bys key).length)=bys (key++List.replicate (n-key.length) 0):=by
  rw[hbl];simp[bys]
 rw[hrow,hbl]at hr
 exact⟨_,hr,Go.setRow_heap w g _ _ 5 _ hb,⟨rfl,rfl,rfl,by simp[World.setRow],fun k _ hk=>Go.setRow_other w g k _ hk⟩⟩
theorem mO {P:Nat→Prop}{A:Option Addr}{c:Nat}{key:List Nat}(w:World)(hk:KW w)(hp:RB w P A c key)(hP:∀ k,P k→k<w.heap.size)(hl0:0<key.length)(hl:key.length≤64) :
 Calls Tryz.prog 128 #[.int .i64 3,.slice A key.length c] w fun e w'=>∃ b1 b2,e=.returned (.agg #[.pointer (some ⟨b1,0,none⟩),.pointer (some ⟨b2,0,none⟩)])∧b1≠b2∧w.heap.size≤b1∧w.heap.size≤b2∧HS w' b1 (qj key 54) w'.heap.size∧HS w' b2 (qj key 92) w'.heap.size∧Ext w w':=by
 obtain⟨ad,rfl⟩:∃ ad,A=some ad:=by obtain⟨ad,e,_⟩:=hp.dg (i:=0) hl0;exact⟨ad,e⟩
 have l64:¬(64:Int)<(key.length:Int):=by omega
 have HP:=zF hp
 have HPP:=zF hP
 have HK:=zF hk
 clear hp hP hk
 have hmk:=jD (P:=Tryz.prog) 22 5 (.int .u8 0) 1 Tryz.underlying22 gn rfl .i64 .i64 64 (by omega) (by omega)
 simp only[qW]at hmk
 go_enter Tryz.func128,Tryz.ntmps128
 go_upto_region 3 with(go_at_call 134;refine(dO _).mono ?_;rintro e w1 ⟨rfl,rfl⟩)
 obtain⟨W0,hW0⟩:=eV (w.alloc (.cells #[.pointer none,.pointer none] 173))
 have hE0:Ext w W0:=by rw[←hW0];exact zO _ _
 have hr0:W0.heap[w.heap.size]?=some (.cells #[.pointer none,.pointer none] 173 (0,0)):=by rw[←hW0];exact zS _ _
 rw[hW0]
 have HE0:=zF hE0
 have HR0:=zF hr0
 clear hW0 hE0 hr0
 go_cut [5,6]from 18 (fun s5 s6 wx=>∃ g5 g6:Nat,s5=.slice (some ⟨g5,0,none⟩) 64 64∧s6=.slice (some ⟨g6,0,none⟩) 64 64∧g5≠g6∧W0.heap.size≤g5∧W0.heap.size≤g6∧vQ wx g5 (List.replicate 64 0)∧vQ wx g6 (List.replicate 64 0)∧Ext W0 wx)
 case first =>
  have m1:=(zO (W0.alloc (.cells (madeCells #[.int .u8 0] 64) 5)) (.cells (madeCells #[.int .u8 0] 64) 5)).at_ (vQ.made W0 64);have m2:=vQ.made (W0.alloc (.cells (madeCells #[.int .u8 0] 64) 5)) 64;rw[qB]at m2;have mE:Ext W0 ((W0.alloc (.cells (madeCells #[.int .u8 0] 64) 5)).alloc (.cells (madeCells #[.int .u8 0] 64) 5)):=(zO _ _).trans (zO _ _);go_region_with (first|(go_at_call 134;refine(dO _).mono ?_;rintro e w1 ⟨rfl,rfl⟩))
  all_goals
   go_wp2_with fail;go_meet
   case rel=>first
    | exact⟨_,_,rfl,rfl,by omega,by omega,by omega,m1,m2,by first|exact mE|exact mE.trans (Ext.drew _)|exact mE.trans (kW _ _)⟩
    | exact⟨_,_,rfl,rfl,by omega,by omega,by omega,m2,m1,by first|exact mE|exact mE.trans (Ext.drew _)|exact mE.trans (kW _ _)⟩
 case rest =>
  obtain⟨g5,g6,rfl,rfl,hne,l5,l6,h5,h6,hE1⟩:=hcut;have hEw:Ext w wc:=HE0.out.trans hE1;have hpc:=HP.out.below hEw HPP.out;obtain⟨W5,hr5,hk5,hj5⟩:=zC9 h5 hpc hl;have hw0:=HE0.out.bsize;have hE5:Ext w W5:=hj5.ext hEw (by omega);have h6':=hj5.at_ hne.symm h6;obtain⟨W6,hr6,hk6,hj6⟩:=zC9 h6' (HP.out.below hE5 HPP.out) hl;have hE6:Ext w W6:=hj6.ext hE5 (by omega);have hk5':vQ W6 g5 _:=hj6.at_ hne hk5;obtain⟨kz,hkz⟩:=eV (key++List.replicate (64-key.length) 0);have hzl:kz.length=64:=by rw[←hkz];simp;omega
  have hzb:∀ x∈kz,x<256:=by
   rw[←hkz];intro x hx;rcases List.mem_append.1 hx with h|h
   · exact HP.out.2.1 x h
   · rw[(List.mem_replicate.1 h).2];omega
  have hm54:=cN (c:=54) hl rfl;have hm92:=cN (c:=92) hl rfl;rw[hkz]at hk5' hk6 hm54 hm92;have HE6:=zF hE6;have HZL:=zF hzl;have HZB:=zF hzb;have H54:=zF hm54;have H92:=zF hm92;have HK5:=zF (show vQ W6 g5 (vT kz 54 0) by simpa[vT]using hk5');have HK6:=zF (show vQ W6 g6 (vT kz 92 0) by simpa[vT]using hk6);have Hr0:=zF (show W6.heap[w.heap.size]?=some (.cells #[.pointer none,.pointer none] 173 (0,0))from hj6.at_ (by have:=qr HR0.out;omega) (hj5.at_ (by have:=qr HR0.out;omega) (hE1.at_ HR0.out)));clear hkz hzl hzb hm54 hm92 hk5 hk5' hk6 hj5 hj6 hE5 hE6 h5 h6 h6' hpc hE1 hEw HE0 HR0 hmk;go_wp2_with fail;clear hr5 hr6;have l5w:w.heap.size≤g5:=by omega
  have l6w:w.heap.size≤g6:=by omega
  go_loopw [32] (fun iv wr=>∃(k:Nat),iv=.int .i64 (k:Int)∧k≤64∧Hid (vQ wr g5 (vT kz 54 k))∧Hid (vQ wr g6 (vT kz 92 k))∧Hid (wr.heap[w.heap.size]?=some (.cells #[.pointer none,.pointer none] 173 (0,0)))∧Hid (Ext w wr)) (fun iv _=>(64-intOf iv).toNat);case atStart=>exact⟨0,rfl,by omega,HK5,HK6,Hr0,HE6⟩
  case round =>
   clear HK5 HK6 Hr0 HE6;obtain⟨k,rfl,hk64,H5,H6,H0,HE⟩:=hrel;by_cases hlt:k<64
   · have k64:(k:Int)<64:=by omega
     have hzl:=HZL.out;have q5:=H5.out.cell (i:=k) (by rw[cM];omega);have f5:=H5.out.free k;have q6:=H6.out.cell (i:=k) (by rw[cM];omega);rw[oY (by omega)]at q5 q6;have s5:=H5.out.set k (dg kz k ^^^ 54);have s6:=H6.out.set k (dg kz k ^^^ 92);rw[dP (by omega)]at s5 s6;have hx256:dg kz k<256:=jS (by omega) HZB.out k;obtain⟨x,hx⟩:=eV (dg kz k);rw[hx]at q5 q6 s5 s6 hx256;have e54:=u8_xor_nat x 54 hx256 (by omega);have e92:=u8_xor_nat x 92 hx256 (by omega);obtain⟨y5,hy5⟩:=eV (x ^^^ 54);obtain⟨y6,hy6⟩:=eV (x ^^^ 92);rw[hy5]at e54 s5;rw[hy6]at e92 s6;simp only[qW]at e54 e92;have j5:=(jk g5 wr).set k (.int .u8 (y5:Int));have q6':=(j5.cell (p:=⟨g6,k,none⟩) (qr H6.out) hne.symm).trans q6;have H6a:vQ (wr.setCell ⟨g5,k,none⟩ (.int .u8 (y5:Int))) g6 (vT kz 92 k):=j5.at_ hne.symm H6.out;have f6:=H6a.free k;have s6a:=H6a.set k (x ^^^ 92);rw[←hx,dP (by omega),hx,hy6]at s6a;have j6:=(jk g6 (wr.setCell ⟨g5,k,none⟩ (.int .u8 (y5:Int)))).set k (.int .u8 (y6:Int));have H5b:=zF (show vQ _ g5 (vT kz 54 (k+1))from j6.at_ hne s5);have H6b:=zF s6a;have H0b:=zF (j6.at_ (o:=.cells #[.pointer none,.pointer none] 173 (0,0)) (c:=w.heap.size) (fun e=>by have h1:=H6.out;have h0:=H0.out;rw[e]at h0;unfold vQ at h1;rw[h0]at h1;injection jX h1 with _ e2;exact absurd e2 (by decide)) (j5.at_ (fun e=>by have h1:=H5.out;have h0:=H0.out;rw[e]at h0;unfold vQ at h1;rw[h0]at h1;injection jX h1 with _ e2;exact absurd e2 (by decide)) H0.out));have HEb:=zF (j6.ext (j5.ext HE.out l5w) l6w);clear hx hy5 hy6 s5 s6 s6a j5 j6 H6a H5 H6 H0 HE hzl q6;go_wp2_with fail;go_roundw;case rel=>exact⟨k+1,by go_num,by omega,H5b,H6b,H0b,HEb⟩
     case measure=>simp[intOf];omega
   · obtain rfl:k=64:=by omega
     rw[show((64:Nat):Int)=64 from rfl];have h5:=H5.out;have h6:=H6.out;rw[H54.out]at h5;rw[H92.out]at h6;have H5m:=zF h5;have H6m:=zF h6;clear h5 h6 H5 H6 hlt hk64;have hnew:=zF new3;go_wp2_with fail;refine(hnew.out _).mono ?_;rintro e w1 ⟨b1,rfl,hb1,lb1,hE1⟩;go_wp2_with fail;refine(hnew.out _).mono ?_;rintro e w2 ⟨b2,rfl,hb2,lb2,hE2⟩;have Hb1:=zF (hb1.ext hE2);have Hb2:=zF hb2;have hb12:b1<b2:=zI hb1.lt lb2;have HEE:=zF (hE1.trans hE2);clear hb1 hb2 hE1 hE2;go_upto_region 13 with fail;have hx8:=zS w2 (.cells #[.pointer (some ⟨b1,0,none⟩),.pointer (some ⟨b2,0,none⟩)] 173);have hA8:=zO w2 (.cells #[.pointer (some ⟨b1,0,none⟩),.pointer (some ⟨b2,0,none⟩)] 173);obtain⟨W3,hW3⟩:=eV (w2.alloc (.cells #[.pointer (some ⟨b1,0,none⟩),.pointer (some ⟨b2,0,none⟩)] 173));have hz3:W3.heap.size=w2.heap.size+1:=by rw[←hW3,qB]
     have zb2:=Hb2.out.lt;rw[hW3]at hx8 hA8 ⊢;obtain⟨b8,hb8⟩:=eV w2.heap.size;rw[hb8]at hx8 zb2 hz3 ⊢;have hE3:=(HE.out.trans HEE.out).trans hA8;have HE3:=zF hE3;have hR3:=(HEE.out.trans hA8).at_ H0.out;have h53:=(HEE.out.trans hA8).at_ H5m.out;have h63:=(HEE.out.trans hA8).at_ H6m.out;have hB1:=Hb1.out.ext hA8;have hB2:=Hb2.out.ext hA8;have zw:=hE3.bsize;have zr:=qr H0.out;have zk:=HK.out.lt;have lb1':w.heap.size≤b1:=zK HE.out.bsize lb1;have kb54:=cC (c:=54) HP.out.2.1 (by omega);have kb92:=cC (c:=92) HP.out.2.1 (by omega);have n5b1:g5≠b1:=fun e=>by have h1:=hB1.1;rw[←e,h53]at h1;injection jX h1 with _ e2;exact absurd e2 (by decide)
     have n6b1:g6≠b1:=fun e=>by have h1:=hB1.1;rw[←e,h63]at h1;injection jX h1 with _ e2;exact absurd e2 (by decide)
     have wr1:=uH (p:=qj key 54) (F:=W3.heap.size) W3 (HS.new hB1) (HK.out.ext hE3) (vQ.rb (P:=fun k=>k=g5) h53 rfl kb54 (by rw[xn];omega)) (fun k hk=>by rw[hk];exact qr h53) hB1.lt (by omega) (zG _) (by simp[qj]);rw[xn,wm]at wr1;have Wr1:=zF wr1;have c8:=zQ hx8 0;simp only[zR,zi]at c8;have KB92:=zF kb92;have HB2:=zF hB2;have HB1:=zF hB1;clear wr1 hW3 hb8 hA8 hE3 kb54 kb92 hB1 hB2 hnew;go_wp2_with fail;refine Wr1.out.mono ?_;rintro e W4 ⟨rfl,hs1,hf1⟩;have z4:=hf1.size;have zb1:=HB1.out.lt;have hB2':HB W4 b2 uX.list (.slice none 0 0) 0:=⟨hf1.at_ HB2.out.lt (by omega) HB2.out.1,HB2.out.2⟩
     have h64:=hf1.at_ (qr h63) n6b1 h63;have hx8':=hf1.at_ (by omega) (by omega) hx8;have hR4:=hf1.at_ (by omega) (by omega) hR3;have hE4:Ext w W4:=hf1.ext' HE3.out lb1' (by omega);have wr2:=uH (p:=qj key 92) (F:=W4.heap.size) W4 (HS.new hB2') (HK.out.ext hE4) (vQ.rb (P:=fun k=>k=g6) h64 rfl KB92.out (by rw[xn];omega)) (fun k hk=>by rw[hk];exact qr h64) hB2'.lt (by omega) (zG _) (by simp[qj]);rw[xn,wm]at wr2;have Wr2:=zF wr2;have HS1:=zF hs1;have HE4:=zF hE4;have HB2':=zF hB2';have c8:=zQ hx8' 1;simp only[zR,zi,qo]at c8;have n6b2:w.heap.size≠b2:=by have:=HE.out.bsize;omega
     clear wr2 hs1 hf1 hB2' hE4 h53 h63 h64 hx8 hR3;go_wp2_with fail;refine Wr2.out.mono ?_;rintro e W5 ⟨rfl,hs2,hf2⟩;have z5:=hf2.size;have hx9:=hf2.at_ (by omega) (by omega) hx8';have hR5:=hf2.at_ (by omega) n6b2 hR4;have hs1':=HS1.out.fr hf2 HB2'.out (by omega);have HE5:=zF (hf2.ext' HE4.out (by have:=HE.out.bsize;omega) (by omega));have HS1':=zF hs1';have HS2:=zF hs2;clear hs1' hs2 hf2 hx8' hR4 c8;go_upto_region 15 with fail
     refine zN 1 [0,1] [] (fun j f X=>match j with
      | 0=>f 0=.agg #[.pointer (some ⟨b1,0,none⟩),.pointer (some ⟨b2,0,none⟩)]
      | _=>True) (by kernel_rfl) [(61,0)] (by kernel_rfl) ?_
     refine lV0 1 0 hx9 (by kernel_rfl) ?_;refine yF ⟨fun f X hX hR hal hap=>?_⟩;have e0:f 0=.agg #[.pointer (some ⟨b1,0,none⟩),.pointer (some ⟨b2,0,none⟩)]:=hR 0 (by decide);simp only[Par.vH,Act.put,ka,List.set_cons_succ,xw,e0];clear hR hal hap e0;refine zP (fun K hK=>⟨zU (by kernel_rfl) (jJ (cs':=#[.pointer (some ⟨b1,0,none⟩),.pointer (some ⟨b2,0,none⟩)]) (t:=173) 173 (.tmp 4) (.tmp 61) rfl rfl rfl rfl (hX.at_ hR5) (by kernel_rfl) rfl (by simp[Value.oneCell']) (fun Y hY1 hY2 hY3=>hK.out _ _ ?_))⟩);refine zH ?_;have hfin1:HS Y b1 (qj key 54) Y.heap.size:=((HS1'.out.ext hX).justk hY2 (by omega) (hX.at_ hR5) (by decide)).nil_up (by rw[xn]);have hfin2:HS Y b2 (qj key 92) Y.heap.size:=((HS2.out.ext hX).justk hY2 n6b2.symm (hX.at_ hR5) (by decide)).nil_up (by rw[xn]);have hEY:Ext w Y:=hY2.ext (HE5.out.trans hX) (zG _);go_wp2;exact zC7 rfl rfl rfl hY1 Tryz.underlying173 rfl (by kernel_rfl) ⟨b1,b2,rfl,by omega,lb1',by have:=HE.out.bsize;omega,hfin1,hfin2,hEY⟩
def RP (w:World) (P:Nat→Prop) (A:Option Addr) (c:Nat) (ps:List (List Nat)):Prop :=
 ∃ cs:List Value,RS w P 1 A ps.length c cs∧∀ i,i<ps.length→∃ Ai ci,cs[i]?=some (.slice Ai (ps.getD i []).length ci)∧RB w P Ai ci (ps.getD i [])
theorem RP.ext {w X:World}{P:Nat→Prop}{A:Option Addr}{c:Nat}{ps:List (List Nat)}(h:RP w P A c ps)(hE:Ext w X)(hP:∀ k,P k→k<w.heap.size):RP X P A c ps:=by
 obtain⟨cs,h1,h2⟩:=h;exact⟨cs,h1.below hE hP,fun i hi=>let ⟨Ai,ci,e,h3⟩:=h2 i hi;⟨Ai,ci,e,h3.below hE hP⟩⟩
theorem RP.at_ {w:World}{P:Nat→Prop}{A:Option Addr}{c:Nat}{ps:List (List Nat)}(h:RP w P A c ps){i:Nat}(hi:i<ps.length):∃ ad Ai ci,A=some ad∧w.cell? (ad.add i)=some (.slice Ai (ps.getD i []).length ci)∧RB w P Ai ci (ps.getD i []):=by
 obtain⟨cs,h1,h2⟩:=h;obtain⟨Ai,ci,e,h3⟩:=h2 i hi;obtain⟨ad,ea,_,_⟩:=h1.2.2.2 (by omega);subst ea;exact⟨ad,Ai,ci,rfl,h1.cell_ e,h3⟩
def yc (ps:List (List Nat)) (k:Nat):List Nat:=(ps.take k).flatten
theorem pO {ps:List (List Nat)}{k:Nat}(h:k<ps.length):yc ps (k+1)=yc ps k++ps.getD k []:=by
 have e:ps[k]?=some (ps.getD k []):=by simp[h]
 rw[yc,List.take_add_one,e,List.flatten_append];simp[yc]
theorem tC (ps:List (List Nat)):yc ps ps.length=ps.flatten:=by simp[yc]
theorem zA0 (ps:List (List Nat)){k:Nat}(_h:k<ps.length):(yc ps (k+1)).length≤ps.flatten.length:=by
 have e:ps.flatten=yc ps (k+1)++(ps.drop (k+1)).flatten:=by rw[yc,←List.flatten_append,List.take_append_drop]
 rw[e,zz];omega
theorem zAj {b1 b2 F1 F2:Nat}{m1 m2:List Nat}{P:Nat→Prop}{A:Option Addr}{c:Nat}{ps:List (List Nat)}(w:World)(h1:HS w b1 m1 F1)(h2:HS w b2 m2 F2)(l1:m1.length=64)(l2:m2.length=64)(lm1:∀ x∈m1,x<256)(lm2:∀ x∈m2,x<256)(hk:KW w)
 (hp:RP w P A c ps) (hP:∀ k,P k→k<w.heap.size) (hl:ps.flatten.length≤300000) (hpb:∀ x∈ps.flatten,x<256) :
 Calls Tryz.prog 129 #[.agg #[.pointer (some ⟨b1,0,none⟩),.pointer (some ⟨b2,0,none⟩)],.slice A ps.length c] w fun e w'=>∃ A' c',e=.returned (.slice A' 32 c')∧OW w' w.heap.size A' c' (sha (m2++sha (m1++ps.flatten)))∧Ext w w':=by
 have hEb:=zO w (.cells #[.pointer (some ⟨b1,0,none⟩),.pointer (some ⟨b2,0,none⟩)] 173)
 have hxb:=zS w (.cells #[.pointer (some ⟨b1,0,none⟩),.pointer (some ⟨b2,0,none⟩)] 173)
 obtain⟨W0,hW0⟩:=eV (w.alloc (.cells #[.pointer (some ⟨b1,0,none⟩),.pointer (some ⟨b2,0,none⟩)] 173))
 rw[hW0]at hEb hxb
 have H1:=zF (fun X (hX:Ext W0 X)=>dJ X (h1.ext (hEb.trans hX)))
 have H2:=zF (fun X (hX:Ext W0 X)=>dJ X (h2.ext (hEb.trans hX)))
 have HP:=zF (hp.ext hEb hP)
 have HPP:=zF (show ∀ k,P k→k<W0.heap.size from fun k hk'=>zI (hP k hk') hEb.bsize)
 have HK:=zF (hk.ext hEb)
 have HE:=zF hEb
 have HW0:=zF hW0
 have Hl:=zF hl
 have Hpb:=zF hpb
 have L1:=zF l1
 have L2:=zF l2
 have LM1:=zF lm1
 have LM2:=zF lm2
 have zps:ps.length≤maxLen:=by obtain⟨_,h,_⟩:=hp;exact zK h.1 h.2.1
 have l1':=l1
 have l2':=l2
 have zk:=hk.lt
 have zw:=hEb.bsize
 obtain⟨q0,hq0⟩:=eV w.heap.size
 have Hq:=zF hq0
 rw[hq0]at hxb zk zw
 have c0:=zQ hxb 0
 have c1:=zQ hxb 1
 simp only[zR,zi,qo]at c0 c1
 clear h1 h2 hp hP hk hEb hW0 hl hpb l1 l2 lm1 lm2 hxb
 go_enter Tryz.func129,Tryz.ntmps129
 go_upto_region 1 with fail
 rw[HW0.out]
 clear HW0 hq0
 refine zh (by kernel_rfl) 8 [0,1,3,0,8,31,63,127] [] (fun j f X=>match j with
  | 0=>f 0=.pointer (some ⟨q0,0,none⟩)
  | 1=>f 1=.pointer (some ⟨b1,0,none⟩)
  | 2=>∃ b',f 2=.pointer (some ⟨b',0,none⟩)∧W0.heap.size≤b'∧b'<X.heap.size∧HS X b' m1 (b'+1)
  | 3=>f 3=.pointer (some ⟨q0,1,none⟩)
  | 4=>f 4=.pointer (some ⟨b2,0,none⟩)
  | 5=>∃ b' b'',f 5=.pointer (some ⟨b',0,none⟩)∧f 2=.pointer (some ⟨b'',0,none⟩)∧b''<b'∧b'<X.heap.size∧W0.heap.size≤b'∧HS X b' m2 (b'+1)
  | 6=>∃ b',f 6=.pointer (some ⟨b',0,none⟩)∧f 2=.pointer (some ⟨b',0,none⟩)∧W0.heap.size≤b'∧b'<X.heap.size∧HS X b' m1 (b'+1)
  | 7=>∃ b' b'',f 7=.pointer (some ⟨b',0,none⟩)∧f 2=.pointer (some ⟨b'',0,none⟩)∧b''<b'∧b'<X.heap.size∧W0.heap.size≤b'∧HS X b' m2 (b'+1)
  | _=>True) (by kernel_rfl) [(9,0),(10,1),(11,2),(12,3),(13,4),(14,5),(5,6),(6,7)] (by kernel_rfl) ?_
 refine zJ 1 7 ?_
 refine qK 2 6 0 c0 ?_
 refine qI 3 5 (fun f=>#[f 1]) (F':=138) (fun f X hX hR=>?_) ?_
 · have e1:f 1=_:=hR.out 1 rfl;simp only[e1];refine(H1.out X hX).mono ?_;rintro e w2 ⟨b',rfl,hl,hs,hB⟩;exact⟨_,rfl,hB,fun Y hY=>⟨b',rfl,zK hX.bsize hl,zI hs.lt hY.bsize,hs.ext hY⟩⟩
 refine zJ 4 4 ?_
 refine qK 5 3 3 c1 ?_
 refine qI 6 2 (fun f=>#[f 4]) (F':=138) (fun f X hX hR=>?_) ?_
 · have e4:f 4=_:=hR.out 4 rfl;obtain⟨b5,e2,l5,z5,h5⟩:=hR.out 2 rfl;simp only[e4];refine(H2.out X hX).mono ?_;rintro e w2 ⟨b',rfl,hl,hs,hB⟩;exact⟨_,rfl,hB,fun Y hY=>⟨b',b5,rfl,e2,zI z5 hl,zI hs.lt hY.bsize,zK hX.bsize hl,hs.ext hY⟩⟩
 refine zt 7 1 [(9,0),(10,1),(11,2),(12,3),(13,4),(14,5)] (fun f X hX hR K hK=>?_) ?_
 · obtain⟨b5,(e2:f 2=_),l5,z5,h5⟩:=hR.out 2 rfl;simp only[yZ,e2];refine⟨?_⟩;go_simp;exact hK.out _ _ _ (by simp only[yZ,e2]) (zX _) trivial (fun Y hY=>⟨b5,rfl,e2,l5,zI z5 hY.bsize,h5.ext hY⟩)
 refine zt 8 0 [(9,0),(10,1),(11,2),(12,3),(13,4),(14,5),(5,6)] (fun f X hX hR K hK=>?_) ?_
 · obtain⟨b6,b5',e5,e5',l56,z6,l6,h6⟩:∃ b' b'',f 5=.pointer (some ⟨b',0,none⟩)∧f 2=.pointer (some ⟨b'',0,none⟩)∧b''<b'∧b'<X.heap.size∧W0.heap.size≤b'∧HS X b' m2 (b'+1):=hR.out 5 rfl;simp only[yZ,e5];refine⟨?_⟩;go_simp;exact hK.out _ _ _ (by simp only[yZ,e5,e5']) (zX _) trivial (fun Y hY=>⟨b6,b5',rfl,e5',l56,zI z6 hY.bsize,l6,h6.ext hY⟩)
 refine yF ⟨fun f X hX hR hal hap=>?_⟩
 obtain⟨b5,(e2:f 2=_),l5,z5,h5⟩:=hR 2 (by decide)
 obtain⟨b6,b5',e5,e5',l56,z6,l6,h6⟩:∃ b' b'',f 5=.pointer (some ⟨b',0,none⟩)∧f 2=.pointer (some ⟨b'',0,none⟩)∧b''<b'∧b'<X.heap.size∧W0.heap.size≤b'∧HS X b' m2 (b'+1):=hR 5 (by decide)
 obtain⟨b7,e6,e6',l7,z7,h7⟩:∃ b',f 6=.pointer (some ⟨b',0,none⟩)∧f 2=.pointer (some ⟨b',0,none⟩)∧W0.heap.size≤b'∧b'<X.heap.size∧HS X b' m1 (b'+1):=hR 6 (by decide)
 obtain⟨b8,b8',e7,e7',l8,z8,l8',h8⟩:∃ b' b'',f 7=.pointer (some ⟨b',0,none⟩)∧f 2=.pointer (some ⟨b'',0,none⟩)∧b''<b'∧b'<X.heap.size∧W0.heap.size≤b'∧HS X b' m2 (b'+1):=hR 7 (by decide)
 simp only[yZ,e2,e5,e6,e7]
 clear hR hal hap e2 e5 e6 e7
 refine zH ?_
 simp only[Value.pointer.injEq,Option.some.injEq,Addr.mk.injEq,e5']at e7' e6' e5'
 obtain rfl:=e6'.1
 obtain rfl:=e7'.1
 have zg:3<X.heap.size:=by have:=hX.bsize;omega
 have r1:m1.length%64=0:=by rw[l1']
 have r2:m2.length%64=0:=by rw[l2']
 have j0:yc ps 0=[]:=by simp[yc]
 have H7:=zF (show ∃ Fk,HS X b5' (m1++yc ps 0) Fk∧b5'<Fk∧b8<Fk∧3<Fk∧Fk≤X.heap.size from⟨X.heap.size,by rw[j0,List.append_nil];exact h7.nil_up r1,z7,z8,zg,zG _⟩)
 have H8:=zF h8
 have HX:=zF hX
 have R1:=zF r1
 have R2:=zF r2
 have n58:b5'≠b8:=by omega
 clear h5 h6 h7 h8 e5' e6' e7' H1 H2 c0 c1 r1 r2 j0 hX l5 z5 l56 z6 l6
 go_wp2_with fail
 go_loopw [17] (fun iv wr=>∃(k:Nat),iv=.int .i64 (k:Int)∧k≤ps.length∧Hid (∃ Fk,HS wr b5' (m1++yc ps k) Fk∧b5'<Fk∧b8<Fk∧3<Fk∧Fk≤wr.heap.size)∧Hid (HS wr b8 m2 (b8+1))∧Hid (Ext W0 wr)) (fun iv _=>ps.length-(intOf iv).toNat)
 case atStart=>exact⟨0,rfl,by omega,H7,H8,HX⟩
 case round =>
  clear H7 H8 HX;obtain⟨k,rfl,hkl,H7,H8,HX⟩:=hrel;have zps':ps.length≤9223372036854775807:=zps;by_cases hlt:k<ps.length
  · have kl:(k:Int)<(ps.length:Int):=by omega
    obtain⟨Fk,h7,f1,f2,f3,f4⟩:=H7.out;obtain⟨ad,Ai,ci,rfl,ca,hrb⟩:=(HP.out.ext HX.out HPP.out).at_ hlt;have hjs:=pO hlt;have hjl:=zA0 ps hlt;have hll:(m1++yc ps k++ps.getD k []).length≤500000:=by rw[List.append_assoc,←hjs,zz];have:=Hl.out;have:=L1.out;omega
    have hwr:=zF (uH wr h7 (HK.out.ext HX.out) hrb (fun x hx=>zI (HPP.out x hx) HX.out.bsize) f1 f3 f4 hll);rw[List.append_assoc,←hjs]at hwr;have f5:=H7.out;obtain⟨p,hp⟩:=eV (ps.getD k []);rw[hp]at hwr ca;clear hjs hjl hll hrb h7 H7 hp;go_wp2_with fail;refine hwr.out.mono ?_;rintro e wn ⟨rfl,hs,hf⟩;have H7n:=zF (show ∃ F,HS wn b5' (m1++yc ps (k+1)) F∧b5'<F∧b8<F∧3<F∧F≤wn.heap.size from⟨_,hs,by omega,by omega,by omega,hf.size⟩);have H8n:=zF (H8.out.nilfr R2.out hf f2 n58.symm);have HXn:=zF (hf.ext' HX.out l7 (by omega));clear hs hf f5 H8 HX hwr;go_wp2_with fail;go_roundw;case rel=>exact⟨k+1,by go_num,by omega,H7n,H8n,HXn⟩
    case measure=>simp[intOf];omega
  · obtain rfl:k=ps.length:=by omega
    obtain⟨Fk,h7,f1,f2,f3,f4⟩:=H7.out;rw[tC]at h7;have hl1:=L1.out;have hl2:=L2.out;have hll:=Hl.out;obtain⟨ff,hff⟩:=eV ps.flatten;have hfb:=Hpb.out;rw[hff]at h7 hll hfb;have HFF:=zF hff;clear hff;have hsm:=zF (rH wr h7 (HK.out.ext HX.out) (by rw[zz];omega) (fun x hx=>(List.mem_append.1 hx).elim (LM1.out x) (hfb x)));clear h7 H7 hll hfb Hl Hpb;go_wp2_with fail;refine hsm.out.mono ?_;rintro e wa ⟨As,cs,rfl,hos,hEs⟩;have hEa:=HX.out.trans hEs;have hls:=cQ (m1++ff);have hlb:=zDN (m1++ff);obtain⟨t,ht⟩:=eV (sha (m1++ff));rw[ht]at hos hls hlb;have H8a:=(H8.out.nil_up (G:=wa.heap.size) R2.out).ext hEs;have hwr:=zF (uH wa H8a (HK.out.ext hEa) (hos.rb (by omega)) (fun x hx=>hx.2) H8a.lt (by have:=hEs.bsize;omega) (zG _) (by rw[zz];omega));rw[hls]at hwr;have HT:=zF ht;have HLB:=zF hlb;have HLS:=zF hls;have HEa:=zF hEa;clear H8a hos hEs hEa hls hlb ht HX H8 hsm;go_wp2_with fail;refine hwr.out.mono ?_;rintro e wb ⟨rfl,hsb,hfb⟩;have hEb:=hfb.ext' HEa.out l8' HEa.out.bsize;have hsm:=zF (rH wb hsb (HK.out.ext hEb) (by rw[zz,HLS.out];omega) (fun x hx=>(List.mem_append.1 hx).elim (LM2.out x) (HLB.out x)));have HEb:=zF hEb;clear hsb hfb hEb hwr HEa;go_wp2_with fail;refine hsm.out.mono ?_;rintro e wc ⟨Ar,cr,rfl,hor,hEr⟩;have HOr:=zF hor;have HEr:=zF (HEb.out.trans hEr);have HEe:=zF HEb.out.bsize;clear hor hEr hsm;go_wp2_with fail;go_ret;refine⟨Ar,cr,rfl,?_,HE.out.trans HEr.out⟩;rw[HFF.out,HT.out];exact HOr.out.mono (by have:=HE.out.bsize;have:=HEe.out;omega)
theorem zA3 {P Q:Nat→Prop}{A B:Option Addr}{c d:Nat}{key:List Nat}{ps:List (List Nat)}(w:World)(hk:KW w)(hp:RB w P A c key)(hP:∀ k,P k→k<w.heap.size)(hl0:0<key.length)(hl:key.length≤64)
 (hq:RP w Q B d ps) (hQ:∀ k,Q k→k<w.heap.size) (hlf:ps.flatten.length≤300000) (hpb:∀ x∈ps.flatten,x<256) :
 Calls Tryz.prog 99 #[.int .i64 3,.slice A key.length c,.slice B ps.length d] w fun e w'=>∃ A' c',e=.returned (.slice A' 32 c')∧OW w' w.heap.size A' c' (bu key ps.flatten)∧Ext w w':=by
 have hkb:=hp.2.1
 have H1:=zF (mO w hk hp hP hl0 hl)
 have HKB:=zF hkb
 have HK:=zF hk
 have HQ:=zF hq
 have HQQ:=zF hQ
 have HL:=zF hlf
 have HPB:=zF hpb
 have Hle:=zF hl
 clear hk hp hP hl0 hl hq hQ hlf hpb hkb
 go_enter Tryz.func99,Tryz.ntmps99
 go_wp2_with fail
 refine(zAF _).mono ?_
 rintro e wn ⟨rfl,rfl⟩
 go_wp2_with fail
 refine H1.out.mono ?_
 rintro e W1 ⟨b1,b2,rfl,hne,l1,l2,hs1,hs2,hE⟩
 have H2:=zF (zAj W1 hs1 hs2 (xn _ _) (xn _ _) (cC HKB.out (by omega)) (cC HKB.out (by omega)) (HK.out.ext hE) (HQ.out.ext hE HQQ.out) (fun k hk=>zI (HQQ.out k hk) hE.bsize) HL.out HPB.out)
 have HE:=zF hE
 clear hs1 hs2 hE H1
 go_wp2_with fail
 refine H2.out.mono ?_
 rintro e W2 ⟨A',c',rfl,ho,hE2⟩
 have HO:=zF ho
 have HE2:=zF hE2
 clear ho hE2 H2
 go_wp2_with fail
 go_ret
 exact⟨A',c',rfl,HO.out.mono HE.out.bsize,HE.out.trans HE2.out⟩
theorem ri {b:Nat}{P Q:Nat→Prop}{A B:Option Addr}{c d:Nat}{key:List Nat}{ps:List (List Nat)}(w:World)(hk:KW w)(hb:w.cell? ⟨b,0,none⟩=some (.slice A key.length c))(hp:RB w P A c key)(hP:∀ k,P k→k<w.heap.size)(hl0:0<key.length)(hl:key.length≤64)
 (hq:RP w Q B d ps) (hQ:∀ k,Q k→k<w.heap.size) (hlf:ps.flatten.length≤300000) (hpb:∀ x∈ps.flatten,x<256) :
 Calls Tryz.prog 71 #[.pointer (some ⟨b,0,none⟩),.slice B ps.length d] w fun e w'=>∃ A' c',e=.returned (.slice A' 32 c')∧OW w' w.heap.size A' c' (bu key ps.flatten)∧Ext w w':=by
 have H:=zF (zA3 w hk hp hP hl0 hl hq hQ hlf hpb)
 clear hk hp hP hl0 hl hq hQ hlf hpb
 go_enter Tryz.func71,Tryz.ntmps71
 go_wp2_with fail
 refine H.out.mono ?_
 rintro e wn ⟨A',c',rfl,ho,hE⟩
 have HO:=zF ho
 have HE:=zF hE
 clear ho hE H
 go_wp2_with fail
 go_ret
 exact⟨A',c',rfl,HO.out,HE.out⟩
def DR (w:World) (b:Nat) (k v:List Nat) (n:Int):Prop :=
 ∃ Ak ck Av cv,w.heap[b]?=some (.cells #[.slice Ak 32 ck,.slice Av 32 cv,.int .i64 n] 70 (0,0))∧RB w (fun g=>g<w.heap.size) Ak ck k∧RB w (fun g=>g<w.heap.size) Av cv v∧k.length=32∧v.length=32
theorem DR.lt {w:World}{b:Nat}{k v:List Nat}{n:Int}(h:DR w b k v n):b<w.heap.size:=let ⟨_,_,_,_,h,_⟩:=h;qr h
theorem DR.ext {w X:World}{b:Nat}{k v:List Nat}{n:Int}(h:DR w b k v n)(hE:Ext w X):DR X b k v n:=by
 obtain⟨Ak,ck,Av,cv,h1,h2,h3,h4,h5⟩:=h;exact⟨Ak,ck,Av,cv,hE.at_ h1,h2.upE hE,h3.upE hE,h4,h5⟩
theorem RB.dr {w X:World}{b:Nat}{k v:List Nat}{n:Int}{P:Nat→Prop}{A:Option Addr}{c:Nat}{d:List Nat}(h:RB w P A c d)(hP:∀ k,P k→k<w.heap.size)(hd:DR w b k v n)(hf:Fr b w.heap.size w X):RB X P A c d :=
 h.by_ fun q u hq hc=>(qH (hf.block _ (hP _ hq) (fun e=>by
  obtain⟨Ak,ck,Av,cv,h1,_⟩:=hd
  unfold World.cell? at hc
  rw[e,h1]at hc
  simp only at hc
  split at hc
  · cases hc
  · have hm:=List.mem_of_getElem? (l:=[Value.slice Ak 32 ck,.slice Av 32 cv,.int .i64 n]) (i:=q.off) (by simpa using hc)
    simp at hm))).trans hc
theorem RB.dr' {w X:World}{b:Nat}{k v:List Nat}{n:Int}{A:Option Addr}{c:Nat}{d:List Nat}(h:RB w (fun g=>g<w.heap.size) A c d)(hd:DR w b k v n)(hf:Fr b w.heap.size w X):RB X (fun g=>g<X.heap.size) A c d :=
 (h.dr (fun _ h=>h) hd hf).mono fun _ hg=>zI hg hf.size
theorem DR.fr {w X:World}{b b':Nat}{k v k' v':List Nat}{n n':Int}(h:DR w b k v n)(hf:Fr b' w.heap.size w X)(hb:DR w b' k' v' n')(hn:b≠b'):DR X b k v n:=by
 obtain⟨Ak,ck,Av,cv,h1,h2,h3,h4,h5⟩:=h;exact⟨Ak,ck,Av,cv,hf.at_ (qr h1) hn h1,h2.dr' hb hf,h3.dr' hb hf,h4,h5⟩
theorem DR.frS {w:World}{b:Nat}(i:Nat)(u:Value):Fr b w.heap.size w (w.setCell ⟨b,i,none⟩ u):=Fr.just ((jk b w).set i u) (zG _)
theorem DR.setK {w:World}{b c:Nat}{A:Option Addr}{k k' v:List Nat}{n:Int}(h:DR w b k v n)(ho:RB w (fun g=>g<w.heap.size) A c k')(hl:k'.length=32):DR (w.setCell ⟨b,0,none⟩ (.slice A 32 c)) b k' v n:=by
 have hd:=h;obtain⟨Ak,ck,Av,cv,h1,h2,h3,h4,h5⟩:=h;exact⟨A,c,Av,cv,jM h1 0 _,ho.dr' hd (DR.frS _ _),h3.dr' hd (DR.frS _ _),hl,h5⟩
theorem DR.setV {w:World}{b c:Nat}{A:Option Addr}{k v v':List Nat}{n:Int}(h:DR w b k v n)(ho:RB w (fun g=>g<w.heap.size) A c v')(hl:v'.length=32):DR (w.setCell ⟨b,1,none⟩ (.slice A 32 c)) b k v' n:=by
 have hd:=h;obtain⟨Ak,ck,Av,cv,h1,h2,h3,h4,h5⟩:=h;exact⟨Ak,ck,A,c,jM h1 1 _,h2.dr' hd (DR.frS _ _),ho.dr' hd (DR.frS _ _),h4,hl⟩
theorem DR.setN {w:World}{b:Nat}{k v:List Nat}{n:Int}(h:DR w b k v n)(m:Int):DR (w.setCell ⟨b,2,none⟩ (.int .i64 m)) b k v m:=by
 have hd:=h;obtain⟨Ak,ck,Av,cv,h1,h2,h3,h4,h5⟩:=h;exact⟨Ak,ck,Av,cv,jM h1 2 _,h2.dr' hd (DR.frS _ _),h3.dr' hd (DR.frS _ _),h4,h5⟩
theorem uL (k m:List Nat):(bu k m).length=32:=cQ _
def oG (k v d:List Nat) (c:Nat):List Nat×List Nat:=(bu k (v++[c]++d),bu (bu k (v++[c]++d)) v)
def gc (k v d:List Nat):List Nat×List Nat:=if d.length=0 then oG k v d 0 else oG (oG k v d 0).1 (oG k v d 0).2 d 1
theorem OW.rb' {w:World}{base:Nat}{A:Option Addr}{c:Nat}{bs:List Nat}(h:OW w base A c bs)(hl:bs.length≤100000000):RB w (fun k=>k<w.heap.size) A c bs:=(h.rb hl).mono fun _ hk=>hk.2
theorem RS.lit (w:World)(cs:Array Value)(t:TypeId)(hl:cs.size≤maxLen):RS (w.alloc (.cells cs t)) (fun k=>k<(w.alloc (.cells cs t)).heap.size) 1 (some ⟨w.heap.size,0,none⟩) cs.size cs.size cs.toList :=
 RS.fresh cs t 1 cs.size (by simp) hl (by rw[qB];omega)
theorem mac3 {b x:Nat}{k v:List Nat}{n:Int}{P:Nat→Prop}{A:Option Addr}{c:Nat}{d:List Nat}(w:World)(hk:KW w)(hd:DR w b k v n)(hx:x<256)(hp:RB w P A c d)(hP:∀ k,P k→k<w.heap.size)(hl:d.length≤200000){Av:Option Addr}{cv:Nat}(hv:w.cell? ⟨b,1,none⟩=some (.slice Av 32 cv)) :
 Calls Tryz.prog 71 #[.pointer (some ⟨b,0,none⟩),.slice (some ⟨w.heap.size+1,0,none⟩) 3 3] ((w.alloc (.cells #[.int .u8 (x:Int)] 5)).alloc (.cells #[.slice Av 32 cv,.slice (some ⟨w.heap.size,0,none⟩) 1 1,.slice A d.length c] 22))
  fun e w'=>∃ A' c',e=.returned (.slice A' 32 c')∧OW w' w.heap.size A' c' (bu k (v++[x]++d))∧Ext w w':=by
 obtain⟨W1,hW1⟩:=eV (w.alloc (.cells #[.int .u8 (x:Int)] 5))
 have hx1:=OW.lit w x hx
 have hE1:Ext w W1:=by rw[←hW1];exact zO _ _
 have hz1:w.heap.size+1=W1.heap.size:=by rw[←hW1,qB]
 rw[hW1]at hx1 ⊢
 rw[hz1]
 have hE2:=zO W1 (.cells #[.slice Av 32 cv,.slice (some ⟨w.heap.size,0,none⟩) 1 1,.slice A d.length c] 22)
 have hr:=RS.lit W1 #[.slice Av 32 cv,.slice (some ⟨w.heap.size,0,none⟩) 1 1,.slice A d.length c] 22 (by simp[maxLen])
 obtain⟨W2,hW2⟩:=eV (W1.alloc (.cells #[.slice Av 32 cv,.slice (some ⟨w.heap.size,0,none⟩) 1 1,.slice A d.length c] 22))
 rw[hW2]at hE2 hr ⊢
 have hE:=hE1.trans hE2
 obtain⟨Ak,ck,Av',cv',h1,h2,h3,h4,h5⟩:=hd
 have e1:=zQ h1 1
 rw[hv]at e1
 simp only[zR,zi,qo,Option.some.injEq,Value.slice.injEq]at e1
 obtain⟨rfl,_,rfl⟩:=e1
 have c0:W2.cell? ⟨b,0,none⟩=some (.slice Ak 32 ck):=hE.cell (zQ h1 0)
 have o2:=h2.upE hE
 have o3:=h3.upE hE
 have o1:=(hx1.same (w':=W2) fun g _ cs hk=>hE2.at_ hk).rb' (by simp)
 have hq:RP W2 (fun k=>k<W2.heap.size) (some ⟨W1.heap.size,0,none⟩) 3 [v,[x],d]:=by
  refine⟨_,hr,fun i hi=>?_⟩;match i,hi with
  | 0,_=>exact⟨Av,cv,by simp[h5],o3⟩
  | 1,_=>exact⟨some ⟨w.heap.size,0,none⟩,1,by simp,o1⟩
  | 2,_=>exact⟨A,c,by simp,(hp.below hE hP).mono fun k hk=>zI (hP k hk) hE.bsize⟩
  | i+3,hi=>exact absurd hi (by simp only[jZ,kA];omega)
 rw[←h4]at c0
 have hm:=ri W2 (hk.ext hE) c0 o2 (fun _ h=>h) (by omega) (by omega) hq (fun _ h=>h) (by simp[h5];omega) (by
  intro y hy
  simp only[List.flatten_cons,List.flatten_nil,List.append_nil,List.mem_append,List.mem_singleton]at hy
  rcases hy with hy|hy|hy
  · exact o3.2.1 y hy
  · omega
  · exact hp.2.1 y hy)
 refine hm.mono ?_
 rintro e w' ⟨A',c',rfl,ho,hE'⟩
 refine⟨A',c',rfl,?_,hE.trans hE'⟩
 have:=ho.mono hE.bsize
 simpa using this
theorem zDx {b:Nat}{k v:List Nat}{n:Int}(w:World)(hk:KW w)(hd:DR w b k v n){Av:Option Addr}{cv:Nat}(hv:w.cell? ⟨b,1,none⟩=some (.slice Av 32 cv)) :
 Calls Tryz.prog 71 #[.pointer (some ⟨b,0,none⟩),.slice (some ⟨w.heap.size,0,none⟩) 1 1] (w.alloc (.cells #[.slice Av 32 cv] 22))
  fun e w'=>∃ A' c',e=.returned (.slice A' 32 c')∧OW w' w.heap.size A' c' (bu k v)∧Ext w w':=by
 have hE:=zO w (.cells #[.slice Av 32 cv] 22)
 have hr:=RS.lit w #[.slice Av 32 cv] 22 (by simp[maxLen])
 obtain⟨W2,hW2⟩:=eV (w.alloc (.cells #[.slice Av 32 cv] 22))
 rw[hW2]at hE hr ⊢
 obtain⟨Ak,ck,Av',cv',h1,h2,h3,h4,h5⟩:=hd
 have e1:=zQ h1 1
 rw[hv]at e1
 simp only[zR,zi,qo,Option.some.injEq,Value.slice.injEq]at e1
 obtain⟨rfl,_,rfl⟩:=e1
 have c0:W2.cell? ⟨b,0,none⟩=some (.slice Ak 32 ck):=hE.cell (zQ h1 0)
 have o2:=h2.upE hE
 have o3:=h3.upE hE
 have hq:RP W2 (fun k=>k<W2.heap.size) (some ⟨w.heap.size,0,none⟩) 1 [v]:=by
  refine⟨_,hr,fun i hi=>?_⟩;match i,hi with
  | 0,_=>exact⟨Av,cv,by simp[h5],o3⟩
  | i+1,hi=>exact absurd hi (by simp only[jZ,kA];omega)
 rw[←h4]at c0
 have hm:=ri W2 (hk.ext hE) c0 o2 (fun _ h=>h) (by omega) (by omega) hq (fun _ h=>h) (by simp[h5]) (by
  intro y hy
  simp only[List.flatten_cons,List.flatten_nil,List.append_nil]at hy
  exact o3.2.1 y hy)
 refine hm.mono ?_
 rintro e w' ⟨A',c',rfl,ho,hE'⟩
 refine⟨A',c',rfl,?_,hE.trans hE'⟩
 have:=ho.mono hE.bsize
 simpa using this
end Go.Proofs.YtaemogcomplhiaaGreatDoor
