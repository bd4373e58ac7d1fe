/- Laws that the proof rests on. -/
import Derived.Test.YtaemogcomplhiaaGreatDoorQ2d192ac3cad4
set_option maxRecDepth 100000
set_option maxHeartbeats 16000000
namespace Go.Proofs.YtaemogcomplhiaaGreatDoor
open Go.RowKit
theorem cI {g n inv M:Nat}{ml ol rl:List Nat}(a b:List Nat)(w:World)(hF:FF w g n inv M ml ol rl)(ha:Elt M a)(hb:Elt M b) :
 Calls Tryz.prog 102 #[.pointer (some ⟨g,0,none⟩),EV a,EV b] w fun e w'=>∃ o,e=.returned (EV o)∧Elt M o∧val 18446744073709551616 o*18446744073709551616^n%M=val 18446744073709551616 a*val 18446744073709551616 b%M∧Below w.heap.size w w':=by
 have hg:=hF.fld.lt
 have h0:=hF.fld.n0
 have hn:=hF.nle
 have hn1:=hF.npos
 have ta:=ha.take hF
 have tb:=hb.take hF
 obtain⟨a0,a1,a2,a3,a4,a5,hae⟩:=six ha.six
 obtain⟨b0,b1,b2,b3,b4,b5,hbe⟩:=six hb.six
 obtain⟨l1,l2,l3,l4,hz,hB0⟩:=zDy w (.cells #[.int .u64 (a0:Int),.int .u64 (a1:Int),.int .u64 (a2:Int),.int .u64 (a3:Int),.int .u64 (a4:Int),.int .u64 (a5:Int)] 109)
  (.cells #[.int .u64 (b0:Int),.int .u64 (b1:Int),.int .u64 (b2:Int),.int .u64 (b3:Int),.int .u64 (b4:Int),.int .u64 (b5:Int)] 109) (.cells #[.int .u64 0,.int .u64 0,.int .u64 0,.int .u64 0,.int .u64 0,.int .u64 0] 109)
  (.cells #[.int .u64 0,.int .u64 0,.int .u64 0,.int .u64 0,.int .u64 0,.int .u64 0,.int .u64 0,.int .u64 0] 175)
 have hva:EV a=.agg #[.int .u64 (a0:Int),.int .u64 (a1:Int),.int .u64 (a2:Int),.int .u64 (a3:Int),.int .u64 (a4:Int),.int .u64 (a5:Int)]:=by rw[hae];rfl
 have hvb:EV b=.agg #[.int .u64 (b0:Int),.int .u64 (b1:Int),.int .u64 (b2:Int),.int .u64 (b3:Int),.int .u64 (b4:Int),.int .u64 (b5:Int)]:=by rw[hbe];rfl
 rw[hva,hvb]
 have h00:=(hB0.cell (p:=⟨g,0,none⟩) hg).trans h0
 go_enter Tryz.func102,Tryz.ntmps102
 go_wp2_with fail
 generalize(((w.alloc (.cells #[.int .u64 (a0:Int),.int .u64 (a1:Int),.int .u64 (a2:Int),.int .u64 (a3:Int),.int .u64 (a4:Int),.int .u64 (a5:Int)] 109)).alloc
  (.cells #[.int .u64 (b0:Int),.int .u64 (b1:Int),.int .u64 (b2:Int),.int .u64 (b3:Int),.int .u64 (b4:Int),.int .u64 (b5:Int)] 109)).alloc (.cells #[.int .u64 0,.int .u64 0,.int .u64 0,.int .u64 0,.int .u64 0,.int .u64 0] 109)).alloc
  (.cells #[.int .u64 0,.int .u64 0,.int .u64 0,.int .u64 0,.int .u64 0,.int .u64 0,.int .u64 0,.int .u64 0] 175)=W0 at *
 have A0:vg W0 w.heap.size 109 a:=by rw[hae];exact l1
 have B0:vg W0 (w.heap.size+1) 109 b:=by rw[hbe];exact l2
 have T0:vg W0 (w.heap.size+1+1+1) 175 [0,0,0,0,0,0,0,0]:=l4
 have hW0:w.heap.size+4≤W0.heap.size:=by omega
 have Ha:=zF ha
 have Hb:=zF hb
 have Hae:=zF hae
 have Hbe:=zF hbe
 have HF:=zF hF
 clear l1 l2 l4 hz ha hb hae hbe hva hvb hF
 have hmg:Hid (∀ j,j<6→True):=zF fun _ _=>trivial
 go_loopw [24] (fun iv wr=>∃(i:Nat) (o:List Nat),iv=.int .i64 (i:Int)∧i≤n∧Hid (da 18446744073709551616 M a b (val 18446744073709551616 (o.take (n+1))) i)∧Hid (o.length=8)∧Hid (∀ x∈o,x<18446744073709551616)∧vg wr (w.heap.size+1+1+1) 175 o∧Below (w.heap.size+1+1+1) W0 wr) (fun iv _=>n-(intOf iv).toNat)
 case atStart=>exact⟨0,_,rfl,by omega,zF (by
  have h1:val 18446744073709551616 (([0,0,0,0,0,0,0,0]:List Nat).take (n+1))=0:=vw fun x hx=>by have:=qM hx;simp at this;exact this
  rw[h1];exact da.zero _ _ (by have:=HF.out.big;omega)),zF rfl,zF (by simp),T0,zl _ _⟩
 case round =>
  obtain⟨i,o,rfl,hi,HM,Ho,Hlo,hblk,hB⟩:=hrel;have hBw:Below w.heap.size w wr:=hB0.trans (hB.mono (by omega));have c0:=(HF.out.below hBw hg).fld.n0;by_cases hlt:i<n
  · have dai:dg a i<18446744073709551616:=jS (by omega) Ha.out.lim i;obtain⟨ai,hai⟩:=eV (dg a i);rw[hai]at dai;have Hai:=zF hai;have ki6:(i:Int)<6:=by omega
    have hstart:=yK.zero 18446744073709551616 o b ai;have Hstart:=zF hstart;clear hai hstart hBw;go_wp2_with fail;go_loopw [11,28] (fun cv jv wr=>∃(j cr:Nat) (o1:List Nat),jv=.int .i64 (j:Int)∧cv=.int .u64 (cr:Int)∧j≤n∧cr<18446744073709551616∧Hid (yK 18446744073709551616 o b o1 ai j cr)∧Hid (∀ x∈o1,x<18446744073709551616)∧vg wr (w.heap.size+1+1+1) 175 o1∧Below (w.heap.size+1+1+1) W0 wr) (fun _ jv _=>n-(intOf jv).toNat);case atStart=>exact⟨0,0,o,rfl,rfl,by omega,by omega,Hstart,Hlo,hblk,hB⟩
    case round =>
     clear hblk hB c0;obtain⟨j,cr,o1,rfl,rfl,hj,hcr,HA,Hlo1,hblk,hB⟩:=hrel;have hl1:o1.length=8:=by have:=HA.out.1;have:=Ho.out;omega
     have hBw:Below w.heap.size w wr:=hB0.trans (hB.mono (by omega));have hAr:=A0.below hB (by omega);have hBr:=B0.below hB (by omega);by_cases hjt:j<n
     · have q1:=hAr.cell (i:=i) (by rw[Ha.out.six];omega);rw[Hai.out]at q1;have q2:=hBr.cell (i:=j) (by rw[Hb.out.six];omega);have q3:=hblk.cell (i:=j) (by omega);have q4:=hblk.free j;have db:dg b j<18446744073709551616:=jS (by omega) Hb.out.lim j;have d1:dg o1 j<18446744073709551616:=jS (by omega) Hlo1.out j;obtain⟨hi',lo,s1,c1,s2,c2,b1,b2,b3,b4,b5,b6,b7,b8,b9,b10,he⟩:=dF ai (dg b j) (dg o1 j) cr dai db d1 hcr;have hmul:=zF (fun k=>(ya ai (dg b j) hi' lo dai db b1 b2 (World.drewN wr k)).mono fun e w' (h:e=_∧_=w')=>(⟨h.1,h.2.symm⟩:e=.returned (.tuple #[.int .u64 (hi':Int),.int .u64 (lo:Int)])∧w'=World.drewN wr k));have hadd1:=fun w=>kJ lo (dg o1 j) 0 s1 c1 (by omega) b3 b4 w;have hadd2:=fun w=>kJ s1 cr 0 s2 c2 (by omega) b5 b6 w;simp only[qW]at hadd1 hadd2;have hA':=zF (HA.out.step (s:=s2) (c':=hi'+c1+c2) (by have:=Ho.out;omega) (by rw[he];omega));have hblk':=hblk.set j s2;have hB':=hB.setCell (p:=⟨w.heap.size+1+1+1,j,none⟩) (zG _) (.int .u64 (s2:Int));have Hlo':Hid (∀ x∈o1.set j s2,x<18446744073709551616):=zF (wy Hlo1.out b5);have kj8:(j:Int)<8:=by omega
       have kj6:(j:Int)<6:=by omega
       have hl8:(o1.set j s2).length=8:=by simpa using hl1
       clear he b2 b4 b6 HA hB hBw hAr hBr hl1 hblk;go_wp2_with fail;go_quiet (first|(go_at_call 98;exact Calls.quiet_of_same (hmul.out _)));go_wp2_with fail;go_roundw;case rel=>exact⟨j+1,hi'+c1+c2,o1.set j s2,by go_num,by go_num,by omega,b10,hA',Hlo',hblk',jC hB' _⟩
       case measure=>simp[intOf];omega
     · obtain rfl:j=n:=by omega
       have q3:=hblk.cell (i:=j) (by omega);have q4:=hblk.free j;have d1:dg o1 j<18446744073709551616:=jS (by omega) Hlo1.out j;obtain⟨s,c1,hs1,hs2,hs3⟩:=ye (dg o1 j) cr 0 d1 hcr (by omega);have hadd:=fun w=>kJ (dg o1 j) cr 0 s c1 (by omega) hs1 hs3 w;simp only[qW]at hadd;obtain⟨hl2,hv2⟩:=HA.out.fin (s:=s) (c':=c1) (by have:=Ho.out;omega) (.inr tb) (by omega);have hlim2:∀ x∈(o1.set j s).set (j+1) c1,x<18446744073709551616:=wy (wy Hlo1.out hs1) (by omega);have hblk1:=hblk.set j s;have q5:=hblk1.cell (i:=j+1) (by simp;omega);have q6:=hblk1.free (j+1);have hblk2:=hblk1.set (j+1) c1;have hB2:=(hB.setCell (p:=⟨w.heap.size+1+1+1,j,none⟩) (zG _) (.int .u64 (s:Int))).setCell (p:=⟨w.heap.size+1+1+1,j+1,none⟩) (zG _) (.int .u64 (c1:Int));have kj8:(j:Int)<8:=by omega
       have kj9:(j:Int)+1<8:=by omega
       have hl2':((o1.set j s).set (j+1) c1).length=8:=by rw[hl2];exact Ho.out
       generalize ho2:(o1.set j s).set (j+1) c1=o2 at *;have hW2:=hB2.size;have m0:dg ml 0<18446744073709551616:=jS (by omega) HF.out.mlt 0;have t0:dg o2 0<18446744073709551616:=jS (by omega) hlim2 0;have HV2:=zF hv2;have Hl2:=zF hl2';have Hlim2:=zF hlim2;clear hs3 HA hv2 hl2 hl2' hlim2 hblk hblk1 hB ho2 hBw hAr hBr;go_wp2_with fail;generalize(World.setCell wr ⟨w.heap.size+1+1+1,j,none⟩ (.int .u64 (s:Int))).setCell ⟨w.heap.size+1+1+1,j+1,none⟩ (.int .u64 (c1:Int))=W2 at *;have hBw2:Below w.heap.size w W2:=hB0.trans (hB2.mono (by omega));have hF2:=HF.out.below hBw2 hg;have i7:=hF2.fld.inv_;have i1:=hF2.fld.m_ (j:=0) (by omega);have e0:=hblk2.cell (i:=0) (by have:=Hl2.out;omega);obtain⟨u,hu⟩:=eV (dg o2 0*inv%18446744073709551616);have hub:u<18446744073709551616:=by rw[←hu];exact qL _ (by omega)
       have hwu:=ti (dg o2 0) inv;rw[hu]at hwu;have hV0:(val 18446744073709551616 (o.take (j+1))+ai*val 18446744073709551616 b)%18446744073709551616=dg o2 0:=by rw[←HV2.out];exact g9 Hlim2.out (by omega) _
       have hM0:M%18446744073709551616=dg ml 0:=by
        obtain⟨k,hk⟩:∃ k,j=k+1:=⟨j-1,by omega⟩
        rw[←HF.out.mtake,hk];exact g9 HF.out.mlt (by omega) _
       have hz:=zAy (by omega) HF.out.invV hV0 hM0 hu.symm;obtain⟨hi',lo,c2,b1,b2,b3,b4,b5,b6⟩:=tA hub m0 t0 hz;have hmul:=zF (fun w=>ya u (dg ml 0) hi' lo hub m0 b1 b2 w);have hadd3:=fun w=>kJ lo (dg o2 0) 0 0 c2 (by omega) (by omega) b4 w;simp only[qW]at hadd3;obtain⟨p0,hp0⟩:∃ p0,p0+1=j:=⟨j-1,by omega⟩
       have Hs0:=zF (yJ.zero (t:=o2) (m:=ml) (u:=u) (c:=hi'+c2) b6);have Hu:=zF (show u=(val 18446744073709551616 (o.take (j+1))+dg a i*val 18446744073709551616 b)%18446744073709551616*inv%18446744073709551616 by rw[Hai.out,hV0,hu]);have Hp0:=zF hp0;clear hu hV0 hM0 hz b2 b4 b6 hp0;go_quiet (fail);go_wp2_with fail;refine(hmul.out _).mono ?_;rintro e w3 ⟨rfl,rfl⟩;go_wp2_with fail;have hblk3:vg (W2.drewN nq) (w.heap.size+1+1+1) 175 o2:=hblk2;have hB3:=jC hB2 nq;clear hblk2 hB2 e0 i7 i1 hF2 hBw2 q3 q4 q5 q6 hmul;generalize W2.drewN nq=W3 at *;go_loopw [11,18] (fun cv qv wr=>∃(k cr:Nat) (o3:List Nat),qv=.int .i64 ((k:Int)+1)∧cv=.int .u64 (cr:Int)∧k+1≤j∧cr<18446744073709551616∧Hid (yJ 18446744073709551616 o2 ml o3 u k cr)∧Hid (∀ x∈o3,x<18446744073709551616)∧vg wr (w.heap.size+1+1+1) 175 o3∧Below (w.heap.size+1+1+1) W0 wr) (fun _ qv _=>j-(intOf qv).toNat);case atStart=>exact⟨0,hi'+c2,o2,rfl,by go_num,by omega,b5,Hs0,Hlim2,hblk3,hB3⟩
       case round =>
        clear hblk3 hB3;obtain⟨k,cr,o3,rfl,rfl,hk,hcr,HS,Hlo3,hblk,hB⟩:=hrel;have hl3:o3.length=8:=by have:=HS.out.1;have:=Hl2.out;omega
        have hBw:Below w.heap.size w wr:=hB0.trans (hB.mono (by omega));have hFr:=(HF.out.below hBw hg).fld;by_cases hkt:k+1<j
        · have i1:=hFr.m_ (j:=k+1) (by omega);have q3:=hblk.cell (i:=k+1) (by omega);have q4:=hblk.free k;have q5:=hblk.cell (i:=k) (by omega);have dm:dg ml (k+1)<18446744073709551616:=jS (by omega) HF.out.mlt (k+1);have d1:dg o3 (k+1)<18446744073709551616:=jS (by omega) Hlo3.out (k+1);obtain⟨hi',lo,s1,c1,s2,c2,b1,b2,b3,b4,b5,b6,b7,b8,b9,b10,he⟩:=dF u (dg ml (k+1)) (dg o3 (k+1)) cr hub dm d1 hcr;have hmul:=zF (fun w=>ya u (dg ml (k+1)) hi' lo hub dm b1 b2 w);have hadd1:=fun w=>kJ lo (dg o3 (k+1)) 0 s1 c1 (by omega) b3 b4 w;have hadd2:=fun w=>kJ s1 cr 0 s2 c2 (by omega) b5 b6 w;simp only[qW]at hadd1 hadd2;have hS':=zF (HS.out.step (s:=s2) (c':=hi'+c1+c2) (by have:=Hl2.out;omega) (by rw[he];omega));have hblk':=hblk.set k s2;have hB':=hB.setCell (p:=⟨w.heap.size+1+1+1,k,none⟩) (zG _) (.int .u64 (s2:Int));have Hlo':Hid (∀ x∈o3.set k s2,x<18446744073709551616):=zF (wy Hlo3.out b5);have kj8:(k:Int)+1<8:=by omega
          have kj6:(k:Int)+1<6:=by omega
          have kk8:(k:Int)<8:=by omega
          clear he b2 b4 b6 HS hB hBw hFr hl3 hblk;go_wp2_with fail;refine(hmul.out _).mono ?_;rintro e w3 ⟨rfl,rfl⟩;go_wp2;go_roundw;case rel=>exact⟨k+1,hi'+c1+c2,o3.set k s2,by go_num,by go_num,by omega,b10,hS',Hlo',hblk',hB'⟩
          case measure=>simp[intOf];omega
        · have hkj:k+1=j:=by omega
          have q3:=hblk.cell (i:=j) (by omega);have q4:=hblk.free k;have q5:=hblk.cell (i:=k) (by omega);have d1:dg o3 j<18446744073709551616:=jS (by omega) Hlo3.out j;obtain⟨s,c1,hs1,hs2,hs3⟩:=ye (dg o3 j) cr 0 d1 hcr (by omega);have hadd:=fun w=>kJ (dg o3 j) cr 0 s c1 (by omega) hs1 hs3 w;simp only[qW]at hadd;obtain⟨hl4,hv4⟩:=HS.out.fin (s:=s) (c':=c1) (by have:=Hl2.out;omega) (by rw[hkj,HF.out.mtake,HF.out.mval]) (by rw[hkj];omega);rw[HF.out.mval,show k+3=j+2 by omega,HV2.out]at hv4;have hM4:=da.step (by omega) HM.out (by rw[Hai.out];exact dai) Hu.out rfl (T4:=val 18446744073709551616 (((o3.set k s).set (k+1) (dg o3 (k+2)+c1)).take (k+2))) (by rw[Hai.out];exact hv4.symm);have htop:dg o3 (k+2)+c1≤1:=by
           have e1:=qC 18446744073709551616 ((o3.set k s).set (k+1) (dg o3 (k+2)+c1)) (k+1);rw[vm (by simp;omega)]at e1;have e2:=hM4.1;have e3:=HF.out.room;rw[←hkj]at e3;exact sX e1 e2 (jV e3) Hb.out.lt
          have hlim4:∀ x∈(o3.set k s).set (k+1) (dg o3 (k+2)+c1),x<18446744073709551616:=wy (wy Hlo3.out hs1) (by omega);rw[show k+2=j+1 by omega,hkj]at hM4 hlim4 hl4;rw[show k+2=j+1 by omega]at htop;have hblk1:=hblk.set k s;have q6:=hblk1.cell (i:=j+1) (by simp;omega);rw[getD_set_ne (by omega)]at q6;have q7:=hblk1.cell (i:=j) (by simp;omega);have q8:=hblk1.free j;have hblk2:=hblk1.set j (dg o3 (j+1)+c1);have hB2:=(hB.setCell (p:=⟨w.heap.size+1+1+1,k,none⟩) (zG _) (.int .u64 (s:Int))).setCell (p:=⟨w.heap.size+1+1+1,j,none⟩) (zG _) (.int .u64 ((dg o3 (j+1)+c1:Nat):Int));have kj8:(j:Int)<8:=by omega
          have kj9:(j:Int)+1<8:=by omega
          have kk8:(k:Int)<8:=by omega
          have hl5:((o3.set k s).set j (dg o3 (j+1)+c1)).length=8:=by simpa using hl3
          have HM4:=zF hM4;have Hlim4:=zF hlim4;have Hl5:=zF hl5;have hwt:=qt ((dg o3 (j+1):Int)+(c1:Int)) (by omega);have Hwt:=zF hwt;have Hkj:=zF hkj;clear hs3 HS hv4 hM4 hlim4 hl4 hl5 hblk hblk1 hB hBw hFr htop hkj hwt;go_upto_region 30 with fail;have i0:(j:Int)-1=(k:Int):=by have:=Hkj.out;omega
          go_upto_region 31 with fail;have hwt:=Hwt.out;go_wp2_with fail;refine⟨⟨i+1,(o3.set k s).set j (dg o3 (j+1)+c1),by go_num,by omega,HM4,Hl5,Hlim4,by simpa using hblk2,by simpa using hB2⟩,by simp[intOf];omega⟩
  · obtain rfl:i=n:=by omega
    obtain⟨hTb,kk,hTk⟩:=HM.out;have hFr:=HF.out.below hBw hg;have hT:val 18446744073709551616 (o.take i)+18446744073709551616^i*dg o i=val 18446744073709551616 (o.take (i+1)):=(qC _ _ _).symm;have q1:=hblk.cell (i:=i) (by have:=Ho.out;omega);have hbel:=cJ (w.heap.size+1+1+1) (dg o i) o wr hFr.fld hFr.mlt hblk (by omega) Ho.out Hlo.out hn hn1 (by rw[hFr.mtake,hFr.mval]) (jS (by omega) Hlo.out i) (by rw[hT,hFr.mval];have:=Hb.out.lt;omega);rw[hT,hFr.mval]at hbel;have hoff:=zAh (v:=val 18446744073709551616 (o.take (i+1))) (M:=M) (R:=18446744073709551616^i) hTk;rw[ta]at hoff;have hltm:=rS (v:=val 18446744073709551616 (o.take (i+1))) (M:=M) (by have:=Hb.out.lt;omega);have Hoff:=zF hoff;have Hltm:=zF hltm;have Hbel:=zF hbel;have ki8:(i:Int)<8:=by omega
    clear hbel hT hFr hTb hTk hoff hltm hblk;go_wp2_with fail;refine Hbel.out.mono ?_;rintro e w2 ⟨o2,rfl,ho6,hlim,hv2,hB2⟩;obtain⟨x0,x1,x2,x3,x4,x5,hoe⟩:=six ho6;have hrb:=(hB2.block (w.heap.size+1+1) (by have:=hB.size;omega)).trans ((hB.block (w.heap.size+1+1) (by omega)).trans l3);obtain⟨r0,r1,r2,r3,r4,r5⟩:=xt hrb;have z:=fun i=>qu hrb i;have z0:=z 0;have z1:=z 1;have z2:=z 2;have z3:=z 3;have z4:=z 4;have z5:=z 5;have hrb':=hrb;have hBf:Below w.heap.size w w2:=hBw.trans (hB2.mono hBw.size);have Hv2:=zF hv2;have Ho6:=zF ho6;have Hlim:=zF hlim;have Hoe:=zF hoe;have hve:EV o2=.agg #[.int .u64 (x0:Int),.int .u64 (x1:Int),.int .u64 (x2:Int),.int .u64 (x3:Int),.int .u64 (x4:Int),.int .u64 (x5:Int)]:=by rw[hoe];rfl
    rw[hve];clear hve hoe hv2 ho6 hlim z hrb hB2 hB Hbel;go_wp2_with fail;refine pU rfl rfl rfl (uV hrb' _ _ _ _ _ _) ?_;exact⟨o2,by rw[Hoe.out];rfl,⟨Ho6.out,Hlim.out,by rw[Hv2.out];exact Hltm.out⟩,by rw[Hv2.out];exact Hoff.out,xT hBf (by omega) _ _ _ _ _ _⟩
theorem yf {a b c M:Nat}(h:(a+c)%M=(b+c)%M):a%M=b%M:=by
 have h1:=congrArg (fun z:Nat=>(z:Int)) h;simp only[Int.natCast_emod,vX]at h1;have h2:((a:Int)+c-c)%M=((b:Int)+c-c)%M:=by rw[Int.sub_emod,h1,←Int.sub_emod]
 rw[Int.add_sub_cancel,Int.add_sub_cancel]at h2;exact_mod_cast h2
theorem mA {x y M R:Nat}(hM:0<M)(hy:y≤M):bf (x*R%M) (y*R%M) M=(x+M-y)*R%M:=by
 have h1:=qL (x*R) hM;have h2:=qL (y*R) hM;rw[zAB h1 h2];refine yf (c:=y*R%M) ?_;rw[show x*R%M+M-y*R%M+y*R%M=x*R%M+M by omega,Nat.add_mod_right,vu];rw[Nat.add_mod_mod,←qY,show x+M-y+y=x+M by omega,qY,qm]
theorem zB7 {x M:Nat}(h:x<2*M):dE x M=x%M:=by
 rw[dE];split
 · rw[zy (by assumption)]
 · rw[show x=x-M+M by omega,Nat.add_mod_right,zy (by omega)];omega
structure FE (M n:Nat) (l:List Nat) (x:Nat):Prop where
 elt:Elt M l
 form:val 18446744073709551616 l=x*18446744073709551616^n%M
theorem FE.mod {M n:Nat}{l:List Nat}{x:Nat}(h:FE M n l x):FE M n l (x%M):=⟨h.elt,by rw[yN];exact h.form⟩
theorem FE.zero_iff {w:World}{g n inv M:Nat}{ml ol rl l:List Nat}{x:Nat}(h:FE M n l x)(hF:FF w g n inv M ml ol rl):l=[0,0,0,0,0,0]↔x%M=0:=by
 constructor
 · intro hz;have h1:=h.form;rw[hz]at h1;have h2:x*18446744073709551616^n%M=0*18446744073709551616^n%M:=by rw[←h1];simp
   have:=cG hF.invV h2;simpa using this
 · intro hz;have h1:=h.form;rw[←yN,hz,Nat.zero_mul,kL]at h1;obtain⟨a,b,c,d,e,f,rfl⟩:=six h.elt.six;simp only[jr,zBk]at h1;simp;omega
theorem uM {g n inv M:Nat}{ml ol rl:List Nat}{a b:List Nat}{x y:Nat}(w:World)(hF:FF w g n inv M ml ol rl)(ha:FE M n a x)(hb:FE M n b y) :
 Calls Tryz.prog 102 #[.pointer (some ⟨g,0,none⟩),EV a,EV b] w fun e w'=>∃ o,e=.returned (EV o)∧FE M n o (x*y)∧Below w.heap.size w w':=by
 refine(cI a b w hF ha.elt hb.elt).mono ?_
 rintro e w' ⟨o,rfl,ho,hv,hB⟩
 refine⟨o,rfl,⟨ho,?_⟩,hB⟩
 rw[ha.form,hb.form,←ks]at hv
 have h1:val 18446744073709551616 o*18446744073709551616^n%M=(x*y*18446744073709551616^n)*18446744073709551616^n%M:=by
  rw[hv];congr 1;generalize 18446744073709551616^n=R;rw[Nat.mul_mul_mul_comm,za (x*y)]
 have h2:=cG hF.invV h1
 rwa [zy ho.lt]at h2
theorem oJ {g n inv M:Nat}{ml ol rl:List Nat}{a b:List Nat}{x y:Nat}(w:World)(hF:FF w g n inv M ml ol rl)(ha:FE M n a x)(hb:FE M n b y) :
 Calls Tryz.prog 101 #[.pointer (some ⟨g,0,none⟩),EV a,EV b] w fun e w'=>∃ o,e=.returned (EV o)∧FE M n o (x+y)∧Below w.heap.size w w':=by
 refine(tg a b w hF ha.elt hb.elt).mono ?_
 rintro e w' ⟨o,rfl,ho,hv,hB⟩
 refine⟨o,rfl,⟨ho,?_⟩,hB⟩
 have h1:=ha.elt.lt
 have h2:=hb.elt.lt
 rw[hv,zB7 (by omega),ha.form,hb.form,←vv,←qY]
theorem bO {g n inv M:Nat}{ml ol rl:List Nat}{a b:List Nat}{x y:Nat}(w:World)(hF:FF w g n inv M ml ol rl)(ha:FE M n a x)(hb:FE M n b y)(hy:y≤M) :
 Calls Tryz.prog 103 #[.pointer (some ⟨g,0,none⟩),EV a,EV b] w fun e w'=>∃ o,e=.returned (EV o)∧FE M n o (x+M-y)∧Below w.heap.size w w':=by
 refine(td a b w hF ha.elt hb.elt).mono ?_
 rintro e w' ⟨o,rfl,ho,hv,hB⟩
 refine⟨o,rfl,⟨ho,?_⟩,hB⟩
 rw[hv,ha.form,hb.form,mA (by have:=hF.big;omega) hy]
theorem zBM {x y b M:Nat}(hM:3<M):(y*y+M-(((x*x+M-3)*x+b)%M))%M=0↔y*y%M=((x*x%M*x%M+M-3*x%M)%M+b)%M:=by
 have h0:0<M:=by omega
 have hr:=qL ((x*x+M-3)*x+b) h0;have e1:(y*y+M-(((x*x+M-3)*x+b)%M))%M=0↔y*y%M=((x*x+M-3)*x+b)%M:=by
  constructor
  · intro h;have h1:(y*y+M-(((x*x+M-3)*x+b)%M)+(((x*x+M-3)*x+b)%M))%M=(0+((x*x+M-3)*x+b)%M)%M:=by rw[vv,h,vu,jH]
    rw[show y*y+M-(((x*x+M-3)*x+b)%M)+(((x*x+M-3)*x+b)%M)=y*y+M by omega,Nat.add_mod_right,jH,vu]at h1;exact h1
  · intro h;have h1:(y*y+M-(((x*x+M-3)*x+b)%M)+(((x*x+M-3)*x+b)%M))%M=(0+((x*x+M-3)*x+b)%M)%M:=by
     rw[show y*y+M-(((x*x+M-3)*x+b)%M)+(((x*x+M-3)*x+b)%M)=y*y+M by omega,Nat.add_mod_right,jH,vu];exact h
    have h2:=yf h1;rwa [kL]at h2
 have h3:=qL (3*x) h0;have h4:(x*x+M-3)*x%M=(x*x%M*x%M+M-3*x%M)%M:=by
  refine yf (c:=3*x) ?_;rw[←qY,show x*x+M-3+3=x*x+M by omega,qY,qm];rw[vv (x*x%M*x%M+M-3*x%M),←vu (3*x) M,←vv,vu,show x*x%M*x%M+M-3*x%M+3*x%M=x*x%M*x%M+M by omega,Nat.add_mod_right,vu,yN]
 rw[e1,vv ((x*x+M-3)*x),h4,Nat.add_mod_mod]
structure FR (w:World) (g n inv M:Nat) (ml ol rl:List Nat):Prop where
 ff:FF w g n inv M ml ol rl
 oelt:Elt M ol
 oval:val 18446744073709551616 ol=18446744073709551616^n%M
 relt:Elt M rl
 rval:val 18446744073709551616 rl=18446744073709551616^n*18446744073709551616^n%M
theorem FR.below {w w':World}{g n inv M B:Nat}{ml ol rl:List Nat}(h:FR w g n inv M ml ol rl)(hb:Below B w w')(hg:g<B):FR w' g n inv M ml ol rl :=
 ⟨h.ff.below hb hg,h.oelt,h.oval,h.relt,h.rval⟩
theorem Fld.r_ {w:World}{g n inv:Nat}{ml ol rl:List Nat}(h:Fld w g n inv ml ol rl){j:Nat}(hj:j<6):w.cell? ⟨g,14+j,none⟩=some (.int .u64 (dg rl j:Int)):=by
 rw[zQ h.blk (14+j)];obtain⟨a,b,c,d,e,f,rfl⟩:=six h.m6;obtain⟨a,b,c,d,e,f,rfl⟩:=six h.o6;obtain⟨a,b,c,d,e,f,rfl⟩:=six h.r6;match j,hj with
 | 0,_|1,_|2,_|3,_|4,_|5,_=>rfl
theorem gY {dT sT:TypeId}(hdT:Tryz.prog.underlying dT=some (.slice 65))(w:World)(g o dLen dCap:Nat)(cur:List Value)(ty:TypeId)(hg:w.heap[g]?=some (.cells cur.toArray ty (0,0)))(P:Nat→Prop)(A:Option Addr)(c:Nat)(a:List Nat)(h:RN w P A c a)(hle:a.length≤dLen)(hfit:o+a.length≤cur.length) :
   ∃ W', (Builtin.copy_ #[dT, sT] 3 #[.slice (some ⟨g, o, none⟩) dLen dCap, .slice A a.length c]).run Tryz.prog w = .ok (goInt a.length) W' ∧ W'.heap[g]? = some (.cells (cur.take o ++ nts a ++ cur.drop (o + a.length)).toArray ty (0, 0)) ∧
     (∀ B w0,B≤g→Below B w0 w→Below B w0 W')∧(∀ k,k≠g→W'.heap[k]?=w.heap[k]?)∧W'.heap.size=w.heap.size:=by
 rcases zT a.length with h0|hpos
 · obtain rfl:=qQ h0;refine⟨w,run_copy_none w dT sT 3 65 (some ⟨g,o,none⟩) A dLen dCap 0 c hdT uf (qU (vr _)),?_,fun _ _ _ h=>h,fun _ _=>rfl,rfl⟩;rw[hg];simp[nts]
 · obtain⟨ad,rfl,_,_⟩:=h.at_ hpos
   have hr:=run_copy_row (P:=Tryz.prog) w dT sT 3 65 g o dLen dCap ad a.length c cur.toArray ty (nts a) hdT uf hg (by rw[qf];exact(qU hle).symm) (fun j v hj=>by
     have hj':j<a.length:=by have:=(List.getElem?_eq_some_iff.1 hj).1;simpa[nts]using this
     rw[h.cells j hj']
     rw[ub hj']at hj
     exact hj) (by rw[qf];simpa using hfit) (kj a)
   rw[qf]at hr;refine⟨_,hr,setRow_heap w g _ _ _ _ hg,fun B w0 hB hb=>fD hb hB _,fun k hk=>?_,by simp[World.setRow]⟩;simp[World.setRow,vD,show ¬ g=k from fun e=>hk e.symm]
theorem yn {g n inv M:Nat}{ml ol rl:List Nat}(P:Nat→Prop)(A:Option Addr)(c:Nat)(a:List Nat)(w:World)(hF:FR w g n inv M ml ol rl)(h:RN w P A c a)(hP:∀ b,P b→b<w.heap.size)(hl:a.length≤6)(hlt:val 18446744073709551616 a<M) :
   Calls Tryz.prog 92 #[.pointer (some ⟨g,0,none⟩),.slice A a.length c] w fun e w'=>∃ o,e=.returned (EV o)∧FE M n o (val 18446744073709551616 a)∧Below w.heap.size w w':=by
 have hg:=hF.ff.fld.lt;have l1:((w.alloc (.cells #[.int .u64 0,.int .u64 0,.int .u64 0,.int .u64 0,.int .u64 0,.int .u64 0] 109)).alloc (.cells #[.int .u64 0,.int .u64 0,.int .u64 0,.int .u64 0,.int .u64 0,.int .u64 0] 109)).heap[w.heap.size]?=some (.cells #[.int .u64 0,.int .u64 0,.int .u64 0,.int .u64 0,.int .u64 0,.int .u64 0] 109 (0,0)):=(kE _ _ _ (by simp)).trans (zS w _);have l2:((w.alloc (.cells #[.int .u64 0,.int .u64 0,.int .u64 0,.int .u64 0,.int .u64 0,.int .u64 0] 109)).alloc (.cells #[.int .u64 0,.int .u64 0,.int .u64 0,.int .u64 0,.int .u64 0,.int .u64 0] 109)).heap[w.heap.size+1]?=some (.cells ([.int .u64 0,.int .u64 0,.int .u64 0,.int .u64 0,.int .u64 0,.int .u64 0]:List Value).toArray 109 (0,0)):=by
   have:=zS (w.alloc (.cells #[.int .u64 0,.int .u64 0,.int .u64 0,.int .u64 0,.int .u64 0,.int .u64 0] 109)) (.cells #[.int .u64 0,.int .u64 0,.int .u64 0,.int .u64 0,.int .u64 0,.int .u64 0] 109);rw[qB]at this;exact this
 have hB0:Below w.heap.size w ((w.alloc (.cells #[.int .u64 0,.int .u64 0,.int .u64 0,.int .u64 0,.int .u64 0,.int .u64 0] 109)).alloc (.cells #[.int .u64 0,.int .u64 0,.int .u64 0,.int .u64 0,.int .u64 0,.int .u64 0] 109)):=((zl _ w).alloc (zG _) _).alloc (by simp) _;obtain⟨W',hcp,hw1,hw2,hw3,hw4⟩:=gY (dT:=23) (sT:=24) Tryz.underlying23 _ (w.heap.size+1) 0 6 6 _ 109 l2 P A c a (h.below hB0 hP) hl (by simp;omega);have hB1:=hw2 w.heap.size w (by omega) hB0;have hrb:=(hw3 w.heap.size (by omega)).trans l1;clear l1 l2 hw2 hw3 hw4 hB0;have hpad:(([.int .u64 0,.int .u64 0,.int .u64 0,.int .u64 0,.int .u64 0,.int .u64 0]:List Value).take 0++nts a++([.int .u64 0,.int .u64 0,.int .u64 0,.int .u64 0,.int .u64 0,.int .u64 0]:List Value).drop (0+a.length))=nts (a++List.replicate (6-a.length) 0):=by
   have e:([.int .u64 0,.int .u64 0,.int .u64 0,.int .u64 0,.int .u64 0,.int .u64 0]:List Value)=List.replicate 6 (.int .u64 0):=rfl;rw[e,List.take_zero,wm,jH,List.drop_replicate];simp[nts]
 rw[hpad]at hw1;have hp6:(a++List.replicate (6-a.length) 0).length=6:=by simp;omega
 have hpv:val 18446744073709551616 (a++List.replicate (6-a.length) 0)=val 18446744073709551616 a:=dj _ _ _;have hpl:∀ x∈a++List.replicate (6-a.length) 0,x<18446744073709551616:=fun x hx=>by
   rcases List.mem_append.1 hx with h1|h1
   · exact h.2.1 x h1
   · have:=(List.mem_replicate.1 h1).2;omega
 generalize a++List.replicate (6-a.length) 0=pa at *;have hpe:Elt M pa:=⟨hp6,hpl,by rw[hpv];exact hlt⟩
 obtain⟨x0,x1,x2,x3,x4,x5,hxe⟩:=six hp6;obtain⟨y0,y1,y2,y3,y4,y5,hye⟩:=six hF.relt.six;have hcb:W'.heap[w.heap.size+1]?=some (.cells #[.int .u64 (x0:Int),.int .u64 (x1:Int),.int .u64 (x2:Int),.int .u64 (x3:Int),.int .u64 (x4:Int),.int .u64 (x5:Int)] 109 (0,0)):=by rw[hxe]at hw1;exact hw1
 obtain⟨e0,e1,e2,e3,e4,e5⟩:=xt hcb;have hFr:=hF.below hB1 hg;have f:=fun j (hj:j<6)=>hFr.ff.fld.r_ hj;have f0:=f 0 (by omega);have f1:=f 1 (by omega);have f2:=f 2 (by omega);have f3:=f 3 (by omega);have f4:=f 4 (by omega);have f5:=f 5 (by omega);rw[hye]at f0 f1 f2 f3 f4 f5;simp only[q9,Nat.reduceAdd,yH,xG]at f0 f1 f2 f3 f4 f5;have hmul:=cI pa rl W'.drew (hFr.ff.below ((zl W'.heap.size W').drew) (by have:=hB1.size;omega)) hpe hF.relt;have hva:EV pa=.agg #[.int .u64 (x0:Int),.int .u64 (x1:Int),.int .u64 (x2:Int),.int .u64 (x3:Int),.int .u64 (x4:Int),.int .u64 (x5:Int)]:=by rw[hxe];rfl
 have hvb:EV rl=.agg #[.int .u64 (y0:Int),.int .u64 (y1:Int),.int .u64 (y2:Int),.int .u64 (y3:Int),.int .u64 (y4:Int),.int .u64 (y5:Int)]:=by rw[hye];rfl
 rw[hva,hvb]at hmul;have Hmul:=zF hmul;have HF:=zF hF;have Hpv:=zF hpv;have z0:=qu hrb 0;have zB1:=hB1.size;have hlt1:w.heap.size<W'.heap.size:=qr hrb;clear hmul hva hvb hcb hw1 hpad hp6 hpl hpe hxe hye f hF hFr hlt;go_enter Tryz.func92,Tryz.ntmps92;go_wp2_with fail
 go_region_with (first
   | (go_at_call 102
      refine Hmul.out.mono ?_
      rintro e w2 ⟨o2,rfl,ho2,hv2,hB2⟩
      have hrb2:=(hB2.block w.heap.size hlt1).trans hrb
      obtain⟨u0,u1,u2,u3,u4,u5,hoe⟩:=six ho2.six
      obtain⟨r0,r1,r2,r3,r4,r5⟩:=xt hrb2
      have z0:=qu hrb2 0
      have z1:=qu hrb2 1
      have z2:=qu hrb2 2
      have z3:=qu hrb2 3
      have z4:=qu hrb2 4
      have z5:=qu hrb2 5
      have hve:EV o2=.agg #[.int .u64 (u0:Int),.int .u64 (u1:Int),.int .u64 (u2:Int),.int .u64 (u3:Int),.int .u64 (u4:Int),.int .u64 (u5:Int)]:=by rw[hoe];rfl
      rw[hve]
      have Hoe:=zF hoe
      have Hv2:=zF hv2
      clear hve hoe hv2))
 all_goals
   go_wp2;refine pU rfl rfl rfl (uV hrb2 _ _ _ _ _ _) ?_;refine⟨o2,by rw[Hoe.out];rfl,⟨ho2,?_⟩,xT (hB1.trans ((⟨hB2.os,hB2.tape,hB2.output,hB2.size,hB2.block⟩:Below W'.heap.size W' w2).mono zB1)) (zG _) _ _ _ _ _ _⟩;have h1:val 18446744073709551616 o2*18446744073709551616^n%M=(val 18446744073709551616 a*18446744073709551616^n)*18446744073709551616^n%M:=by
     rw[Hv2.out,Hpv.out,HF.out.rval,Nat.mul_mod_mod,za]
   have h2:=cG HF.out.ff.invV h1;rwa [zy ho2.lt]at h2
end Go.Proofs.YtaemogcomplhiaaGreatDoor
namespace Go.Proofs.YtaemogcomplhiaaGreatDoor
def ui (m:Int) (r:Nat) (y:Int):Prop:=∃ t,m*y=1+2 ^(2^r)*t
theorem ui.zero {m:Int}(h:m%2=1):ui m 0 1:=⟨(m-1)/2,by omega⟩
theorem ui.step {m y:Int}{r:Nat}(h:ui m r y)(hr:r<6):ui m (r+1) (y*((2-m*y%18446744073709551616)%18446744073709551616)%18446744073709551616):=by
 obtain⟨t,ht⟩:=h;obtain⟨z,hz⟩:=n7 (m:=m) (y:=y);have hj:∃ j,2^r+2^r+j=64:=by
  have:r=0∨r=1∨r=2∨r=3∨r=4∨r=5:=by omega
  rcases this with rfl|rfl|rfl|rfl|rfl|rfl
  · exact⟨62,rfl⟩
  · exact⟨60,rfl⟩
  · exact⟨56,rfl⟩
  · exact⟨48,rfl⟩
  · exact⟨32,rfl⟩
  · exact⟨0,rfl⟩
 obtain⟨j,hj⟩:=hj;obtain⟨s,hs⟩:=zDm (z:=z) ht hz hj;exact⟨s,by rw[zp,Nat.mul_two];exact hs⟩
theorem ui.fin {m:Int}{y:Int}(h:ui m 6 y):∃ t,m*y=1+18446744073709551616*t:=by
 obtain⟨t,ht⟩:=h;exact⟨t,ht⟩
theorem zBj (n:Nat):val 18446744073709551616 (List.replicate n 0++[1])=18446744073709551616^n:=by
 rw[kQ,kt,List.length_replicate];simp
theorem gX {v M k:Nat}(h:v≤M)(hM:(digs 18446744073709551616 M).length≤k):(digs 18446744073709551616 v).length≤k:=zK (jK (by omega) h) hM
theorem sF {x y M k:Nat}(hx:x≤M)(hy:y≤M)(hM:(digs 18446744073709551616 M).length≤k):(digs 18446744073709551616 (x*y)).length≤k+k:=by
 have h1:=jB (B:=18446744073709551616) (by omega) M;have h2:18446744073709551616 ^(digs 18446744073709551616 M).length≤18446744073709551616^k:=zv (by omega) hM;refine qR (by omega) ?_;rw[qP];have h3:x*y≤M*M:=xZ hx hy;have h4:M*M<18446744073709551616^k*18446744073709551616^k:=Nat.mul_lt_mul'' (by omega) (by omega);omega
theorem sG {x y M k:Nat}(hx:x≤M)(hy:y≤M)(hM:(digs 18446744073709551616 M).length≤k):(digs 18446744073709551616 (x+y)).length≤k+1:=by
 have h1:=jB (B:=18446744073709551616) (by omega) M;have h2:18446744073709551616 ^(digs 18446744073709551616 M).length≤18446744073709551616^k:=zv (by omega) hM;refine qR (by omega) ?_;rw[zp];omega
def zu (x:Nat):Nat:=if x=0 then 0 else x.log2+1
theorem wW:zu 0=0:=rfl
theorem gH {x k:Nat}(h1:2^k≤x)(h2:x<2 ^(k+1)):zu x=k+1:=by
 have hx:x≠0:=by have:=qS (n:=k) (show 0<2 by omega);omega
 have h3:k≤x.log2:=(Nat.le_log2 hx).2 h1;have h4:x.log2<k+1:=(Nat.log2_lt hx).2 h2;simp[zu,hx];omega
theorem wB {x:Nat}(hx:x≠0):2 ^(zu x-1)≤x∧x<2^zu x∧1≤zu x:=by
 simp only[zu,hx,yL,ju];exact⟨Nat.log2_self_le hx,Nat.lt_log2_self,by omega⟩
theorem fT {x k:Nat}(h:x<2^k):zu x≤k:=by
 rcases zT x with rfl|h0
 · simp[zu]
 · obtain⟨h1,h2,h3⟩:=wB (Nat.pos_iff_ne_zero.1 h0);rcases qF k (zu x)with h4|h4
   · have:2^k≤2 ^(zu x-1):=zv (by omega) (by omega);omega
   · exact h4
theorem yr {x k:Nat}(h:zu x≤k):x<2^k:=by
 rcases zT x with rfl|h0
 · exact qS (by omega)
 · obtain⟨_,h2,_⟩:=wB (Nat.pos_iff_ne_zero.1 h0);exact zI h2 (zv (by omega) h)
theorem aQ {m:Nat}(hm:0<m){x:Nat}(hx:0<x){k:Nat}(hk:0<k)(h1:2 ^(k-1)≤dg (digs (2^m) x) ((digs (2^m) x).length-1))(h2:dg (digs (2^m) x) ((digs (2^m) x).length-1)<2^k) :
 zu x=m*((digs (2^m) x).length-1)+k:=by
 have hB:2≤2^m:=by
  have:2^1≤2^m:=zv (by omega) hm;simpa using this
 have hv:=zd hB x
 have hlt:=kF hB x
 have hne:0<(digs (2^m) x).length:=by rw[jj hB hx];simp
 generalize digs (2^m) x=l at *
 have h3:=qC (2^m) l (l.length-1)
 rw[show l.length-1+1=l.length by omega,jE,hv]at h3
 have h4:=jt (B:=2^m) (l:=l.take (l.length-1)) fun y hy=>hlt y (qM hy)
 rw[zo,qU (by omega)]at h4
 have h5:(2^m) ^(l.length-1)=2 ^(m*(l.length-1)):=by rw[kr]
 rw[h5]at h3 h4
 generalize m*(l.length-1)=e at *
 generalize dg l (l.length-1)=t at *
 obtain⟨j,rfl⟩:∃ j,k=j+1:=⟨k-1,by omega⟩
 rw[ju]at h1
 have h6:2^e*2^j≤2^e*t:=qD _ h1
 have h7:2^e*(t+1)≤2^e*2 ^(j+1):=qD _ h2
 rw[←qP]at h6 h7
 rw[zf]at h7
 exact gH (k:=e+j) (by omega) (by rw[show e+j+1=e+(j+1) by omega];omega)
theorem gS {m:Nat}(l:List Nat)(hl:∀ x∈l,x<2^m)(k j:Nat)(hj:j≤m):∃ r,val (2^m) l/2 ^(m*k+j)=dg l k/2^j+2 ^(m-j)*r:=by
 refine⟨val (2^m) (l.drop (k+1)),?_⟩;have h1:val (2^m) l=val (2^m) (l.take k)+(2^m)^k*(dg l k+2^m*val (2^m) (l.drop (k+1))):=by
  rcases qF k l.length with h|h
  · have:=jA (2^m) l (jV h);rw[this,qa h,jr,dg,jU h]
  · rw[zx h,xy (by omega),dg,qA,jL h];simp
 have h2:val (2^m) (l.take k)<(2^m)^k:=by
  have h3:=jt (B:=2^m) (l:=l.take k) fun y hy=>hl y (qM hy);refine zI h3 (zv (qS (by omega)) ?_);rw[zo];omega
 rw[qP,kr,←Nat.div_div_eq_div_mul,h1,kO _ _ (qS (qS (by omega))),qh h2,jH];have e:2^m=2^j*2 ^(m-j):=by rw[←qP,show j+(m-j)=m by omega]
 generalize hv:val (2^m) (l.drop (k+1))=v;rw[e,za,kO _ _ (qS (by omega))]
theorem rD {m:Nat}(l:List Nat)(hl:∀ x∈l,x<2^m)(k j:Nat)(hj:j<m):val (2^m) l/2 ^(m*k+j)%2=dg l k/2^j%2:=by
 obtain⟨r,hr⟩:=gS l hl k j (by omega);rw[hr,show m-j=(m-j-1)+1 by omega,zp,xu,wF]
theorem mq {m:Nat}(l:List Nat)(hl:∀ x∈l,x<2^m)(k j:Nat)(hj:j+8≤m):val (2^m) l/2 ^(m*k+j)%256=dg l k/2^j%256:=by
 obtain⟨r,hr⟩:=gS l hl k j (by omega);rw[hr,show m-j=(m-j-8)+8 by omega,qP,show(2:Nat)^8=256 by rfl,xu,wF]
def bytesOf (x n:Nat):List Nat:=(List.range n).map fun i=>x/2 ^(8*(n-1-i))%256
theorem kV (x n:Nat):(bytesOf x n).length=n:=by simp[bytesOf]
end Go.Proofs.YtaemogcomplhiaaGreatDoor
namespace Go.Proofs.YtaemogcomplhiaaGreatDoor
open Go.RowKit
theorem oO {x:Nat}(hx:0<x):0<dg (digs 18446744073709551616 x) ((digs 18446744073709551616 x).length-1):=by
 have hne:digs 18446744073709551616 x≠[]:=by rw[jj (by omega) hx];simp
 have h:=uO (B:=18446744073709551616) (by omega) x hne;have hpos:=List.length_pos_iff.2 hne;rw[List.getLast_eq_getElem]at h;rw[dg,jU (by omega)];omega
theorem n8 {x:Nat}(hx:0<x):zu x=64*((digs 18446744073709551616 x).length-1)+Lib.bitLen (dg (digs 18446744073709551616 x) ((digs 18446744073709551616 x).length-1)):=by
 have h0:=oO hx;have h1:=jS (B:=18446744073709551616) (by omega) (kF (by omega) x) ((digs 18446744073709551616 x).length-1);have h2:=Lib.bitLenAux_bounds 64 _ h1 (by omega);have h3:=aQ (m:=64) (by omega) hx (k:=Lib.bitLen (dg (digs 18446744073709551616 x) ((digs 18446744073709551616 x).length-1))) h2.1 h2.2.1 h2.2.2;exact h3
theorem vK (P:Nat→Prop)(A:Option Addr)(c:Nat)(a:List Nat)(w:World)(h:RN w P A c a) :
 Calls Tryz.prog 62 #[.slice A a.length c] w fun e w'=>e=.returned (.int .i64 (zu (val 18446744073709551616 a):Int))∧w=w':=by
 have ta:=jT P A c a w h
 replace h:=h.trim
 generalize val 18446744073709551616 a=x at *
 rcases zT x with rfl|hx
 · rw[qV]at ta;have Ta:=zF ta;clear ta;go_enter Tryz.func62,Tryz.ntmps62;go_wp2_with fail;refine Ta.out.mono ?_;rintro e w1 ⟨rfl,rfl⟩;go_wp2;go_ret;exact⟨rfl,rfl⟩
 · have hb:=n8 hx;have hlt:=h.2.dgLt;obtain⟨h1,h2,h3⟩:=h.cap;have hne:0<(digs 18446744073709551616 x).length:=by rw[jj (by omega) hx];simp
   generalize digs 18446744073709551616 x=l at *;obtain⟨n,hn⟩:∃ n,l.length=n+1:=⟨l.length-1,by omega⟩
   obtain⟨ad,rfl,_,q1⟩:=h.at_ (i:=n) (by omega);rw[hn,ju]at hb;have hl:=hlt n;have hbl:Lib.bitLen (dg l n)≤64:=Lib.bitLen_le _ 64 (by omega) hl;have hlen:=Tryz.bits_Len64 (dg l n:Int) w (by omega) (by omega);rw[yj]at hlen;generalize Lib.bitLen (dg l n)=k at *;have Hlen:=zF hlen;have Hb:=zF hb;rw[hn]at ta h1 h3;have Ta:=zF ta;clear ta hb hlen hl hlt hne hx hn h;go_enter Tryz.func62,Tryz.ntmps62;go_wp2_with fail;refine Ta.out.mono ?_;rintro e w1 ⟨rfl,rfl⟩;go_wp2_with fail;refine Hlen.out.mono ?_;rintro e w1 ⟨rfl,rfl⟩;go_wp2;go_ret;exact⟨du (by rw[Hb.out];simp),rfl⟩
def yw (x:Nat) (i:Int):Nat:=if i<0 then 0 else x/2^i.toNat%2
theorem mask1 (x:Nat):x &&& 1=x%2:=Nat.and_one_is_mod x
theorem zCn (d j:Nat)(hd:d<18446744073709551616):bits .and .u64 ((d:Int)/2^j) 1=((d/2^j%2:Nat):Int):=by
 have h0:d/2^j≤d:=vV d _;have h:=bits_and_u64_nat (d/2^j) 1 (by omega) (by omega);rw[mask1]at h;rw[←h];simp
theorem zCj (P:Nat→Prop)(A:Option Addr)(c:Nat)(a:List Nat)(i:Int)(w:World)(h:RN w P A c a)(hi:i≤9223372036854775807) :
 Calls Tryz.prog 107 #[.slice A a.length c,.int .i64 i] w fun e w'=>e=.returned (.int .u64 (yw (val 18446744073709551616 a) i:Int))∧w=w':=by
 obtain⟨h1,h2,h3⟩:=h.cap
 by_cases h0:i<0
 · have hb:=zF (show yw (val 18446744073709551616 a) i=0 by simp[yw,h0]);go_enter Tryz.func107,Tryz.ntmps107;go_wp2;go_ret;rw[hb.out];exact⟨rfl,rfl⟩
 · obtain⟨n,rfl⟩:∃ n:Nat,i=(n:Int):=⟨i.toNat,by omega⟩
   obtain⟨k,j,hj,hn⟩:∃ k j,j<64∧n=64*k+j:=⟨n/64,n%64,by omega,by omega⟩
   have hb:yw (val 18446744073709551616 a) (n:Int)=dg a k/2^j%2:=by
    have:=rD (m:=64) a h.2.1 k j hj;rw[yw,ql h0,yj,hn];exact this
   have e1:(n:Int)/64=(k:Int):=by omega
   have e2:(n:Int)%64=(j:Int):=by omega
   have e4:IntKind.i64.wrap ((n:Int)/64)=(k:Int):=by rw[e1];exact jW _ (by omega)
   by_cases hk:k<a.length
   · obtain⟨ad,rfl,_,q1⟩:=h.at_ hk;have hd:=h.2.dgLt k;have e3:=zCn (dg a k) j hd;have hj':(j:Int)<64:=by omega
     have hk':(k:Int)<(a.length:Int):=by omega
     have Hb:=zF hb;clear hb hn hd h hi;go_enter Tryz.func107,Tryz.ntmps107;go_wp2;go_ret;exact⟨du (by rw[Hb.out];simp),rfl⟩
   · have hd:dg a k=0:=km (by omega);rw[hd,Nat.zero_div]at hb;have Hb:=zF hb;have hk':¬(k:Int)<(a.length:Int):=by omega
     have hk2:(a.length:Int)≤(k:Int):=by omega
     have hkb:(k:Int)≤144115188075855871:=by omega
     clear hb hn hd h hi;go_enter Tryz.func107,Tryz.ntmps107;go_wp2;go_ret;rw[Hb.out];exact⟨rfl,rfl⟩
theorem RN.one (w:World)(x:Nat)(hx:x<18446744073709551616):RN (w.alloc (.cells #[.int .u64 (x:Int)] 65)) (In w.heap.size (w.heap.size+1)) (some ⟨w.heap.size,0,none⟩) 1 [x] :=
 ⟨RS.fresh #[.int .u64 (x:Int)] 65 1 1 rfl (by unfold maxLen;omega) ⟨zG _,by omega⟩,by simpa[Lim]using hx⟩
abbrev RU (w:World) (A:Option Addr) (c:Nat) (l:List Nat):Prop:=RN w (fun b=>b<w.heap.size) A c l
theorem RN.up {w w':World}{A:Option Addr}{c:Nat}{l:List Nat}(h:RU w A c l)(hB:Below w.heap.size w w'):RU w' A c l :=
 (h.below hB fun _ hb=>hb).mono fun _ hb=>zI hb hB.size
theorem OB.ru {w:World}{base:Nat}{A:Option Addr}{c:Nat}{l:List Nat}(h:OB w base A c l):RU w A c l:=h.rn.mono fun _ hb=>hb.2
theorem RN.ud {w:World}{A:Option Addr}{c:Nat}{l:List Nat}(h:RU w A c l)(n:Nat):RU (w.drewN n) A c l:=h
theorem xB {w:World} : ∀ b,b<w.heap.size→b<w.heap.size:=fun _ h=>h
end Go.Proofs.YtaemogcomplhiaaGreatDoor
namespace Go.Proofs.YtaemogcomplhiaaGreatDoor
theorem zL:type_of% @RN.up:=@RN.up
theorem tn {x k:Nat}(hx:x<18446744073709551616)(hk:k<64):∃ hi lo t,x/2 ^(64-k)=hi∧x*2^k%18446744073709551616=lo∧lo+18446744073709551616*hi=x*2^k∧lo=t*2^k∧lo+2^k≤18446744073709551616∧hi<2^k:=by
 have e64:(18446744073709551616:Nat)=2^k*2 ^(64-k):=by rw[←qP,show k+(64-k)=64 by omega]
 have hpos:0<2^k:=qS (by omega);have h1:x*2^k/18446744073709551616=x/2 ^(64-k):=by rw[e64,zj x,Nat.mul_div_mul_left _ _ hpos]
 have h2:x*2^k%18446744073709551616=(x%2 ^(64-k))*2^k:=by
  rw[e64,zj x,Nat.mul_mod_mul_left,zj]
 have h3:=jY (x*2^k) 18446744073709551616;refine⟨_,_,_,rfl,rfl,by rw[←h1];omega,h2,?_,?_⟩
 · have h4:x%2 ^(64-k)+1≤2 ^(64-k):=qL _ (qS (by omega));have h5:(x%2 ^(64-k)+1)*2^k≤2 ^(64-k)*2^k:=qk _ h4;rw[qY,kN,zj (2 ^(64-k)),←e64,←h2]at h5;exact h5
 · apply jI;rw[zj,←e64];exact hx
def fq (l o:List Nat) (w k i:Nat):Prop:=val 18446744073709551616 o=2 ^(64*w+k)*val 18446744073709551616 (l.take i)∧(∀ j,i+w<j→dg o j=0)∧dg o (i+w)<2^k
theorem fW (n j:Nat):dg (List.replicate n 0) j=0:=by
 rw[dg,qA,List.getElem?_replicate];split<;>rfl
theorem fq.zero (l:List Nat)(w k n:Nat):fq l (List.replicate n 0) w k 0:=by
 refine⟨by rw[kt];simp,fun j _=>fW n j,by rw[fW];exact qS (by omega)⟩
theorem fq.step {l o:List Nat}{w k i hi lo:Nat}(h:fq l o w k i)(ho:i+w+1<o.length)(he:lo+18446744073709551616*hi=dg l i*2^k)(hh:hi<2^k):fq l ((o.set (i+w) (dg o (i+w)+lo)).set (i+w+1) hi) w k (i+1):=by
 obtain⟨h1,h2,h3⟩:=h;refine⟨?_,fun j hj=>by rw[getD_set_ne (by omega),getD_set_ne (by omega)];exact h2 j (by omega),by rw[show i+1+w=i+w+1 by omega,vm (by simp;omega)];exact hh⟩;have s1:=ww 18446744073709551616 (show i+w<o.length by omega) (dg o (i+w)+lo);have s2:=ww 18446744073709551616 (l:=o.set (i+w) (dg o (i+w)+lo)) (n:=i+w+1) (by simp;omega) hi;rw[getD_set_ne (by omega:i+w≠i+w+1),h2 (i+w+1) (by omega)]at s2;rw[qC,zf,←h1];have e:2 ^(64*w+k)*(18446744073709551616^i*dg l i)=18446744073709551616 ^(i+w)*(dg l i*2^k):=by
  rw[qP,kr,show(2:Nat)^64=18446744073709551616 by decide,qP];generalize 18446744073709551616^w=a;generalize 18446744073709551616^i=b;generalize 2^k=c;generalize dg l i=d;rw[zj b d,←za,zj _ b,za a,zj c d,←za b a]
 rw[e,←he,zf,←za,←zp];rw[zf]at s1;generalize 18446744073709551616 ^(i+w+1)*hi=q1 at *;generalize 18446744073709551616 ^(i+w)*lo=q2 at *;generalize 18446744073709551616 ^(i+w)*dg o (i+w)=q3 at *;generalize val 18446744073709551616 (o.set (i+w) (dg o (i+w)+lo))=q4 at *;generalize val 18446744073709551616 ((o.set (i+w) (dg o (i+w)+lo)).set (i+w+1) hi)=q5 at *;generalize val 18446744073709551616 o=q6 at *;omega
theorem fq.fin {l o:List Nat}{w k:Nat}(h:fq l o w k l.length):val 18446744073709551616 o=val 18446744073709551616 l*2 ^(64*w+k):=by
 have:=h.1;rwa [jE,zj]at this
theorem sd {x k:Nat}{l:List Nat}(hk:k<64)(i w:Nat)(hx:dg l (i+w+1)=x)(hl:∀ y∈l,y<18446744073709551616) :
   ∃ t, x * 2 ^ (64 - k) % 18446744073709551616 = t * 2 ^ (64 - k) ∧ dg l (i + w) / 2 ^ k < 2 ^ (64 - k) ∧ dg l (i + w) / 2 ^ k + t * 2 ^ (64 - k) < 18446744073709551616 ∧
     val 18446744073709551616 l/2 ^(64*(i+w)+k)%18446744073709551616=dg l (i+w)/2^k+t*2 ^(64-k):=by
 have e64:(18446744073709551616:Nat)=2^k*2 ^(64-k):=by rw[←qP,show k+(64-k)=64 by omega]
 have hpos:0<2 ^(64-k):=qS (by omega);have hd:dg l (i+w)<18446744073709551616:=jS (by omega) hl _;have h1:dg l (i+w)/2^k<2 ^(64-k):=jI (by rw[←e64];exact hd);have h2:x*2 ^(64-k)%18446744073709551616=(x%2^k)*2 ^(64-k):=by
   rw[e64,Nat.mul_mod_mul_right]
 have h4:(x%2^k+1)*2 ^(64-k)≤2^k*2 ^(64-k):=qk _ (qL _ (qS (by omega)));rw[←e64,qY,kN]at h4;refine⟨x%2^k,h2,h1,by omega,?_⟩;have hv:val 18446744073709551616 l/2 ^(64*(i+w)+k)=dg l (i+w)/2^k+2 ^(64-k)*(x+18446744073709551616*val 18446744073709551616 (l.drop (i+w+2))):=by
   have hs:=gS (m:=64) l hl (i+w) k (by omega);have h6:val 18446744073709551616 l=val 18446744073709551616 (l.take (i+w))+18446744073709551616 ^(i+w)*(dg l (i+w)+18446744073709551616*(x+18446744073709551616*val 18446744073709551616 (l.drop (i+w+2)))):=by
     have dgdrop:∀ j,val 18446744073709551616 (l.drop j)=dg l j+18446744073709551616*val 18446744073709551616 (l.drop (j+1)):=fun j=>by
       rcases qF j l.length with h|h
       · rw[qa h,jr,dg,jU h]
       · rw[xy h,xy (by omega),dg,qA,jL h];simp
     rw[←hx,←dgdrop (i+w+1),←dgdrop (i+w)];rcases qF l.length (i+w)with h|h
     · rw[zx (by omega),xy (by omega)];simp
     · exact jA _ _ h
   have h7:val 18446744073709551616 (l.take (i+w))<18446744073709551616 ^(i+w):=by
     refine zI (jt fun y hy=>hl y (qM hy)) (zv (by omega) ?_);rw[zo];omega
   rw[qP,kr,show(2:Nat)^64=18446744073709551616 by decide,←Nat.div_div_eq_div_mul,h6,kO _ _ (qS (by omega)),qh h7,jH];generalize x+18446744073709551616*val 18446744073709551616 (l.drop (i+w+2))=v;have:dg l (i+w)+18446744073709551616*v=dg l (i+w)+2^k*(2 ^(64-k)*v):=by rw[←za,←e64]
   rw[this,kO _ _ (qS (by omega))]
 rw[hv,zf,←kH];have h8:2 ^(64-k)*(18446744073709551616*val 18446744073709551616 (l.drop (i+w+2)))=18446744073709551616*(2 ^(64-k)*val 18446744073709551616 (l.drop (i+w+2))):=jR _ _ _;rw[h8,qm];have h9:x*2 ^(64-k)=18446744073709551616*(x*2 ^(64-k)/18446744073709551616)+(x%2^k)*2 ^(64-k):=by
   have:=jY (x*2 ^(64-k)) 18446744073709551616;rw[h2]at this;omega
 rw[zj (2 ^(64-k)) x,h9,vp (18446744073709551616*_),←kH,qm];exact zy (by omega)
def oS (l o:List Nat) (w k i:Nat):Prop:=∀ j,j<i→dg o j=val 18446744073709551616 l/2 ^(64*(j+w)+k)%18446744073709551616
theorem mW {B:Nat}{o:List Nat}(x:Nat)(hd:∀ j,j<o.length→dg o j=x/B^j%B)(hx:x<B^o.length):val B o=x:=by
 have:∀ i,i≤o.length→val B (o.take i)=x%B^i:=by
   intro i;induction i with
   | zero=>intro _;simp[Nat.mod_one]
   | succ i ih =>
     intro hi;rw[qC,ih (by omega),hd i (by omega),zp,Nat.mod_mul]
 have h:=this o.length (zG _);rw[jE,zy hx]at h;exact h
theorem oS.fin {l o:List Nat}{w k:Nat}(h:oS l o w k o.length)(hl:∀ x∈l,x<18446744073709551616)(hn:l.length=o.length+w):val 18446744073709551616 o=val 18446744073709551616 l/2 ^(64*w+k):=by
 apply mW
 · intro j hj;rw[h j hj,Nat.div_div_eq_div_mul];congr 2;rw[show(18446744073709551616:Nat)=2^64 by decide,←kr,←qP];congr 1;omega
 · apply jI;have h1:=jt hl;rw[hn,qP]at h1;rw[qP,kr,show(2:Nat)^64=18446744073709551616 by decide];have h2:18446744073709551616^o.length*18446744073709551616^w*1≤18446744073709551616^o.length*18446744073709551616^w*2^k:=qD _ (qS (by omega));have h3:18446744073709551616^w*2^k*18446744073709551616^o.length=18446744073709551616^o.length*18446744073709551616^w*2^k:=by
    rw[zj,za]
   rw[h3];omega
end Go.Proofs.YtaemogcomplhiaaGreatDoor
namespace Go.Proofs.YtaemogcomplhiaaGreatDoor
open Go.RowKit
theorem rJ (P:Nat→Prop)(A:Option Addr)(c:Nat)(a:List Nat)(n:Nat)(w:World)(h:RN w P A c a)(hP:∀ b,P b→b<w.heap.size)(hl:a.length<100000)(hn:n≤65536)(hv:0<val 18446744073709551616 a) :
 Calls Tryz.prog 122 #[.slice A a.length c,.int .i64 (n:Int)] w fun e w'=>∃ A1 c1,e=.returned (.slice A1 (digs 18446744073709551616 (val 18446744073709551616 a*2^n)).length c1) ∧
  OB w' w.heap.size A1 c1 (digs 18446744073709551616 (val 18446744073709551616 a*2^n))∧c1≤a.length+n/64+1∧(∃ o,A1=some ⟨w.heap.size,0,none⟩∧Blk w' w.heap.size o∧o.length=c1∧digs 18446744073709551616 (val 18446744073709551616 a*2^n)=o.take (digs 18446744073709551616 (val 18446744073709551616 a*2^n)).length)∧Below w.heap.size w w':=by
 have ta:=zF (jT P A c a w h)
 have la:=qz (B:=18446744073709551616) (by omega) h.2.1
 replace h:=h.trim
 have hne:0<(digs 18446744073709551616 (val 18446744073709551616 a)).length:=by rw[jj (by omega) hv];simp
 generalize val 18446744073709551616 a=x at *
 have hx:=zd (B:=18446744073709551616) (by omega) x
 generalize digs 18446744073709551616 x=l at *
 have la':l.length<100000:=by omega
 have Hla:=zF la
 have Hx:=zF hx
 clear hl hx hv la
 obtain⟨h1,h2,h3⟩:=h.cap
 obtain⟨s,k,hk,hnk⟩:∃ s k,k<64∧n=64*s+k:=⟨n/64,n%64,by omega,by omega⟩
 have e1:(n:Int)/64=(s:Int):=by omega
 have e2:(n:Int)%64=(k:Int):=by omega
 have hs:s≤1024:=by omega
 have hne':((l.length:Int)==0)=false:=eqB (by omega)
 have hmk:=jD (P:=Tryz.prog) 24 65 (.int .u64 0) 8 Tryz.underlying24 kS rfl .i64 .i64 (l.length+s+1) (by omega) (by omega)
 simp only[vX,qW]at hmk
 have hk1:(k:Int)<64:=by omega
 have Hnk:=zF hnk
 clear hne hnk
 go_enter Tryz.func122,Tryz.ntmps122
 go_wp2_with fail
 refine ta.out.mono ?_
 rintro e w1 ⟨rfl,rfl⟩
 go_wp2
 go_loopw [36] (fun iv wr=>∃(i:Nat) (o:List Nat),iv=.int .i64 (i:Int)∧i≤l.length∧fq l o s k i∧Hid (o.length=l.length+s+1)∧Lim o∧Blk wr w.heap.size o∧Below w.heap.size w wr) (fun iv _=>l.length-(intOf iv).toNat)
 case atStart=>exact⟨0,List.replicate (l.length+s+1) 0,rfl,by omega,fq.zero _ _ _ _,zF (by simp),⟨by simp,by simp;omega⟩,wK w _,(zl _ w).alloc (zG _) _⟩
 case round =>
  obtain⟨i,o,rfl,hi,hS,Ho,hLo,hblk,hB⟩:=hrel;by_cases hlt:i<l.length
  · obtain⟨ad,rfl,had,q1⟩:=(h.below hB hP).at_ hlt;have hol:=Ho.out;obtain⟨hi',lo,t,p1,p2,p3,p4,p5,p6⟩:=tn (h.2.dgLt i) hk;have hS':=hS.step (by omega) p3 p6;obtain⟨y,hy⟩:=eV (dg o (i+s)+lo);rw[hy]at hS';have hyl:y<18446744073709551616:=by have:=hS.2.2;omega
    have hhl:hi'<18446744073709551616:=by
     have:2^k≤2^63:=zv (by omega) (by omega);omega
    have f1:IntKind.u64.wrap ((dg l i:Int)*2^k)=(lo:Int):=by
     rw[←p2];simp[IntKind.wrap,IntKind.bits,IntKind.signed]
    have f2:bits .or .u64 (dg o (i+s):Int) (lo:Int)=(y:Int):=by
     rw[bits_or_u64_nat _ _ (hLo.dgLt _) (by omega),Nat.or_comm,p4,bE _ _ _ hS.2.2,←p4,←hy,vp]
    have f3:(dg l i:Int)/2 ^(64-k)=(hi':Int):=by rw[←p1];simp
    have q3:=hblk.cell (i:=i+s) (by omega);have q4:=hblk.free (i+s);have hblk1:=hblk.set (i+s) y;have q5:=hblk1.cell (i:=i+s+1) (by simp;omega);have q6:=hblk1.free (i+s+1);have hblk2:=hblk1.set (i+s+1) hi';have hLo':=(hLo.set (i+s) y hyl).set (i+s+1) hi' hhl;have hB2:=(hB.setCell (p:=⟨w.heap.size,i+s,none⟩) (zG _) (.int .u64 (y:Int))).setCell (p:=⟨w.heap.size,i+s+1,none⟩) (zG _) (.int .u64 (hi':Int));have Ho':Hid (((o.set (i+s) y).set (i+s+1) hi').length=l.length+s+1):=zF (by simpa using Ho.out);have k1:(i:Int)+(s:Int)+1<(l.length:Int)+(s:Int)+1:=by omega
    clear hS hLo hblk hB hblk1 hol p1 p2 p3 p4 p5 p6 hyl hhl hy;go_wp2;go_roundw;case rel=>exact⟨i+1,(o.set (i+s) y).set (i+s+1) hi',by go_num,by omega,hS',Ho',hLo',hblk2,hB2⟩
    case measure=>simp[intOf];omega
  · obtain rfl:i=l.length:=by omega
    have hfin:=hS.fin;rw[Hx.out,←Hnk.out]at hfin;have hOB:OB wr w.heap.size (some ⟨w.heap.size,0,none⟩) (l.length+s+1) o:=kq hblk (zG _) hLo (by have:=Ho.out;omega) (by unfold maxLen;omega);have ht:=jT _ _ _ _ _ hOB.rn;have hOB':=hOB.trim;have hpre:digs 18446744073709551616 (val 18446744073709551616 o)=o.take (digs 18446744073709551616 (val 18446744073709551616 o)).length:=by
     obtain⟨n,hn,e⟩:=hLo.trim;rw[e,zo,qU hn]
    rw[hfin,Ho.out]at ht;rw[hfin]at hOB' hpre;have Hpre:=zF hpre;have Hblk:=zF hblk;have Ht:=zF ht;have hcc:Hid (l.length+s+1≤a.length+n/64+1):=zF (by have:=Hla.out;have:=Hnk.out;omega);clear hblk hLo ht hfin hOB hS hpre;go_wp2_with fail;refine Ht.out.mono ?_;rintro e w1 ⟨rfl,rfl⟩;go_wp2;go_ret;exact⟨_,_,rfl,hOB',hcc.out,⟨o,rfl,Hblk.out,Ho.out,Hpre.out⟩,hB⟩
theorem zBq (P:Nat→Prop)(A:Option Addr)(c:Nat)(a:List Nat)(n:Nat)(w:World)(h:RN w P A c a)(hP:∀ b,P b→b<w.heap.size)(hl:a.length<100000)(hn:n≤9223372036854775807) :
 Calls Tryz.prog 126 #[.slice A a.length c,.int .i64 (n:Int)] w fun e w'=>∃ A1 c1,e=.returned (.slice A1 (digs 18446744073709551616 (val 18446744073709551616 a/2^n)).length c1) ∧
  OB w' w.heap.size A1 c1 (digs 18446744073709551616 (val 18446744073709551616 a/2^n))∧Below w.heap.size w w':=by
 have ta:=zF (jT P A c a w h)
 have la:=qz (B:=18446744073709551616) (by omega) h.2.1
 replace h:=h.trim
 generalize val 18446744073709551616 a=x at *
 have hx:=zd (B:=18446744073709551616) (by omega) x
 generalize digs 18446744073709551616 x=l at *
 have la':l.length<100000:=by omega
 have Hx:=zF hx
 obtain⟨h1,h2,h3⟩:=h.cap
 obtain⟨s,k,hk,hnk⟩:∃ s k,k<64∧n=64*s+k:=⟨n/64,n%64,by omega,by omega⟩
 have e1:(n:Int)/64=(s:Int):=by omega
 have e2:(n:Int)%64=(k:Int):=by omega
 have e4:IntKind.i64.wrap ((n:Int)/64)=(s:Int):=by rw[e1];exact jW _ (by omega)
 have hsb:(s:Int)≤144115188075855871:=by omega
 by_cases hs:s<l.length
 · obtain⟨m,hm⟩:∃ m,l.length=m+s:=⟨l.length-s,by omega⟩
   have em:(l.length:Int)-(s:Int)=(m:Int):=by omega
   have hmk:=jD (P:=Tryz.prog) 24 65 (.int .u64 0) 8 Tryz.underlying24 kS rfl .i64 .i64 m (by omega) (by omega);have hk1:(k:Int)<64:=by omega
   have hs':(s:Int)<(l.length:Int):=by omega
   have hs2:¬(l.length:Int)≤(s:Int):=by omega
   have Hnk:=zF hnk;have Hm:=zF hm;have hmb:m≤100000:=by omega
   clear hl hx la hnk hn hm hsb hs;go_enter Tryz.func126,Tryz.ntmps126;go_wp2_with fail;refine ta.out.mono ?_;rintro e w1 ⟨rfl,rfl⟩;go_wp2;go_loopw [32] (fun iv wr=>∃(i:Nat) (o:List Nat),iv=.int .i64 (i:Int)∧i≤m∧oS l o s k i∧Hid (o.length=m)∧Lim o∧Blk wr w.heap.size o∧Below w.heap.size w wr) (fun iv _=>m-(intOf iv).toNat);case atStart=>exact⟨0,List.replicate m 0,rfl,by omega,fun j hj=>by omega,zF (by simp),⟨by simp,by simp;omega⟩,wK w _,(zl _ w).alloc (zG _) _⟩
   case round =>
    obtain⟨i,o,rfl,hi,hS,Ho,hLo,hblk,hB⟩:=hrel;have hol:=Ho.out;have hml:=Hm.out;by_cases hlt:i<m
    · obtain⟨ad,rfl,had,q1⟩:=(h.below hB hP).at_ (i:=i+s) (by omega);obtain⟨t,p1,p2,p3,p4⟩:=sd hk i s rfl h.2.1;obtain⟨z,hz⟩:=eV (t*2 ^(64-k));obtain⟨y1,hy1⟩:=eV (dg l (i+s)/2^k);obtain⟨y,hy⟩:=eV (y1+z);have hor:(y1 ||| z)=y:=by rw[Nat.or_comm,←hz,bE _ _ _ (by rw[←hy1];exact p2),hz,←hy,vp]
      rw[hz]at p1 p3 p4;rw[hy1]at p2 p3 p4;rw[hy]at p3 p4;have f1:(dg l (i+s):Int)/2^k=(y1:Int):=by rw[←hy1];simp
      have hS':oS l (o.set i y) s k (i+1):=fun j hj=>by
       rcases qF j i with h|h
       · rw[getD_set_ne (by omega)];exact hS j h
       · obtain rfl:j=i:=by omega
         rw[vm (by omega)];exact p4.symm
      have q3:=hblk.cell (i:=i) (by omega);have q4:=hblk.free i;have hblk1:=hblk.set i y1;have hy1l:y1<18446744073709551616:=by omega
      have k1:(i:Int)+(s:Int)<(l.length:Int):=by omega
      by_cases h2:i+s+1<l.length
      · have hB1:=hB.setCell (p:=⟨w.heap.size,i,none⟩) (zG _) (.int .u64 (y1:Int));have q2:=(h.below hB1 hP).cells (i+s+1) h2;rw[oR]at q2;have f2:IntKind.u64.wrap ((dg l (i+s+1):Int)*2 ^(64-k))=(z:Int):=by
         rw[←p1];simp[IntKind.wrap,IntKind.bits,IntKind.signed]
        have hzl:z<18446744073709551616:=by omega
        have f3:bits .or .u64 (y1:Int) (z:Int)=(y:Int):=by rw[bits_or_u64_nat _ _ hy1l hzl,hor]
        have q5:=hblk1.cell (i:=i) (by simp;omega);rw[vm (by omega)]at q5;have q6:=hblk1.free i;have hblk2:=hblk1.set i y;rw[List.set_set]at hblk2;have hLo':=hLo.set i y p3;have hB2:=hB1.setCell (p:=⟨w.heap.size,i,none⟩) (zG _) (.int .u64 (y:Int));have Ho':Hid ((o.set i y).length=m):=zF (by simpa using Ho.out);have k2:(i:Int)+(s:Int)+1<(l.length:Int):=by omega
        clear hS hLo hblk hB hblk1 hol p1 p2 p3 p4 hz hy1 hy hor hy1l hzl hml hB1;go_wp2;go_region
        all_goals
         go_wp2;go_roundw;case rel=>exact⟨i+1,o.set i y,by go_num,by omega,hS',Ho',hLo',hblk2,jC hB2 1⟩
         case measure=>simp[intOf];omega
      · have hzz:z=0:=by
         rw[km (by omega:l.length≤i+s+1),Nat.zero_mul,kL]at p1;exact p1.symm
        have hyy:y1=y:=by omega
        subst hyy;have hLo':=hLo.set i y1 p3;have hB2:=hB.setCell (p:=⟨w.heap.size,i,none⟩) (zG _) (.int .u64 (y1:Int));have Ho':Hid ((o.set i y1).length=m):=zF (by simpa using Ho.out);have k2:¬(i:Int)+(s:Int)+1<(l.length:Int):=by omega
        clear hS hLo hblk hB hol p1 p2 p3 p4 hz hy1 hy hor hy1l hml hzz;go_wp2;go_roundw;case rel=>exact⟨i+1,o.set i y1,by go_num,by omega,hS',Ho',hLo',hblk1,hB2⟩
        case measure=>simp[intOf];omega
    · obtain rfl:i=m:=by omega
      have hfin:=oS.fin (by rw[hol];exact hS) h.2.1 (by rw[hol];exact hml);rw[Hx.out,←Hnk.out]at hfin;have hOB:OB wr w.heap.size (some ⟨w.heap.size,0,none⟩) i o:=kq hblk (zG _) hLo (by omega) (by unfold maxLen;omega);have ht:=jT _ _ _ _ _ hOB.rn;have hOB':=hOB.trim;rw[hfin,hol]at ht;rw[hfin]at hOB';have Ht:=zF ht;clear hblk hLo ht hfin hOB hS hol hml;go_wp2_with fail;refine Ht.out.mono ?_;rintro e w1 ⟨rfl,rfl⟩;go_wp2;go_ret;exact⟨_,_,rfl,hOB',hB⟩
 · have hz:x/2^n=0:=by
    apply qh;have h4:=jt h.2.1;rw[hx]at h4;refine zI h4 ?_;rw[show(18446744073709551616:Nat)=2^64 by decide,←kr];exact zv (by omega) (by omega)
   rw[hz,qV];have hs':¬(s:Int)<(l.length:Int):=by omega
   have hs2:(l.length:Int)≤(s:Int):=by omega
   clear hl hx la hnk hn hz hs;go_enter Tryz.func126,Tryz.ntmps126;go_wp2_with fail;refine ta.out.mono ?_;rintro e w1 ⟨rfl,rfl⟩;go_wp2;go_ret;exact⟨none,0,rfl,OB.nil_ _ _,zl _ _⟩
theorem bD {w:World}{base g n c:Nat}{o l:List Nat}(h:Blk w g o)(hg:base≤g)(hc:o.length=c)(hc':c≤maxLen)(hn:n≤c)(hl:l=o.take n)(hlen:l.length=n) :
 w.ownsRow base 65 1 (.slice (some ⟨g,0,none⟩) n c) n (nts l) :=
 ⟨by simp[nts,hlen],.inr ⟨g,c,(nts o).toArray,rfl,hg,h,hn,hc',by simp[nts,hc],by simp[nts,hl]⟩⟩
theorem si {y:Nat}(hy:18446744073709551616≤y):∃ n2 s top,(digs 18446744073709551616 y).length=n2+2∧dg (digs 18446744073709551616 y) (n2+1)=top∧top<18446744073709551616∧s<64∧Lib.bitLen top=64-s ∧
 (digs 18446744073709551616 (y*2^s)).length=n2+2∧18446744073709551616≤2*dg (digs 18446744073709551616 (y*2^s)) (n2+1)∧18446744073709551616 ^(n2+2)≤2*(y*2^s):=by
 have hB:(2:Nat)≤18446744073709551616:=by omega
 have hlt:=kF hB y
 have hl:1<(digs 18446744073709551616 y).length:=by
  rcases qF 1 (digs 18446744073709551616 y).length with h|h
  · exact h
  · have h1:=jB hB y;have h2:18446744073709551616 ^(digs 18446744073709551616 y).length≤18446744073709551616^1:=zv (by omega) h;omega
 obtain⟨n2,hn⟩:∃ n2,(digs 18446744073709551616 y).length=n2+2:=⟨(digs 18446744073709551616 y).length-2,by omega⟩
 obtain⟨top,ht⟩:=eV (dg (digs 18446744073709551616 y) (n2+1))
 have htl:top<18446744073709551616:=by rw[←ht];exact jS (by omega) hlt _
 have h0:top≠0:=by
  rintro rfl;have h1:=gA hB (v:=y) (by omega);rw[hn]at h1;have h2:y=val 18446744073709551616 ((digs 18446744073709551616 y).take (n2+1)):=by
   have:=qC 18446744073709551616 (digs 18446744073709551616 y) (n2+1);rw[ht,ja,q9,←hn,jE,zd hB]at this;exact this
  have h3:=jt (B:=18446744073709551616) (l:=(digs 18446744073709551616 y).take (n2+1)) fun x hx=>hlt x (qM hx);rw[←h2,zo,qU (by omega)]at h3;exact absurd h3 (Nat.not_lt.2 h1)
 obtain⟨s,hs,hbl,g1,g2⟩:=m8 h0 htl
 have e64:(18446744073709551616:Nat)=2 ^(64-s)*2^s:=by rw[←qP,show 64-s+s=64 by omega]
 obtain⟨k1,k2,k3⟩:=zDk hB (by decide) e64 hn ht (by omega) g2
 exact⟨n2,s,top,hn,ht,htl,hs,hbl,k1,k2,k3⟩
theorem zA4 {L lD:List Nat}{j n n1 n2:Nat}(hn:n2+2=n)(hn1:n2+1=n1)(hL:∀ x∈L,x<18446744073709551616)(hD:∀ x∈lD,x<18446744073709551616)(hlD:lD.length=n)(hlen:j+n<L.length)
 (htop:18446744073709551616≤2*dg lD n1) (hV:val 18446744073709551616 L<18446744073709551616 ^(j+1)*val 18446744073709551616 lD) :
 (∀ i, j + n + 1 ≤ i → dg L i = 0) ∧ val 18446744073709551616 L / (18446744073709551616 ^ j * val 18446744073709551616 lD) ≤ ug (dg L (j + n)) (dg L (j + n1)) (dg L (j + n2)) (dg lD n1) (dg lD n2) ∧
  ug (dg L (j+n)) (dg L (j+n1)) (dg L (j+n2)) (dg lD n1) (dg lD n2)<18446744073709551616:=by
 subst hn hn1
 have hdl:=jt hD
 rw[hlD]at hdl
 have hz:∀ i,j+(n2+2)+1≤i→dg L i=0:=fun i hi=>yS hL (m:=j+(n2+2)+1) (Nat.lt_trans hV (by
  rw[show j+(n2+2)+1=(j+1)+(n2+2) by omega,qP _ (j+1)]
  exact kZ hdl (qS (by omega)))) hi
 obtain⟨k1,k2⟩:=tG (x2:=dg L (j+(n2+2))) (jS (by omega) hL (j+(n2+1))) (jS (by omega) hL (j+n2)) (jS (by omega) hD (n2+1)) (jS (by omega) hD n2) htop
 refine⟨hz,k2 _ ?_ ?_,k1⟩
 · apply jI;rw[zp,xu]at hV;exact hV
 · obtain⟨rv,hrv,hv⟩:=sU (t:=j+n2) hL (by omega) (fun i hi=>hz i (by omega));obtain⟨rd,hd⟩:=zBh (B:=18446744073709551616) (L:=lD) (t:=n2) (by omega);refine aH (B:=18446744073709551616) (t:=j+n2) (DB:=18446744073709551616^j*val 18446744073709551616 lD) (rd:=18446744073709551616^j*rd) (Nat.div_mul_le_self _ _) ?_ hv hrv;rw[hd,zf,←za,←qP]
theorem Row.alloc_ {w:World}{g:Nat}{l:List Nat}(h:Row w g l)(o:Obj):Row (w.alloc o) g l:=h.of_heap (kE w o g h.lt)
theorem RN.alloc_ {w:World}{P:Nat→Prop}{A:Option Addr}{c:Nat}{l:List Nat}(h:RN w P A c l)(hP:∀ b,P b→b<w.heap.size)(o:Obj):RN (w.alloc o) P A c l:=h.below ((zl w.heap.size w).alloc (zG _) o) hP
theorem zBr (x:Nat){s:Nat}(hs:s<64):(digs 18446744073709551616 (x*2^s)).length≤(digs 18446744073709551616 x).length+1:=by
 apply qR (by omega);have h1:=jB (B:=18446744073709551616) (by omega) x;have h2:2^s≤2^64:=zv (by omega) (by omega);rw[show(2:Nat)^64=18446744073709551616 by decide]at h2;rw[zp];exact jl (qD _ h2) (Nat.mul_lt_mul_of_pos_right h1 (by omega))
theorem zBy (P P':Nat→Prop)(A A':Option Addr)(c c':Nat)(a b:List Nat)(w:World)(h:RN w P A c a)(h':RN w P' A' c' b)(hP:∀ b,P b→b<w.heap.size)(hP':∀ b,P' b→b<w.heap.size)(hl:a.length<90000)(hl':b.length<90000)
 (hge:val 18446744073709551616 b≤val 18446744073709551616 a) (hbig:18446744073709551616≤val 18446744073709551616 b) :
 Calls Tryz.prog 95 #[.slice A a.length c,.slice A' b.length c'] w fun e w'=>∃ A1 c1 A2 c2,e=.returned (.tuple #[.slice A1 (digs 18446744073709551616 (val 18446744073709551616 a/val 18446744073709551616 b)).length c1,.slice A2 (digs 18446744073709551616 (val 18446744073709551616 a%val 18446744073709551616 b)).length c2,.bool true]) ∧
  OB w' w.heap.size A1 c1 (digs 18446744073709551616 (val 18446744073709551616 a/val 18446744073709551616 b))∧OB w' w.heap.size A2 c2 (digs 18446744073709551616 (val 18446744073709551616 a%val 18446744073709551616 b))∧Below w.heap.size w w':=by
 have ta:=zF (jT P A c a w h)
 have tb:=jT P' A' c' b w h'
 have tc:=xH P P' A A' c c' _ _ w h.trim h'.trim
 have la:=qz (B:=18446744073709551616) (by omega) h.2.1
 have lb:=qz (B:=18446744073709551616) (by omega) h'.2.1
 rw[zd (by omega),zd (by omega)]at tc
 replace h:=h.trim
 replace h':=h'.trim
 generalize val 18446744073709551616 a=x at *
 generalize val 18446744073709551616 b=y at *
 have hcv:0≤vJ x y:=by rcases ku x y with h|h|h<;>omega
 generalize vJ x y=v at tc hcv
 obtain⟨i0,hi,hz0,hz1,hz2⟩:=info_parts kS
 obtain⟨n2,s,top,hn,htop,htl,hs,hbl,hDn,hDt,hDp⟩:=si hbig
 have hxv:=zd (B:=18446744073709551616) (by omega) x
 have hyv:=zd (B:=18446744073709551616) (by omega) y
 have hmono:(digs 18446744073709551616 x).length≤(digs 18446744073709551616 (x*2^s)).length:=jK (by omega) (Nat.le_mul_of_pos_right _ (qS (by omega)))
 have hmono2:(digs 18446744073709551616 y).length≤(digs 18446744073709551616 x).length:=jK (by omega) hge
 have hshl:=zBr x hs
 have hX0:0<x:=by omega
 have hY0:0<y:=by omega
 generalize digs 18446744073709551616 x=l at *
 generalize digs 18446744073709551616 y=m at *
 have T1:=zF fun W (hW:RN W P A c l) (hp:∀ b,P b→b<W.heap.size)=>rJ P A c l s W hW hp (by omega) (by omega) (by rw[hxv];exact hX0)
 have T2:=zF fun W (hW:RN W P' A' c' m) (hp:∀ b,P' b→b<W.heap.size)=>rJ P' A' c' m s W hW hp (by omega) (by omega) (by rw[hyv];exact hY0)
 rw[hxv]at T1
 rw[hyv,hDn,hn]at T2
 rw[hn]at tb tc
 have hXD:=zDj (B:=18446744073709551616) (x:=x*2^s) (D:=y*2^s) (n:=n2+2) (by omega) (by omega) hDp
 have hDlt:=jB (B:=18446744073709551616) (by omega) (y*2^s)
 rw[hDn]at hDlt
 have hDd:=kF (B:=18446744073709551616) (by omega) (y*2^s)
 have hDv:=zd (B:=18446744073709551616) (by omega) (y*2^s)
 have hXv:=zd (B:=18446744073709551616) (by omega) (x*2^s)
 have hD0:0<y*2^s:=Nat.mul_pos hY0 (qS (by omega))
 have hqx:(x*2^s) /(y*2^s)=x/y:=Nat.mul_div_mul_right _ _ (qS (by omega))
 have hrx:(x*2^s)%(y*2^s)/2^s=x%y:=by
  rw[Nat.mul_mod_mul_right];exact Nat.mul_div_cancel _ (qS (by omega))
 generalize y*2^s=D at *
 generalize x*2^s=X at *
 generalize digs 18446744073709551616 D=lD at *
 generalize digs 18446744073709551616 X=lX at *
 obtain⟨n,hn'⟩:=eV (n2+2)
 obtain⟨n1,hn1⟩:=eV (n2+1)
 rw[hn']at hn hDn hDlt hXD tb tc T2
 have HlD:=zF hDn
 rw[hn1]at htop hDt
 obtain⟨kX,hkX⟩:=eV lX.length
 have hLX:Lim lX→True:=fun _=>trivial
 clear hLX
 rw[hkX]at hmono T1 hXD hshl
 obtain⟨t,htt⟩:=eV (kX+1-n)
 rw[htt]at hXD
 have hlz:=fun w=>Tryz.bits_LeadingZeros64 (top:Int) w (by omega) (by omega)
 rw[yj,hbl,show(64-((64-s:Nat):Int))=(s:Int) by omega]at hlz
 have hge0:((n:Int)==0)=false:=eqB (by omega)
 have hge1:((n:Int)==1)=false:=eqB (by omega)
 have i1:(n:Int)-1=(n1:Int):=by omega
 have i2:n1<n:=by omega
 have i3:¬ kX<l.length:=by omega
 have i4:(kX:Int)+1-(n:Int)=(t:Int):=by omega
 have hcv':¬ v<0:=by omega
 have hnb:n<90000:=by omega
 have hlb:l.length<90000:=by omega
 have hkb:kX≤90001:=by omega
 obtain⟨ad',rfl,hPad,q1⟩:=h'.at_ (i:=n1) (by omega)
 rw[htop]at q1
 have Htb:=zF tb
 have Htc:=zF tc
 have Hlz:=zF hlz
 have Hn2:=zF hn'
 have Hn1:=zF hn1
 have HkX:=zF hkX
 have HXD:=zF hXD
 have Htt:=zF htt
 have Hqx:=zF hqx
 have Hrx:=zF hrx
 have HDv:=zF hDv
 have HXv:=zF hXv
 have HDlt:=zF hDlt
 have HDt:=zF hDt
 have Hla:=zF la
 have Hl:=zF hl
 clear tb tc hlz hn' hn1 hkX hXD htt hqx hrx hDv hXv hDlt hDt la hl hbig hge hxv hyv hmono2 hX0 hY0 hDp lb hl' hbl htl htop hcv hDn hmono hshl
 go_enter Tryz.func95,Tryz.ntmps95
 go_wp2_with fail
 refine ta.out.mono ?_
 rintro e w1 ⟨rfl,rfl⟩
 go_wp2_with fail
 refine Htb.out.mono ?_
 rintro e w1 ⟨rfl,rfl⟩
 go_wp2_with fail
 refine Htc.out.mono ?_
 rintro e w1 ⟨rfl,nd,rfl⟩
 obtain⟨W,hW⟩:=eW (w.drewN nd)
 have q2:W.cell? (ad'.add n1)=some (.int .u64 (top:Int)):=by rw[hW];exact q1
 have hsz:W.heap.size=w.heap.size:=by rw[hW];rfl
 have hB0:Below w.heap.size w W:=by rw[hW];exact jC (zl _ _) _
 have hRa:RN W P A c l:=by rw[hW];exact h.drewN _
 have hRb:RN W P' (some ad') c' m:=by rw[hW];exact h'.drewN _
 rw[←hW]
 have T1':=zF (T1.out W hRa (by rw[hsz];exact hP))
 have Hsz:=zF hsz
 clear hW q1 T1 hRa h h' hsz
 go_wp2_with fail
 refine(Hlz.out _).mono ?_
 rintro e w1 ⟨rfl,hw1⟩
 obtain rfl:W=w1:=hw1.symm
 go_wp2_with fail
 refine T1'.out.mono ?_
 rintro e w2 ⟨A1,c1,rfl,hO1,hc1,⟨o,rfl,hblk,ho,hpre⟩,hB1⟩
 have hown:=bD hblk (zG _) ho (by unfold maxLen;have:=hO1.cap;omega) (by have:=hO1.cap;have:=HkX.out;omega) hpre HkX.out
 have hLX:=hO1.1
 have hB1s:=hB1.size
 clear hblk hpre ho
 go_wp2_with (at_builtin;refine jf _ rfl _ _ 24 rfl W.heap.size 65 i0 (.int .u64 0) 1 8 Tryz.underlying24 hi hz0 hz1 hz2 rfl (by decide) _ kX (nts lX) rfl (hown.alloc _) (In w2.heap.size (w2.heap.size+1)) (some ⟨w2.heap.size,0,none⟩) 1 1 [.int .u64 0] rfl (RS.fresh #[.int .u64 0] 65 1 1 rfl (by unfold maxLen;omega) ⟨zG _,by omega⟩) (by simp[Value.oneCell']) (kX+1) rfl (by unfold maxLen;omega) (by omega) (by simp;omega) ?_)
 intro A2 c2 w3 hown3 hg3 _
 have hlen:(lX++[0]).length=kX+1:=by rw[zz,HkX.out];rfl
 have hown4:w3.ownsRow W.heap.size 65 1 (.slice A2 (lX++[0]).length c2) (lX++[0]).length (nts (lX++[0])):=by
  rw[hlen];have:nts (lX++[0])=nts lX++[.int .u64 0]:=by simp[nts]
  rw[this];exact hown3
 have hLr:Lim (lX++[0]):=⟨fun x hx=>by
  rcases List.mem_append.1 hx with h|h
  · exact hLX.1 x h
  · rw[List.mem_singleton.1 h];omega,by rw[hlen];omega⟩
 have hOr:=OB.of_own hown4 hLr
 obtain⟨g,rfl,hg,hrow⟩:=hOr.row (by omega)
 have hcr:=hOr.cap
 rw[hlen]at hcr
 have hgl:=hrow.lt
 have hB3:Below W.heap.size W w3:=(hB1.alloc hB1s _).grown hg3 (by simp;omega) (by intro j hj;exact ua hown hj)
 have hvr:val 18446744073709551616 (lX++[0])=X:=by rw[kQ,HXv.out];simp
 generalize lX++[0]=R at *
 obtain⟨p,hp⟩:∃ p:Addr,p=⟨g,0,none⟩:=⟨_,rfl⟩
 rw[←hp]
 have Hp:=zF hp
 have T3:=zF (T2.out w3 (hRb.below hB3 (by rw[Hsz.out];exact hP')) (by have:=hB3.size;have:=Hsz.out;intro b hb;have:=hP' b hb;omega))
 have hcr2:kX+1≤c2:=hcr.1
 have hcr3:c2≤9223372036854775807:=hcr.2.1
 clear hp hown hown3 hown4 hO1 hB1 hB1s hcr T2 hRb q2 hg3 hOr
 go_wp2_with fail
 go_loopw [11] (fun rv wr=>rv=.slice (some p) (kX+1) c2∧w3=wr) (fun _ _=>0)
 case atStart=>exact⟨rfl,rfl⟩
 case round =>
  obtain⟨rfl,rfl⟩:=hrel;go_wp2_with fail;refine T3.out.mono ?_;rintro e w4 ⟨A3,c3,rfl,hO3,hc3,⟨o3,hA3,hu1,hu2,hu3⟩,hB4⟩;clear hu1 hu2 hu3;have hAd:=hO3.row (by rw[HlD.out];omega);have hRd:=hO3.rn;have hB4s:=hB4.size;have hgq:g<w4.heap.size:=by omega
  have hrow4:=hrow.below hB4 hgl;have hB34:Below W.heap.size W w4:=hB3.trans (hB4.mono (by have:=hB3.size;omega));have hB4a:=hB34.alloc (by omega) (.cells (madeCells #[.int .u64 0] t) 65);have hblkq:=wK w4 t;have hmk:=jD (P:=Tryz.prog) 24 65 (.int .u64 0) 8 Tryz.underlying24 kS rfl .i64 .i64 t (by omega) (by omega);have Hs:=zF (xL t);clear hO3 hB4 hB34 hrow T3 hA3;go_wp2_with fail;go_loopw [14] (fun iv wr=>∃(k:Nat) (z:Int) (L qs:List Nat),iv=.int .i64 z∧vn k z∧k≤t∧gQ 18446744073709551616 X D L qs k∧Hid (L.length=kX+1)∧Hid (qs.length=t)∧Lim L∧Lim qs∧Row wr g L∧Blk wr w4.heap.size qs∧RN wr (In w3.heap.size w4.heap.size) A3 c3 lD∧Below w.heap.size w wr) (fun iv _=>(intOf iv+1).toNat);case atStart=>exact⟨t,_,R,List.replicate t 0,rfl,Hs.out,by omega,by rw[←hvr];exact gQ.start (by simp) (by rw[hvr];exact HXD.out),zF hlen,zF (by simp),hLr,⟨by simp,by simp;omega⟩,hrow4.alloc_ _,hblkq,hRd.alloc_ (fun b hb=>hb.2) _,(hB0.trans (hB4a.mono (by rw[Hsz.out];exact zG _)))⟩
  case round =>
   obtain⟨k,z,L,qs,rfl,hz,hk,hQ,HL,Hqs,hLL,hLq,hrw,hbq,hRD,hB⟩:=hrel;clear hrow4 hblkq hRd hB4a hlen hLr hvr hAd;rcases hz with⟨rfl,rfl⟩|⟨j,rfl,rfl⟩
   · obtain⟨v1,v2⟩:=hQ.fin;rw[Hqx.out]at v1;have hws:=hB.size;have hWs:=Hsz.out;have hOq:OB wr w.heap.size (some ⟨w4.heap.size,0,none⟩) t qs:=kq hbq (by omega) hLq (by have:=Hqs.out;omega) (by unfold maxLen;omega);have hOr:=hrw.ob (base:=w.heap.size) (c:=c2) (by omega) hLL (by have:=HL.out;omega) (by unfold maxLen;omega);have tq:=jT _ _ _ _ _ hOq.rn;have hOq':=hOq.trim;rw[v1]at hOq';rw[v1,Hqs.out]at tq;have tr:=zBq _ _ _ _ s wr hOr.rn (fun b hb=>hb.2) (by have:=HL.out;omega) (by omega);rw[v2,Hrx.out,HL.out,←Hp.out]at tr;have Tq:=zF tq;have Tr:=zF tr;clear hQ hLL hLq hrw hbq hRD hOr hOq tq tr;go_wp2_with fail;refine Tq.out.mono ?_;rintro e w5 ⟨rfl,rfl⟩;go_wp2_with fail;refine Tr.out.mono ?_;rintro e w6 ⟨A6,c6,rfl,hO6,hB6⟩;go_wp2;go_ret3;exact⟨_,_,_,_,rfl,hOq'.below hB6 (zG _),hO6.mono hws,hB.trans (hB6.mono hws)⟩
   · have hLl:=HL.out;have hlD:=HlD.out;have e2:=Hn2.out;have e1:=Hn1.out;have hjt:=Htt.out;obtain⟨hz0,hge,hgB⟩:=zA4 (j:=j) e2 e1 hLL.1 hDd hlD (by omega) HDt.out (by rw[HDv.out];exact hQ.2);obtain⟨ad,rfl,had,d1⟩:=hRD.at_ (i:=n1) (by omega);have d2:=hRD.cells n2 (by omega);obtain⟨y0,hy0⟩:=eV (j+n);obtain⟨y1,hy1⟩:=eV (j+n1);obtain⟨y2,hy2⟩:=eV (j+n2);rw[hy0,hy1,hy2]at hge hgB;rw[HDv.out]at hge;have r0:=hrw.cell Hp.out (j:=y0) (by omega);have r1:=hrw.cell Hp.out (j:=y1) (by omega);have r2:=hrw.cell Hp.out (j:=y2) (by omega);rw[jH]at r0 r1 r2;have hgs:=tF (dg L y0) (dg L y1) (dg L y2) (dg lD n1) (dg lD n2);have hgs2:=fun w=>hgs w (hLL.dgLt y1) (hLL.dgLt y2) (jS (by omega) hDd n1) (jS (by omega) hDd n2) HDt.out;obtain⟨G,hG⟩:=eV (ug (dg L y0) (dg L y1) (dg L y2) (dg lD n1) (dg lD n2));rw[hG]at hge hgB hgs2;have Hgs:=zF hgs2;have c0:(j:Int)+(n:Int)=(y0:Int):=by omega
     have c1':(y0:Int)-1=(y1:Int):=by omega
     have c2':(y0:Int)-2=(y2:Int):=by omega
     have c3':(n:Int)-2=(n2:Int):=by omega
     have c4:y0+1-j=n+1:=by omega
     have hpj:p.add j=⟨g,j,none⟩:=by rw[Hp.out,fo,jH]
     have Hpj:=zF hpj;have b0:(y0:Int)<(kX:Int)+1:=by omega
     have b1:(y1:Int)<(kX:Int)+1:=by omega
     have b2:(y2:Int)<(kX:Int)+1:=by omega
     have b3:n2<n:=by omega
     have b4:j≤y0+1:=by omega
     have b5:(y0:Int)+1≤(c2:Int):=by omega
     have b6:y0≤90001:=by omega
     clear hgs hgs2 hG e1 e2 hLl hpj;have Hjt:=zF hjt;have Hlen:Hid (j+n<L.length):=zF (by have:=HL.out;omega);have HlDn:=zF hlD;have hPg:∀ b,In w3.heap.size w4.heap.size b→b≠g:=fun b hb=>by have:=hb.1;omega
     have hgq':w4.heap.size≠g:=by omega
     have hwg:w.heap.size≤g:=by have:=Hsz.out;omega
     clear hjt hlD;go_wp2_with fail;go_quiet ((go_at_call 123;exact Calls.quiet_of (Hgs.out _)));go_wp2_with fail;refine(sY g j (p.add j) Hpj.out (In w3.heap.size w4.heap.size) (some ad) c3 (c2-j) n G L lD _ (hrw.drewN _) hLL (hRD.drewN _) hPg HlDn.out Hlen.out hgB).mono ?_;rintro e w5 ⟨L1,bb,rfl,hrw1,hLL1,ho1,hl1,hv1,hz1⟩;have hF1:=un.start (n:=n) (D:=D) hge hgB hz1 hz0 (by rw[HDv.out]at hv1;exact hv1) hLL1.1 (by omega) HDlt.out;have hbq1:Blk w5 w4.heap.size qs:=(ho1.block _ hgq').trans hbq;have hRD1:=(hRD.drewN nq).only ho1 hPg;have hB1':=(jC hB nq).trans (ho1.below hwg);have hl1':=zF (hl1.trans HL.out);clear hrw hLL hbq hRD hB ho1 hv1 hz1 hl1 hge hgB r0 r1 r2 d1 d2 hz0;go_wp2_with fail;go_loopw [15,17] (fun gv tv wr=>∃(G:Nat) (too:Bool) (L':List Nat),gv=.int .u64 (G:Int)∧tv=.bool too∧un 18446744073709551616 (val 18446744073709551616 L) j n D L' G too∧Hid (L'.length=kX+1)∧Lim L'∧Row wr g L'∧Blk wr w4.heap.size qs∧RN wr (In w3.heap.size w4.heap.size) (some ad) c3 lD∧Below w.heap.size w wr) (fun gv _ _=>(intOf gv).toNat);case atStart=>exact⟨G,_,L1,rfl,rfl,hF1,hl1',hLL1,hrw1,hbq1,hRD1,hB1'⟩
     case round =>
      clear hF1 hl1' hLL1 hrw1 hbq1 hRD1 hB1';obtain⟨G,too,L',rfl,rfl,hF,HL',hLL,hrw,hbq,hRD,hB⟩:=hrel;rcases too with _|_
      · obtain⟨f1,f2⟩:=hF.fin (by omega) hD0;have hjq:j<qs.length:=by have:=Hqs.out;omega
        have hQ':=hQ.step hjq f1 f2;have q3:=hbq.cell hjq;have q4:=hbq.free j;have hbq':=hbq.set j G;have hLq':=hLq.set j G hF.2.1;have hB':=hB.setCell (p:=⟨w4.heap.size,j,none⟩) (by show w.heap.size≤w4.heap.size;omega) (.int .u64 (G:Int));have hRD':RN (World.setCell _ ⟨w4.heap.size,j,none⟩ (.int .u64 (G:Int))) (In w3.heap.size w4.heap.size) (some ad) c3 lD:=hRD.keep fun q hq=>qH (w:=_) (je _ _ _ q.block (by have:=hq.2;show q.block≠w4.heap.size;omega));have hrw':=hrw.of_heap (je _ ⟨w4.heap.size,j,none⟩ (.int .u64 (G:Int)) g (by show g≠w4.heap.size;omega));have Hqs':Hid ((qs.set j G).length=t):=zF (by simpa using Hqs.out);have k1:j<t:=by omega
        have Hs':=zF (xL j);clear hF f1 f2 hQ hbq hLq hB hRD hrw;go_wp2;go_roundw;case rel=>exact⟨j,_,L',qs.set j G,rfl,Hs'.out,by omega,hQ',HL',Hqs',hLL,hLq',hrw',hbq',hRD',hB'⟩
        case measure=>simp[intOf]
      · have hpos:=hF.pos hLL.1 (by omega);have hpos':=jl (vr _) hpos;clear hpos;obtain⟨G,rfl⟩:∃ k,G=k+1:=⟨G-1,by omega⟩
        have hgB:=hF.2.1;have hGi:(G:Int)<18446744073709551616:=by omega
        clear hpos' hgB;go_wp2_with fail;refine(tI g j (p.add j) Hpj.out (In w3.heap.size w4.heap.size) (some ad) c3 (c2-j) n L' lD _ hrw hLL hRD hPg HlDn.out (by rw[HL'.out,←HL.out];exact Hlen.out)).mono ?_;rintro e w6 ⟨L2,bb2,rfl,hrw2,hLL2,ho2,hl2,hv2,hz2⟩;rw[HDv.out]at hv2;have hF2:=hF.step hLL.1 hLL2.1 (by omega) hD0 HDlt.out hv2 hz2;have hbq2:Blk w6 w4.heap.size qs:=(ho2.block _ hgq').trans hbq;have hRD2:=hRD.only ho2 hPg;have hB2:=hB.trans (ho2.below hwg);have r4:=hrw2.cell Hpj.out (j:=n) (by rw[hl2,HL'.out,←HL.out];exact Hlen.out);have HL2:=zF (hl2.trans HL'.out);have k2:(n:Int)<(n:Int)+1:=by omega
        clear hF hLL hrw hbq hRD hB ho2 hl2 hv2 hz2;by_cases hd0:dg L2 (j+n)=0
        · rw[hd0]at r4 hF2;clear hd0;go_wp2;go_roundw;case rel=>exact⟨G,false,L2,by go_num,rfl,by simpa using hF2,HL2,hLL2,hrw2,hbq2,hRD2,hB2⟩
          case measure=>simp[intOf]
        · have hdn:((dg L2 (j+n):Int) != 0)=true:=neB (by omega);have hF2':un 18446744073709551616 (val 18446744073709551616 L) j n D L2 G true:=by simpa[hd0]using hF2
          clear hF2;go_wp2;go_roundw;case rel=>exact⟨G,true,L2,by go_num,congrArg Value.bool (by first|exact hdn|(rw[←hy0];exact hdn)),hF2',HL2,hLL2,hrw2,hbq2,hRD2,hB2⟩
          case measure=>simp[intOf]
theorem fN (P P':Nat→Prop)(A A':Option Addr)(c c':Nat)(a b:List Nat)(w:World)(h:RN w P A c a)(h':RN w P' A' c' b)(hP:∀ b,P b→b<w.heap.size)(hP':∀ b,P' b→b<w.heap.size)(hl:a.length<90000)(hl':b.length<90000)(h0:0<val 18446744073709551616 b) :
 Calls Tryz.prog 95 #[.slice A a.length c,.slice A' b.length c'] w fun e w'=>∃ A1 c1 A2 c2,e=.returned (.tuple #[.slice A1 (digs 18446744073709551616 (val 18446744073709551616 a/val 18446744073709551616 b)).length c1,.slice A2 (digs 18446744073709551616 (val 18446744073709551616 a%val 18446744073709551616 b)).length c2,.bool true]) ∧
  OB w' w.heap.size A1 c1 (digs 18446744073709551616 (val 18446744073709551616 a/val 18446744073709551616 b))∧OB w' w.heap.size A2 c2 (digs 18446744073709551616 (val 18446744073709551616 a%val 18446744073709551616 b))∧Below w.heap.size w w':=by
 rcases qF (val 18446744073709551616 a) (val 18446744073709551616 b)with hlt|hge
 · have hq:=quo_lt P P' A A' c c' a b w h h' hlt;rw[qh hlt,zy hlt,qV];refine hq.mono ?_;rintro e w' ⟨A1,c1,rfl,hO,hB⟩;exact⟨none,0,A1,c1,rfl,OB.nil_ _ _,hO,hB⟩
 · rcases qF (val 18446744073709551616 b) 18446744073709551616 with h1|h1
   · exact zBx P P' A A' c c' a b w h h' hP (by omega) hge h0 h1
   · exact zBy P P' A A' c c' a b w h h' hP hP' hl hl' hge h1
def strB (bs:List Nat):ByteArray:=strOfNums (bs.map fun b:Nat=>(b:Int))
section
variable {w:World} {Q:Nat→Prop} {A:Option Addr} {c:Nat} {bs:List Nat}
theorem RB.str {P:Program}(h:RB w Q A c bs)(src e dst:TypeId)(hs:P.underlying src=some (.slice e))(he:P.underlying e=some (.int .u8))(hd:P.underlying dst=some .string) :
 (convert src dst (.slice A bs.length c)).run P w=.ok (.string (strB bs)) w:=by
 rcases A with _|ad
 · have hl:bs.length=0:=by
    rcases zT bs.length with h0|h0
    · exact h0
    · obtain⟨ad,h,_⟩:=h.1.2.2.2 h0;cases h
   obtain rfl:=qQ hl;rw[run_convert_bytes_nil w src e hs he _ _ dst hd];rfl
 · have hc:∀ j v,(bys bs)[j]?=some v→w.cell? (ad.add j)=some v:=by
    intro j v hj;rcases zT bs.length with h0|h0
    · obtain rfl:=qQ h0;simp[bys]at hj
    · obtain⟨ad',h,_,hc⟩:=h.1.2.2.2 h0;injection h with h
      subst h;exact hc j v hj
   have hl:(loadCells ad bs.length).run P w=.ok ((bs.map fun b:Nat=>(b:Int)).map (Value.int .u8)).toArray w:=by
    have:=run_loadCells_list (P:=P) w ad (bys bs) hc;simpa[bys,Function.comp_def]using this
   rw[run_convert_bytes_string w src dst e _ _ c hs he hd,run_bytesToString w _ _ c _ hl,foldl_push_bytes];simp[strB,strOfNums,ByteArray.empty,ByteArray.emptyWithCapacity];rfl
end
def z6:List Nat:=[0,0,0,0,0,0]
theorem fc_m (n inv:Nat)(a ol rl:List Nat)(ha:a.length≤6):(kT n inv z6 ol rl).take 1++nts a++(kT n inv z6 ol rl).drop (1+a.length)=kT n inv (a++List.replicate (6-a.length) 0) ol rl:=by
 match a,ha with
 | [],_ | [_],_ | [_,_],_ | [_,_,_],_ | [_,_,_,_],_ | [_,_,_,_,_],_ | [_,_,_,_,_,_],_=>rfl
theorem fc_o (n inv:Nat)(a ml rl:List Nat)(hm:ml.length=6)(ha:a.length≤6):(kT n inv ml z6 rl).take 8++nts a++(kT n inv ml z6 rl).drop (8+a.length)=kT n inv ml (a++List.replicate (6-a.length) 0) rl:=by
 obtain⟨_,_,_,_,_,_,rfl⟩:=six hm;match a,ha with
 | [],_ | [_],_ | [_,_],_ | [_,_,_],_ | [_,_,_,_],_ | [_,_,_,_,_],_ | [_,_,_,_,_,_],_=>rfl
theorem fc_r (n inv:Nat)(a ml ol:List Nat)(hm:ml.length=6)(ho:ol.length=6)(ha:a.length≤6):(kT n inv ml ol z6).take 14++nts a++(kT n inv ml ol z6).drop (14+a.length)=kT n inv ml ol (a++List.replicate (6-a.length) 0):=by
 obtain⟨_,_,_,_,_,_,rfl⟩:=six hm;obtain⟨_,_,_,_,_,_,rfl⟩:=six ho;match a,ha with
 | [],_ | [_],_ | [_,_],_ | [_,_,_],_ | [_,_,_,_],_ | [_,_,_,_,_],_ | [_,_,_,_,_,_],_=>rfl
theorem zD3 (n inv:Nat)(ml ol rl:List Nat)(hm:ml.length=6):(kT n 0 ml ol rl).toArray.setIfInBounds 7 (.int .u64 (inv:Int))=(kT n inv ml ol rl).toArray:=by
 obtain⟨_,_,_,_,_,_,rfl⟩:=six hm;simp[kT,nts]
theorem pS (n inv:Nat)(ml ol rl:List Nat)(hm:ml.length=6)(ho:ol.length=6)(hr:rl.length=6):(kT n inv ml ol rl).length=20:=by simp[kT,nts,hm,ho,hr]
theorem mH {a:List Nat}(h:a.length≤6):(a++List.replicate (6-a.length) 0).length=6:=by simp;omega
theorem mI {a:List Nat}(h:∀ x∈a,x<18446744073709551616):∀ x∈a++List.replicate (6-a.length) 0,x<18446744073709551616:=fun x hx=>by
 rcases List.mem_append.1 hx with h1|h1
 · exact h x h1
 · have:=(List.mem_replicate.1 h1).2;omega
theorem mo (P:Nat→Prop)(A:Option Addr)(c:Nat)(a:List Nat)(M:Nat)(w:World)(h:RN w P A c a)(hM:val 18446744073709551616 a=M)(h1:1<M)(hodd:M%2=1)(_hl:a.length<40000)(hl6:(digs 18446744073709551616 M).length≤6) :
 Calls Tryz.prog 91 #[.slice A a.length c] w fun e w'=>∃ g inv ml ol rl,e=.returned (.pointer (some ⟨g,0,none⟩))∧w.heap.size≤g∧FR w' g (digs 18446744073709551616 M).length inv M ml ol rl∧Below w.heap.size w w':=by
 obtain⟨i0,hi,hz0,hz1,hz2⟩:=info_parts kS
 have hn1:=yW P A c a w h
 have hln:=qz (B:=18446744073709551616) (by omega) h.2.1
 rw[hM]at hn1 hln
 have hvd:=zd (B:=18446744073709551616) (by omega) M
 have hlim:=kF (B:=18446744073709551616) (by omega) M
 have hm0:=dY hlim (by omega)
 rw[hvd]at hm0
 obtain⟨ml,hml⟩:=eV (digs 18446744073709551616 M)
 rw[hml]at hn1 hln hvd hm0 hlim hl6 ⊢
 obtain⟨m0,hm0'⟩:=eV (dg ml 0)
 rw[hm0']at hm0
 have hm2:(m0:Int)%2=1:=by omega
 obtain⟨n,hn⟩:=eV ml.length
 have hn0:0<n:=by
  rcases zT n with h0|h0
  · have:ml=[]:=qQ (hn.trans h0);rw[this]at hvd;simp at hvd;omega
  · exact h0
 have hn6:n≤6:=by omega
 have kn:(0:Int)<(n:Int):=by omega
 rw[hn]at hn1 ⊢
 have Hn1:=zF hn1
 have Hml:=zF hml
 have Hn:=zF hn
 have Hvd:=zF hvd
 have Hm0:=zF hm0
 have Hm2:=zF hm2
 have Hlim:=zF hlim
 clear hn1 hln hml hn hvd hm0 hm2 _hl hodd hM hlim hl6
 go_enter Tryz.func91,Tryz.ntmps91
 go_wp2_with fail
 refine Hn1.out.mono ?_
 rintro e w1 ⟨A1,c1,rfl,hO1,hB1⟩
 have r1:=hO1.rn
 have hG0:=zS w1 (.cells (kT n 0 z6 z6 z6).toArray 165)
 have hBG:Below w1.heap.size w1 (w1.alloc (.cells (kT n 0 z6 z6 z6).toArray 165)):=(zl _ w1).alloc (zG _) _
 have r1a:=r1.below hBG (fun b hb=>hb.2)
 have hcpy:=gY (dT:=23) (sT:=24) Tryz.underlying23 (w1.alloc (.cells (kT n 0 z6 z6 z6).toArray 165)) w1.heap.size 1 6 6 (kT n 0 z6 z6 z6) 165 hG0 _ A1 c1 ml r1a (by rw[Hn.out];exact hn6) (by rw[pS _ _ _ _ _ rfl rfl rfl,Hn.out];omega)
 rw[fc_m _ _ _ _ _ (by rw[Hn.out];exact hn6),Hn.out]at hcpy
 obtain⟨X,hcp,hG1,hX2,hX3,hX4⟩:=hcpy
 have hBX:Below w1.heap.size w1 X:=hX2 _ w1 (zG _) hBG
 have r1X:=r1.below hBX (fun b hb=>hb.2)
 have hfc:(kT n 0 z6 z6 z6).toArray=#[.int .i64 (n:Int),.int .u64 0,.int .u64 0,.int .u64 0,.int .u64 0,.int .u64 0,.int .u64 0,.int .u64 0,.int .u64 0,.int .u64 0,.int .u64 0,.int .u64 0,.int .u64 0,.int .u64 0,.int .u64 0,.int .u64 0,.int .u64 0,.int .u64 0,.int .u64 0,.int .u64 0]:=rfl
 rw[hfc]at hcp
 have hmp6:=mH (a:=ml) (by rw[Hn.out];exact hn6)
 have hmpl:=mI Hlim.out
 have hmpv:val 18446744073709551616 (ml++List.replicate (6-ml.length) 0)=M:=by rw[dj];exact Hvd.out
 have hmpt:val 18446744073709551616 ((ml++List.replicate (6-ml.length) 0).take n)=M:=by rw[←Hn.out,List.take_left'];exact Hvd.out;rfl
 rw[Hn.out]at hmp6 hmpl hmpv hmpt
 generalize ml++List.replicate (6-n) 0=mp at *
 have hGX:w1.heap.size<X.heap.size:=qr hG1
 obtain⟨ad,rfl,hb1,q1⟩:=r1X.at_ (i:=0) (by rw[Hn.out];exact hn0)
 rw[hm0']at q1
 have q1b:X.cell? ad=some (.int .u64 (m0:Int)):=by simpa[Addr.add]using q1
 have Hmp6:=zF hmp6
 have Hmpl:=zF hmpl
 have Hmpv:=zF hmpv
 have Hmpt:=zF hmpt
 clear hfc hBG hG0 r1a hX2 hX3 hX4 q1 hmp6 hmpl hmpv hmpt
 go_wp2_with fail
 go_loopw [4,23] (fun iv jv wr=>∃(y:Int) (r:Nat),jv=.int .i64 (r:Int)∧iv=.int .u64 y∧r≤6∧ui (m0:Int) r y∧X=wr) (fun _ jv _=>6-(intOf jv).toNat)
 case atStart=>exact⟨1,0,rfl,rfl,by omega,ui.zero Hm2.out,rfl⟩
 case round =>
  obtain⟨y,r,rfl,rfl,hr,hN,rfl⟩:=hrel;by_cases hlt:r<6
  · have hN':=hN.step hlt;have hw1:IntKind.u64.wrap ((m0:Int)*y)=(m0:Int)*y%18446744073709551616:=wi _;have hw2:IntKind.u64.wrap (2-(m0:Int)*y%18446744073709551616)=(2-(m0:Int)*y%18446744073709551616)%18446744073709551616:=wi _;have hw3:IntKind.u64.wrap (y*((2-(m0:Int)*y%18446744073709551616)%18446744073709551616))=y*((2-(m0:Int)*y%18446744073709551616)%18446744073709551616)%18446744073709551616:=wi _;generalize(m0:Int)*y%18446744073709551616=x1 at *;generalize(2-x1)%18446744073709551616=x2 at *;generalize y*x2%18446744073709551616=x3 at *;have HN:=zF hN';clear hN hN';go_wp2;go_roundw;case rel=>exact⟨x3,r+1,by go_num,by first|rfl|simp[hw1,hw2,hw3],by omega,HN.out,by first|rfl|trivial⟩
    case measure=>simp[intOf];omega
  · obtain rfl:r=6:=by omega
    obtain⟨t,ht⟩:=hN.fin;have hinv:=zCG Hm0.out ht;have h0:0≤(-y)%18446744073709551616:=Int.emod_nonneg _ (by decide);have hlt2:(-y)%18446744073709551616<18446744073709551616:=Int.emod_lt_of_pos _ (by decide);obtain⟨inv,hv⟩:∃ inv:Nat,(-y)%18446744073709551616=(inv:Int):=⟨_,(Int.toNat_of_nonneg h0).symm⟩
    have hneg:IntKind.u64.wrap (-y)=(inv:Int):=by rw[wi];exact hv
    rw[hv,yj]at hinv;rw[hv]at hlt2;have Hinv:=zF hinv;have Hlt2:=zF hlt2;have hmk:=jD (P:=Tryz.prog) 24 65 (.int .u64 0) 8 Tryz.underlying24 kS rfl .i64 .i64 n (by omega) (by omega);clear ht hinv h0 hv hN hlt hlt2;have g7:=zQ hG1 7;rw[show(kT n 0 mp z6 z6).toArray[7]?=some (.int .u64 0) by obtain⟨_,_,_,_,_,_,e⟩:=six Hmp6.out;rw[e];rfl]at g7;have f7:=qu hG1 7;have hG2:=jM hG1 7 (.int .u64 (inv:Int));rw[zD3 _ _ _ _ _ Hmp6.out]at hG2;have hBY:Below w1.heap.size w1 (X.setCell ⟨w1.heap.size,7,none⟩ (.int .u64 (inv:Int))):=hBX.setCell (p:=⟨w1.heap.size,7,none⟩) (zG _) _;have hzY:(X.setCell ⟨w1.heap.size,7,none⟩ (.int .u64 (inv:Int))).heap.size=X.heap.size:=by simp[World.setCell]
    have r1Y:=r1.below hBY (fun b hb=>hb.2);have n0:(X.setCell ⟨w1.heap.size,7,none⟩ (.int .u64 (inv:Int))).cell? ⟨w1.heap.size,0,none⟩=some (.int .i64 (n:Int)):=by rw[zQ hG2 0];rfl
    go_upto_region 10 with fail;generalize X.setCell ⟨w1.heap.size,7,none⟩ (.int .u64 (inv:Int))=Y at *;have hGY:w1.heap.size<Y.heap.size:=by omega
    clear hzY hG1 r1X q1b g7 f7 hBX hcp hneg;have hbz:=wK Y n
    have hown:(Y.alloc (.cells (madeCells #[.int .u64 0] n) 65)).ownsRow Y.heap.size 65 1 (.slice (some ⟨Y.heap.size,0,none⟩) n n) n (nts (List.replicate n 0)) :=
     bD (o:=List.replicate n 0) hbz (zG _) (by simp) (by unfold maxLen;omega) (zG _) (by simp) (by simp)
    have hfr:RS ((Y.alloc (.cells (madeCells #[.int .u64 0] n) 65)).alloc (.cells #[.int .u64 1] 65)) (fun _=>True) 1 (some ⟨Y.heap.size+1,0,none⟩) 1 1 (nts [1]):=by
     have:=RS.fresh (w:=Y.alloc (.cells (madeCells #[.int .u64 0] n) 65)) (P:=fun _=>True) #[.int .u64 1] 65 1 1 rfl (by unfold maxLen;omega) trivial;rw[qB]at this;exact this
    have hown':=hown.alloc (.cells #[.int .u64 1] 65);have hBZ:Below Y.heap.size Y ((Y.alloc (.cells (madeCells #[.int .u64 0] n) 65)).alloc (.cells #[.int .u64 1] 65)):=((zl _ Y).alloc (zG _) _).alloc (by simp) _;have hzZ:((Y.alloc (.cells (madeCells #[.int .u64 0] n) 65)).alloc (.cells #[.int .u64 1] 65)).heap.size=Y.heap.size+2:=by simp
    clear hbz hown;go_wp2_with (at_builtin;generalize(Y.alloc (.cells (madeCells #[.int .u64 0] n) 65)).alloc (.cells #[.int .u64 1] 65)=W at *;refine jf _ rfl _ _ 24 rfl Y.heap.size 65 i0 (.int .u64 0) 1 8 Tryz.underlying24 hi hz0 hz1 hz2 rfl (by decide) (.slice (some ⟨Y.heap.size,0,none⟩) n n) n _ rfl hown' (fun _=>True) _ 1 1 (nts [1]) rfl hfr (kj [1]) (n+1) rfl (by unfold maxLen;omega) (by omega) (by omega) ?_;intro A2 c2 w2 hown2 hg2 hor2);have hzw2:=hg2.size;have hBw2:Below Y.heap.size Y w2:=hBZ.grown hg2 (by omega) (fun k hk=>by simp[Value.ownBlock]at hk;omega);have hs2:=hBw2.size;have hG3:=(hBw2.block w1.heap.size hGY).trans hG2
    have hLr:Lim (List.replicate n 0++[1]):=⟨fun x hx=>by
     rcases List.mem_append.1 hx with h|h
     · simp at h;omega
     · simp at h;omega,by simp;omega⟩
    have hlr:(List.replicate n 0++[1]).length=n+1:=by simp
    have hOr:OB w2 Y.heap.size A2 c2 (List.replicate n 0++[1]):=OB.of_own (by rw[hlr];simpa[nts]using hown2) hLr;have hvr:=zBj n;generalize List.replicate n 0++[1]=rlst at *;have hw1:=hB1.size;have hY1:=hBY.size;have hBw:=hB1.trans ((hBY.trans (hBw2.mono hY1)).mono hw1);have r2:=r1Y.below hBw2 (fun b hb=>by have:=hb.2;omega);have hq1:=fN _ _ A2 (some ad) c2 c1 rlst ml w2 hOr.rn r2 (fun b hb=>hb.2) (fun b hb=>by have:=hb.2;omega) (by omega) (by have:=Hn.out;omega) (by rw[Hvd.out];omega);rw[hvr,Hvd.out,hlr,Hn.out]at hq1;obtain⟨v1,hv1⟩:=eV (18446744073709551616^n%M);rw[hv1]at hq1;have hv1M:v1<M:=by rw[←hv1];exact qL _ (by omega)
    have hl1:(digs 18446744073709551616 v1).length≤n:=by
     have:=jK (B:=18446744073709551616) (by omega) (jV hv1M);rw[Hml.out,Hn.out]at this;exact this
    have Hq1:=zF hq1;have Hv1:=zF hv1;clear hq1 hown2 hg2 hor2 hfr hown' hG2 hBZ hOr hvr hlr hLr hmk hv1 n0 hBw2;refine Hq1.out.mono ?_;rintro e w3 ⟨A3,c3,A4,c4,rfl,_,hO4,hB3⟩;have hG4:=(hB3.block w1.heap.size (qr hG3)).trans hG3;have hs3:=hB3.size;have hm1:=mP _ _ A4 A4 c4 c4 _ _ w3 hO4.rn hO4.rn (fun b hb=>hb.2) (fun b hb=>hb.2) (by omega) (by omega);rw[zd (by omega)]at hm1;have Hm1:=zF hm1;clear hm1;go_wp2_with fail;refine Hm1.out.mono ?_;rintro e w4 ⟨A5,c5,rfl,hO5,hB4⟩;have hs4:=hB4.size;have hB24:=hB3.trans (hB4.mono hs3);have r4:=r2.below hB24 fun b hb=>by have:=hb.2;omega
    have hl2:(digs 18446744073709551616 (v1*v1)).length<90000:=by
     have:=sF (jV hv1M) (jV hv1M) (show(digs 18446744073709551616 M).length≤n by rw[Hml.out,Hn.out];exact zG _);omega
    have hq2:=fN _ _ A5 (some ad) c5 c1 _ ml w4 hO5.rn r4 (fun b hb=>hb.2) (fun b hb=>by have:=hb.2;omega) hl2 (by have:=Hn.out;omega) (by rw[Hvd.out];omega);rw[zd (by omega),Hvd.out,Hn.out]at hq2;obtain⟨v2,hv2⟩:=eV (v1*v1%M);rw[hv2]at hq2;have hv2M:v2<M:=by rw[←hv2];exact qL _ (by omega)
    have hl3:(digs 18446744073709551616 v2).length≤n:=by
     have:=jK (B:=18446744073709551616) (by omega) (jV hv2M);rw[Hml.out,Hn.out]at this;exact this
    have Hq2:=zF hq2;have Hv2:=zF hv2;clear hq2 hv2 hl2;go_wp2_with fail;refine Hq2.out.mono ?_;rintro e w5 ⟨A6,c6,A7,c7,rfl,_,hO7,hB5⟩;have hs5:=hB5.size;have hB35:=hB4.trans (hB5.mono hs4);have hG5:=(hB35.block w1.heap.size (qr hG4)).trans hG4;have hO4':=hO4.below hB35 (zG _);have hBw5:=hBw.trans ((hB3.trans (hB35.mono hs3)).mono (by omega));obtain⟨V1,hcp1,hGa,hVa2,hVa3,hVa4⟩:=gY (dT:=23) (sT:=24) Tryz.underlying23 w5 w1.heap.size 8 6 6 (kT n inv mp z6 z6) 165 hG5 _ A4 c4 _ hO4'.rn (by omega) (by rw[pS _ _ _ _ _ Hmp6.out rfl rfl];omega);rw[fc_o _ _ _ _ _ Hmp6.out (by omega)]at hGa;have hBV1:=hVa2 w.heap.size w (by omega) hBw5;have r7:RN V1 (In w4.heap.size w5.heap.size) A7 c7 (digs 18446744073709551616 v2):=hO7.rn.keep fun q hq=>qH (hVa3 q.block (by have:=hq.1;omega));have ho6:=mH (a:=digs 18446744073709551616 v1) (by omega);have hol:=mI (kF (B:=18446744073709551616) (by omega) v1);have hov:val 18446744073709551616 (digs 18446744073709551616 v1++List.replicate (6-(digs 18446744073709551616 v1).length) 0)=v1:=by rw[dj];exact zd (by omega) v1
    generalize digs 18446744073709551616 v1++List.replicate (6-(digs 18446744073709551616 v1).length) 0=op at *;obtain⟨V2,hcp2,hGb,hVb2,hVb3,hVb4⟩:=gY (dT:=23) (sT:=24) Tryz.underlying23 V1 w1.heap.size 14 6 6 (kT n inv mp op z6) 165 hGa _ A7 c7 _ r7 (by omega) (by rw[pS _ _ _ _ _ Hmp6.out ho6 rfl];omega);rw[fc_r _ _ _ _ _ Hmp6.out ho6 (by omega)]at hGb;have hBV2:=hVb2 w.heap.size w (by omega) hBV1;have hr6:=mH (a:=digs 18446744073709551616 v2) (by omega);have hrl:=mI (kF (B:=18446744073709551616) (by omega) v2);have hrv:val 18446744073709551616 (digs 18446744073709551616 v2++List.replicate (6-(digs 18446744073709551616 v2).length) 0)=v2:=by rw[dj];exact zd (by omega) v2
    generalize digs 18446744073709551616 v2++List.replicate (6-(digs 18446744073709551616 v2).length) 0=rp at *;have hfin:FR V2 w1.heap.size n inv M mp op rp:=⟨⟨⟨hGb,Hmp6.out,ho6,hr6⟩,Hmpl.out,Hmpv.out,Hmpt.out,hn0,hn6,h1,by have:=Hlt2.out;omega,Hinv.out⟩,⟨ho6,hol,by rw[hov];exact hv1M⟩,by rw[hov];exact Hv1.out.symm,⟨hr6,hrl,by rw[hrv];exact hv2M⟩,by rw[hrv,←Hv2.out,←Hv1.out,←ks]⟩
    have Hfin:=zF hfin;have HB:=zF hBV2;clear hfin hBV2 hrv hrl hr6 hov hol ho6 hGa hGb hVa2 hVa3 hVb2 hVb3 hG5 r7 hBV1 hO4' hBw5;go_wp2;go_ret;exact⟨_,inv,mp,op,rp,rfl,hw1,Hfin.out,HB.out⟩
def vO (size:Nat) (sp sn sb sx sy fp:Value) (tl fl:List Nat):List Value:=[Value.int .i64 (size:Int),sp,sn,sb,sx,sy,fp]++nts tl++nts fl
structure Num (w:World) (P:Nat→Prop) (k g size n inv M bb:Nat) (pl nl bl xl yl ml ol rl tl fl:List Nat) (Ap An Ab Ax Ay:Option Addr) (cp cn cb cx cy:Nat):Prop where
 blk:w.heap[k]?=some (.cells (vO size (.slice Ap pl.length cp) (.slice An nl.length cn) (.slice Ab bl.length cb) (.slice Ax xl.length cx) (.slice Ay yl.length cy) (.pointer (some ⟨g,0,none⟩)) tl fl).toArray 111 (0,0))
 p:RN w P Ap cp pl
 nn:RN w P An cn nl
 b:RN w P Ab cb bl
 x:RN w P Ax cx xl
 y:RN w P Ay cy yl
 fr:FR w g n inv M ml ol rl
 pv:val 18446744073709551616 pl=M
 three:FE M n tl 3
 fb:FE M n fl bb
theorem dd {w:World}{g i:Nat}{v a b c d e f:Value}(j:Nat)(h1:i<j)(_h2:i<100)(h:w.cell? ⟨g,i,none⟩=some v) :
 ((((((w.setCell ⟨g,j,none⟩ a).setCell ⟨g,j+1,none⟩ b).setCell ⟨g,j+2,none⟩ c).setCell ⟨g,j+3,none⟩ d).setCell ⟨g,j+4,none⟩ e).setCell ⟨g,j+5,none⟩ f).cell? ⟨g,i,none⟩=some v:=by
 have key:∀(w:World) (k:Nat) (u:Value),i<k→(w.setCell ⟨g,k,none⟩ u).cell? ⟨g,i,none⟩=w.cell? ⟨g,i,none⟩:=fun w k u hk=>by
  have hne:k≠i:=by omega
  simp[go_sem]
 rw[key _ _ _ (by omega),key _ _ _ (by omega),key _ _ _ (by omega),key _ _ _ (by omega),key _ _ _ (by omega),key _ _ _ (by omega)]
 exact h
theorem dW {w:World}{k size:Nat}{sp sn sb sx sy fp:Value}{ty:TypeId}(h:w.heap[k]?=some (.cells (vO size sp sn sb sx sy fp z6 z6).toArray ty (0,0))):∀ i,7≤i→i<19→w.cell? ⟨k,i,none⟩=some (.int .u64 0)∧w.frozen? ⟨k,i,none⟩=false:=by
 intro i h1 h2;refine⟨?_,qu h i⟩;rw[zQ h i];obtain⟨j,rfl⟩:∃ j,i=j+7:=⟨i-7,by omega⟩
 match j,h2 with
 | 0,_|1,_|2,_|3,_|4,_|5,_|6,_|7,_|8,_|9,_|10,_|11,_=>rfl
 | j+12,h2=>omega
theorem mB {w:World}{g j:Nat}{ty:TypeId}{x0 x1 x2 x3 x4 x5 a b c d e f:Value}(pre post:List Value)(hj:pre.length=j)(h:w.heap[g]?=some (.cells (pre++x0::x1::x2::x3::x4::x5::post).toArray ty (0,0))) :
 ((((((w.setCell ⟨g,j,none⟩ a).setCell ⟨g,j+1,none⟩ b).setCell ⟨g,j+2,none⟩ c).setCell ⟨g,j+3,none⟩ d).setCell ⟨g,j+4,none⟩ e).setCell ⟨g,j+5,none⟩ f).heap[g]?=some (.cells (pre++a::b::c::d::e::f::post).toArray ty (0,0)):=by
 subst hj
 rw[jM (jM (jM (jM (jM (jM h pre.length a) (pre.length+1) b) (pre.length+2) c) (pre.length+3) d) (pre.length+4) e) (pre.length+5) f]
 simp only[ka]
 rw[wG _ _ (by omega),wG _ _ (by omega),wG _ _ (by omega),wG _ _ (by omega),wG _ _ (by omega),wG _ _ (by omega)]
 simp
theorem t6 {w:World}{g size:Nat}{sp sn sb sx sy fp:Value}{ty:TypeId}(h:w.heap[g]?=some (.cells (vO size sp sn sb sx sy fp z6 z6).toArray ty (0,0)))(u0 u1 u2 u3 u4 u5 v0 v1 v2 v3 v4 v5:Nat) :
 ((((((((((((w.setCell ⟨g,7,none⟩ (.int .u64 (u0:Int))).setCell ⟨g,8,none⟩ (.int .u64 (u1:Int))).setCell ⟨g,9,none⟩ (.int .u64 (u2:Int))).setCell ⟨g,10,none⟩ (.int .u64 (u3:Int))).setCell ⟨g,11,none⟩ (.int .u64 (u4:Int))).setCell ⟨g,12,none⟩ (.int .u64 (u5:Int))).setCell ⟨g,13,none⟩ (.int .u64 (v0:Int))).setCell ⟨g,14,none⟩ (.int .u64 (v1:Int))).setCell ⟨g,15,none⟩ (.int .u64 (v2:Int))).setCell ⟨g,16,none⟩ (.int .u64 (v3:Int))).setCell ⟨g,17,none⟩ (.int .u64 (v4:Int))).setCell ⟨g,18,none⟩ (.int .u64 (v5:Int))).heap[g]?=some (.cells (vO size sp sn sb sx sy fp [u0,u1,u2,u3,u4,u5] [v0,v1,v2,v3,v4,v5]).toArray ty (0,0)) ∧
 (∀ b,b≠g→((((((((((((w.setCell ⟨g,7,none⟩ (.int .u64 (u0:Int))).setCell ⟨g,8,none⟩ (.int .u64 (u1:Int))).setCell ⟨g,9,none⟩ (.int .u64 (u2:Int))).setCell ⟨g,10,none⟩ (.int .u64 (u3:Int))).setCell ⟨g,11,none⟩ (.int .u64 (u4:Int))).setCell ⟨g,12,none⟩ (.int .u64 (u5:Int))).setCell ⟨g,13,none⟩ (.int .u64 (v0:Int))).setCell ⟨g,14,none⟩ (.int .u64 (v1:Int))).setCell ⟨g,15,none⟩ (.int .u64 (v2:Int))).setCell ⟨g,16,none⟩ (.int .u64 (v3:Int))).setCell ⟨g,17,none⟩ (.int .u64 (v4:Int))).setCell ⟨g,18,none⟩ (.int .u64 (v5:Int))).heap[b]?=w.heap[b]?)∧((((((((((((w.setCell ⟨g,7,none⟩ (.int .u64 (u0:Int))).setCell ⟨g,8,none⟩ (.int .u64 (u1:Int))).setCell ⟨g,9,none⟩ (.int .u64 (u2:Int))).setCell ⟨g,10,none⟩ (.int .u64 (u3:Int))).setCell ⟨g,11,none⟩ (.int .u64 (u4:Int))).setCell ⟨g,12,none⟩ (.int .u64 (u5:Int))).setCell ⟨g,13,none⟩ (.int .u64 (v0:Int))).setCell ⟨g,14,none⟩ (.int .u64 (v1:Int))).setCell ⟨g,15,none⟩ (.int .u64 (v2:Int))).setCell ⟨g,16,none⟩ (.int .u64 (v3:Int))).setCell ⟨g,17,none⟩ (.int .u64 (v4:Int))).setCell ⟨g,18,none⟩ (.int .u64 (v5:Int))).heap.size=w.heap.size∧∀ B w0,B≤g→Below B w0 w→Below B w0 ((((((((((((w.setCell ⟨g,7,none⟩ (.int .u64 (u0:Int))).setCell ⟨g,8,none⟩ (.int .u64 (u1:Int))).setCell ⟨g,9,none⟩ (.int .u64 (u2:Int))).setCell ⟨g,10,none⟩ (.int .u64 (u3:Int))).setCell ⟨g,11,none⟩ (.int .u64 (u4:Int))).setCell ⟨g,12,none⟩ (.int .u64 (u5:Int))).setCell ⟨g,13,none⟩ (.int .u64 (v0:Int))).setCell ⟨g,14,none⟩ (.int .u64 (v1:Int))).setCell ⟨g,15,none⟩ (.int .u64 (v2:Int))).setCell ⟨g,16,none⟩ (.int .u64 (v3:Int))).setCell ⟨g,17,none⟩ (.int .u64 (v4:Int))).setCell ⟨g,18,none⟩ (.int .u64 (v5:Int))):=by
 refine⟨?_,?_,by simp[World.setCell],?_⟩
 · have h1:=mB [Value.int .i64 (size:Int),sp,sn,sb,sx,sy,fp] (nts z6) (j:=7) (ty:=ty) (x0:=.int .u64 0) (x1:=.int .u64 0) (x2:=.int .u64 0) (x3:=.int .u64 0) (x4:=.int .u64 0) (x5:=.int .u64 0) rfl (a:=.int .u64 (u0:Int)) (b:=.int .u64 (u1:Int)) (c:=.int .u64 (u2:Int)) (d:=.int .u64 (u3:Int)) (e:=.int .u64 (u4:Int)) (f:=.int .u64 (u5:Int)) (h.trans (by simp[vO,nts,z6]));have h2:=mB ([Value.int .i64 (size:Int),sp,sn,sb,sx,sy,fp]++nts [u0,u1,u2,u3,u4,u5]) [] (j:=13) (ty:=ty) (x0:=.int .u64 0) (x1:=.int .u64 0) (x2:=.int .u64 0) (x3:=.int .u64 0) (x4:=.int .u64 0) (x5:=.int .u64 0) (by simp[nts]) (a:=.int .u64 (v0:Int)) (b:=.int .u64 (v1:Int)) (c:=.int .u64 (v2:Int)) (d:=.int .u64 (v3:Int)) (e:=.int .u64 (v4:Int)) (f:=.int .u64 (v5:Int)) (h1.trans (by simp[nts,z6]));exact h2.trans (by simp[vO,nts])
 · intro b hb;repeat rw[je _ _ _ _ hb]
 · intro B w0 hB h0;exact((((((((((((h0.setCell (p:=⟨g,7,none⟩) hB (.int .u64 (u0:Int))).setCell (p:=⟨g,8,none⟩) hB (.int .u64 (u1:Int))).setCell (p:=⟨g,9,none⟩) hB (.int .u64 (u2:Int))).setCell (p:=⟨g,10,none⟩) hB (.int .u64 (u3:Int))).setCell (p:=⟨g,11,none⟩) hB (.int .u64 (u4:Int))).setCell (p:=⟨g,12,none⟩) hB (.int .u64 (u5:Int))).setCell (p:=⟨g,13,none⟩) hB (.int .u64 (v0:Int))).setCell (p:=⟨g,14,none⟩) hB (.int .u64 (v1:Int))).setCell (p:=⟨g,15,none⟩) hB (.int .u64 (v2:Int))).setCell (p:=⟨g,16,none⟩) hB (.int .u64 (v3:Int))).setCell (p:=⟨g,17,none⟩) hB (.int .u64 (v4:Int))).setCell (p:=⟨g,18,none⟩) hB (.int .u64 (v5:Int)))
def vk:List Nat:=[18446744073709551615,4294967295,0,18446744069414584321]
def gG:List Nat:=[17562291160714782033,13611842547513532036,18446744073709551615,18446744069414584320]
def xm:List Nat:=[4309448131093880907,7285987128567378166,12964664127075681980,6540974713487397863]
def gF:List Nat:=[17627433388654248598,8575836109218198432,17923454489921339634,7716867327612699207]
def gE:List Nat:=[14678990851816772085,3156516839386865358,10297457778147434006,5756518291402817435]
def tZ (l:List Nat):Prop:=(∀ x∈l,x<18446744073709551616)∧l.length≤6
theorem RN.lits (w:World)(l:List Nat)(h:tZ l):RN (w.alloc (.cells (nts l).toArray 65)) (In w.heap.size (w.heap.size+1)) (some ⟨w.heap.size,0,none⟩) l.length l:=by
 have hb:Blk (w.alloc (.cells (nts l).toArray 65)) w.heap.size l:=zS w _;have:=(kq (c:=l.length) hb (base:=w.heap.size) (zG _) ⟨h.1,by have:=h.2;omega⟩ (zG _) (by have:=h.2;unfold maxLen;omega)).rn;exact this.mono fun b hb=>by have:=hb.2;rw[qB]at this;exact⟨hb.1,this⟩
theorem aU (w:World)(l1 l2 l3 l4 l5:List Nat)(o:Obj)(h1:tZ l1)(h2:tZ l2)(h3:tZ l3)(h4:tZ l4)(h5:tZ l5) :
 ∀ W,W=(((((w.alloc (.cells (nts l1).toArray 65)).alloc (.cells (nts l2).toArray 65)).alloc (.cells (nts l3).toArray 65)).alloc (.cells (nts l4).toArray 65)).alloc (.cells (nts l5).toArray 65)).alloc o →
 RN W (In w.heap.size (w.heap.size+5)) (some ⟨w.heap.size,0,none⟩) l1.length l1∧RN W (In w.heap.size (w.heap.size+5)) (some ⟨w.heap.size+1,0,none⟩) l2.length l2∧RN W (In w.heap.size (w.heap.size+5)) (some ⟨w.heap.size+1+1,0,none⟩) l3.length l3 ∧
 RN W (In w.heap.size (w.heap.size+5)) (some ⟨w.heap.size+1+1+1,0,none⟩) l4.length l4∧RN W (In w.heap.size (w.heap.size+5)) (some ⟨w.heap.size+1+1+1+1,0,none⟩) l5.length l5∧W.heap[w.heap.size+1+1+1+1+1]?=some o∧W.heap.size=w.heap.size+6∧Below w.heap.size w W:=by
 rintro W rfl
 have r1:=RN.lits w l1 h1
 have r2:=RN.lits (w.alloc (.cells (nts l1).toArray 65)) l2 h2
 have r3:=RN.lits ((w.alloc (.cells (nts l1).toArray 65)).alloc (.cells (nts l2).toArray 65)) l3 h3
 have r4:=RN.lits (((w.alloc (.cells (nts l1).toArray 65)).alloc (.cells (nts l2).toArray 65)).alloc (.cells (nts l3).toArray 65)) l4 h4
 have r5:=RN.lits ((((w.alloc (.cells (nts l1).toArray 65)).alloc (.cells (nts l2).toArray 65)).alloc (.cells (nts l3).toArray 65)).alloc (.cells (nts l4).toArray 65)) l5 h5
 have e:=zS (((((w.alloc (.cells (nts l1).toArray 65)).alloc (.cells (nts l2).toArray 65)).alloc (.cells (nts l3).toArray 65)).alloc (.cells (nts l4).toArray 65)).alloc (.cells (nts l5).toArray 65)) o
 have b6:Below (w.heap.size+5) (((((w.alloc (.cells (nts l1).toArray 65)).alloc (.cells (nts l2).toArray 65)).alloc (.cells (nts l3).toArray 65)).alloc (.cells (nts l4).toArray 65)).alloc (.cells (nts l5).toArray 65)) ((((((w.alloc (.cells (nts l1).toArray 65)).alloc (.cells (nts l2).toArray 65)).alloc (.cells (nts l3).toArray 65)).alloc (.cells (nts l4).toArray 65)).alloc (.cells (nts l5).toArray 65)).alloc o):=(zl _ _).alloc (by simp<;>omega) _
 simp only[qB]at r2 r3 r4 r5 e
 have s4:=(r4.below ((zl (w.heap.size+4) _).alloc (by simp<;>omega) (.cells (nts l5).toArray 65)) (fun b hb=>by have:=hb.2;omega)).below b6 (fun b hb=>by have:=hb.2;omega)
 have s3:=((r3.below ((zl (w.heap.size+3) _).alloc (by simp<;>omega) (.cells (nts l4).toArray 65)) (fun b hb=>by have:=hb.2;omega)).below ((zl (w.heap.size+4) _).alloc (by simp<;>omega) (.cells (nts l5).toArray 65)) (fun b hb=>by have:=hb.2;omega)).below b6 (fun b hb=>by have:=hb.2;omega)
 have s2:=(((r2.below ((zl (w.heap.size+2) _).alloc (by simp) (.cells (nts l3).toArray 65)) (fun b hb=>by have:=hb.2;omega)).below ((zl (w.heap.size+3) _).alloc (by simp<;>omega) (.cells (nts l4).toArray 65)) (fun b hb=>by have:=hb.2;omega)).below ((zl (w.heap.size+4) _).alloc (by simp<;>omega) (.cells (nts l5).toArray 65)) (fun b hb=>by have:=hb.2;omega)).below b6 (fun b hb=>by have:=hb.2;omega)
 have s1:=((((r1.below ((zl (w.heap.size+1) _).alloc (by simp) (.cells (nts l2).toArray 65)) (fun b hb=>by have:=hb.2;omega)).below ((zl (w.heap.size+2) _).alloc (by simp) (.cells (nts l3).toArray 65)) (fun b hb=>by have:=hb.2;omega)).below ((zl (w.heap.size+3) _).alloc (by simp<;>omega) (.cells (nts l4).toArray 65)) (fun b hb=>by have:=hb.2;omega)).below ((zl (w.heap.size+4) _).alloc (by simp<;>omega) (.cells (nts l5).toArray 65)) (fun b hb=>by have:=hb.2;omega)).below b6 (fun b hb=>by have:=hb.2;omega)
 have s5:=r5.below b6 (fun b hb=>by have:=hb.2;omega)
 refine⟨s1.mono ?_,s2.mono ?_,s3.mono ?_,s4.mono ?_,s5.mono ?_,e,by simp,?_⟩
 any_goals (intro b hb;have h1:=hb.1;have h2:=hb.2;exact⟨by omega,by omega⟩)
 exact((((((zl _ w).alloc (zG _) _).alloc (by simp) _).alloc (by simp<;>omega) _).alloc (by simp<;>omega) _).alloc (by simp<;>omega) _).alloc (by simp<;>omega) _
theorem rU (w:World):Calls Tryz.prog 64 #[.int .i64 1] w fun e w'=>∃ k g inv ml ol rl tl fl,e=.returned (.pointer (some ⟨k,0,none⟩))∧w.heap.size≤k ∧
 Num w' (In w.heap.size w'.heap.size) k g 32 4 inv (val 18446744073709551616 vk) (val 18446744073709551616 xm) vk gG xm gF gE ml ol rl tl fl (some ⟨w.heap.size,0,none⟩) (some ⟨w.heap.size+1,0,none⟩) (some ⟨w.heap.size+1+1,0,none⟩) (some ⟨w.heap.size+1+1+1,0,none⟩) (some ⟨w.heap.size+1+1+1+1,0,none⟩) 4 4 4 4 4∧Below w.heap.size w w':=by
 obtain⟨z,hz⟩:=eW (World.alloc (((((w.alloc (.cells (nts vk).toArray 65)).alloc (.cells (nts gG).toArray 65)).alloc (.cells (nts xm).toArray 65)).alloc (.cells (nts gF).toArray 65)).alloc (.cells (nts gE).toArray 65)) (.cells (vO 32 (.slice (some ⟨w.heap.size,0,none⟩) 4 4) (.slice (some ⟨w.heap.size+1,0,none⟩) 4 4) (.slice (some ⟨w.heap.size+1+1,0,none⟩) 4 4) (.slice (some ⟨w.heap.size+1+1+1,0,none⟩) 4 4) (.slice (some ⟨w.heap.size+1+1+1+1,0,none⟩) 4 4) (.pointer none) z6 z6).toArray 111))
 obtain⟨q1,q2,q3,q4,q5,q6,q7,q8⟩:=aU w vk gG xm gF gE _ ⟨by decide,by decide⟩ ⟨by decide,by decide⟩ ⟨by decide,by decide⟩ ⟨by decide,by decide⟩ ⟨by decide,by decide⟩ z hz
 have hd:digs 18446744073709551616 (val 18446744073709551616 vk)=vk:=gN (by omega) (by decide) (by decide)
 have hdl:(digs 18446744073709551616 (val 18446744073709551616 vk)).length=4:=by rw[hd];rfl
 have hM1:1<val 18446744073709551616 vk:=by decide +kernel
 have hMo:val 18446744073709551616 vk%2=1:=by decide +kernel
 have hM3:3<val 18446744073709551616 vk:=by decide +kernel
 have hbM:val 18446744073709551616 xm<val 18446744073709551616 vk:=by decide +kernel
 have hnew:=mo _ _ _ vk _ z q1 rfl hM1 hMo (by decide) (by rw[hdl];omega)
 rw[hdl,q7]at hnew
 obtain⟨M,hM⟩:=eV (val 18446744073709551616 vk)
 rw[hM]at hnew hM1 hMo hM3 hbM ⊢
 have Hnew:=zF hnew
 have hb1:vk.length=4:=rfl
 have Hz:=zF hz
 have H2:=Hnew.out
 rw[hz,hb1]at H2
 have Hn2:=zF H2
 obtain⟨K,hK⟩:=eV (w.heap.size+1+1+1+1+1)
 clear hd hdl hnew H2 Hnew hz
 go_enter Tryz.func64,Tryz.ntmps64
 go_wp2_with fail
 refine Hn2.out.mono ?_
 rintro e w2 ⟨g,inv,ml,ol,rl,rfl,hg,hFR,hB2⟩
 rw[←Hz.out]at hB2
 rw[hK]at q6
 have hs2:=hB2.size
 have hG2:=(hB2.block K (by omega)).trans q6
 have k6:=zQ hG2 6
 rw[show(vO 32 (.slice (some ⟨w.heap.size,0,none⟩) 4 4) (.slice (some ⟨w.heap.size+1,0,none⟩) 4 4) (.slice (some ⟨w.heap.size+1+1,0,none⟩) 4 4) (.slice (some ⟨w.heap.size+1+1+1,0,none⟩) 4 4) (.slice (some ⟨w.heap.size+1+1+1+1,0,none⟩) 4 4) (.pointer none) z6 z6).toArray[6]?=some (.pointer none) by rfl]at k6
 have kf:=qu hG2 6
 have hG3:=jM hG2 6 (.pointer (some ⟨g,0,none⟩))
 rw[show(vO 32 (.slice (some ⟨w.heap.size,0,none⟩) 4 4) (.slice (some ⟨w.heap.size+1,0,none⟩) 4 4) (.slice (some ⟨w.heap.size+1+1,0,none⟩) 4 4) (.slice (some ⟨w.heap.size+1+1+1,0,none⟩) 4 4) (.slice (some ⟨w.heap.size+1+1+1+1,0,none⟩) 4 4) (.pointer none) z6 z6).toArray.setIfInBounds 6 (.pointer (some ⟨g,0,none⟩))=(vO 32 (.slice (some ⟨w.heap.size,0,none⟩) 4 4) (.slice (some ⟨w.heap.size+1,0,none⟩) 4 4) (.slice (some ⟨w.heap.size+1+1,0,none⟩) 4 4) (.slice (some ⟨w.heap.size+1+1+1,0,none⟩) 4 4) (.slice (some ⟨w.heap.size+1+1+1+1,0,none⟩) 4 4) (.pointer (some ⟨g,0,none⟩)) z6 z6).toArray by rfl]at hG3
 have hgK:g≠K:=by omega
 have hFR3:FR (w2.setCell ⟨K,6,none⟩ (.pointer (some ⟨g,0,none⟩))) g 4 inv M ml ol rl:=⟨⟨⟨(je _ _ _ _ hgK).trans hFR.ff.fld.blk,hFR.ff.fld.m6,hFR.ff.fld.o6,hFR.ff.fld.r6⟩,hFR.ff.mlt,hFR.ff.mval,hFR.ff.mtake,hFR.ff.npos,hFR.ff.nle,hFR.ff.big,hFR.ff.invLt,hFR.ff.invV⟩,hFR.oelt,hFR.oval,hFR.relt,hFR.rval⟩
 have hB3:Below K z (w2.setCell ⟨K,6,none⟩ (.pointer (some ⟨g,0,none⟩))):=(hB2.mono (show K≤w.heap.size+6 by omega)).setCell (p:=⟨K,6,none⟩) (zG _) _
 have hz3:(w2.setCell ⟨K,6,none⟩ (.pointer (some ⟨g,0,none⟩))).heap.size=w2.heap.size:=by simp[World.setCell]
 go_upto_region 9 with fail
 generalize w2.setCell ⟨K,6,none⟩ (.pointer (some ⟨g,0,none⟩))=w3 at *
 have c6:=zQ hG3 6
 have c3:=zQ hG3 3
 rw[show(vO 32 (.slice (some ⟨w.heap.size,0,none⟩) 4 4) (.slice (some ⟨w.heap.size+1,0,none⟩) 4 4) (.slice (some ⟨w.heap.size+1+1,0,none⟩) 4 4) (.slice (some ⟨w.heap.size+1+1+1,0,none⟩) 4 4) (.slice (some ⟨w.heap.size+1+1+1+1,0,none⟩) 4 4) (.pointer (some ⟨g,0,none⟩)) z6 z6).toArray[6]?=some (.pointer (some ⟨g,0,none⟩)) by rfl]at c6
 rw[show(vO 32 (.slice (some ⟨w.heap.size,0,none⟩) 4 4) (.slice (some ⟨w.heap.size+1,0,none⟩) 4 4) (.slice (some ⟨w.heap.size+1+1,0,none⟩) 4 4) (.slice (some ⟨w.heap.size+1+1+1,0,none⟩) 4 4) (.slice (some ⟨w.heap.size+1+1+1+1,0,none⟩) 4 4) (.pointer (some ⟨g,0,none⟩)) z6 z6).toArray[3]?=some (.slice (some ⟨w.heap.size+1+1,0,none⟩) 4 4) by rfl]at c3
 have hK3:K<w3.heap.size:=qr hG3
 have q33:RN w3 (In w.heap.size (w.heap.size+5)) (some ⟨w.heap.size+1+1,0,none⟩) 4 xm:=q3.below hB3 (fun b hb=>by have:=hb.2;omega)
 have hof:=gq 3 w3.drew (by omega)
 rw[show digs 18446744073709551616 3=[3] by rw[jj (by omega) (by omega),zy (by omega),qh (by omega),qV]]at hof
 have hg3:g<w3.heap.size:=hFR3.ff.fld.lt
 have ht1:=fun(X:World) (hX:Below w3.heap.size w3 X) (A1:Option Addr) (c1:Nat) (hO:OB X w3.heap.size A1 c1 [3])=>yn _ A1 c1 [3] X (hFR3.below hX hg3) hO.rn (fun b hb=>hb.2) (by simp) (by simp;exact hM3)
 have ht2:=fun(X:World) (hX:Below w3.heap.size w3 X)=>yn _ _ 4 xm X (hFR3.below hX hg3) (q33.below hX (fun b hb=>by have:=hb.2;omega)) (fun b hb=>by have:=hb.2;have:=hX.size;omega) (by decide) hbM
 have Hof:=zF hof
 have Ht1:=zF ht1
 have Ht2:=zF ht2
 clear hof ht1 ht2
 have c6d:w3.drew.cell? ⟨K,6,none⟩=some (.pointer (some ⟨g,0,none⟩)):=c6
 have c3d:w3.drew.cell? ⟨K,3,none⟩=some (.slice (some ⟨w.heap.size+1+1,0,none⟩) 4 4):=c3
 go_region_held3 (fun w'=>w'.cell? ⟨K,6,none⟩=some (.pointer (some ⟨g,0,none⟩))∧w'.cell? ⟨K,3,none⟩=some (.slice (some ⟨w.heap.size+1+1,0,none⟩) 4 4))
  (first|with_reducible exact⟨dd 7 (by decide) (by decide) c63,dd 7 (by decide) (by decide) c33⟩|with_reducible exact⟨dd 13 (by decide) (by decide) (dd 7 (by decide) (by decide) c63),dd 13 (by decide) (by decide) (dd 7 (by decide) (by decide) c33)⟩|exact⟨c6,c3⟩|exact⟨c61,c31⟩|exact⟨c62,c32⟩|exact⟨c63,c33⟩)
  (first
   | (go_at_call 67;refine Hof.out.mono ?_;rintro e x1 ⟨A1,cc1,rfl,hO1,hx1'⟩;have hx1:Below w3.heap.size w3 x1:=⟨hx1'.os,hx1'.tape,hx1'.output,hx1'.size,hx1'.block⟩;have hO1':OB x1 w3.heap.size A1 cc1 [3]:=hO1;have c61:=(hx1.cell (p:=⟨K,6,none⟩) hK3).trans c6;have c31:=(hx1.cell (p:=⟨K,3,none⟩) hK3).trans c3;have T1:=zF (Ht1.out x1 hx1 A1 cc1 hO1'))
   | (go_at_call_has 92 A1;refine T1.out.mono ?_;rintro e x2 ⟨o3,rfl,hf3,hx2⟩;obtain⟨u0,u1,u2,u3,u4,u5,hoe⟩:=six hf3.elt.six;have hve:EV o3=.agg #[.int .u64 (u0:Int),.int .u64 (u1:Int),.int .u64 (u2:Int),.int .u64 (u3:Int),.int .u64 (u4:Int),.int .u64 (u5:Int)]:=(by rw[hoe];rfl);rw[hve];clear hve;have Hoe:=zF hoe;clear hoe;have hx12:=hx1.trans (hx2.mono hx1.size);have c62:=(hx12.cell (p:=⟨K,6,none⟩) hK3).trans c6;have c32:=(hx12.cell (p:=⟨K,3,none⟩) hK3).trans c3;have T2:=zF (Ht2.out x2 hx12))
   | (go_at_call 92;refine T2.out.mono ?_;rintro e x3 ⟨ob,rfl,hfb,hx3⟩;obtain⟨v0,v1,v2,v3,v4,v5,hob⟩:=six hfb.elt.six;have hvb:EV ob=.agg #[.int .u64 (v0:Int),.int .u64 (v1:Int),.int .u64 (v2:Int),.int .u64 (v3:Int),.int .u64 (v4:Int),.int .u64 (v5:Int)]:=(by rw[hob];rfl);rw[hvb];clear hvb;have Hob:=zF hob;clear hob;have hx13:=hx12.trans (hx3.mono hx12.size);have c63:=(hx13.cell (p:=⟨K,6,none⟩) hK3).trans c6;have c33:=(hx13.cell (p:=⟨K,3,none⟩) hK3).trans c3;have hGx:=(hx13.block K hK3).trans hG3;have dz:=dW hGx;obtain⟨d7,y7⟩:=dz 7 (by decide) (by decide);obtain⟨d8,y8⟩:=dz 8 (by decide) (by decide);obtain⟨d9,y9⟩:=dz 9 (by decide) (by decide);obtain⟨d10,y10⟩:=dz 10 (by decide) (by decide);obtain⟨d11,y11⟩:=dz 11 (by decide) (by decide);obtain⟨d12,y12⟩:=dz 12 (by decide) (by decide);obtain⟨d13,y13⟩:=dz 13 (by decide) (by decide);obtain⟨d14,y14⟩:=dz 14 (by decide) (by decide);obtain⟨d15,y15⟩:=dz 15 (by decide) (by decide);obtain⟨d16,y16⟩:=dz 16 (by decide) (by decide);obtain⟨d17,y17⟩:=dz 17 (by decide) (by decide);obtain⟨d18,y18⟩:=dz 18 (by decide) (by decide);clear dz))
 obtain⟨t1,t2,t3,t4⟩:=t6 hGx u0 u1 u2 u3 u4 u5 v0 v1 v2 v3 v4 v5
 have hB9:=t4 w.heap.size w (by omega) (q8.trans ((hB3.trans (hx13.mono (by omega))).mono (by have:=q8.size;omega)))
 have hFR9:=hFR3.below hx13 hg3
 have hs3:w3.heap.size≤x3.heap.size:=hx13.size
 clear c61 c31 c62 c32 c63 c33 T1 T2 hGx hx1' hx1 hx2 hx3 hx12
 generalize((((((((((((x3.setCell ⟨K,7,none⟩ (.int .u64 (u0:Int))).setCell ⟨K,8,none⟩ (.int .u64 (u1:Int))).setCell ⟨K,9,none⟩ (.int .u64 (u2:Int))).setCell ⟨K,10,none⟩ (.int .u64 (u3:Int))).setCell ⟨K,11,none⟩ (.int .u64 (u4:Int))).setCell ⟨K,12,none⟩ (.int .u64 (u5:Int))).setCell ⟨K,13,none⟩ (.int .u64 (v0:Int))).setCell ⟨K,14,none⟩ (.int .u64 (v1:Int))).setCell ⟨K,15,none⟩ (.int .u64 (v2:Int))).setCell ⟨K,16,none⟩ (.int .u64 (v3:Int))).setCell ⟨K,17,none⟩ (.int .u64 (v4:Int))).setCell ⟨K,18,none⟩ (.int .u64 (v5:Int)))=w9 at *
 have hFR9':FR w9 g 4 inv M ml ol rl:=⟨⟨⟨(t2 g hgK).trans hFR9.ff.fld.blk,hFR9.ff.fld.m6,hFR9.ff.fld.o6,hFR9.ff.fld.r6⟩,hFR9.ff.mlt,hFR9.ff.mval,hFR9.ff.mtake,hFR9.ff.npos,hFR9.ff.nle,hFR9.ff.big,hFR9.ff.invLt,hFR9.ff.invV⟩,hFR9.oelt,hFR9.oval,hFR9.relt,hFR9.rval⟩
 have hz9:w.heap.size+6≤w9.heap.size:=by have:=hB3.size;omega
 have hkeep:∀(l:List Nat) (A:Option Addr) (c:Nat),RN z (In w.heap.size (w.heap.size+5)) A c l→RN w9 (In w.heap.size w9.heap.size) A c l:=fun l A c hR =>
  (hR.keep fun q hq=>qH ((t2 q.block (by have:=hq.2;omega)).trans ((hx13.block q.block (by have:=hq.2;omega)).trans (hB3.block q.block (by have:=hq.2;omega))))).mono fun b hb=>⟨hb.1,by have:=hb.2;omega⟩
 have r1:=hkeep _ _ _ q1
 have r2:=hkeep _ _ _ q2
 have r3:=hkeep _ _ _ q3
 have r4:=hkeep _ _ _ q4
 have r5:=hkeep _ _ _ q5
 have ho3:=Hoe.out
 have hob:=Hob.out
 rw[←ho3,←hob]at t1
 have hfin:Num w9 (In w.heap.size w9.heap.size) K g 32 4 inv M (val 18446744073709551616 xm) vk gG xm gF gE ml ol rl o3 ob (some ⟨w.heap.size,0,none⟩) (some ⟨w.heap.size+1,0,none⟩) (some ⟨w.heap.size+1+1,0,none⟩) (some ⟨w.heap.size+1+1+1,0,none⟩) (some ⟨w.heap.size+1+1+1+1,0,none⟩) 4 4 4 4 4 :=
  ⟨t1,r1,r2,r3,r4,r5,hFR9',hM,by have:=hf3;simpa using this,hfb⟩
 have Hfin:=zF hfin
 have HB9:=zF hB9
 clear hfin hB9 t1 t2 t3 t4 r1 r2 r3 r4 r5 hkeep hFR9 hFR9' hf3 hfb hFR3 hG3 q1 q2 q3 q4 q5 q6 q8
 go_wp2
 go_ret
 exact⟨K,g,inv,ml,ol,rl,o3,ob,rfl,by omega,Hfin.out,HB9.out⟩
def vj:List Nat:=[4294967295,18446744069414584320,18446744073709551614,18446744073709551615,18446744073709551615,18446744073709551615]
def gD:List Nat:=[17072048233947408755,6348401684107011962,14367412456785391071,18446744073709551615,18446744073709551615,18446744073709551615]
def xk:List Nat:=[3064076045283764975,14291673747578343837,221811693264799578,1737717031765098770,10992729701402291481,12912154004749740004]
def gC:List Nat:=[4203087948775033527,6125724927633205612,6482722621138151992,7934563412932533144,10282218360005504372,12288012358878168375]
def gB:List Nat:=[8809917716911230559,747793036959711645,16850834916486723776,17938995913990739068,6745997240412855337,3897828414440483951]
theorem rT (w:World):Calls Tryz.prog 64 #[.int .i64 2] w fun e w'=>∃ k g inv ml ol rl tl fl,e=.returned (.pointer (some ⟨k,0,none⟩))∧w.heap.size≤k ∧
 Num w' (In w.heap.size w'.heap.size) k g 48 6 inv (val 18446744073709551616 vj) (val 18446744073709551616 xk) vj gD xk gC gB ml ol rl tl fl (some ⟨w.heap.size,0,none⟩) (some ⟨w.heap.size+1,0,none⟩) (some ⟨w.heap.size+1+1,0,none⟩) (some ⟨w.heap.size+1+1+1,0,none⟩) (some ⟨w.heap.size+1+1+1+1,0,none⟩) 6 6 6 6 6∧Below w.heap.size w w':=by
 obtain⟨z,hz⟩:=eW (World.alloc (((((w.alloc (.cells (nts vj).toArray 65)).alloc (.cells (nts gD).toArray 65)).alloc (.cells (nts xk).toArray 65)).alloc (.cells (nts gC).toArray 65)).alloc (.cells (nts gB).toArray 65)) (.cells (vO 48 (.slice (some ⟨w.heap.size,0,none⟩) 6 6) (.slice (some ⟨w.heap.size+1,0,none⟩) 6 6) (.slice (some ⟨w.heap.size+1+1,0,none⟩) 6 6) (.slice (some ⟨w.heap.size+1+1+1,0,none⟩) 6 6) (.slice (some ⟨w.heap.size+1+1+1+1,0,none⟩) 6 6) (.pointer none) z6 z6).toArray 111))
 obtain⟨q1,q2,q3,q4,q5,q6,q7,q8⟩:=aU w vj gD xk gC gB _ ⟨by decide,by decide⟩ ⟨by decide,by decide⟩ ⟨by decide,by decide⟩ ⟨by decide,by decide⟩ ⟨by decide,by decide⟩ z hz
 have hd:digs 18446744073709551616 (val 18446744073709551616 vj)=vj:=gN (by omega) (by decide) (by decide)
 have hdl:(digs 18446744073709551616 (val 18446744073709551616 vj)).length=6:=by rw[hd];rfl
 have hM1:1<val 18446744073709551616 vj:=by decide +kernel
 have hMo:val 18446744073709551616 vj%2=1:=by decide +kernel
 have hM3:3<val 18446744073709551616 vj:=by decide +kernel
 have hbM:val 18446744073709551616 xk<val 18446744073709551616 vj:=by decide +kernel
 have hnew:=mo _ _ _ vj _ z q1 rfl hM1 hMo (by decide) (by rw[hdl];omega)
 rw[hdl,q7]at hnew
 obtain⟨M,hM⟩:=eV (val 18446744073709551616 vj)
 rw[hM]at hnew hM1 hMo hM3 hbM ⊢
 have Hnew:=zF hnew
 have hb1:vj.length=6:=rfl
 have Hz:=zF hz
 have H2:=Hnew.out
 rw[hz,hb1]at H2
 have Hn2:=zF H2
 obtain⟨K,hK⟩:=eV (w.heap.size+1+1+1+1+1)
 clear hd hdl hnew H2 Hnew hz
 go_enter Tryz.func64,Tryz.ntmps64
 go_wp2_with fail
 refine Hn2.out.mono ?_
 rintro e w2 ⟨g,inv,ml,ol,rl,rfl,hg,hFR,hB2⟩
 rw[←Hz.out]at hB2
 rw[hK]at q6
 have hs2:=hB2.size
 have hG2:=(hB2.block K (by omega)).trans q6
 have k6:=zQ hG2 6
 rw[show(vO 48 (.slice (some ⟨w.heap.size,0,none⟩) 6 6) (.slice (some ⟨w.heap.size+1,0,none⟩) 6 6) (.slice (some ⟨w.heap.size+1+1,0,none⟩) 6 6) (.slice (some ⟨w.heap.size+1+1+1,0,none⟩) 6 6) (.slice (some ⟨w.heap.size+1+1+1+1,0,none⟩) 6 6) (.pointer none) z6 z6).toArray[6]?=some (.pointer none) by rfl]at k6
 have kf:=qu hG2 6
 have hG3:=jM hG2 6 (.pointer (some ⟨g,0,none⟩))
 rw[show(vO 48 (.slice (some ⟨w.heap.size,0,none⟩) 6 6) (.slice (some ⟨w.heap.size+1,0,none⟩) 6 6) (.slice (some ⟨w.heap.size+1+1,0,none⟩) 6 6) (.slice (some ⟨w.heap.size+1+1+1,0,none⟩) 6 6) (.slice (some ⟨w.heap.size+1+1+1+1,0,none⟩) 6 6) (.pointer none) z6 z6).toArray.setIfInBounds 6 (.pointer (some ⟨g,0,none⟩))=(vO 48 (.slice (some ⟨w.heap.size,0,none⟩) 6 6) (.slice (some ⟨w.heap.size+1,0,none⟩) 6 6) (.slice (some ⟨w.heap.size+1+1,0,none⟩) 6 6) (.slice (some ⟨w.heap.size+1+1+1,0,none⟩) 6 6) (.slice (some ⟨w.heap.size+1+1+1+1,0,none⟩) 6 6) (.pointer (some ⟨g,0,none⟩)) z6 z6).toArray by rfl]at hG3
 have hgK:g≠K:=by omega
 have hFR3:FR (w2.setCell ⟨K,6,none⟩ (.pointer (some ⟨g,0,none⟩))) g 6 inv M ml ol rl:=⟨⟨⟨(je _ _ _ _ hgK).trans hFR.ff.fld.blk,hFR.ff.fld.m6,hFR.ff.fld.o6,hFR.ff.fld.r6⟩,hFR.ff.mlt,hFR.ff.mval,hFR.ff.mtake,hFR.ff.npos,hFR.ff.nle,hFR.ff.big,hFR.ff.invLt,hFR.ff.invV⟩,hFR.oelt,hFR.oval,hFR.relt,hFR.rval⟩
 have hB3:Below K z (w2.setCell ⟨K,6,none⟩ (.pointer (some ⟨g,0,none⟩))):=(hB2.mono (show K≤w.heap.size+6 by omega)).setCell (p:=⟨K,6,none⟩) (zG _) _
 have hz3:(w2.setCell ⟨K,6,none⟩ (.pointer (some ⟨g,0,none⟩))).heap.size=w2.heap.size:=by simp[World.setCell]
 go_upto_region 9 with fail
 generalize w2.setCell ⟨K,6,none⟩ (.pointer (some ⟨g,0,none⟩))=w3 at *
 have c6:=zQ hG3 6
 have c3:=zQ hG3 3
 rw[show(vO 48 (.slice (some ⟨w.heap.size,0,none⟩) 6 6) (.slice (some ⟨w.heap.size+1,0,none⟩) 6 6) (.slice (some ⟨w.heap.size+1+1,0,none⟩) 6 6) (.slice (some ⟨w.heap.size+1+1+1,0,none⟩) 6 6) (.slice (some ⟨w.heap.size+1+1+1+1,0,none⟩) 6 6) (.pointer (some ⟨g,0,none⟩)) z6 z6).toArray[6]?=some (.pointer (some ⟨g,0,none⟩)) by rfl]at c6
 rw[show(vO 48 (.slice (some ⟨w.heap.size,0,none⟩) 6 6) (.slice (some ⟨w.heap.size+1,0,none⟩) 6 6) (.slice (some ⟨w.heap.size+1+1,0,none⟩) 6 6) (.slice (some ⟨w.heap.size+1+1+1,0,none⟩) 6 6) (.slice (some ⟨w.heap.size+1+1+1+1,0,none⟩) 6 6) (.pointer (some ⟨g,0,none⟩)) z6 z6).toArray[3]?=some (.slice (some ⟨w.heap.size+1+1,0,none⟩) 6 6) by rfl]at c3
 have hK3:K<w3.heap.size:=qr hG3
 have q33:RN w3 (In w.heap.size (w.heap.size+5)) (some ⟨w.heap.size+1+1,0,none⟩) 6 xk:=q3.below hB3 (fun b hb=>by have:=hb.2;omega)
 have hof:=gq 3 w3.drew (by omega)
 rw[show digs 18446744073709551616 3=[3] by rw[jj (by omega) (by omega),zy (by omega),qh (by omega),qV]]at hof
 have hg3:g<w3.heap.size:=hFR3.ff.fld.lt
 have ht1:=fun(X:World) (hX:Below w3.heap.size w3 X) (A1:Option Addr) (c1:Nat) (hO:OB X w3.heap.size A1 c1 [3])=>yn _ A1 c1 [3] X (hFR3.below hX hg3) hO.rn (fun b hb=>hb.2) (by simp) (by simp;exact hM3)
 have ht2:=fun(X:World) (hX:Below w3.heap.size w3 X)=>yn _ _ 6 xk X (hFR3.below hX hg3) (q33.below hX (fun b hb=>by have:=hb.2;omega)) (fun b hb=>by have:=hb.2;have:=hX.size;omega) (by decide) hbM
 have Hof:=zF hof
 have Ht1:=zF ht1
 have Ht2:=zF ht2
 clear hof ht1 ht2
 have c6d:w3.drew.cell? ⟨K,6,none⟩=some (.pointer (some ⟨g,0,none⟩)):=c6
 have c3d:w3.drew.cell? ⟨K,3,none⟩=some (.slice (some ⟨w.heap.size+1+1,0,none⟩) 6 6):=c3
 go_region_held3 (fun w'=>w'.cell? ⟨K,6,none⟩=some (.pointer (some ⟨g,0,none⟩))∧w'.cell? ⟨K,3,none⟩=some (.slice (some ⟨w.heap.size+1+1,0,none⟩) 6 6))
  (first|with_reducible exact⟨dd 7 (by decide) (by decide) c63,dd 7 (by decide) (by decide) c33⟩|with_reducible exact⟨dd 13 (by decide) (by decide) (dd 7 (by decide) (by decide) c63),dd 13 (by decide) (by decide) (dd 7 (by decide) (by decide) c33)⟩|exact⟨c6,c3⟩|exact⟨c61,c31⟩|exact⟨c62,c32⟩|exact⟨c63,c33⟩)
  (first
   | (go_at_call 67;refine Hof.out.mono ?_;rintro e x1 ⟨A1,cc1,rfl,hO1,hx1'⟩;have hx1:Below w3.heap.size w3 x1:=⟨hx1'.os,hx1'.tape,hx1'.output,hx1'.size,hx1'.block⟩;have hO1':OB x1 w3.heap.size A1 cc1 [3]:=hO1;have c61:=(hx1.cell (p:=⟨K,6,none⟩) hK3).trans c6;have c31:=(hx1.cell (p:=⟨K,3,none⟩) hK3).trans c3;have T1:=zF (Ht1.out x1 hx1 A1 cc1 hO1'))
   | (go_at_call_has 92 A1;refine T1.out.mono ?_;rintro e x2 ⟨o3,rfl,hf3,hx2⟩;obtain⟨u0,u1,u2,u3,u4,u5,hoe⟩:=six hf3.elt.six;have hve:EV o3=.agg #[.int .u64 (u0:Int),.int .u64 (u1:Int),.int .u64 (u2:Int),.int .u64 (u3:Int),.int .u64 (u4:Int),.int .u64 (u5:Int)]:=(by rw[hoe];rfl);rw[hve];clear hve;have Hoe:=zF hoe;clear hoe;have hx12:=hx1.trans (hx2.mono hx1.size);have c62:=(hx12.cell (p:=⟨K,6,none⟩) hK3).trans c6;have c32:=(hx12.cell (p:=⟨K,3,none⟩) hK3).trans c3;have T2:=zF (Ht2.out x2 hx12))
   | (go_at_call 92;refine T2.out.mono ?_;rintro e x3 ⟨ob,rfl,hfb,hx3⟩;obtain⟨v0,v1,v2,v3,v4,v5,hob⟩:=six hfb.elt.six;have hvb:EV ob=.agg #[.int .u64 (v0:Int),.int .u64 (v1:Int),.int .u64 (v2:Int),.int .u64 (v3:Int),.int .u64 (v4:Int),.int .u64 (v5:Int)]:=(by rw[hob];rfl);rw[hvb];clear hvb;have Hob:=zF hob;clear hob;have hx13:=hx12.trans (hx3.mono hx12.size);have c63:=(hx13.cell (p:=⟨K,6,none⟩) hK3).trans c6;have c33:=(hx13.cell (p:=⟨K,3,none⟩) hK3).trans c3;have hGx:=(hx13.block K hK3).trans hG3;have dz:=dW hGx;obtain⟨d7,y7⟩:=dz 7 (by decide) (by decide);obtain⟨d8,y8⟩:=dz 8 (by decide) (by decide);obtain⟨d9,y9⟩:=dz 9 (by decide) (by decide);obtain⟨d10,y10⟩:=dz 10 (by decide) (by decide);obtain⟨d11,y11⟩:=dz 11 (by decide) (by decide);obtain⟨d12,y12⟩:=dz 12 (by decide) (by decide);obtain⟨d13,y13⟩:=dz 13 (by decide) (by decide);obtain⟨d14,y14⟩:=dz 14 (by decide) (by decide);obtain⟨d15,y15⟩:=dz 15 (by decide) (by decide);obtain⟨d16,y16⟩:=dz 16 (by decide) (by decide);obtain⟨d17,y17⟩:=dz 17 (by decide) (by decide);obtain⟨d18,y18⟩:=dz 18 (by decide) (by decide);clear dz))
 obtain⟨t1,t2,t3,t4⟩:=t6 hGx u0 u1 u2 u3 u4 u5 v0 v1 v2 v3 v4 v5
 have hB9:=t4 w.heap.size w (by omega) (q8.trans ((hB3.trans (hx13.mono (by omega))).mono (by have:=q8.size;omega)))
 have hFR9:=hFR3.below hx13 hg3
 have hs3:w3.heap.size≤x3.heap.size:=hx13.size
 clear c61 c31 c62 c32 c63 c33 T1 T2 hGx hx1' hx1 hx2 hx3 hx12
 generalize((((((((((((x3.setCell ⟨K,7,none⟩ (.int .u64 (u0:Int))).setCell ⟨K,8,none⟩ (.int .u64 (u1:Int))).setCell ⟨K,9,none⟩ (.int .u64 (u2:Int))).setCell ⟨K,10,none⟩ (.int .u64 (u3:Int))).setCell ⟨K,11,none⟩ (.int .u64 (u4:Int))).setCell ⟨K,12,none⟩ (.int .u64 (u5:Int))).setCell ⟨K,13,none⟩ (.int .u64 (v0:Int))).setCell ⟨K,14,none⟩ (.int .u64 (v1:Int))).setCell ⟨K,15,none⟩ (.int .u64 (v2:Int))).setCell ⟨K,16,none⟩ (.int .u64 (v3:Int))).setCell ⟨K,17,none⟩ (.int .u64 (v4:Int))).setCell ⟨K,18,none⟩ (.int .u64 (v5:Int)))=w9 at *
 have hFR9':FR w9 g 6 inv M ml ol rl:=⟨⟨⟨(t2 g hgK).trans hFR9.ff.fld.blk,hFR9.ff.fld.m6,hFR9.ff.fld.o6,hFR9.ff.fld.r6⟩,hFR9.ff.mlt,hFR9.ff.mval,hFR9.ff.mtake,hFR9.ff.npos,hFR9.ff.nle,hFR9.ff.big,hFR9.ff.invLt,hFR9.ff.invV⟩,hFR9.oelt,hFR9.oval,hFR9.relt,hFR9.rval⟩
 have hz9:w.heap.size+6≤w9.heap.size:=by have:=hB3.size;omega
 have hkeep:∀(l:List Nat) (A:Option Addr) (c:Nat),RN z (In w.heap.size (w.heap.size+5)) A c l→RN w9 (In w.heap.size w9.heap.size) A c l:=fun l A c hR =>
  (hR.keep fun q hq=>qH ((t2 q.block (by have:=hq.2;omega)).trans ((hx13.block q.block (by have:=hq.2;omega)).trans (hB3.block q.block (by have:=hq.2;omega))))).mono fun b hb=>⟨hb.1,by have:=hb.2;omega⟩
 have r1:=hkeep _ _ _ q1
 have r2:=hkeep _ _ _ q2
 have r3:=hkeep _ _ _ q3
 have r4:=hkeep _ _ _ q4
 have r5:=hkeep _ _ _ q5
 have ho3:=Hoe.out
 have hob:=Hob.out
 rw[←ho3,←hob]at t1
 have hfin:Num w9 (In w.heap.size w9.heap.size) K g 48 6 inv M (val 18446744073709551616 xk) vj gD xk gC gB ml ol rl o3 ob (some ⟨w.heap.size,0,none⟩) (some ⟨w.heap.size+1,0,none⟩) (some ⟨w.heap.size+1+1,0,none⟩) (some ⟨w.heap.size+1+1+1,0,none⟩) (some ⟨w.heap.size+1+1+1+1,0,none⟩) 6 6 6 6 6 :=
  ⟨t1,r1,r2,r3,r4,r5,hFR9',hM,by have:=hf3;simpa using this,hfb⟩
 have Hfin:=zF hfin
 have HB9:=zF hB9
 clear hfin hB9 t1 t2 t3 t4 r1 r2 r3 r4 r5 hkeep hFR9 hFR9' hf3 hfb hFR3 hG3 q1 q2 q3 q4 q5 q6 q8
 go_wp2
 go_ret
 exact⟨K,g,inv,ml,ol,rl,o3,ob,rfl,by omega,Hfin.out,HB9.out⟩
def xJ (X:World) (b:Nat) (l:List Nat):Prop:=X.heap[b]?=some (.cells (nts l).toArray 109 (0,0))
theorem xJ.ext {X Y:World}{b:Nat}{l:List Nat}(h:xJ X b l)(hE:Ext X Y):xJ Y b l:=hE.at_ h
theorem xJ.range {X:World}{b:Nat}{l:List Nat}(h:xJ X b l):X.rangeAt b 0 (nts l):=fun j v hv=>by
 rw[jH,zQ h j];simpa using hv
theorem xJ.lt {X:World}{b:Nat}{l:List Nat}(h:xJ X b l):b<X.heap.size:=qr h
theorem bM:(Tryz.prog.info? 109).map (·.size)=some 6:=by kernel_rfl
theorem loadE {X:World}{b o:Nat}{l:List Nat}(h:X.rangeAt b o (nts l))(h6:l.length=6):(Instr.loadAt 109 (.pointer (some ⟨b,o,none⟩))).run Tryz.prog X=.ok (EV l) X :=
 run_loadAt_mid X b o 109 (nts l) _ h Tryz.underlying109 rfl (by rw[qf,h6];exact bM)
structure Lay (b:Nat) (l:List Nat) (X Y:World):Prop where
 just:jQ b X Y
 blk:xJ Y b l
 size:Y.heap.size=X.heap.size
theorem zDK {X:World}{b:Nat}{l:List Nat}{cs:List Value}(h:X.heap[b]?=some (.cells cs.toArray 109 (0,0)))(hc:cs.length=6)(h6:l.length=6) :
 ∃ Y,(Instr.storeAt 109 (.pointer (some ⟨b,0,none⟩)) (EV l)).run Tryz.prog X=.ok () Y∧Lay b l X Y:=by
 have ht:X.there b 0 (nts l).toArray.size:=fun j hj=>by
  have hj':j<6:=by simpa[nts,h6]using hj
  refine⟨?_,qu h _⟩;rw[jH,zQ h j];simp[hc,hj']
 have hr:=run_storeAt_mid (P:=Tryz.prog) X b 0 109 (nts l).toArray ht (by rw[qX,qf,h6];exact bM) (all_oneCell_toArray (kj l))
 obtain⟨a0,a1,a2,a3,a4,a5,rfl⟩:=six h6
 obtain⟨c0,c1,c2,c3,c4,c5,rfl⟩:∃ a b c d e f,cs=[a,b,c,d,e,f]:=by
  match cs,hc with
  | [a,b,c,d,e,f],_=>exact⟨a,b,c,d,e,f,rfl⟩
 refine⟨_,hr,?_⟩
 have e:X.setCells b 0 (nts [a0,a1,a2,a3,a4,a5]).toArray.toList=((((((X.setCell ⟨b,0,none⟩ (.int .u64 (a0:Int))).setCell ⟨b,0+1,none⟩ (.int .u64 (a1:Int))).setCell ⟨b,0+2,none⟩ (.int .u64 (a2:Int))).setCell ⟨b,0+3,none⟩ (.int .u64 (a3:Int))).setCell ⟨b,0+4,none⟩ (.int .u64 (a4:Int))).setCell ⟨b,0+5,none⟩ (.int .u64 (a5:Int))):=rfl
 rw[e]
 refine⟨((((((jk b X).set _ _).set _ _).set _ _).set _ _).set _ _).set _ _,?_,by simp[World.setCell]⟩
 exact mB [] [] (j:=0) rfl h
theorem kg {op:Oper}{a:Act}{X:World}{K:Act→World→Prop}{Q:Exit→Act→World→Prop}(x:Operand)(ho:op.op=.load 109 x){b o:Nat}{l:List Nat}(hx:a.eval x=.pointer (some ⟨b,o,none⟩))(h:X.rangeAt b o (nts l))(h6:l.length=6)(hK:K (a.put op.dst (EV l)) X):op.wp Tryz.prog a X K Q :=
 wp_load_mid 109 x ho b o hx (nts l) _ h Tryz.underlying109 rfl (by rw[qf,h6];exact bM) hK
theorem qe {op:Oper}{a:Act}{X:World}{K:Act→World→Prop}{Q:Exit→Act→World→Prop}(x y:Operand)(ho:op.op=.store 109 x y)(hd:op.dst=none){b:Nat}{l:List Nat}{cs:List Value}
 (hx:a.eval x=.pointer (some ⟨b,0,none⟩)) (hy:a.eval y=EV l) (h:X.heap[b]?=some (.cells cs.toArray 109 (0,0))) (hc:cs.length=6) (h6:l.length=6) (hK:∀ Y,Lay b l X Y→K a Y):op.wp Tryz.prog a X K Q:=by
 obtain⟨Y,hr,hl⟩:=zDK h hc h6
 unfold Oper.wp execOp
 simp only[ho,hx,hy,vC,hr,qw]
 rw[Sem.run_pure]
 show K (a.put op.dst undef) Y
 rw[hd]
 exact hK Y hl
theorem Lay.ext {b:Nat}{l:List Nat}{w X Y:World}(h:Lay b l X Y)(hE:Ext w X)(hb:w.heap.size≤b):Ext w Y:=kG hE (h.just.below hb hE.bsize)
theorem Lay.other {b c:Nat}{l:List Nat}{X Y:World}{o:Obj}(h:Lay b l X Y)(hc:c≠b)(hx:X.heap[c]?=some o):Y.heap[c]?=some o:=(h.just.block c (qr hx) hc).trans hx
def VE (X:World) (M n b x:Nat):Prop:=∃ l,xJ X b l∧FE M n l x
theorem VE.ext {X Y:World}{M n b x:Nat}(h:VE X M n b x)(hE:Ext X Y):VE Y M n b x:=let ⟨l,h1,h2⟩:=h;⟨l,h1.ext hE,h2⟩
theorem VE.load {X:World}{M n b x:Nat}(h:VE X M n b x):∃ l,(Instr.loadAt 109 (.pointer (some ⟨b,0,none⟩))).run Tryz.prog X=.ok (EV l) X∧FE M n l x:=let ⟨l,h1,h2⟩:=h;⟨l,loadE h1.range h2.elt.six,h2⟩
theorem Lay.ve {b c x M n:Nat}{l:List Nat}{X Y:World}(h:Lay b l X Y)(hc:c≠b)(hx:VE X M n c x):VE Y M n c x:=let ⟨o,h1,h2⟩:=hx;⟨o,h.other hc h1,h2⟩
theorem Lay.mk' {b x M n:Nat}{l:List Nat}{X Y:World}(h:Lay b l X Y)(hf:FE M n l x):VE Y M n b x:=⟨l,h.blk,hf⟩
section
variable {Q:Exit→Act→World→Prop} {ol:List Oper} {m:Nat} {L AL:List Nat} {R:Nat→(Nat→Value)→World→Prop} {a:Act} {w:World} {F:List Oper→Prop} {k n:Nat} {o:Oper} {l:List Oper} {u:Value}
theorem lE (k' n' j:Nat){b i M n1 z:Nat}{e:List Nat}{x:Operand}(h:∀ X,Ext w X→X.rangeAt b i (nts e))(hf:FE M n1 e z)(hs:Par.qT (Par.jP Tryz.prog ol Q Ext m L AL R a w) F k' n' l)(hr:∀ f X,R j (Par.qj (fun i=>L.getD i 0) j f) X→f j=u:=by exact fun _ _ h=>h)(hR:∀ f X,(∃ o,f k=EV o∧FE M n1 o z)→R k (Par.qj (fun i=>L.getD i 0) k f) X:=by exact fun _ _ h=>h)(hk:k+1=k':=by rfl)(hn:n'+1=n:=by rfl)(ha:AL.contains k=false:=by kernel_rfl)
 (hj:(L.getD k 0).testBit j=true:=by kernel_rfl)
 (hw:∀ f,Region.wanted o (yielded ol.toArray (Par.put ol.toArray (Par.nd (fun i=>L.getD i 0) k) (Par.upd f j u) (List.range m) a).tmps)=true:=by intro _;kernel_rfl)
 (ho:o.op=.load 109 x:=by rfl) (hx:∀ f,(Par.put ol.toArray (Par.nd (fun i=>L.getD i 0) k) (Par.upd f j u) (List.range m) a).eval x=.pointer (some ⟨b,i,none⟩):=by intro _;kernel_rfl):Par.qT (Par.jP Tryz.prog ol Q Ext m L AL R a w) F k n (o::l) :=
 Par.vx (v:=EV e) (fun f=>Par.upd f j u) hs (fun f X h=>Par.xj (hr f X (h j hj))) (fun f X h=>hR f X ⟨e,h,hf⟩) hk hn ha hw (fun f X hX=>by
  have hrun:=run_loadAt_mid (P:=Tryz.prog) X b i 109 (nts e) _ (h X hX) Tryz.underlying109 rfl (by rw[qf,hf.elt.six];exact bM)
  unfold execOp
  simp only[ho,vC,hx,hrun,qw]
  rfl)
theorem lX (k' n':Nat){b i M n1 z:Nat}{x:Operand}(h:∀ X,Ext w X→∃ e,X.rangeAt b i (nts e)∧FE M n1 e z)(hs:Par.qT (Par.jP Tryz.prog ol Q Ext m L AL R a w) F k' n' l)(hR:∀ f X,(∃ o,f k=EV o∧FE M n1 o z)→R k (Par.qj (fun i=>L.getD i 0) k f) X:=by exact fun _ _ h=>h)(hk:k+1=k':=by rfl)(hn:n'+1=n:=by rfl)(ha:AL.contains k=false:=by kernel_rfl)
 (hw:∀ f,Region.wanted o (yielded ol.toArray (Par.put ol.toArray (Par.nd (fun i=>L.getD i 0) k) f (List.range m) a).tmps)=true:=by intro _;kernel_rfl)
 (ho:o.op=.load 109 x:=by rfl) (hx:∀ f,(Par.put ol.toArray (Par.nd (fun i=>L.getD i 0) k) f (List.range m) a).eval x=.pointer (some ⟨b,i,none⟩):=by intro _;kernel_rfl):Par.qT (Par.jP Tryz.prog ol Q Ext m L AL R a w) F k n (o::l) :=
 Par.vy hs hk hn ha hw (fun f X hX=>by
  obtain⟨e,h1,hf⟩:=h X hX
  have hrun:=run_loadAt_mid (P:=Tryz.prog) X b i 109 (nts e) _ h1 Tryz.underlying109 rfl (by rw[qf,hf.elt.six];exact bM)
  refine⟨EV e,?_,fun Y _=>hR _ _ ⟨e,by simp[Par.upd],hf⟩⟩
  unfold execOp
  simp only[ho,vC,hx,hrun,qw]
  rfl)
theorem fc (k' n' i j j':Nat){F':FuncId}{pf:Value}{M n1 x y z z':Nat}(hc:∀ X,Ext w X→∀ o1 o2,FE M n1 o1 x→FE M n1 o2 y→Calls Tryz.prog F' #[pf,EV o1,EV o2] X fun e w'=>∃ o,e=.returned (EV o)∧FE M n1 o z'∧Ext X w')(hz:z'=z)(hs:Par.qT (Par.jP Tryz.prog ol Q Ext m L AL R a w) F k' n' l)
 (hr:∀ f X,R i (Par.qj (fun i=>L.getD i 0) i f) X→f i=pf:=by exact fun _ _ h=>h) (h1:∀ f X,R j (Par.qj (fun i=>L.getD i 0) j f) X→∃ o,f j=EV o∧FE M n1 o x:=by exact fun _ _ h=>h) (h2:∀ f X,R j' (Par.qj (fun i=>L.getD i 0) j' f) X→∃ o,f j'=EV o∧FE M n1 o y:=by exact fun _ _ h=>h)
 (hR:∀ f X,(∃ o,f k=EV o∧FE M n1 o z)→R k (Par.qj (fun i=>L.getD i 0) k f) X:=by exact fun _ _ h=>h) (hk:k+1=k':=by rfl) (hn:n'+1=n:=by rfl) (ha:AL.contains k=false:=by kernel_rfl) (hi:(L.getD k 0).testBit i=true:=by kernel_rfl) (hj:(L.getD k 0).testBit j=true:=by kernel_rfl) (hj':(L.getD k 0).testBit j'=true:=by kernel_rfl)
 (hw:∀ f,Region.wanted o (yielded ol.toArray (Par.put ol.toArray (Par.nd (fun i=>L.getD i 0) k) f (List.range m) a).tmps)=true:=by intro _;kernel_rfl)
 (hrun:∀ f X,(execOp (Par.put ol.toArray (Par.nd (fun i=>L.getD i 0) k) f (List.range m) a).eval o).run Tryz.prog X=.ok (.enter F' #[f i,f j,f j']) X:=by intro _ _;kernel_rfl):Par.qT (Par.jP Tryz.prog ol Q Ext m L AL R a w) F k n (o::l) :=
 Par.cx (args:=fun f=>#[f i,f j,f j']) hs hk hn ha (fun f _ _=>hw f) hrun fun f X hX h=>by
  obtain⟨o1,e1,g1⟩:=h1 f X (h.out j hj);obtain⟨o2,e2,g2⟩:=h2 f X (h.out j' hj');rw[hr f X (h.out i hi),e1,e2];refine(hc X hX o1 o2 g1 g2).mono ?_;rintro e w' ⟨v,rfl,hv,hE⟩;exact⟨EV v,rfl,hE,fun Y _=>hR _ _ ⟨v,by simp[Par.upd],hz▸hv⟩⟩
end
section
variable {w X:World} {P0:Nat→Prop} {k g size n inv M bb:Nat} {pl nl bl xl yl ml ol rl tl fl:List Nat} {Ap An Ab Ax Ay:Option Addr} {cp cn cb cx cy:Nat}
theorem Num.ext (h:Num w P0 k g size n inv M bb pl nl bl xl yl ml ol rl tl fl Ap An Ab Ax Ay cp cn cb cx cy)(hP:∀ b,P0 b→b<w.heap.size)(hE:Ext w X):Num X P0 k g size n inv M bb pl nl bl xl yl ml ol rl tl fl Ap An Ab Ax Ay cp cn cb cx cy :=
 ⟨hE.at_ h.blk,h.p.below hE hP,h.nn.below hE hP,h.b.below hE hP,h.x.below hE hP,h.y.below hE hP,h.fr.below hE h.fr.ff.fld.lt,h.pv,h.three,h.fb⟩
theorem Num.c_size (h:Num w P0 k g size n inv M bb pl nl bl xl yl ml ol rl tl fl Ap An Ab Ax Ay cp cn cb cx cy):w.cell? ⟨k,0,none⟩=some (.int .i64 (size:Int)):=zQ h.blk 0
theorem Num.c_p (h:Num w P0 k g size n inv M bb pl nl bl xl yl ml ol rl tl fl Ap An Ab Ax Ay cp cn cb cx cy):w.cell? ⟨k,1,none⟩=some (.slice Ap pl.length cp):=zQ h.blk 1
theorem Num.c_n (h:Num w P0 k g size n inv M bb pl nl bl xl yl ml ol rl tl fl Ap An Ab Ax Ay cp cn cb cx cy):w.cell? ⟨k,2,none⟩=some (.slice An nl.length cn):=zQ h.blk 2
theorem Num.c_x (h:Num w P0 k g size n inv M bb pl nl bl xl yl ml ol rl tl fl Ap An Ab Ax Ay cp cn cb cx cy):w.cell? ⟨k,4,none⟩=some (.slice Ax xl.length cx):=zQ h.blk 4
theorem Num.c_y (h:Num w P0 k g size n inv M bb pl nl bl xl yl ml ol rl tl fl Ap An Ab Ax Ay cp cn cb cx cy):w.cell? ⟨k,5,none⟩=some (.slice Ay yl.length cy):=zQ h.blk 5
theorem Num.c_f (h:Num w P0 k g size n inv M bb pl nl bl xl yl ml ol rl tl fl Ap An Ab Ax Ay cp cn cb cx cy):w.cell? ⟨k,6,none⟩=some (.pointer (some ⟨g,0,none⟩)):=zQ h.blk 6
theorem Num.r_three (h:Num w P0 k g size n inv M bb pl nl bl xl yl ml ol rl tl fl Ap An Ab Ax Ay cp cn cb cx cy):w.rangeAt k 7 (nts tl):=fun j v hv=>by
 rw[zQ h.blk];obtain⟨a,b,c,d,e,f,rfl⟩:=six h.three.elt.six;match j,hv with
 | 0,hv|1,hv|2,hv|3,hv|4,hv|5,hv=>exact hv
 | j+6,hv=>simp[nts]at hv
theorem Num.r_fb (h:Num w P0 k g size n inv M bb pl nl bl xl yl ml ol rl tl fl Ap An Ab Ax Ay cp cn cb cx cy):w.rangeAt k 13 (nts fl):=fun j v hv=>by
 rw[zQ h.blk];obtain⟨a,b,c,d,e,f,rfl⟩:=six h.three.elt.six;obtain⟨a,b,c,d,e,f,rfl⟩:=six h.fb.elt.six;match j,hv with
 | 0,hv|1,hv|2,hv|3,hv|4,hv|5,hv=>exact hv
 | j+6,hv=>simp[nts]at hv
theorem Num.six (h:Num w P0 k g size n inv M bb pl nl bl xl yl ml ol rl tl fl Ap An Ab Ax Ay cp cn cb cx cy){x:Nat}(hx:x<M):(digs 18446744073709551616 x).length≤6 :=
 qR (by omega) (zI (Nat.lt_trans hx h.fr.ff.room) (zv (by omega) h.fr.ff.nle))
end
end Go.Proofs.YtaemogcomplhiaaGreatDoor
