/- Laws that the proof rests on. -/
import Derived.Test.YtmlbicgpehchhaaGreatQee52dcdb7c9b
set_option maxRecDepth 100000
set_option maxHeartbeats 16000000
namespace Go.Proofs.YtmlbicgpehchhaaGreat
open Go.RowKit
theorem xU {x:Nat} : (digs 4294967296 x).length=0↔x=0:=by
 constructor
 · intro h
   have:=z7 (B:=4294967296) (by omega) x
   rw [qH h] at this
   simpa [val] using this.symm
 · rintro rfl
   rw [qY]
   rfl
theorem wX {x:Nat} (h:x=0):decide ((digs 4294967296 x).length=0)=true:=qi (xU.2 h)
theorem vZ {x:Nat} (h:¬ x=0):decide ((digs 4294967296 x).length=0)=false:=qp (fun e=>h (xU.1 e))
theorem wY {x:Nat} (h:x=0):decide (((digs 4294967296 x).length:Int)=0)=true:=qi (by have:=xU.2 h;omega)
theorem vc {x:Nat} (h:¬ x=0):decide (((digs 4294967296 x).length:Int)=0)=false:=qp (fun e=>h (xU.1 (by omega)))
theorem wZ {x:Nat} (h:x=0):((((digs 4294967296 x).length:Nat):Int)==0)=true:=by rw [xU.2 h];rfl
theorem vd {x:Nat} (h:¬ x=0):((((digs 4294967296 x).length:Nat):Int)==0)=false:=by rw [beq_eq_false_iff_ne];exact fun e=>h (xU.1 (by omega))
theorem bC (w:World) (o1 o2 o3:Obj):(((w.alloc o1).alloc o2).alloc o3).heap[w.heap.size]?=some o1∧(((w.alloc o1).alloc o2).alloc o3).heap[w.heap.size+1]?=some o2∧(((w.alloc o1).alloc o2).alloc o3).heap[w.heap.size+2]?=some o3∧(((w.alloc o1).alloc o2).alloc o3).heap.size=w.heap.size+3 :=
 ⟨(zR _ _).at_ (kW w o1 o2).1,(zR _ _).at_ (kW w o1 o2).2.1,by have:=zN ((w.alloc o1).alloc o2) o3;rwa [(kW w o1 o2).2.2] at this,by simp⟩
def twP (M x y z:Nat):Nat×Nat×Nat:=if z=0 then (0,0,0) else if y=0 then (0,0,0) else let u1:=mm M z z;let u2:=am M x u1;let u3:=sm M x u1;let u4:=mm M u3 u2;let u5:=mm M 3 u4;let u6:=mm M y y;let u7:=mm M x u6;let u8:=mm M 4 u7;let u9:=mm M u5 u5;let u10:=sm M u9 u8;let u11:=sm M u10 u8;let u12:=sm M u8 u11;let u13:=mm M u5 u12;let u14:=mm M u6 u6;let u15:=mm M 8 u14;let u16:=sm M u13 u15;let u17:=mm M y z;let u18:=mm M 2 u17;(u11,u16,u18)
theorem nG {C:Crv} {ccs:Array Value} {v:Value} {p:Nat×Nat×Nat} (hF:C.Fine) (h8:8<C.M) (w:World) (hc:RC w C (.agg ccs)) (hj:JN w C v p) :
 Calls Tryz.prog 93 #[.agg ccs,v] w fun e w'=>∃ o,e=.returned o∧JN w' C o (twP C.M p.1 p.2.1 p.2.2)∧Ext w w':=by
 obtain ⟨A1,A2,A3,k1,k2,k3,rfl,hj1,hj2,hj3,hx,hy,hz⟩:=hj
 obtain ⟨x,y,z⟩:=p
 simp only at hj1 hj2 hj3 hx hy hz ⊢
 obtain ⟨Ap,An,Ab,Ax,Ay,cp,cn,cb,cx,cy,hccs,hP,hN,hB,hX1,hY1⟩:=hc
 injection hccs with hccs
 have hRC0:RC w C (.agg ccs):=⟨Ap,An,Ab,Ax,Ay,cp,cn,cb,cx,cy,by rw [hccs],hP,hN,hB,hX1,hY1⟩
 obtain ⟨W0,hW0⟩:=eW (((w.alloc (.cells ccs 73)).alloc (.cells #[.slice A1 (digs 4294967296 x).length k1,.slice A2 (digs 4294967296 y).length k2,.slice A3 (digs 4294967296 z).length k3] 132)).alloc (.cells #[.slice none 0 0,.slice none 0 0,.slice none 0 0] 132))
 obtain ⟨q,hq⟩:=eV w.heap.size
 have hE0:Ext w W0:=by rw [hW0];exact ((zR _ _).trans (zR _ _)).trans (zR _ _)
 obtain ⟨hcb,hjb,hrb,hz0⟩:=bC w (.cells ccs 73) (.cells #[.slice A1 (digs 4294967296 x).length k1,.slice A2 (digs 4294967296 y).length k2,.slice A3 (digs 4294967296 z).length k3] 132) (.cells #[.slice none 0 0,.slice none 0 0,.slice none 0 0] 132)
 rw [←hW0,hq] at hcb hjb hrb hz0
 have j0:=zH hjb 0
 have j1:=zH hjb 1
 have j2:=zH hjb 2
 have cP:=zH hcb 0
 rw [hccs] at cP
 simp only [zI,zJ,zL] at j0 j1 j2 cP
 have hRC:=zF (hRC0.ext hE0)
 have Hccs:=zF (show ccs.size=6 by rw [hccs];rfl)
 have HRP:=zF (zb hP hE0)
 have HX1:=zF (zb hj1 hE0)
 have HX2:=zF (zb hj2 hE0)
 have HX3:=zF (zb hj3 hE0)
 have HF:=zF hF
 have H8:=zF h8
 have hM0:0<C.M:=by omega
 have HE0:=zF hE0
 have Hz0:=zF hz0
 replace hx:=zF hx
 replace hy:=zF hy
 replace hz:=zF hz
 clear hRC0 hccs hP hN hB hX1 hY1 hj1 hj2 hj3 hF h8 hE0 hz0 hjb
 by_cases hz0:z=0
 · rw [show twP C.M x y z=(0,0,0) by rw [twP,qE hz0]]
   replace hz0:=zF hz0
   go_enter Tryz.func93,Tryz.ntmps93
   go_upto_region 1 with fail
   rw [←hW0]
   have Hq:=zF hq
   have HW0:=zF hW0
   have hE:=zd W0
   clear hq hW0
   refine zX 10 [0,1,3,7,15,31,63,127,255,511] [] (fun j f X=>match j with
    | 0=>f 0=.pointer (some ⟨q+1,2,none⟩)
    | 1=>f 1=.slice A3 (digs 4294967296 z).length k3
    | 2=>f 2=.int .i64 ((digs 4294967296 z).length:Int)
    | 3=>f 3=.bool true
    | 4=>f 4=.bool true
    | 5=>f 5=undef
    | 6=>f 6=undef
    | 7=>f 7=undef
    | 8=>f 8=undef
    | 9=>f 9=.bool true
    | _=>True) (by kernel_rfl) [(12,0),(13,1),(14,2),(15,3),(16,4),(17,5),(18,6),(19,7),(20,8),(21,9)] (by kernel_rfl) ?_
   refine zT 1 9 ?_
   refine qG 2 8 0 (hE.cell j2) ?_
   refine zt 3 7 [(12,0),(13,1)] (fun f X hX hR K hK=>?_) ?_
   · have e1:f 1=_:=hR.out 1 rfl
     simp only [yZ,e1]
     refine ⟨?_⟩
     go_simp
     exact qe hK (s:=by simp only [yZ,e1])
   refine zt 4 6 [(12,0),(13,1),(14,2)] (fun f X hX hR K hK=>?_) ?_
   · have e2:f 2=_:=hR.out 2 rfl
     have hz1:decide (((digs 4294967296 z).length:Int)=0)=true:=wY hz0.out
     have hz2:decide ((digs 4294967296 z).length=0)=true:=wX hz0.out
     have hz4:((((digs 4294967296 z).length:Nat):Int)==0)=true:=wZ hz0.out
     simp only [yZ,e2]
     refine ⟨?_⟩
     go_simp
     exact qe hK (s:=by simp only [yZ,e2])
   refine qL 5 5 3 ?_
   refine jl 6 4 4 ?_
   refine jl 7 3 4 ?_
   refine jl 8 2 4 ?_
   refine jl 9 1 4 ?_
   refine vv 10 0 4 8 ?_
   refine yF ⟨fun f X hX hR hal hap=>?_⟩
   have e9:f 9=_:=hR 9 (by decide)
   simp only [yZ,e9]
   clear hR hal hap e9
   refine zK ?_
   replace hE:=hE.trans hX
   clear hX  
   rename World=>X1_k
   have hb1:=hE.at_ hrb
   obtain ⟨z0,z1,z2,f0,f1,f2⟩:=qc hb1
   go_wp2
   exact us rfl rfl rfl (kw hb1 _ _ _) ⟨_,rfl,⟨none,none,none,0,0,0,by rw [qY];rfl,RN.nil0 _,RN.nil0 _,RN.nil0 _,hM0,hM0,hM0⟩,ky (HE0.out.trans hE) (by have:=Hq.out;omega) _ _ _⟩
 by_cases hy0:y=0
 · rw [show twP C.M x y z=(0,0,0) by rw [twP,zr hz0,qE hy0]]
   replace hz0:=zF hz0
   replace hy0:=zF hy0
   go_enter Tryz.func93,Tryz.ntmps93
   go_upto_region 1 with fail
   rw [←hW0]
   have Hq:=zF hq
   have HW0:=zF hW0
   have hE:=zd W0
   clear hq hW0
   refine zX 10 [0,1,3,7,15,31,63,127,255,511] [] (fun j f X=>match j with
    | 0=>f 0=.pointer (some ⟨q+1,2,none⟩)
    | 1=>f 1=.slice A3 (digs 4294967296 z).length k3
    | 2=>f 2=.int .i64 ((digs 4294967296 z).length:Int)
    | 3=>f 3=.bool false
    | 4=>f 4=.bool false
    | 5=>f 5=.pointer (some ⟨q+1,1,none⟩)
    | 6=>f 6=.slice A2 (digs 4294967296 y).length k2
    | 7=>f 7=.int .i64 ((digs 4294967296 y).length:Int)
    | 8=>f 8=.bool true
    | 9=>f 9=.bool true
    | _=>True) (by kernel_rfl) [(12,0),(13,1),(14,2),(15,3),(16,4),(17,5),(18,6),(19,7),(20,8),(21,9)] (by kernel_rfl) ?_
   refine zT 1 9 ?_
   refine qG 2 8 0 (hE.cell j2) ?_
   refine zt 3 7 [(12,0),(13,1)] (fun f X hX hR K hK=>?_) ?_
   · have e1:f 1=_:=hR.out 1 rfl
     simp only [yZ,e1]
     refine ⟨?_⟩
     go_simp
     exact qe hK (s:=by simp only [yZ,e1])
   refine zt 4 6 [(12,0),(13,1),(14,2)] (fun f X hX hR K hK=>?_) ?_
   · have e2:f 2=_:=hR.out 2 rfl
     have hz1:decide (((digs 4294967296 z).length:Int)=0)=false:=vc hz0.out
     have hz2:decide ((digs 4294967296 z).length=0)=false:=vZ hz0.out
     have hz4:((((digs 4294967296 z).length:Nat):Int)==0)=false:=vd hz0.out
     simp only [yZ,e2]
     refine ⟨?_⟩
     go_simp
     exact qe hK (s:=by simp only [yZ,e2])
   refine qL 5 5 3 ?_
   refine qL 6 4 4 ?_
   refine zt 7 3 [(12,0),(13,1),(14,2),(15,3),(16,4),(17,5)] (fun f X hX hR K hK=>?_) ?_
   · have e4:f 4=_:=hR.out 4 rfl
     have e5:f 5=_:=hR.out 5 rfl
     have x0:=(hE.trans hX).cell j1
     simp only [yZ,e4,e5]
     refine ⟨zc (by kernel_rfl) ?_⟩
     go_simp
     exact qe hK (s:=by simp only [yZ,e4,e5])
   refine zt 8 2 [(12,0),(13,1),(14,2),(15,3),(16,4),(17,5),(18,6)] (fun f X hX hR K hK=>?_) ?_
   · have e4:f 4=_:=hR.out 4 rfl
     have e6:f 6=_:=hR.out 6 rfl
     simp only [yZ,e4,e6]
     refine ⟨zc (by kernel_rfl) ?_⟩
     go_simp
     exact qe hK (s:=by simp only [yZ,e4,e6])
   refine zt 9 1 [(12,0),(13,1),(14,2),(15,3),(16,4),(17,5),(18,6),(19,7)] (fun f X hX hR K hK=>?_) ?_
   · have e4:f 4=_:=hR.out 4 rfl
     have e7:f 7=_:=hR.out 7 rfl
     have hz1:decide (((digs 4294967296 y).length:Int)=0)=true:=wY hy0.out
     have hz2:decide ((digs 4294967296 y).length=0)=true:=wX hy0.out
     have hz4:((((digs 4294967296 y).length:Nat):Int)==0)=true:=wZ hy0.out
     simp only [yZ,e4,e7]
     refine ⟨zc (by kernel_rfl) ?_⟩
     go_simp
     exact qe hK (s:=by simp only [yZ,e4,e7])
   refine vv 10 0 4 8 ?_
   refine yF ⟨fun f X hX hR hal hap=>?_⟩
   have e9:f 9=_:=hR 9 (by decide)
   simp only [yZ,e9]
   clear hR hal hap e9
   refine zK ?_
   replace hE:=hE.trans hX
   clear hX  
   rename World=>X1_k
   have hb1:=hE.at_ hrb
   obtain ⟨z0,z1,z2,f0,f1,f2⟩:=qc hb1
   go_wp2
   exact us rfl rfl rfl (kw hb1 _ _ _) ⟨_,rfl,⟨none,none,none,0,0,0,by rw [qY];rfl,RN.nil0 _,RN.nil0 _,RN.nil0 _,hM0,hM0,hM0⟩,ky (HE0.out.trans hE) (by have:=Hq.out;omega) _ _ _⟩
 obtain ⟨u1,e_u1⟩:=eV (mm C.M z z)
 have L_u1:=zF (show u1<C.M by rw [←e_u1];exact kg hM0 _ _)
 have E_u1:=zF e_u1
 clear e_u1
 obtain ⟨u2,e_u2⟩:=eV (am C.M x u1)
 have L_u2:=zF (show u2<C.M by rw [←e_u2];exact am_lt hM0 _ _)
 have E_u2:=zF e_u2
 clear e_u2
 obtain ⟨u3,e_u3⟩:=eV (sm C.M x u1)
 have L_u3:=zF (show u3<C.M by rw [←e_u3];exact uA hM0 _ _)
 have E_u3:=zF e_u3
 clear e_u3
 obtain ⟨u4,e_u4⟩:=eV (mm C.M u3 u2)
 have L_u4:=zF (show u4<C.M by rw [←e_u4];exact kg hM0 _ _)
 have E_u4:=zF e_u4
 clear e_u4
 obtain ⟨u5,e_u5⟩:=eV (mm C.M 3 u4)
 have L_u5:=zF (show u5<C.M by rw [←e_u5];exact kg hM0 _ _)
 have E_u5:=zF e_u5
 clear e_u5
 obtain ⟨u6,e_u6⟩:=eV (mm C.M y y)
 have L_u6:=zF (show u6<C.M by rw [←e_u6];exact kg hM0 _ _)
 have E_u6:=zF e_u6
 clear e_u6
 obtain ⟨u7,e_u7⟩:=eV (mm C.M x u6)
 have L_u7:=zF (show u7<C.M by rw [←e_u7];exact kg hM0 _ _)
 have E_u7:=zF e_u7
 clear e_u7
 obtain ⟨u8,e_u8⟩:=eV (mm C.M 4 u7)
 have L_u8:=zF (show u8<C.M by rw [←e_u8];exact kg hM0 _ _)
 have E_u8:=zF e_u8
 clear e_u8
 obtain ⟨u9,e_u9⟩:=eV (mm C.M u5 u5)
 have L_u9:=zF (show u9<C.M by rw [←e_u9];exact kg hM0 _ _)
 have E_u9:=zF e_u9
 clear e_u9
 obtain ⟨u10,e_u10⟩:=eV (sm C.M u9 u8)
 have L_u10:=zF (show u10<C.M by rw [←e_u10];exact uA hM0 _ _)
 have E_u10:=zF e_u10
 clear e_u10
 obtain ⟨u11,e_u11⟩:=eV (sm C.M u10 u8)
 have L_u11:=zF (show u11<C.M by rw [←e_u11];exact uA hM0 _ _)
 have E_u11:=zF e_u11
 clear e_u11
 obtain ⟨u12,e_u12⟩:=eV (sm C.M u8 u11)
 have L_u12:=zF (show u12<C.M by rw [←e_u12];exact uA hM0 _ _)
 have E_u12:=zF e_u12
 clear e_u12
 obtain ⟨u13,e_u13⟩:=eV (mm C.M u5 u12)
 have L_u13:=zF (show u13<C.M by rw [←e_u13];exact kg hM0 _ _)
 have E_u13:=zF e_u13
 clear e_u13
 obtain ⟨u14,e_u14⟩:=eV (mm C.M u6 u6)
 have L_u14:=zF (show u14<C.M by rw [←e_u14];exact kg hM0 _ _)
 have E_u14:=zF e_u14
 clear e_u14
 obtain ⟨u15,e_u15⟩:=eV (mm C.M 8 u14)
 have L_u15:=zF (show u15<C.M by rw [←e_u15];exact kg hM0 _ _)
 have E_u15:=zF e_u15
 clear e_u15
 obtain ⟨u16,e_u16⟩:=eV (sm C.M u13 u15)
 have L_u16:=zF (show u16<C.M by rw [←e_u16];exact uA hM0 _ _)
 have E_u16:=zF e_u16
 clear e_u16
 obtain ⟨u17,e_u17⟩:=eV (mm C.M y z)
 have L_u17:=zF (show u17<C.M by rw [←e_u17];exact kg hM0 _ _)
 have E_u17:=zF e_u17
 clear e_u17
 obtain ⟨u18,e_u18⟩:=eV (mm C.M 2 u17)
 have L_u18:=zF (show u18<C.M by rw [←e_u18];exact kg hM0 _ _)
 have E_u18:=zF e_u18
 clear e_u18
 have hres:twP C.M x y z=(u11,u16,u18):=by rw [twP,zr hz0,zr hy0];simp only [E_u1.out,E_u2.out,E_u3.out,E_u4.out,E_u5.out,E_u6.out,E_u7.out,E_u8.out,E_u9.out,E_u10.out,E_u11.out,E_u12.out,E_u13.out,E_u14.out,E_u15.out,E_u16.out,E_u17.out,E_u18.out]
 rw [hres]
 clear hres
 replace hz0:=zF hz0
 replace hy0:=zF hy0
 go_enter Tryz.func93,Tryz.ntmps93
 go_upto_region 1 with fail
 rw [←hW0]
 have Hq:=zF hq
 have HW0:=zF hW0
 have hE:=zd W0
 clear hq hW0
 refine zX 10 [0,1,3,7,15,31,63,127,255,511] [] (fun j f X=>match j with
  | 0=>f 0=.pointer (some ⟨q+1,2,none⟩)
  | 1=>f 1=.slice A3 (digs 4294967296 z).length k3
  | 2=>f 2=.int .i64 ((digs 4294967296 z).length:Int)
  | 3=>f 3=.bool false
  | 4=>f 4=.bool false
  | 5=>f 5=.pointer (some ⟨q+1,1,none⟩)
  | 6=>f 6=.slice A2 (digs 4294967296 y).length k2
  | 7=>f 7=.int .i64 ((digs 4294967296 y).length:Int)
  | 8=>f 8=.bool false
  | 9=>f 9=.bool false
  | _=>True) (by kernel_rfl) [(12,0),(13,1),(14,2),(15,3),(16,4),(17,5),(18,6),(19,7),(20,8),(21,9)] (by kernel_rfl) ?_
 refine zT 1 9 ?_
 refine qG 2 8 0 (hE.cell j2) ?_
 refine zt 3 7 [(12,0),(13,1)] (fun f X hX hR K hK=>?_) ?_
 · have e1:f 1=_:=hR.out 1 rfl
   simp only [yZ,e1]
   refine ⟨?_⟩
   go_simp
   exact qe hK (s:=by simp only [yZ,e1])
 refine zt 4 6 [(12,0),(13,1),(14,2)] (fun f X hX hR K hK=>?_) ?_
 · have e2:f 2=_:=hR.out 2 rfl
   have hz1:decide (((digs 4294967296 z).length:Int)=0)=false:=vc hz0.out
   have hz2:decide ((digs 4294967296 z).length=0)=false:=vZ hz0.out
   have hz4:((((digs 4294967296 z).length:Nat):Int)==0)=false:=vd hz0.out
   simp only [yZ,e2]
   refine ⟨?_⟩
   go_simp
   exact qe hK (s:=by simp only [yZ,e2])
 refine qL 5 5 3 ?_
 refine qL 6 4 4 ?_
 refine zt 7 3 [(12,0),(13,1),(14,2),(15,3),(16,4),(17,5)] (fun f X hX hR K hK=>?_) ?_
 · have e4:f 4=_:=hR.out 4 rfl
   have e5:f 5=_:=hR.out 5 rfl
   have x0:=(hE.trans hX).cell j1
   simp only [yZ,e4,e5]
   refine ⟨zc (by kernel_rfl) ?_⟩
   go_simp
   exact qe hK (s:=by simp only [yZ,e4,e5])
 refine zt 8 2 [(12,0),(13,1),(14,2),(15,3),(16,4),(17,5),(18,6)] (fun f X hX hR K hK=>?_) ?_
 · have e4:f 4=_:=hR.out 4 rfl
   have e6:f 6=_:=hR.out 6 rfl
   simp only [yZ,e4,e6]
   refine ⟨zc (by kernel_rfl) ?_⟩
   go_simp
   exact qe hK (s:=by simp only [yZ,e4,e6])
 refine zt 9 1 [(12,0),(13,1),(14,2),(15,3),(16,4),(17,5),(18,6),(19,7)] (fun f X hX hR K hK=>?_) ?_
 · have e4:f 4=_:=hR.out 4 rfl
   have e7:f 7=_:=hR.out 7 rfl
   have hz1:decide (((digs 4294967296 y).length:Int)=0)=false:=vc hy0.out
   have hz2:decide ((digs 4294967296 y).length=0)=false:=vZ hy0.out
   have hz4:((((digs 4294967296 y).length:Nat):Int)==0)=false:=vd hy0.out
   simp only [yZ,e4,e7]
   refine ⟨zc (by kernel_rfl) ?_⟩
   go_simp
   exact qe hK (s:=by simp only [yZ,e4,e7])
 refine vv 10 0 4 8 ?_
 refine yF ⟨fun f X hX hR hal hap=>?_⟩
 have e9:f 9=_:=hR 9 (by decide)
 simp only [yZ,e9]
 clear hR hal hap e9
 refine zK ?_
 replace hE:=hE.trans hX
 clear hX  
 rename World=>X1_k
 go_upto_region 3 with fail
 refine zX 7 [0,0,2,0,8,31,63] [] (fun j f X=>match j with
  | 0=>f 0=.agg ccs
  | 1=>f 1=.pointer (some ⟨q+1,2,none⟩)
  | 2=>f 2=.slice A3 (digs 4294967296 z).length k3
  | 3=>f 3=.pointer (some ⟨q+1,2,none⟩)
  | 4=>f 4=.slice A3 (digs 4294967296 z).length k3
  | 5=>∃ A1 c1,f 5=.slice A1 (digs 4294967296 u1).length c1∧RU X A1 c1 (digs 4294967296 u1)
  | 6=>∃ A1 c1,f 6=.slice A1 (digs 4294967296 u1).length c1∧RU X A1 c1 (digs 4294967296 u1)
  | _=>True) (by kernel_rfl) [(23,0),(24,1),(25,2),(26,3),(27,4),(28,5),(5,6)] (by kernel_rfl) ?_
 refine lV0 1 6 (hE.at_ hcb) (by rw [Hccs.out];exact qh) ?_
 refine zT 2 5 ?_
 refine qG 3 4 1 (hE.cell j2) ?_
 refine zT 4 3 ?_
 refine qG 5 2 3 (hE.cell j2) ?_
 refine rc 6 1 0 2 4 (fun _ _ hX h=>⟨_,_,h,(zb HX3.out (hE.trans hX))⟩) (fun _ _ hX h=>⟨_,_,h,(zb HX3.out (hE.trans hX))⟩) (fun X hX _ _ _ _ h h'=>jT X HF.out (hRC.out.ext (hE.trans hX)) h h' hz.out hz.out) E_u1.out ?_
 refine zt 7 0 [(23,0),(24,1),(25,2),(26,3),(27,4),(28,5)] (fun f X hX hR K hK=>?_) ?_
 · obtain ⟨A3_5,c3_5,(e5:f 5=_),o3_5⟩:=hR.out 5 rfl
   simp only [yZ,e5]
   refine ⟨?_⟩
   go_simp
   exact hK.out _ _ _ (by simp only [yZ,e5]) (zd _) trivial (fun Y hY=>⟨A3_5,c3_5,rfl,zb o3_5 hY⟩)
 refine yF ⟨fun f X hX hR hal hap=>?_⟩
 obtain ⟨A3_5,c3_5,(e5:f 5=_),o3_5⟩:=hR 5 (by decide)
 obtain ⟨A3_6,c3_6,(e6:f 6=_),o3_6⟩:=hR 6 (by decide)
 simp only [yZ,e5,e6]
 clear hR hal hap e5 e6
 refine zK ?_
 replace hE:=hE.trans hX
 have N5:=zF o3_6
 clear hX o3_5 o3_6 
 rename World=>X3_k
 go_upto_region 4 with fail
 refine zj (by kernel_rfl) 8 [0,1,0,7,0,16,63,127] [] (fun j f X=>match j with
  | 0=>f 0=.pointer (some ⟨q+1,0,none⟩)
  | 1=>f 1=.slice A1 (digs 4294967296 x).length k1
  | 2=>f 2=.slice A3_6 (digs 4294967296 u1).length c3_6
  | 3=>∃ A1 c1,f 3=.slice A1 (digs 4294967296 (x+u1)).length c1∧RU X A1 c1 (digs 4294967296 (x+u1))
  | 4=>f 4=.pointer (some ⟨q,0,none⟩)
  | 5=>f 5=.slice Ap (digs 4294967296 C.M).length cp
  | 6=>∃ A1 c1,f 6=.slice A1 (digs 4294967296 u2).length c1∧RU X A1 c1 (digs 4294967296 u2)
  | 7=>∃ A1 c1,f 7=.slice A1 (digs 4294967296 u2).length c1∧RU X A1 c1 (digs 4294967296 u2)
  | _=>True) (by kernel_rfl) [(29,0),(30,1),(31,2),(32,3),(33,4),(34,5),(35,6),(6,7)] (by kernel_rfl) ?_
 refine zT 1 7 ?_
 refine qG 2 6 0 (hE.cell j0) ?_
 refine zT 3 5 ?_
 refine qC 4 4 (fun f=>#[f 1,f 2]) (F':=109) (fun f X hX hR=>?_) ?_
 · have e1:f 1=_:=hR.out 1 rfl
   have e2:f 2=_:=hR.out 2 rfl
   simp only [e1,e2]
   refine (add_r X HF.out (zb HX1.out (hE.trans hX)) (zb N5.out hX) hx.out L_u1.out).mono ?_
   rintro e w2 ⟨A1,c1,rfl,hO,hB⟩
   exact ⟨_,rfl,hB,fun Y hY=>⟨A1,c1,rfl,zb hO hY⟩⟩
 refine zT 5 3 ?_
 refine qG 6 2 4 (hE.cell cP) ?_
 refine qC 7 1 (fun f=>#[f 3,f 5]) (F':=79) (fun f X hX hR=>?_) ?_
 · obtain ⟨A4_3,c4_3,(e3:f 3=_),o4_3⟩:=hR.out 3 rfl
   have e5:f 5=_:=hR.out 5 rfl
   simp only [e3,e5]
   refine (mod_r X HF.out o4_3 (zb HRP.out (hE.trans hX)) (show x+u1<2*C.M by have:=hx.out;have:=L_u1.out;omega)).mono ?_
   rw [show (x+u1) % C.M=u2 from E_u2.out]
   rintro e w2 ⟨A1,c1,rfl,hO,hB⟩
   exact ⟨_,rfl,hB,fun Y hY=>⟨A1,c1,rfl,zb hO hY⟩⟩
 refine zt 8 0 [(29,0),(30,1),(31,2),(32,3),(33,4),(34,5),(35,6)] (fun f X hX hR K hK=>?_) ?_
 · obtain ⟨A4_6,c4_6,(e6:f 6=_),o4_6⟩:=hR.out 6 rfl
   simp only [yZ,e6]
   refine ⟨?_⟩
   go_simp
   exact hK.out _ _ _ (by simp only [yZ,e6]) (zd _) trivial (fun Y hY=>⟨A4_6,c4_6,rfl,zb o4_6 hY⟩)
 refine yF ⟨fun f X hX hR hal hap=>?_⟩
 obtain ⟨A4_3,c4_3,(e3:f 3=_),o4_3⟩:=hR 3 (by decide)
 obtain ⟨A4_6,c4_6,(e6:f 6=_),o4_6⟩:=hR 6 (by decide)
 obtain ⟨A4_7,c4_7,(e7:f 7=_),o4_7⟩:=hR 7 (by decide)
 simp only [yZ,e3,e6,e7]
 clear hR hal hap e3 e6 e7
 refine zK ?_
 replace hE:=hE.trans hX
 replace N5:=zF (zb N5.out hX)
 have N6:=zF o4_7
 clear hX o4_3 o4_6 o4_7
 rename World=>X4_k
 go_upto_region 5 with fail
 refine zj (by kernel_rfl) 12 [0,0,0,0,0,16,0,122,0,510,1023,2047] [] (fun j f X=>match j with
  | 0=>f 0=.agg ccs
  | 1=>∃ A1 c1,f 1=.slice A1 (digs 4294967296 3).length c1∧RU X A1 c1 (digs 4294967296 3)
  | 2=>f 2=.agg ccs
  | 3=>f 3=.agg ccs
  | 4=>f 4=.pointer (some ⟨q+1,0,none⟩)
  | 5=>f 5=.slice A1 (digs 4294967296 x).length k1
  | 6=>f 6=.slice A3_6 (digs 4294967296 u1).length c3_6
  | 7=>∃ A1 c1,f 7=.slice A1 (digs 4294967296 u3).length c1∧RU X A1 c1 (digs 4294967296 u3)
  | 8=>f 8=.slice A4_7 (digs 4294967296 u2).length c4_7
  | 9=>∃ A1 c1,f 9=.slice A1 (digs 4294967296 u4).length c1∧RU X A1 c1 (digs 4294967296 u4)
  | 10=>∃ A1 c1,f 10=.slice A1 (digs 4294967296 u5).length c1∧RU X A1 c1 (digs 4294967296 u5)
  | 11=>∃ A1 c1,f 11=.slice A1 (digs 4294967296 u5).length c1∧RU X A1 c1 (digs 4294967296 u5)
  | _=>True) (by kernel_rfl) [(36,0),(37,1),(38,2),(39,3),(40,4),(41,5),(42,6),(43,7),(44,8),(45,9),(46,10),(7,11)] (by kernel_rfl) ?_
 refine lV0 1 11 (hE.at_ hcb) (by rw [Hccs.out];exact qh) ?_
 refine qC 2 10 (fun _=>#[Value.int IntKind.u64 3]) (F':=78) (fun f X hX hR=>?_) ?_
 · refine (pu 3 X (by omega)).mono ?_
   rintro e w2 ⟨A1,c1,rfl,hO,hB⟩
   exact ⟨_,rfl,hB,fun Y hY=>⟨A1,c1,rfl,zb hO hY⟩⟩
 refine lV0 3 9 (hE.at_ hcb) (by rw [Hccs.out];exact qh) ?_
 refine lV0 4 8 (hE.at_ hcb) (by rw [Hccs.out];exact qh) ?_
 refine zT 5 7 ?_
 refine qG 6 6 4 (hE.cell j0) ?_
 refine zT 7 5 ?_
 refine rc 8 4 3 5 6 (fun _ _ hX h=>⟨_,_,h,(zb HX1.out (hE.trans hX))⟩) (fun _ _ hX h=>⟨_,_,h,(zb N5.out hX)⟩) (fun X hX _ _ _ _ h h'=>vU X HF.out (hRC.out.ext (hE.trans hX)) h h' hx.out L_u1.out) E_u3.out ?_
 refine zT 9 3 ?_
 refine rc 10 2 2 7 8 (fun _ _ _ h=>h) (fun _ _ hX h=>⟨_,_,h,(zb N6.out hX)⟩) (fun X hX _ _ _ _ h h'=>jT X HF.out (hRC.out.ext (hE.trans hX)) h h' L_u3.out L_u2.out) E_u4.out ?_
 refine rc 11 1 0 1 9 (fun _ _ _ h=>h) (fun _ _ _ h=>h) (fun X hX _ _ _ _ h h'=>jT X HF.out (hRC.out.ext (hE.trans hX)) h h' (show 3<C.M by have:=H8.out;omega) L_u4.out) E_u5.out ?_
 refine zt 12 0 [(36,0),(37,1),(38,2),(39,3),(40,4),(41,5),(42,6),(43,7),(44,8),(45,9),(46,10)] (fun f X hX hR K hK=>?_) ?_
 · obtain ⟨A5_10,c5_10,(e10:f 10=_),o5_10⟩:=hR.out 10 rfl
   simp only [yZ,e10]
   refine ⟨?_⟩
   go_simp
   exact hK.out _ _ _ (by simp only [yZ,e10]) (zd _) trivial (fun Y hY=>⟨A5_10,c5_10,rfl,zb o5_10 hY⟩)
 refine yF ⟨fun f X hX hR hal hap=>?_⟩
 obtain ⟨A5_1,c5_1,(e1:f 1=_),o5_1⟩:=hR 1 (by decide)
 obtain ⟨A5_7,c5_7,(e7:f 7=_),o5_7⟩:=hR 7 (by decide)
 obtain ⟨A5_9,c5_9,(e9:f 9=_),o5_9⟩:=hR 9 (by decide)
 obtain ⟨A5_10,c5_10,(e10:f 10=_),o5_10⟩:=hR 10 (by decide)
 obtain ⟨A5_11,c5_11,(e11:f 11=_),o5_11⟩:=hR 11 (by decide)
 simp only [yZ,e1,e7,e9,e10,e11]
 clear hR hal hap e1 e7 e9 e10 e11
 refine zK ?_
 replace hE:=hE.trans hX
 replace N5:=zF (zb N5.out hX)
 replace N6:=zF (zb N6.out hX)
 have N7:=zF o5_11
 clear hX o5_1 o5_7 o5_9 o5_10 o5_11
 rename World=>X5_k
 go_upto_region 6 with fail
 refine zX 7 [0,0,2,0,8,31,63] [] (fun j f X=>match j with
  | 0=>f 0=.agg ccs
  | 1=>f 1=.pointer (some ⟨q+1,1,none⟩)
  | 2=>f 2=.slice A2 (digs 4294967296 y).length k2
  | 3=>f 3=.pointer (some ⟨q+1,1,none⟩)
  | 4=>f 4=.slice A2 (digs 4294967296 y).length k2
  | 5=>∃ A1 c1,f 5=.slice A1 (digs 4294967296 u6).length c1∧RU X A1 c1 (digs 4294967296 u6)
  | 6=>∃ A1 c1,f 6=.slice A1 (digs 4294967296 u6).length c1∧RU X A1 c1 (digs 4294967296 u6)
  | _=>True) (by kernel_rfl) [(47,0),(48,1),(49,2),(50,3),(51,4),(52,5),(8,6)] (by kernel_rfl) ?_
 refine lV0 1 6 (hE.at_ hcb) (by rw [Hccs.out];exact qh) ?_
 refine zT 2 5 ?_
 refine qG 3 4 1 (hE.cell j1) ?_
 refine zT 4 3 ?_
 refine qG 5 2 3 (hE.cell j1) ?_
 refine rc 6 1 0 2 4 (fun _ _ hX h=>⟨_,_,h,(zb HX2.out (hE.trans hX))⟩) (fun _ _ hX h=>⟨_,_,h,(zb HX2.out (hE.trans hX))⟩) (fun X hX _ _ _ _ h h'=>jT X HF.out (hRC.out.ext (hE.trans hX)) h h' hy.out hy.out) E_u6.out ?_
 refine zt 7 0 [(47,0),(48,1),(49,2),(50,3),(51,4),(52,5)] (fun f X hX hR K hK=>?_) ?_
 · obtain ⟨A6_5,c6_5,(e5:f 5=_),o6_5⟩:=hR.out 5 rfl
   simp only [yZ,e5]
   refine ⟨?_⟩
   go_simp
   exact hK.out _ _ _ (by simp only [yZ,e5]) (zd _) trivial (fun Y hY=>⟨A6_5,c6_5,rfl,zb o6_5 hY⟩)
 refine yF ⟨fun f X hX hR hal hap=>?_⟩
 obtain ⟨A6_5,c6_5,(e5:f 5=_),o6_5⟩:=hR 5 (by decide)
 obtain ⟨A6_6,c6_6,(e6:f 6=_),o6_6⟩:=hR 6 (by decide)
 simp only [yZ,e5,e6]
 clear hR hal hap e5 e6
 refine zK ?_
 replace hE:=hE.trans hX
 replace N5:=zF (zb N5.out hX)
 replace N6:=zF (zb N6.out hX)
 replace N7:=zF (zb N7.out hX)
 have N8:=zF o6_6
 clear hX o6_5 o6_6
 rename World=>X6_k
 go_upto_region 7 with fail
 refine zj (by kernel_rfl) 9 [0,0,0,0,8,0,62,127,255] [] (fun j f X=>match j with
  | 0=>f 0=.agg ccs
  | 1=>∃ A1 c1,f 1=.slice A1 (digs 4294967296 4).length c1∧RU X A1 c1 (digs 4294967296 4)
  | 2=>f 2=.agg ccs
  | 3=>f 3=.pointer (some ⟨q+1,0,none⟩)
  | 4=>f 4=.slice A1 (digs 4294967296 x).length k1
  | 5=>f 5=.slice A6_6 (digs 4294967296 u6).length c6_6
  | 6=>∃ A1 c1,f 6=.slice A1 (digs 4294967296 u7).length c1∧RU X A1 c1 (digs 4294967296 u7)
  | 7=>∃ A1 c1,f 7=.slice A1 (digs 4294967296 u8).length c1∧RU X A1 c1 (digs 4294967296 u8)
  | 8=>∃ A1 c1,f 8=.slice A1 (digs 4294967296 u8).length c1∧RU X A1 c1 (digs 4294967296 u8)
  | _=>True) (by kernel_rfl) [(53,0),(54,1),(55,2),(56,3),(57,4),(58,5),(59,6),(60,7),(9,8)] (by kernel_rfl) ?_
 refine lV0 1 8 (hE.at_ hcb) (by rw [Hccs.out];exact qh) ?_
 refine qC 2 7 (fun _=>#[Value.int IntKind.u64 4]) (F':=78) (fun f X hX hR=>?_) ?_
 · refine (pu 4 X (by omega)).mono ?_
   rintro e w2 ⟨A1,c1,rfl,hO,hB⟩
   exact ⟨_,rfl,hB,fun Y hY=>⟨A1,c1,rfl,zb hO hY⟩⟩
 refine lV0 3 6 (hE.at_ hcb) (by rw [Hccs.out];exact qh) ?_
 refine zT 4 5 ?_
 refine qG 5 4 3 (hE.cell j0) ?_
 refine zT 6 3 ?_
 refine rc 7 2 2 4 5 (fun _ _ hX h=>⟨_,_,h,(zb HX1.out (hE.trans hX))⟩) (fun _ _ hX h=>⟨_,_,h,(zb N8.out hX)⟩) (fun X hX _ _ _ _ h h'=>jT X HF.out (hRC.out.ext (hE.trans hX)) h h' hx.out L_u6.out) E_u7.out ?_
 refine rc 8 1 0 1 6 (fun _ _ _ h=>h) (fun _ _ _ h=>h) (fun X hX _ _ _ _ h h'=>jT X HF.out (hRC.out.ext (hE.trans hX)) h h' (show 4<C.M by have:=H8.out;omega) L_u7.out) E_u8.out ?_
 refine zt 9 0 [(53,0),(54,1),(55,2),(56,3),(57,4),(58,5),(59,6),(60,7)] (fun f X hX hR K hK=>?_) ?_
 · obtain ⟨A7_7,c7_7,(e7:f 7=_),o7_7⟩:=hR.out 7 rfl
   simp only [yZ,e7]
   refine ⟨?_⟩
   go_simp
   exact hK.out _ _ _ (by simp only [yZ,e7]) (zd _) trivial (fun Y hY=>⟨A7_7,c7_7,rfl,zb o7_7 hY⟩)
 refine yF ⟨fun f X hX hR hal hap=>?_⟩
 obtain ⟨A7_1,c7_1,(e1:f 1=_),o7_1⟩:=hR 1 (by decide)
 obtain ⟨A7_6,c7_6,(e6:f 6=_),o7_6⟩:=hR 6 (by decide)
 obtain ⟨A7_7,c7_7,(e7:f 7=_),o7_7⟩:=hR 7 (by decide)
 obtain ⟨A7_8,c7_8,(e8:f 8=_),o7_8⟩:=hR 8 (by decide)
 simp only [yZ,e1,e6,e7,e8]
 clear hR hal hap e1 e6 e7 e8
 refine zK ?_
 replace hE:=hE.trans hX
 replace N5:=zF (zb N5.out hX)
 replace N6:=zF (zb N6.out hX)
 replace N7:=zF (zb N7.out hX)
 replace N8:=zF (zb N8.out hX)
 have N9:=zF o7_8
 clear hX o7_1 o7_6 o7_7 o7_8
 rename World=>X7_k
 go_upto_region 8 with fail
 refine zj (by kernel_rfl) 11 [0,0,0,0,0,28,0,126,0,511,1023] [] (fun j f X=>match j with
  | 0=>f 0=.agg ccs
  | 1=>f 1=.agg ccs
  | 2=>f 2=.agg ccs
  | 3=>f 3=.slice A5_11 (digs 4294967296 u5).length c5_11
  | 4=>f 4=.slice A5_11 (digs 4294967296 u5).length c5_11
  | 5=>∃ A1 c1,f 5=.slice A1 (digs 4294967296 u9).length c1∧RU X A1 c1 (digs 4294967296 u9)
  | 6=>f 6=.slice A7_8 (digs 4294967296 u8).length c7_8
  | 7=>∃ A1 c1,f 7=.slice A1 (digs 4294967296 u10).length c1∧RU X A1 c1 (digs 4294967296 u10)
  | 8=>f 8=.slice A7_8 (digs 4294967296 u8).length c7_8
  | 9=>∃ A1 c1,f 9=.slice A1 (digs 4294967296 u11).length c1∧RU X A1 c1 (digs 4294967296 u11)
  | 10=>∃ A1 c1,f 10=.slice A1 (digs 4294967296 u11).length c1∧RU X A1 c1 (digs 4294967296 u11)
  | _=>True) (by kernel_rfl) [(61,0),(62,1),(63,2),(64,3),(65,4),(66,5),(67,6),(68,7),(69,8),(70,9),(10,10)] (by kernel_rfl) ?_
 refine lV0 1 10 (hE.at_ hcb) (by rw [Hccs.out];exact qh) ?_
 refine lV0 2 9 (hE.at_ hcb) (by rw [Hccs.out];exact qh) ?_
 refine lV0 3 8 (hE.at_ hcb) (by rw [Hccs.out];exact qh) ?_
 refine zT 4 7 ?_
 refine zT 5 6 ?_
 refine rc 6 5 2 3 4 (fun _ _ hX h=>⟨_,_,h,(zb N7.out hX)⟩) (fun _ _ hX h=>⟨_,_,h,(zb N7.out hX)⟩) (fun X hX _ _ _ _ h h'=>jT X HF.out (hRC.out.ext (hE.trans hX)) h h' L_u5.out L_u5.out) E_u9.out ?_
 refine zT 7 4 ?_
 refine rc 8 3 1 5 6 (fun _ _ _ h=>h) (fun _ _ hX h=>⟨_,_,h,(zb N9.out hX)⟩) (fun X hX _ _ _ _ h h'=>vU X HF.out (hRC.out.ext (hE.trans hX)) h h' L_u9.out L_u8.out) E_u10.out ?_
 refine zT 9 2 ?_
 refine rc 10 1 0 7 8 (fun _ _ _ h=>h) (fun _ _ hX h=>⟨_,_,h,(zb N9.out hX)⟩) (fun X hX _ _ _ _ h h'=>vU X HF.out (hRC.out.ext (hE.trans hX)) h h' L_u10.out L_u8.out) E_u11.out ?_
 refine zt 11 0 [(61,0),(62,1),(63,2),(64,3),(65,4),(66,5),(67,6),(68,7),(69,8),(70,9)] (fun f X hX hR K hK=>?_) ?_
 · obtain ⟨A8_9,c8_9,(e9:f 9=_),o8_9⟩:=hR.out 9 rfl
   simp only [yZ,e9]
   refine ⟨?_⟩
   go_simp
   exact hK.out _ _ _ (by simp only [yZ,e9]) (zd _) trivial (fun Y hY=>⟨A8_9,c8_9,rfl,zb o8_9 hY⟩)
 refine yF ⟨fun f X hX hR hal hap=>?_⟩
 obtain ⟨A8_5,c8_5,(e5:f 5=_),o8_5⟩:=hR 5 (by decide)
 obtain ⟨A8_7,c8_7,(e7:f 7=_),o8_7⟩:=hR 7 (by decide)
 obtain ⟨A8_9,c8_9,(e9:f 9=_),o8_9⟩:=hR 9 (by decide)
 obtain ⟨A8_10,c8_10,(e10:f 10=_),o8_10⟩:=hR 10 (by decide)
 simp only [yZ,e5,e7,e9,e10]
 clear hR hal hap e5 e7 e9 e10
 refine zK ?_
 replace hE:=hE.trans hX
 replace N5:=zF (zb N5.out hX)
 replace N6:=zF (zb N6.out hX)
 replace N7:=zF (zb N7.out hX)
 replace N8:=zF (zb N8.out hX)
 replace N9:=zF (zb N9.out hX)
 have N10:=zF o8_10
 clear hX o8_5 o8_7 o8_9 o8_10
 rename World=>X8_k
 go_upto_region 9 with fail
 refine zj (by kernel_rfl) 17 [0,0,0,0,0,0,56,126,0,254,0,0,0,7934,16382,32767,65535] [] (fun j f X=>match j with
  | 0=>f 0=.agg ccs
  | 1=>f 1=.agg ccs
  | 2=>f 2=.slice A5_11 (digs 4294967296 u5).length c5_11
  | 3=>f 3=.agg ccs
  | 4=>f 4=.slice A7_8 (digs 4294967296 u8).length c7_8
  | 5=>f 5=.slice A8_10 (digs 4294967296 u11).length c8_10
  | 6=>∃ A1 c1,f 6=.slice A1 (digs 4294967296 u12).length c1∧RU X A1 c1 (digs 4294967296 u12)
  | 7=>∃ A1 c1,f 7=.slice A1 (digs 4294967296 u13).length c1∧RU X A1 c1 (digs 4294967296 u13)
  | 8=>f 8=.agg ccs
  | 9=>∃ A1 c1,f 9=.slice A1 (digs 4294967296 8).length c1∧RU X A1 c1 (digs 4294967296 8)
  | 10=>f 10=.agg ccs
  | 11=>f 11=.slice A6_6 (digs 4294967296 u6).length c6_6
  | 12=>f 12=.slice A6_6 (digs 4294967296 u6).length c6_6
  | 13=>∃ A1 c1,f 13=.slice A1 (digs 4294967296 u14).length c1∧RU X A1 c1 (digs 4294967296 u14)
  | 14=>∃ A1 c1,f 14=.slice A1 (digs 4294967296 u15).length c1∧RU X A1 c1 (digs 4294967296 u15)
  | 15=>∃ A1 c1,f 15=.slice A1 (digs 4294967296 u16).length c1∧RU X A1 c1 (digs 4294967296 u16)
  | 16=>∃ A1 c1,f 16=.slice A1 (digs 4294967296 u16).length c1∧RU X A1 c1 (digs 4294967296 u16)
  | _=>True) (by kernel_rfl) [(71,0),(72,1),(73,2),(74,3),(75,4),(76,5),(77,6),(78,7),(79,8),(80,9),(81,10),(82,11),(83,12),(84,13),(85,14),(86,15),(11,16)] (by kernel_rfl) ?_
 refine lV0 1 16 (hE.at_ hcb) (by rw [Hccs.out];exact qh) ?_
 refine lV0 2 15 (hE.at_ hcb) (by rw [Hccs.out];exact qh) ?_
 refine zT 3 14 ?_
 refine lV0 4 13 (hE.at_ hcb) (by rw [Hccs.out];exact qh) ?_
 refine zT 5 12 ?_
 refine zT 6 11 ?_
 refine rc 7 10 3 4 5 (fun _ _ hX h=>⟨_,_,h,(zb N9.out hX)⟩) (fun _ _ hX h=>⟨_,_,h,(zb N10.out hX)⟩) (fun X hX _ _ _ _ h h'=>vU X HF.out (hRC.out.ext (hE.trans hX)) h h' L_u8.out L_u11.out) E_u12.out ?_
 refine rc 8 9 1 2 6 (fun _ _ hX h=>⟨_,_,h,(zb N7.out hX)⟩) (fun _ _ _ h=>h) (fun X hX _ _ _ _ h h'=>jT X HF.out (hRC.out.ext (hE.trans hX)) h h' L_u5.out L_u12.out) E_u13.out ?_
 refine lV0 9 8 (hE.at_ hcb) (by rw [Hccs.out];exact qh) ?_
 refine qC 10 7 (fun _=>#[Value.int IntKind.u64 8]) (F':=78) (fun f X hX hR=>?_) ?_
 · refine (pu 8 X (by omega)).mono ?_
   rintro e w2 ⟨A1,c1,rfl,hO,hB⟩
   exact ⟨_,rfl,hB,fun Y hY=>⟨A1,c1,rfl,zb hO hY⟩⟩
 refine lV0 11 6 (hE.at_ hcb) (by rw [Hccs.out];exact qh) ?_
 refine zT 12 5 ?_
 refine zT 13 4 ?_
 refine rc 14 3 10 11 12 (fun _ _ hX h=>⟨_,_,h,(zb N8.out hX)⟩) (fun _ _ hX h=>⟨_,_,h,(zb N8.out hX)⟩) (fun X hX _ _ _ _ h h'=>jT X HF.out (hRC.out.ext (hE.trans hX)) h h' L_u6.out L_u6.out) E_u14.out ?_
 refine rc 15 2 8 9 13 (fun _ _ _ h=>h) (fun _ _ _ h=>h) (fun X hX _ _ _ _ h h'=>jT X HF.out (hRC.out.ext (hE.trans hX)) h h' (show 8<C.M by have:=H8.out;omega) L_u14.out) E_u15.out ?_
 refine rc 16 1 0 7 14 (fun _ _ _ h=>h) (fun _ _ _ h=>h) (fun X hX _ _ _ _ h h'=>vU X HF.out (hRC.out.ext (hE.trans hX)) h h' L_u13.out L_u15.out) E_u16.out ?_
 refine zt 17 0 [(71,0),(72,1),(73,2),(74,3),(75,4),(76,5),(77,6),(78,7),(79,8),(80,9),(81,10),(82,11),(83,12),(84,13),(85,14),(86,15)] (fun f X hX hR K hK=>?_) ?_
 · obtain ⟨A9_15,c9_15,(e15:f 15=_),o9_15⟩:=hR.out 15 rfl
   simp only [yZ,e15]
   refine ⟨?_⟩
   go_simp
   exact hK.out _ _ _ (by simp only [yZ,e15]) (zd _) trivial (fun Y hY=>⟨A9_15,c9_15,rfl,zb o9_15 hY⟩)
 refine yF ⟨fun f X hX hR hal hap=>?_⟩
 obtain ⟨A9_6,c9_6,(e6:f 6=_),o9_6⟩:=hR 6 (by decide)
 obtain ⟨A9_7,c9_7,(e7:f 7=_),o9_7⟩:=hR 7 (by decide)
 obtain ⟨A9_9,c9_9,(e9:f 9=_),o9_9⟩:=hR 9 (by decide)
 obtain ⟨A9_13,c9_13,(e13:f 13=_),o9_13⟩:=hR 13 (by decide)
 obtain ⟨A9_14,c9_14,(e14:f 14=_),o9_14⟩:=hR 14 (by decide)
 obtain ⟨A9_15,c9_15,(e15:f 15=_),o9_15⟩:=hR 15 (by decide)
 obtain ⟨A9_16,c9_16,(e16:f 16=_),o9_16⟩:=hR 16 (by decide)
 simp only [yZ,e6,e7,e9,e13,e14,e15,e16]
 clear hR hal hap e6 e7 e9 e13 e14 e15 e16
 refine zK ?_
 replace hE:=hE.trans hX
 replace N5:=zF (zb N5.out hX)
 replace N6:=zF (zb N6.out hX)
 replace N7:=zF (zb N7.out hX)
 replace N8:=zF (zb N8.out hX)
 replace N9:=zF (zb N9.out hX)
 replace N10:=zF (zb N10.out hX)
 have N11:=zF o9_16
 clear hX o9_6 o9_7 o9_9 o9_13 o9_14 o9_15 o9_16
 rename World=>X9_k
 have hb1:=hE.at_ hrb
 go_upto_region 10 with fail
 refine zj (by kernel_rfl) 12 [0,0,0,0,0,0,32,0,128,504,1020,2047,4095] [] (fun j f X=>match j with
  | 0=>f 0=.slice A8_10 (digs 4294967296 u11).length c8_10
  | 1=>f 1=.slice A9_16 (digs 4294967296 u16).length c9_16
  | 2=>f 2=.agg ccs
  | 3=>∃ A1 c1,f 3=.slice A1 (digs 4294967296 2).length c1∧RU X A1 c1 (digs 4294967296 2)
  | 4=>f 4=.agg ccs
  | 5=>f 5=.pointer (some ⟨q+1,1,none⟩)
  | 6=>f 6=.slice A2 (digs 4294967296 y).length k2
  | 7=>f 7=.pointer (some ⟨q+1,2,none⟩)
  | 8=>f 8=.slice A3 (digs 4294967296 z).length k3
  | 9=>∃ A1 c1,f 9=.slice A1 (digs 4294967296 u17).length c1∧RU X A1 c1 (digs 4294967296 u17)
  | 10=>∃ A1 c1,f 10=.slice A1 (digs 4294967296 u18).length c1∧RU X A1 c1 (digs 4294967296 u18)
  | 11=>∃ A c,f 11=.agg #[.slice A8_10 (digs 4294967296 u11).length c8_10,.slice A9_16 (digs 4294967296 u16).length c9_16,.slice A (digs 4294967296 u18).length c]∧RU X A c (digs 4294967296 u18)
  | _=>True) (by kernel_rfl) [(87,0),(88,1),(89,2),(90,3),(91,4),(92,5),(93,6),(94,7),(95,8),(96,9),(97,10),(98,11)] (by kernel_rfl) ?_
 refine zT 1 11 ?_
 refine zT 2 10 ?_
 refine lV0 3 9 (hE.at_ hcb) (by rw [Hccs.out];exact qh) ?_
 refine qC 4 8 (fun _=>#[Value.int IntKind.u64 2]) (F':=78) (fun f X hX hR=>?_) ?_
 · refine (pu 2 X (by omega)).mono ?_
   rintro e w2 ⟨A1,c1,rfl,hO,hB⟩
   exact ⟨_,rfl,hB,fun Y hY=>⟨A1,c1,rfl,zb hO hY⟩⟩
 refine lV0 5 7 (hE.at_ hcb) (by rw [Hccs.out];exact qh) ?_
 refine zT 6 6 ?_
 refine qG 7 5 5 (hE.cell j1) ?_
 refine zT 8 4 ?_
 refine qG 9 3 7 (hE.cell j2) ?_
 refine rc 10 2 4 6 8 (fun _ _ hX h=>⟨_,_,h,(zb HX2.out (hE.trans hX))⟩) (fun _ _ hX h=>⟨_,_,h,(zb HX3.out (hE.trans hX))⟩) (fun X hX _ _ _ _ h h'=>jT X HF.out (hRC.out.ext (hE.trans hX)) h h' hy.out hz.out) E_u17.out ?_
 refine rc 11 1 2 3 9 (fun _ _ _ h=>h) (fun _ _ _ h=>h) (fun X hX _ _ _ _ h h'=>jT X HF.out (hRC.out.ext (hE.trans hX)) h h' (show 2<C.M by have:=H8.out;omega) L_u17.out) E_u18.out ?_
 refine zt 12 0 [(87,0),(88,1),(89,2),(90,3),(91,4),(92,5),(93,6),(94,7),(95,8),(96,9),(97,10)] (fun f X hX hR K hK=>?_) ?_
 · have e0:f 0=_:=hR.out 0 rfl
   have e1:f 1=_:=hR.out 1 rfl
   obtain ⟨A10_10,c10_10,(e10:f 10=_),o10_10⟩:=hR.out 10 rfl
   simp only [yZ,e0,e1,e10]
   refine ⟨?_⟩
   go_simp
   exact hK.out _ _ _ (by simp only [yZ,e0,e1,e10]) (zd _) trivial (fun Y hY=>⟨_,_,rfl,zb o10_10 hY⟩)
 refine yF ⟨fun f X hX hR hal hap=>?_⟩
 obtain ⟨A10_3,c10_3,(e3:f 3=_),o10_3⟩:=hR 3 (by decide)
 obtain ⟨A10_9,c10_9,(e9:f 9=_),o10_9⟩:=hR 9 (by decide)
 obtain ⟨A10_10,c10_10,(e10:f 10=_),o10_10⟩:=hR 10 (by decide)
 obtain ⟨Az,cz,(e11:f 11=_),oz⟩:=hR 11 (by decide)
 simp only [yZ,e3,e9,e10,e11]
 clear hR hal hap e3 e9 e10 e11
 refine zZ (fun K hK=>⟨zc (by kernel_rfl) (qo (cs':=#[.slice A8_10 (digs 4294967296 u11).length c8_10,.slice A9_16 (digs 4294967296 u16).length c9_16,.slice Az (digs 4294967296 u18).length cz]) (t:=132) 132 (.tmp 4) (.tmp 98) rfl rfl rfl rfl (hX.at_ hb1) xv rfl (gZ _ _ _ _ _ _ _ _ _) (fun Y hY1 hY2 hY3=>hK.out _ _ ?_))⟩)
 refine zK ?_
 go_wp2
 exact us rfl rfl rfl hY1 ⟨_,rfl,⟨_,_,_,_,_,_,rfl,(zb N10.out hX).offJ hY2 (hX.at_ hb1) (by kernel_rfl),(zb N11.out hX).offJ hY2 (hX.at_ hb1) (by kernel_rfl),oz.offJ hY2 (hX.at_ hb1) (by kernel_rfl),L_u11.out,L_u16.out,L_u18.out⟩,hY2.ext (HE0.out.trans (hE.trans hX)) (by have:=Hq.out;omega)⟩
theorem zAU (w:World) (o1 o2 o3 o4:Obj):((((w.alloc o1).alloc o2).alloc o3).alloc o4).heap[w.heap.size]?=some o1∧((((w.alloc o1).alloc o2).alloc o3).alloc o4).heap[w.heap.size+1]?=some o2∧((((w.alloc o1).alloc o2).alloc o3).alloc o4).heap[w.heap.size+2]?=some o3∧((((w.alloc o1).alloc o2).alloc o3).alloc o4).heap[w.heap.size+3]?=some o4∧((((w.alloc o1).alloc o2).alloc o3).alloc o4).heap.size=w.heap.size+4:=by
 obtain ⟨h1,h2,h3,h4⟩:=bC w o1 o2 o3
 refine ⟨(zR _ _).at_ h1,(zR _ _).at_ h2,(zR _ _).at_ h3,?_,by simp⟩
 have:=zN (((w.alloc o1).alloc o2).alloc o3) o4
 rwa [h4] at this
def fB (M x y z qx qy:Nat):Nat×Nat×Nat:=if z=0 then (qx,qy,1) else let u1:=mm M z z;let u2:=mm M qx u1;let u3:=mm M u1 z;let u4:=mm M qy u3;let u5:=sm M u2 x;let u6:=sm M u4 y;let u7:=mm M u5 u5;let u8:=mm M u7 u5;let u9:=mm M x u7;let u10:=mm M u6 u6;let u11:=sm M u10 u8;let u12:=sm M u11 u9;let u13:=sm M u12 u9;let u14:=sm M u9 u13;let u15:=mm M u6 u14;let u16:=mm M y u8;let u17:=sm M u15 u16;let u18:=mm M z u5;if u5=0 then (if u6=0 then twP M x y z else (0,0,0)) else (u13,u17,u18)
theorem su {C:Crv} {ccs:Array Value} {v:Value} {p:Nat×Nat×Nat} {B1 B2:Option Addr} {m1 m2 qx qy:Nat} (hF:C.Fine) (h8:8<C.M) (w:World) (hc:RC w C (.agg ccs)) (hj:JN w C v p) (hq1:RU w B1 m1 (digs 4294967296 qx)) (hq2:RU w B2 m2 (digs 4294967296 qy)) (hqx:qx<C.M) (hqy:qy<C.M) :
 Calls Tryz.prog 95 #[.agg ccs,v,.agg #[.bool false,.slice B1 (digs 4294967296 qx).length m1,.slice B2 (digs 4294967296 qy).length m2]] w fun e w'=>∃ o,e=.returned o∧JN w' C o (fB C.M p.1 p.2.1 p.2.2 qx qy)∧Ext w w':=by
 obtain ⟨A1,A2,A3,k1,k2,k3,rfl,hj1,hj2,hj3,hx,hy,hz⟩:=hj
 obtain ⟨x,y,z⟩:=p
 simp only at hj1 hj2 hj3 hx hy hz ⊢
 obtain ⟨Ap,An,Ab,Ax,Ay,cp,cn,cb,cx,cy,hccs,hP,hN,hB,hX1,hY1⟩:=hc
 injection hccs with hccs
 have hRC0:RC w C (.agg ccs):=⟨Ap,An,Ab,Ax,Ay,cp,cn,cb,cx,cy,by rw [hccs],hP,hN,hB,hX1,hY1⟩
 obtain ⟨W0,hW0⟩:=eW ((((w.alloc (.cells ccs 73)).alloc (.cells #[.slice A1 (digs 4294967296 x).length k1,.slice A2 (digs 4294967296 y).length k2,.slice A3 (digs 4294967296 z).length k3] 132)).alloc (.cells #[.bool false,.slice B1 (digs 4294967296 qx).length m1,.slice B2 (digs 4294967296 qy).length m2] 32)).alloc (.cells #[.slice none 0 0,.slice none 0 0,.slice none 0 0] 132))
 obtain ⟨q,hq⟩:=eV w.heap.size
 have hE0:Ext w W0:=by rw [hW0];exact (((zR _ _).trans (zR _ _)).trans (zR _ _)).trans (zR _ _)
 obtain ⟨hcb,hjb,hqb,hrb,hz0⟩:=zAU w (.cells ccs 73) (.cells #[.slice A1 (digs 4294967296 x).length k1,.slice A2 (digs 4294967296 y).length k2,.slice A3 (digs 4294967296 z).length k3] 132) (.cells #[.bool false,.slice B1 (digs 4294967296 qx).length m1,.slice B2 (digs 4294967296 qy).length m2] 32) (.cells #[.slice none 0 0,.slice none 0 0,.slice none 0 0] 132)
 rw [←hW0,hq] at hcb hjb hqb hrb hz0
 have j0:=zH hjb 0
 have j1:=zH hjb 1
 have j2:=zH hjb 2
 have t1:=zH hqb 1
 have t2:=zH hqb 2
 have cP:=zH hcb 0
 rw [hccs] at cP
 simp only [zI,zJ,zL] at j0 j1 j2 t1 t2 cP
 have hRC:=zF (hRC0.ext hE0)
 have Hccs:=zF (show ccs.size=6 by rw [hccs];rfl)
 have HRP:=zF (zb hP hE0)
 have HX1:=zF (zb hj1 hE0)
 have HX2:=zF (zb hj2 hE0)
 have HX3:=zF (zb hj3 hE0)
 have HX4:=zF (zb hq1 hE0)
 have HX5:=zF (zb hq2 hE0)
 have HF:=zF hF
 have H8:=zF h8
 have hM0:0<C.M:=by omega
 have HE0:=zF hE0
 have Hz0:=zF hz0
 replace hx:=zF hx
 replace hy:=zF hy
 replace hz:=zF hz
 replace hqx:=zF hqx
 replace hqy:=zF hqy
 clear hRC0 hccs hP hN hB hX1 hY1 hj1 hj2 hj3 hF h8 hE0 hz0 hq1 hq2 hqb
 by_cases hz0:z=0
 · rw [show fB C.M x y z qx qy=(qx,qy,1) by rw [fB,qE hz0]]
   replace hz0:=zF hz0
   go_enter Tryz.func95,Tryz.ntmps95
   go_upto_region 1 with fail
   rw [←hW0]
   have Hq:=zF hq
   have HW0:=zF hW0
   have hE:=zd W0
   clear hq hW0
   refine zX 4 [0,1,3,7] [] (fun j f X=>match j with
    | 0=>f 0=.pointer (some ⟨q+1,2,none⟩)
    | 1=>f 1=.slice A3 (digs 4294967296 z).length k3
    | 2=>f 2=.int .i64 ((digs 4294967296 z).length:Int)
    | 3=>f 3=.bool true
    | _=>True) (by kernel_rfl) [(17,0),(18,1),(19,2),(20,3)] (by kernel_rfl) ?_
   refine zT 1 3 ?_
   refine qG 2 2 0 (hE.cell j2) ?_
   refine zt 3 1 [(17,0),(18,1)] (fun f X hX hR K hK=>?_) ?_
   · have e1:f 1=_:=hR.out 1 rfl
     simp only [yZ,e1]
     refine ⟨?_⟩
     go_simp
     exact qe hK (s:=by simp only [yZ,e1])
   refine zt 4 0 [(17,0),(18,1),(19,2)] (fun f X hX hR K hK=>?_) ?_
   · have e2:f 2=_:=hR.out 2 rfl
     have hz1:decide (((digs 4294967296 z).length:Int)=0)=true:=wY hz0.out
     have hz2:decide ((digs 4294967296 z).length=0)=true:=wX hz0.out
     have hz4:((((digs 4294967296 z).length:Nat):Int)==0)=true:=wZ hz0.out
     simp only [yZ,e2]
     refine ⟨?_⟩
     go_simp
     exact qe hK (s:=by simp only [yZ,e2])
   refine yF ⟨fun f X hX hR hal hap=>?_⟩
   have e3:f 3=_:=hR 3 (by decide)
   simp only [yZ,e3]
   clear hR hal hap e3
   refine zK ?_
   replace hE:=hE.trans hX
   clear hX  
   rename World=>X1_k
   have hb1:=hE.at_ hrb
   go_upto_region 2 with fail
   refine zj (by kernel_rfl) 6 [0,1,0,4,0,31,63] [] (fun j f X=>match j with
    | 0=>f 0=.pointer (some ⟨q+2,1,none⟩)
    | 1=>f 1=.slice B1 (digs 4294967296 qx).length m1
    | 2=>f 2=.pointer (some ⟨q+2,2,none⟩)
    | 3=>f 3=.slice B2 (digs 4294967296 qy).length m2
    | 4=>∃ A1 c1,f 4=.slice A1 (digs 4294967296 1).length c1∧RU X A1 c1 (digs 4294967296 1)
    | 5=>∃ A c,f 5=.agg #[.slice B1 (digs 4294967296 qx).length m1,.slice B2 (digs 4294967296 qy).length m2,.slice A (digs 4294967296 1).length c]∧RU X A c (digs 4294967296 1)
    | _=>True) (by kernel_rfl) [(21,0),(22,1),(23,2),(24,3),(25,4),(26,5)] (by kernel_rfl) ?_
   refine zT 1 5 ?_
   refine qG 2 4 0 (hE.cell t1) ?_
   refine zT 3 3 ?_
   refine qG 4 2 2 (hE.cell t2) ?_
   refine qC 5 1 (fun _=>#[Value.int IntKind.u64 1]) (F':=78) (fun f X hX hR=>?_) ?_
   · refine (pu 1 X (by omega)).mono ?_
     rintro e w2 ⟨A1,c1,rfl,hO,hB⟩
     exact ⟨_,rfl,hB,fun Y hY=>⟨A1,c1,rfl,zb hO hY⟩⟩
   refine zt 6 0 [(21,0),(22,1),(23,2),(24,3),(25,4)] (fun f X hX hR K hK=>?_) ?_
   · have e1:f 1=_:=hR.out 1 rfl
     have e3:f 3=_:=hR.out 3 rfl
     obtain ⟨A2_4,c2_4,(e4:f 4=_),o2_4⟩:=hR.out 4 rfl
     simp only [yZ,e1,e3,e4]
     refine ⟨?_⟩
     go_simp
     exact hK.out _ _ _ (by simp only [yZ,e1,e3,e4]) (zd _) trivial (fun Y hY=>⟨_,_,rfl,zb o2_4 hY⟩)
   refine yF ⟨fun f X hX hR hal hap=>?_⟩
   obtain ⟨A2_4,c2_4,(e4:f 4=_),o2_4⟩:=hR 4 (by decide)
   obtain ⟨Az,cz,(e5:f 5=_),oz⟩:=hR 5 (by decide)
   simp only [yZ,e4,e5]
   clear hR hal hap e4 e5
   refine zZ (fun K hK=>⟨zc (by kernel_rfl) (qo (cs':=#[.slice B1 (digs 4294967296 qx).length m1,.slice B2 (digs 4294967296 qy).length m2,.slice Az (digs 4294967296 1).length cz]) (t:=132) 132 (.tmp 6) (.tmp 26) rfl rfl rfl rfl (hX.at_ hb1) xv rfl (gZ _ _ _ _ _ _ _ _ _) (fun Y hY1 hY2 hY3=>hK.out _ _ ?_))⟩)
   refine zK ?_
   go_wp2
   exact us rfl rfl rfl hY1 ⟨_,rfl,⟨_,_,_,_,_,_,rfl,(zb HX4.out (hE.trans hX)).offJ hY2 (hX.at_ hb1) (by kernel_rfl),(zb HX5.out (hE.trans hX)).offJ hY2 (hX.at_ hb1) (by kernel_rfl),oz.offJ hY2 (hX.at_ hb1) (by kernel_rfl),hqx.out,hqy.out,(show 1<C.M by have:=H8.out;omega)⟩,hY2.ext (HE0.out.trans (hE.trans hX)) (by have:=Hq.out;omega)⟩
 obtain ⟨u1,e_u1⟩:=eV (mm C.M z z)
 have L_u1:=zF (show u1<C.M by rw [←e_u1];exact kg hM0 _ _)
 have E_u1:=zF e_u1
 clear e_u1
 obtain ⟨u2,e_u2⟩:=eV (mm C.M qx u1)
 have L_u2:=zF (show u2<C.M by rw [←e_u2];exact kg hM0 _ _)
 have E_u2:=zF e_u2
 clear e_u2
 obtain ⟨u3,e_u3⟩:=eV (mm C.M u1 z)
 have L_u3:=zF (show u3<C.M by rw [←e_u3];exact kg hM0 _ _)
 have E_u3:=zF e_u3
 clear e_u3
 obtain ⟨u4,e_u4⟩:=eV (mm C.M qy u3)
 have L_u4:=zF (show u4<C.M by rw [←e_u4];exact kg hM0 _ _)
 have E_u4:=zF e_u4
 clear e_u4
 obtain ⟨u5,e_u5⟩:=eV (sm C.M u2 x)
 have L_u5:=zF (show u5<C.M by rw [←e_u5];exact uA hM0 _ _)
 have E_u5:=zF e_u5
 clear e_u5
 obtain ⟨u6,e_u6⟩:=eV (sm C.M u4 y)
 have L_u6:=zF (show u6<C.M by rw [←e_u6];exact uA hM0 _ _)
 have E_u6:=zF e_u6
 clear e_u6
 obtain ⟨u7,e_u7⟩:=eV (mm C.M u5 u5)
 have L_u7:=zF (show u7<C.M by rw [←e_u7];exact kg hM0 _ _)
 have E_u7:=zF e_u7
 clear e_u7
 obtain ⟨u8,e_u8⟩:=eV (mm C.M u7 u5)
 have L_u8:=zF (show u8<C.M by rw [←e_u8];exact kg hM0 _ _)
 have E_u8:=zF e_u8
 clear e_u8
 obtain ⟨u9,e_u9⟩:=eV (mm C.M x u7)
 have L_u9:=zF (show u9<C.M by rw [←e_u9];exact kg hM0 _ _)
 have E_u9:=zF e_u9
 clear e_u9
 obtain ⟨u10,e_u10⟩:=eV (mm C.M u6 u6)
 have L_u10:=zF (show u10<C.M by rw [←e_u10];exact kg hM0 _ _)
 have E_u10:=zF e_u10
 clear e_u10
 obtain ⟨u11,e_u11⟩:=eV (sm C.M u10 u8)
 have L_u11:=zF (show u11<C.M by rw [←e_u11];exact uA hM0 _ _)
 have E_u11:=zF e_u11
 clear e_u11
 obtain ⟨u12,e_u12⟩:=eV (sm C.M u11 u9)
 have L_u12:=zF (show u12<C.M by rw [←e_u12];exact uA hM0 _ _)
 have E_u12:=zF e_u12
 clear e_u12
 obtain ⟨u13,e_u13⟩:=eV (sm C.M u12 u9)
 have L_u13:=zF (show u13<C.M by rw [←e_u13];exact uA hM0 _ _)
 have E_u13:=zF e_u13
 clear e_u13
 obtain ⟨u14,e_u14⟩:=eV (sm C.M u9 u13)
 have L_u14:=zF (show u14<C.M by rw [←e_u14];exact uA hM0 _ _)
 have E_u14:=zF e_u14
 clear e_u14
 obtain ⟨u15,e_u15⟩:=eV (mm C.M u6 u14)
 have L_u15:=zF (show u15<C.M by rw [←e_u15];exact kg hM0 _ _)
 have E_u15:=zF e_u15
 clear e_u15
 obtain ⟨u16,e_u16⟩:=eV (mm C.M y u8)
 have L_u16:=zF (show u16<C.M by rw [←e_u16];exact kg hM0 _ _)
 have E_u16:=zF e_u16
 clear e_u16
 obtain ⟨u17,e_u17⟩:=eV (sm C.M u15 u16)
 have L_u17:=zF (show u17<C.M by rw [←e_u17];exact uA hM0 _ _)
 have E_u17:=zF e_u17
 clear e_u17
 obtain ⟨u18,e_u18⟩:=eV (mm C.M z u5)
 have L_u18:=zF (show u18<C.M by rw [←e_u18];exact kg hM0 _ _)
 have E_u18:=zF e_u18
 clear e_u18
 obtain ⟨res,hres0⟩:=eV (fB C.M x y z qx qy)
 have hres:=zF (show res=if u5=0 then (if u6=0 then twP C.M x y z else (0,0,0)) else (u13,u17,u18) by rw [←hres0,fB,zr hz0];simp only [E_u1.out,E_u2.out,E_u3.out,E_u4.out,E_u5.out,E_u6.out,E_u7.out,E_u8.out,E_u9.out,E_u10.out,E_u11.out,E_u12.out,E_u13.out,E_u14.out,E_u15.out,E_u16.out,E_u17.out,E_u18.out])
 rw [hres0]
 clear hres0
 replace hz0:=zF hz0
 go_enter Tryz.func95,Tryz.ntmps95
 go_upto_region 1 with fail
 rw [←hW0]
 have Hq:=zF hq
 have HW0:=zF hW0
 have hE:=zd W0
 clear hq hW0
 refine zX 4 [0,1,3,7] [] (fun j f X=>match j with
  | 0=>f 0=.pointer (some ⟨q+1,2,none⟩)
  | 1=>f 1=.slice A3 (digs 4294967296 z).length k3
  | 2=>f 2=.int .i64 ((digs 4294967296 z).length:Int)
  | 3=>f 3=.bool false
  | _=>True) (by kernel_rfl) [(17,0),(18,1),(19,2),(20,3)] (by kernel_rfl) ?_
 refine zT 1 3 ?_
 refine qG 2 2 0 (hE.cell j2) ?_
 refine zt 3 1 [(17,0),(18,1)] (fun f X hX hR K hK=>?_) ?_
 · have e1:f 1=_:=hR.out 1 rfl
   simp only [yZ,e1]
   refine ⟨?_⟩
   go_simp
   exact qe hK (s:=by simp only [yZ,e1])
 refine zt 4 0 [(17,0),(18,1),(19,2)] (fun f X hX hR K hK=>?_) ?_
 · have e2:f 2=_:=hR.out 2 rfl
   have hz1:decide (((digs 4294967296 z).length:Int)=0)=false:=vc hz0.out
   have hz2:decide ((digs 4294967296 z).length=0)=false:=vZ hz0.out
   have hz4:((((digs 4294967296 z).length:Nat):Int)==0)=false:=vd hz0.out
   simp only [yZ,e2]
   refine ⟨?_⟩
   go_simp
   exact qe hK (s:=by simp only [yZ,e2])
 refine yF ⟨fun f X hX hR hal hap=>?_⟩
 have e3:f 3=_:=hR 3 (by decide)
 simp only [yZ,e3]
 clear hR hal hap e3
 refine zK ?_
 replace hE:=hE.trans hX
 clear hX  
 rename World=>X1_k
 go_upto_region 3 with fail
 refine zX 7 [0,0,2,0,8,31,63] [] (fun j f X=>match j with
  | 0=>f 0=.agg ccs
  | 1=>f 1=.pointer (some ⟨q+1,2,none⟩)
  | 2=>f 2=.slice A3 (digs 4294967296 z).length k3
  | 3=>f 3=.pointer (some ⟨q+1,2,none⟩)
  | 4=>f 4=.slice A3 (digs 4294967296 z).length k3
  | 5=>∃ A1 c1,f 5=.slice A1 (digs 4294967296 u1).length c1∧RU X A1 c1 (digs 4294967296 u1)
  | 6=>∃ A1 c1,f 6=.slice A1 (digs 4294967296 u1).length c1∧RU X A1 c1 (digs 4294967296 u1)
  | _=>True) (by kernel_rfl) [(27,0),(28,1),(29,2),(30,3),(31,4),(32,5),(7,6)] (by kernel_rfl) ?_
 refine lV0 1 6 (hE.at_ hcb) (by rw [Hccs.out];exact qh) ?_
 refine zT 2 5 ?_
 refine qG 3 4 1 (hE.cell j2) ?_
 refine zT 4 3 ?_
 refine qG 5 2 3 (hE.cell j2) ?_
 refine rc 6 1 0 2 4 (fun _ _ hX h=>⟨_,_,h,(zb HX3.out (hE.trans hX))⟩) (fun _ _ hX h=>⟨_,_,h,(zb HX3.out (hE.trans hX))⟩) (fun X hX _ _ _ _ h h'=>jT X HF.out (hRC.out.ext (hE.trans hX)) h h' hz.out hz.out) E_u1.out ?_
 refine zt 7 0 [(27,0),(28,1),(29,2),(30,3),(31,4),(32,5)] (fun f X hX hR K hK=>?_) ?_
 · obtain ⟨A3_5,c3_5,(e5:f 5=_),o3_5⟩:=hR.out 5 rfl
   simp only [yZ,e5]
   refine ⟨?_⟩
   go_simp
   exact hK.out _ _ _ (by simp only [yZ,e5]) (zd _) trivial (fun Y hY=>⟨A3_5,c3_5,rfl,zb o3_5 hY⟩)
 refine yF ⟨fun f X hX hR hal hap=>?_⟩
 obtain ⟨A3_5,c3_5,(e5:f 5=_),o3_5⟩:=hR 5 (by decide)
 obtain ⟨A3_6,c3_6,(e6:f 6=_),o3_6⟩:=hR 6 (by decide)
 simp only [yZ,e5,e6]
 clear hR hal hap e5 e6
 refine zK ?_
 replace hE:=hE.trans hX
 have N7:=zF o3_6
 clear hX o3_5 o3_6 
 rename World=>X3_k
 go_upto_region 4 with fail
 refine zX 6 [0,0,2,0,15,31] [] (fun j f X=>match j with
  | 0=>f 0=.agg ccs
  | 1=>f 1=.pointer (some ⟨q+2,1,none⟩)
  | 2=>f 2=.slice B1 (digs 4294967296 qx).length m1
  | 3=>f 3=.slice A3_6 (digs 4294967296 u1).length c3_6
  | 4=>∃ A1 c1,f 4=.slice A1 (digs 4294967296 u2).length c1∧RU X A1 c1 (digs 4294967296 u2)
  | 5=>∃ A1 c1,f 5=.slice A1 (digs 4294967296 u2).length c1∧RU X A1 c1 (digs 4294967296 u2)
  | _=>True) (by kernel_rfl) [(33,0),(34,1),(35,2),(36,3),(37,4),(8,5)] (by kernel_rfl) ?_
 refine lV0 1 5 (hE.at_ hcb) (by rw [Hccs.out];exact qh) ?_
 refine zT 2 4 ?_
 refine qG 3 3 1 (hE.cell t1) ?_
 refine zT 4 2 ?_
 refine rc 5 1 0 2 3 (fun _ _ hX h=>⟨_,_,h,(zb HX4.out (hE.trans hX))⟩) (fun _ _ hX h=>⟨_,_,h,(zb N7.out hX)⟩) (fun X hX _ _ _ _ h h'=>jT X HF.out (hRC.out.ext (hE.trans hX)) h h' hqx.out L_u1.out) E_u2.out ?_
 refine zt 6 0 [(33,0),(34,1),(35,2),(36,3),(37,4)] (fun f X hX hR K hK=>?_) ?_
 · obtain ⟨A4_4,c4_4,(e4:f 4=_),o4_4⟩:=hR.out 4 rfl
   simp only [yZ,e4]
   refine ⟨?_⟩
   go_simp
   exact hK.out _ _ _ (by simp only [yZ,e4]) (zd _) trivial (fun Y hY=>⟨A4_4,c4_4,rfl,zb o4_4 hY⟩)
 refine yF ⟨fun f X hX hR hal hap=>?_⟩
 obtain ⟨A4_4,c4_4,(e4:f 4=_),o4_4⟩:=hR 4 (by decide)
 obtain ⟨A4_5,c4_5,(e5:f 5=_),o4_5⟩:=hR 5 (by decide)
 simp only [yZ,e4,e5]
 clear hR hal hap e4 e5
 refine zK ?_
 replace hE:=hE.trans hX
 replace N7:=zF (zb N7.out hX)
 have N8:=zF o4_5
 clear hX o4_4 o4_5
 rename World=>X4_k
 go_upto_region 5 with fail
 refine zj (by kernel_rfl) 10 [0,0,2,0,0,0,32,120,255,511] [] (fun j f X=>match j with
  | 0=>f 0=.agg ccs
  | 1=>f 1=.pointer (some ⟨q+2,2,none⟩)
  | 2=>f 2=.slice B2 (digs 4294967296 qy).length m2
  | 3=>f 3=.agg ccs
  | 4=>f 4=.slice A3_6 (digs 4294967296 u1).length c3_6
  | 5=>f 5=.pointer (some ⟨q+1,2,none⟩)
  | 6=>f 6=.slice A3 (digs 4294967296 z).length k3
  | 7=>∃ A1 c1,f 7=.slice A1 (digs 4294967296 u3).length c1∧RU X A1 c1 (digs 4294967296 u3)
  | 8=>∃ A1 c1,f 8=.slice A1 (digs 4294967296 u4).length c1∧RU X A1 c1 (digs 4294967296 u4)
  | 9=>∃ A1 c1,f 9=.slice A1 (digs 4294967296 u4).length c1∧RU X A1 c1 (digs 4294967296 u4)
  | _=>True) (by kernel_rfl) [(38,0),(39,1),(40,2),(41,3),(42,4),(43,5),(44,6),(45,7),(46,8),(9,9)] (by kernel_rfl) ?_
 refine lV0 1 9 (hE.at_ hcb) (by rw [Hccs.out];exact qh) ?_
 refine zT 2 8 ?_
 refine qG 3 7 1 (hE.cell t2) ?_
 refine lV0 4 6 (hE.at_ hcb) (by rw [Hccs.out];exact qh) ?_
 refine zT 5 5 ?_
 refine zT 6 4 ?_
 refine qG 7 3 5 (hE.cell j2) ?_
 refine rc 8 2 3 4 6 (fun _ _ hX h=>⟨_,_,h,(zb N7.out hX)⟩) (fun _ _ hX h=>⟨_,_,h,(zb HX3.out (hE.trans hX))⟩) (fun X hX _ _ _ _ h h'=>jT X HF.out (hRC.out.ext (hE.trans hX)) h h' L_u1.out hz.out) E_u3.out ?_
 refine rc 9 1 0 2 7 (fun _ _ hX h=>⟨_,_,h,(zb HX5.out (hE.trans hX))⟩) (fun _ _ _ h=>h) (fun X hX _ _ _ _ h h'=>jT X HF.out (hRC.out.ext (hE.trans hX)) h h' hqy.out L_u3.out) E_u4.out ?_
 refine zt 10 0 [(38,0),(39,1),(40,2),(41,3),(42,4),(43,5),(44,6),(45,7),(46,8)] (fun f X hX hR K hK=>?_) ?_
 · obtain ⟨A5_8,c5_8,(e8:f 8=_),o5_8⟩:=hR.out 8 rfl
   simp only [yZ,e8]
   refine ⟨?_⟩
   go_simp
   exact hK.out _ _ _ (by simp only [yZ,e8]) (zd _) trivial (fun Y hY=>⟨A5_8,c5_8,rfl,zb o5_8 hY⟩)
 refine yF ⟨fun f X hX hR hal hap=>?_⟩
 obtain ⟨A5_7,c5_7,(e7:f 7=_),o5_7⟩:=hR 7 (by decide)
 obtain ⟨A5_8,c5_8,(e8:f 8=_),o5_8⟩:=hR 8 (by decide)
 obtain ⟨A5_9,c5_9,(e9:f 9=_),o5_9⟩:=hR 9 (by decide)
 simp only [yZ,e7,e8,e9]
 clear hR hal hap e7 e8 e9
 refine zK ?_
 replace hE:=hE.trans hX
 replace N7:=zF (zb N7.out hX)
 replace N8:=zF (zb N8.out hX)
 have N9:=zF o5_9
 clear hX o5_7 o5_8 o5_9
 rename World=>X5_k
 go_upto_region 6 with fail
 refine zX 6 [0,0,0,4,15,31] [] (fun j f X=>match j with
  | 0=>f 0=.agg ccs
  | 1=>f 1=.slice A4_5 (digs 4294967296 u2).length c4_5
  | 2=>f 2=.pointer (some ⟨q+1,0,none⟩)
  | 3=>f 3=.slice A1 (digs 4294967296 x).length k1
  | 4=>∃ A1 c1,f 4=.slice A1 (digs 4294967296 u5).length c1∧RU X A1 c1 (digs 4294967296 u5)
  | 5=>∃ A1 c1,f 5=.slice A1 (digs 4294967296 u5).length c1∧RU X A1 c1 (digs 4294967296 u5)
  | _=>True) (by kernel_rfl) [(47,0),(48,1),(49,2),(50,3),(51,4),(10,5)] (by kernel_rfl) ?_
 refine lV0 1 5 (hE.at_ hcb) (by rw [Hccs.out];exact qh) ?_
 refine zT 2 4 ?_
 refine zT 3 3 ?_
 refine qG 4 2 2 (hE.cell j0) ?_
 refine rc 5 1 0 1 3 (fun _ _ hX h=>⟨_,_,h,(zb N8.out hX)⟩) (fun _ _ hX h=>⟨_,_,h,(zb HX1.out (hE.trans hX))⟩) (fun X hX _ _ _ _ h h'=>vU X HF.out (hRC.out.ext (hE.trans hX)) h h' L_u2.out hx.out) E_u5.out ?_
 refine zt 6 0 [(47,0),(48,1),(49,2),(50,3),(51,4)] (fun f X hX hR K hK=>?_) ?_
 · obtain ⟨A6_4,c6_4,(e4:f 4=_),o6_4⟩:=hR.out 4 rfl
   simp only [yZ,e4]
   refine ⟨?_⟩
   go_simp
   exact hK.out _ _ _ (by simp only [yZ,e4]) (zd _) trivial (fun Y hY=>⟨A6_4,c6_4,rfl,zb o6_4 hY⟩)
 refine yF ⟨fun f X hX hR hal hap=>?_⟩
 obtain ⟨A6_4,c6_4,(e4:f 4=_),o6_4⟩:=hR 4 (by decide)
 obtain ⟨A6_5,c6_5,(e5:f 5=_),o6_5⟩:=hR 5 (by decide)
 simp only [yZ,e4,e5]
 clear hR hal hap e4 e5
 refine zK ?_
 replace hE:=hE.trans hX
 replace N7:=zF (zb N7.out hX)
 replace N8:=zF (zb N8.out hX)
 replace N9:=zF (zb N9.out hX)
 have N10:=zF o6_5
 clear hX o6_4 o6_5
 rename World=>X6_k
 go_upto_region 7 with fail
 refine zX 6 [0,0,0,4,15,31] [] (fun j f X=>match j with
  | 0=>f 0=.agg ccs
  | 1=>f 1=.slice A5_9 (digs 4294967296 u4).length c5_9
  | 2=>f 2=.pointer (some ⟨q+1,1,none⟩)
  | 3=>f 3=.slice A2 (digs 4294967296 y).length k2
  | 4=>∃ A1 c1,f 4=.slice A1 (digs 4294967296 u6).length c1∧RU X A1 c1 (digs 4294967296 u6)
  | 5=>∃ A1 c1,f 5=.slice A1 (digs 4294967296 u6).length c1∧RU X A1 c1 (digs 4294967296 u6)
  | _=>True) (by kernel_rfl) [(52,0),(53,1),(54,2),(55,3),(56,4),(11,5)] (by kernel_rfl) ?_
 refine lV0 1 5 (hE.at_ hcb) (by rw [Hccs.out];exact qh) ?_
 refine zT 2 4 ?_
 refine zT 3 3 ?_
 refine qG 4 2 2 (hE.cell j1) ?_
 refine rc 5 1 0 1 3 (fun _ _ hX h=>⟨_,_,h,(zb N9.out hX)⟩) (fun _ _ hX h=>⟨_,_,h,(zb HX2.out (hE.trans hX))⟩) (fun X hX _ _ _ _ h h'=>vU X HF.out (hRC.out.ext (hE.trans hX)) h h' L_u4.out hy.out) E_u6.out ?_
 refine zt 6 0 [(52,0),(53,1),(54,2),(55,3),(56,4)] (fun f X hX hR K hK=>?_) ?_
 · obtain ⟨A7_4,c7_4,(e4:f 4=_),o7_4⟩:=hR.out 4 rfl
   simp only [yZ,e4]
   refine ⟨?_⟩
   go_simp
   exact hK.out _ _ _ (by simp only [yZ,e4]) (zd _) trivial (fun Y hY=>⟨A7_4,c7_4,rfl,zb o7_4 hY⟩)
 refine yF ⟨fun f X hX hR hal hap=>?_⟩
 obtain ⟨A7_4,c7_4,(e4:f 4=_),o7_4⟩:=hR 4 (by decide)
 obtain ⟨A7_5,c7_5,(e5:f 5=_),o7_5⟩:=hR 5 (by decide)
 simp only [yZ,e4,e5]
 clear hR hal hap e4 e5
 refine zK ?_
 replace hE:=hE.trans hX
 replace N7:=zF (zb N7.out hX)
 replace N8:=zF (zb N8.out hX)
 replace N9:=zF (zb N9.out hX)
 replace N10:=zF (zb N10.out hX)
 have N11:=zF o7_5
 clear hX o7_4 o7_5
 rename World=>X7_k
 by_cases hh0:u5=0
 · by_cases hr0:u6=0
   · obtain rfl:res=twP C.M x y z:=by rw [hres.out,qE hh0,qE hr0]
     replace hh0:=zF hh0
     replace hr0:=zF hr0
     go_upto_region 8 with fail
     refine zX 3 [0,1,3] [] (fun j f X=>match j with
      | 0=>f 0=.slice A6_5 (digs 4294967296 u5).length c6_5
      | 1=>f 1=.int .i64 ((digs 4294967296 u5).length:Int)
      | 2=>f 2=.bool true
      | _=>True) (by kernel_rfl) [(57,0),(58,1),(59,2)] (by kernel_rfl) ?_
     refine zT 1 2 ?_
     refine zt 2 1 [(57,0)] (fun f X hX hR K hK=>?_) ?_
     · have e0:f 0=_:=hR.out 0 rfl
       simp only [yZ,e0]
       refine ⟨?_⟩
       go_simp
       exact qe hK (s:=by simp only [yZ,e0])
     refine zt 3 0 [(57,0),(58,1)] (fun f X hX hR K hK=>?_) ?_
     · have e1:f 1=_:=hR.out 1 rfl
       have hz1:decide (((digs 4294967296 u5).length:Int)=0)=true:=wY hh0.out
       have hz2:decide ((digs 4294967296 u5).length=0)=true:=wX hh0.out
       have hz4:((((digs 4294967296 u5).length:Nat):Int)==0)=true:=wZ hh0.out
       simp only [yZ,e1]
       refine ⟨?_⟩
       go_simp
       exact qe hK (s:=by simp only [yZ,e1])
     refine yF ⟨fun f X hX hR hal hap=>?_⟩
     have e2:f 2=_:=hR 2 (by decide)
     simp only [yZ,e2]
     clear hR hal hap e2
     refine zK ?_
     replace hE:=hE.trans hX
     replace N7:=zF (zb N7.out hX)
     replace N8:=zF (zb N8.out hX)
     replace N9:=zF (zb N9.out hX)
     replace N10:=zF (zb N10.out hX)
     replace N11:=zF (zb N11.out hX)
     clear hX
     rename World=>X8_k
     go_upto_region 9 with fail
     refine zX 3 [0,1,3] [] (fun j f X=>match j with
      | 0=>f 0=.slice A7_5 (digs 4294967296 u6).length c7_5
      | 1=>f 1=.int .i64 ((digs 4294967296 u6).length:Int)
      | 2=>f 2=.bool true
      | _=>True) (by kernel_rfl) [(60,0),(61,1),(62,2)] (by kernel_rfl) ?_
     refine zT 1 2 ?_
     refine zt 2 1 [(60,0)] (fun f X hX hR K hK=>?_) ?_
     · have e0:f 0=_:=hR.out 0 rfl
       simp only [yZ,e0]
       refine ⟨?_⟩
       go_simp
       exact qe hK (s:=by simp only [yZ,e0])
     refine zt 3 0 [(60,0),(61,1)] (fun f X hX hR K hK=>?_) ?_
     · have e1:f 1=_:=hR.out 1 rfl
       have hz1:decide (((digs 4294967296 u6).length:Int)=0)=true:=wY hr0.out
       have hz2:decide ((digs 4294967296 u6).length=0)=true:=wX hr0.out
       have hz4:((((digs 4294967296 u6).length:Nat):Int)==0)=true:=wZ hr0.out
       simp only [yZ,e1]
       refine ⟨?_⟩
       go_simp
       exact qe hK (s:=by simp only [yZ,e1])
     refine yF ⟨fun f X hX hR hal hap=>?_⟩
     have e2:f 2=_:=hR 2 (by decide)
     simp only [yZ,e2]
     clear hR hal hap e2
     refine zK ?_
     replace hE:=hE.trans hX
     replace N7:=zF (zb N7.out hX)
     replace N8:=zF (zb N8.out hX)
     replace N9:=zF (zb N9.out hX)
     replace N10:=zF (zb N10.out hX)
     replace N11:=zF (zb N11.out hX)
     clear hX
     rename World=>X9_k
     have hb1:=hE.at_ hrb
     go_upto_region 10 with fail
     refine zX 3 [0,0,3,7] [] (fun j f X=>match j with
      | 0=>f 0=.agg ccs
      | 1=>f 1=.agg #[.slice A1 (digs 4294967296 x).length k1,.slice A2 (digs 4294967296 y).length k2,.slice A3 (digs 4294967296 z).length k3]
      | 2=>∃ o,f 2=o∧JN X C o (twP C.M x y z)
      | _=>True) (by kernel_rfl) [(63,0),(64,1),(65,2)] (by kernel_rfl) ?_
     refine lV0 1 2 (hE.at_ hcb) (by rw [Hccs.out];exact qh) ?_
     refine lV0 2 1 (hE.at_ hjb) xv ?_
     refine qC 3 0 (fun f=>#[f 0,f 1]) (F':=93) (fun f X hX hR=>?_) ?_
     · have e0:f 0=_:=hR.out 0 rfl
       have e1:f 1=_:=hR.out 1 rfl
       simp only [e0,e1]
       refine (nG (p:=(x,y,z)) HF.out H8.out X (hRC.out.ext (hE.trans hX)) ⟨A1,A2,A3,k1,k2,k3,rfl,zb HX1.out (hE.trans hX),zb HX2.out (hE.trans hX),zb HX3.out (hE.trans hX),hx.out,hy.out,hz.out⟩).mono ?_
       rintro e w2 ⟨o,rfl,hj,hB⟩
       exact ⟨o,rfl,hB,fun Y hY=>⟨_,rfl,hj.ext hY⟩⟩
     refine yF ⟨fun f X hX hR hal hap=>?_⟩
     obtain ⟨vo,(e2:f 2=_),jo⟩:=hR 2 (by decide)
     simp only [yZ,e2]
     clear hR hal hap e2
     obtain ⟨D1,D2,D3,d1,d2,d3,ev,g1,g2,g3,g4,g5,g6⟩:=jo
     subst ev
     refine zZ (fun K hK=>⟨zc (by kernel_rfl) (qo (cs':=#[.slice D1 (digs 4294967296 (twP C.M x y z).1).length d1,.slice D2 (digs 4294967296 (twP C.M x y z).2.1).length d2,.slice D3 (digs 4294967296 (twP C.M x y z).2.2).length d3]) (t:=132) 132 (.tmp 6) (.tmp 65) rfl rfl rfl rfl (hX.at_ hb1) xv rfl (gZ _ _ _ _ _ _ _ _ _) (fun Y hY1 hY2 hY3=>hK.out _ _ ?_))⟩)
     refine zK ?_
     go_wp2
     exact us rfl rfl rfl hY1 ⟨_,rfl,⟨_,_,_,_,_,_,rfl,g1.offJ hY2 (hX.at_ hb1) (by kernel_rfl),g2.offJ hY2 (hX.at_ hb1) (by kernel_rfl),g3.offJ hY2 (hX.at_ hb1) (by kernel_rfl),g4,g5,g6⟩,hY2.ext (HE0.out.trans (hE.trans hX)) (by have:=Hq.out;omega)⟩
   · obtain rfl:res=(0,0,0):=by rw [hres.out,qE hh0,zr hr0]
     replace hh0:=zF hh0
     replace hr0:=zF hr0
     go_upto_region 8 with fail
     refine zX 3 [0,1,3] [] (fun j f X=>match j with
      | 0=>f 0=.slice A6_5 (digs 4294967296 u5).length c6_5
      | 1=>f 1=.int .i64 ((digs 4294967296 u5).length:Int)
      | 2=>f 2=.bool true
      | _=>True) (by kernel_rfl) [(57,0),(58,1),(59,2)] (by kernel_rfl) ?_
     refine zT 1 2 ?_
     refine zt 2 1 [(57,0)] (fun f X hX hR K hK=>?_) ?_
     · have e0:f 0=_:=hR.out 0 rfl
       simp only [yZ,e0]
       refine ⟨?_⟩
       go_simp
       exact qe hK (s:=by simp only [yZ,e0])
     refine zt 3 0 [(57,0),(58,1)] (fun f X hX hR K hK=>?_) ?_
     · have e1:f 1=_:=hR.out 1 rfl
       have hz1:decide (((digs 4294967296 u5).length:Int)=0)=true:=wY hh0.out
       have hz2:decide ((digs 4294967296 u5).length=0)=true:=wX hh0.out
       have hz4:((((digs 4294967296 u5).length:Nat):Int)==0)=true:=wZ hh0.out
       simp only [yZ,e1]
       refine ⟨?_⟩
       go_simp
       exact qe hK (s:=by simp only [yZ,e1])
     refine yF ⟨fun f X hX hR hal hap=>?_⟩
     have e2:f 2=_:=hR 2 (by decide)
     simp only [yZ,e2]
     clear hR hal hap e2
     refine zK ?_
     replace hE:=hE.trans hX
     replace N7:=zF (zb N7.out hX)
     replace N8:=zF (zb N8.out hX)
     replace N9:=zF (zb N9.out hX)
     replace N10:=zF (zb N10.out hX)
     replace N11:=zF (zb N11.out hX)
     clear hX
     rename World=>X8_k
     go_upto_region 9 with fail
     refine zX 3 [0,1,3] [] (fun j f X=>match j with
      | 0=>f 0=.slice A7_5 (digs 4294967296 u6).length c7_5
      | 1=>f 1=.int .i64 ((digs 4294967296 u6).length:Int)
      | 2=>f 2=.bool false
      | _=>True) (by kernel_rfl) [(60,0),(61,1),(62,2)] (by kernel_rfl) ?_
     refine zT 1 2 ?_
     refine zt 2 1 [(60,0)] (fun f X hX hR K hK=>?_) ?_
     · have e0:f 0=_:=hR.out 0 rfl
       simp only [yZ,e0]
       refine ⟨?_⟩
       go_simp
       exact qe hK (s:=by simp only [yZ,e0])
     refine zt 3 0 [(60,0),(61,1)] (fun f X hX hR K hK=>?_) ?_
     · have e1:f 1=_:=hR.out 1 rfl
       have hz1:decide (((digs 4294967296 u6).length:Int)=0)=false:=vc hr0.out
       have hz2:decide ((digs 4294967296 u6).length=0)=false:=vZ hr0.out
       have hz4:((((digs 4294967296 u6).length:Nat):Int)==0)=false:=vd hr0.out
       simp only [yZ,e1]
       refine ⟨?_⟩
       go_simp
       exact qe hK (s:=by simp only [yZ,e1])
     refine yF ⟨fun f X hX hR hal hap=>?_⟩
     have e2:f 2=_:=hR 2 (by decide)
     simp only [yZ,e2]
     clear hR hal hap e2
     refine zK ?_
     replace hE:=hE.trans hX
     replace N7:=zF (zb N7.out hX)
     replace N8:=zF (zb N8.out hX)
     replace N9:=zF (zb N9.out hX)
     replace N10:=zF (zb N10.out hX)
     replace N11:=zF (zb N11.out hX)
     clear hX
     rename World=>X9_k
     have hb1:=hE.at_ hrb
     obtain ⟨z0,z1,z2,f0,f1,f2⟩:=qc hb1
     go_wp2
     exact us rfl rfl rfl (kw hb1 _ _ _) ⟨_,rfl,⟨none,none,none,0,0,0,by rw [qY];rfl,RN.nil0 _,RN.nil0 _,RN.nil0 _,hM0,hM0,hM0⟩,ky (HE0.out.trans hE) (by have:=Hq.out;omega) _ _ _⟩
 · obtain rfl:res=(u13,u17,u18):=by rw [hres.out,zr hh0]
   replace hh0:=zF hh0
   go_upto_region 8 with fail
   refine zX 3 [0,1,3] [] (fun j f X=>match j with
    | 0=>f 0=.slice A6_5 (digs 4294967296 u5).length c6_5
    | 1=>f 1=.int .i64 ((digs 4294967296 u5).length:Int)
    | 2=>f 2=.bool false
    | _=>True) (by kernel_rfl) [(57,0),(58,1),(59,2)] (by kernel_rfl) ?_
   refine zT 1 2 ?_
   refine zt 2 1 [(57,0)] (fun f X hX hR K hK=>?_) ?_
   · have e0:f 0=_:=hR.out 0 rfl
     simp only [yZ,e0]
     refine ⟨?_⟩
     go_simp
     exact qe hK (s:=by simp only [yZ,e0])
   refine zt 3 0 [(57,0),(58,1)] (fun f X hX hR K hK=>?_) ?_
   · have e1:f 1=_:=hR.out 1 rfl
     have hz1:decide (((digs 4294967296 u5).length:Int)=0)=false:=vc hh0.out
     have hz2:decide ((digs 4294967296 u5).length=0)=false:=vZ hh0.out
     have hz4:((((digs 4294967296 u5).length:Nat):Int)==0)=false:=vd hh0.out
     simp only [yZ,e1]
     refine ⟨?_⟩
     go_simp
     exact qe hK (s:=by simp only [yZ,e1])
   refine yF ⟨fun f X hX hR hal hap=>?_⟩
   have e2:f 2=_:=hR 2 (by decide)
   simp only [yZ,e2]
   clear hR hal hap e2
   refine zK ?_
   replace hE:=hE.trans hX
   replace N7:=zF (zb N7.out hX)
   replace N8:=zF (zb N8.out hX)
   replace N9:=zF (zb N9.out hX)
   replace N10:=zF (zb N10.out hX)
   replace N11:=zF (zb N11.out hX)
   clear hX
   rename World=>X8_k
   go_upto_region 12 with fail
   refine zX 5 [0,0,0,7,15] [] (fun j f X=>match j with
    | 0=>f 0=.agg ccs
    | 1=>f 1=.slice A6_5 (digs 4294967296 u5).length c6_5
    | 2=>f 2=.slice A6_5 (digs 4294967296 u5).length c6_5
    | 3=>∃ A1 c1,f 3=.slice A1 (digs 4294967296 u7).length c1∧RU X A1 c1 (digs 4294967296 u7)
    | 4=>∃ A1 c1,f 4=.slice A1 (digs 4294967296 u7).length c1∧RU X A1 c1 (digs 4294967296 u7)
    | _=>True) (by kernel_rfl) [(67,0),(68,1),(69,2),(70,3),(12,4)] (by kernel_rfl) ?_
   refine lV0 1 4 (hE.at_ hcb) (by rw [Hccs.out];exact qh) ?_
   refine zT 2 3 ?_
   refine zT 3 2 ?_
   refine rc 4 1 0 1 2 (fun _ _ hX h=>⟨_,_,h,(zb N10.out hX)⟩) (fun _ _ hX h=>⟨_,_,h,(zb N10.out hX)⟩) (fun X hX _ _ _ _ h h'=>jT X HF.out (hRC.out.ext (hE.trans hX)) h h' L_u5.out L_u5.out) E_u7.out ?_
   refine zt 5 0 [(67,0),(68,1),(69,2),(70,3)] (fun f X hX hR K hK=>?_) ?_
   · obtain ⟨A12_3,c12_3,(e3:f 3=_),o12_3⟩:=hR.out 3 rfl
     simp only [yZ,e3]
     refine ⟨?_⟩
     go_simp
     exact hK.out _ _ _ (by simp only [yZ,e3]) (zd _) trivial (fun Y hY=>⟨A12_3,c12_3,rfl,zb o12_3 hY⟩)
   refine yF ⟨fun f X hX hR hal hap=>?_⟩
   obtain ⟨A12_3,c12_3,(e3:f 3=_),o12_3⟩:=hR 3 (by decide)
   obtain ⟨A12_4,c12_4,(e4:f 4=_),o12_4⟩:=hR 4 (by decide)
   simp only [yZ,e3,e4]
   clear hR hal hap e3 e4
   refine zK ?_
   replace hE:=hE.trans hX
   replace N7:=zF (zb N7.out hX)
   replace N8:=zF (zb N8.out hX)
   replace N9:=zF (zb N9.out hX)
   replace N10:=zF (zb N10.out hX)
   replace N11:=zF (zb N11.out hX)
   have N12:=zF o12_4
   clear hX o12_3 o12_4
   rename World=>X12_k
   go_upto_region 13 with fail
   refine zX 5 [0,0,0,7,15] [] (fun j f X=>match j with
    | 0=>f 0=.agg ccs
    | 1=>f 1=.slice A12_4 (digs 4294967296 u7).length c12_4
    | 2=>f 2=.slice A6_5 (digs 4294967296 u5).length c6_5
    | 3=>∃ A1 c1,f 3=.slice A1 (digs 4294967296 u8).length c1∧RU X A1 c1 (digs 4294967296 u8)
    | 4=>∃ A1 c1,f 4=.slice A1 (digs 4294967296 u8).length c1∧RU X A1 c1 (digs 4294967296 u8)
    | _=>True) (by kernel_rfl) [(71,0),(72,1),(73,2),(74,3),(13,4)] (by kernel_rfl) ?_
   refine lV0 1 4 (hE.at_ hcb) (by rw [Hccs.out];exact qh) ?_
   refine zT 2 3 ?_
   refine zT 3 2 ?_
   refine rc 4 1 0 1 2 (fun _ _ hX h=>⟨_,_,h,(zb N12.out hX)⟩) (fun _ _ hX h=>⟨_,_,h,(zb N10.out hX)⟩) (fun X hX _ _ _ _ h h'=>jT X HF.out (hRC.out.ext (hE.trans hX)) h h' L_u7.out L_u5.out) E_u8.out ?_
   refine zt 5 0 [(71,0),(72,1),(73,2),(74,3)] (fun f X hX hR K hK=>?_) ?_
   · obtain ⟨A13_3,c13_3,(e3:f 3=_),o13_3⟩:=hR.out 3 rfl
     simp only [yZ,e3]
     refine ⟨?_⟩
     go_simp
     exact hK.out _ _ _ (by simp only [yZ,e3]) (zd _) trivial (fun Y hY=>⟨A13_3,c13_3,rfl,zb o13_3 hY⟩)
   refine yF ⟨fun f X hX hR hal hap=>?_⟩
   obtain ⟨A13_3,c13_3,(e3:f 3=_),o13_3⟩:=hR 3 (by decide)
   obtain ⟨A13_4,c13_4,(e4:f 4=_),o13_4⟩:=hR 4 (by decide)
   simp only [yZ,e3,e4]
   clear hR hal hap e3 e4
   refine zK ?_
   replace hE:=hE.trans hX
   replace N7:=zF (zb N7.out hX)
   replace N8:=zF (zb N8.out hX)
   replace N9:=zF (zb N9.out hX)
   replace N10:=zF (zb N10.out hX)
   replace N11:=zF (zb N11.out hX)
   replace N12:=zF (zb N12.out hX)
   have N13:=zF o13_4
   clear hX o13_3 o13_4
   rename World=>X13_k
   go_upto_region 14 with fail
   refine zX 6 [0,0,2,0,15,31] [] (fun j f X=>match j with
    | 0=>f 0=.agg ccs
    | 1=>f 1=.pointer (some ⟨q+1,0,none⟩)
    | 2=>f 2=.slice A1 (digs 4294967296 x).length k1
    | 3=>f 3=.slice A12_4 (digs 4294967296 u7).length c12_4
    | 4=>∃ A1 c1,f 4=.slice A1 (digs 4294967296 u9).length c1∧RU X A1 c1 (digs 4294967296 u9)
    | 5=>∃ A1 c1,f 5=.slice A1 (digs 4294967296 u9).length c1∧RU X A1 c1 (digs 4294967296 u9)
    | _=>True) (by kernel_rfl) [(75,0),(76,1),(77,2),(78,3),(79,4),(14,5)] (by kernel_rfl) ?_
   refine lV0 1 5 (hE.at_ hcb) (by rw [Hccs.out];exact qh) ?_
   refine zT 2 4 ?_
   refine qG 3 3 1 (hE.cell j0) ?_
   refine zT 4 2 ?_
   refine rc 5 1 0 2 3 (fun _ _ hX h=>⟨_,_,h,(zb HX1.out (hE.trans hX))⟩) (fun _ _ hX h=>⟨_,_,h,(zb N12.out hX)⟩) (fun X hX _ _ _ _ h h'=>jT X HF.out (hRC.out.ext (hE.trans hX)) h h' hx.out L_u7.out) E_u9.out ?_
   refine zt 6 0 [(75,0),(76,1),(77,2),(78,3),(79,4)] (fun f X hX hR K hK=>?_) ?_
   · obtain ⟨A14_4,c14_4,(e4:f 4=_),o14_4⟩:=hR.out 4 rfl
     simp only [yZ,e4]
     refine ⟨?_⟩
     go_simp
     exact hK.out _ _ _ (by simp only [yZ,e4]) (zd _) trivial (fun Y hY=>⟨A14_4,c14_4,rfl,zb o14_4 hY⟩)
   refine yF ⟨fun f X hX hR hal hap=>?_⟩
   obtain ⟨A14_4,c14_4,(e4:f 4=_),o14_4⟩:=hR 4 (by decide)
   obtain ⟨A14_5,c14_5,(e5:f 5=_),o14_5⟩:=hR 5 (by decide)
   simp only [yZ,e4,e5]
   clear hR hal hap e4 e5
   refine zK ?_
   replace hE:=hE.trans hX
   replace N7:=zF (zb N7.out hX)
   replace N8:=zF (zb N8.out hX)
   replace N9:=zF (zb N9.out hX)
   replace N10:=zF (zb N10.out hX)
   replace N11:=zF (zb N11.out hX)
   replace N12:=zF (zb N12.out hX)
   replace N13:=zF (zb N13.out hX)
   have N14:=zF o14_5
   clear hX o14_4 o14_5
   rename World=>X14_k
   go_upto_region 15 with fail
   refine zj (by kernel_rfl) 14 [0,0,0,0,0,0,56,0,252,0,1022,0,4095,8191] [] (fun j f X=>match j with
    | 0=>f 0=.agg ccs
    | 1=>f 1=.agg ccs
    | 2=>f 2=.agg ccs
    | 3=>f 3=.agg ccs
    | 4=>f 4=.slice A7_5 (digs 4294967296 u6).length c7_5
    | 5=>f 5=.slice A7_5 (digs 4294967296 u6).length c7_5
    | 6=>∃ A1 c1,f 6=.slice A1 (digs 4294967296 u10).length c1∧RU X A1 c1 (digs 4294967296 u10)
    | 7=>f 7=.slice A13_4 (digs 4294967296 u8).length c13_4
    | 8=>∃ A1 c1,f 8=.slice A1 (digs 4294967296 u11).length c1∧RU X A1 c1 (digs 4294967296 u11)
    | 9=>f 9=.slice A14_5 (digs 4294967296 u9).length c14_5
    | 10=>∃ A1 c1,f 10=.slice A1 (digs 4294967296 u12).length c1∧RU X A1 c1 (digs 4294967296 u12)
    | 11=>f 11=.slice A14_5 (digs 4294967296 u9).length c14_5
    | 12=>∃ A1 c1,f 12=.slice A1 (digs 4294967296 u13).length c1∧RU X A1 c1 (digs 4294967296 u13)
    | 13=>∃ A1 c1,f 13=.slice A1 (digs 4294967296 u13).length c1∧RU X A1 c1 (digs 4294967296 u13)
    | _=>True) (by kernel_rfl) [(80,0),(81,1),(82,2),(83,3),(84,4),(85,5),(86,6),(87,7),(88,8),(89,9),(90,10),(91,11),(92,12),(15,13)] (by kernel_rfl) ?_
   refine lV0 1 13 (hE.at_ hcb) (by rw [Hccs.out];exact qh) ?_
   refine lV0 2 12 (hE.at_ hcb) (by rw [Hccs.out];exact qh) ?_
   refine lV0 3 11 (hE.at_ hcb) (by rw [Hccs.out];exact qh) ?_
   refine lV0 4 10 (hE.at_ hcb) (by rw [Hccs.out];exact qh) ?_
   refine zT 5 9 ?_
   refine zT 6 8 ?_
   refine rc 7 7 3 4 5 (fun _ _ hX h=>⟨_,_,h,(zb N11.out hX)⟩) (fun _ _ hX h=>⟨_,_,h,(zb N11.out hX)⟩) (fun X hX _ _ _ _ h h'=>jT X HF.out (hRC.out.ext (hE.trans hX)) h h' L_u6.out L_u6.out) E_u10.out ?_
   refine zT 8 6 ?_
   refine rc 9 5 2 6 7 (fun _ _ _ h=>h) (fun _ _ hX h=>⟨_,_,h,(zb N13.out hX)⟩) (fun X hX _ _ _ _ h h'=>vU X HF.out (hRC.out.ext (hE.trans hX)) h h' L_u10.out L_u8.out) E_u11.out ?_
   refine zT 10 4 ?_
   refine rc 11 3 1 8 9 (fun _ _ _ h=>h) (fun _ _ hX h=>⟨_,_,h,(zb N14.out hX)⟩) (fun X hX _ _ _ _ h h'=>vU X HF.out (hRC.out.ext (hE.trans hX)) h h' L_u11.out L_u9.out) E_u12.out ?_
   refine zT 12 2 ?_
   refine rc 13 1 0 10 11 (fun _ _ _ h=>h) (fun _ _ hX h=>⟨_,_,h,(zb N14.out hX)⟩) (fun X hX _ _ _ _ h h'=>vU X HF.out (hRC.out.ext (hE.trans hX)) h h' L_u12.out L_u9.out) E_u13.out ?_
   refine zt 14 0 [(80,0),(81,1),(82,2),(83,3),(84,4),(85,5),(86,6),(87,7),(88,8),(89,9),(90,10),(91,11),(92,12)] (fun f X hX hR K hK=>?_) ?_
   · obtain ⟨A15_12,c15_12,(e12:f 12=_),o15_12⟩:=hR.out 12 rfl
     simp only [yZ,e12]
     refine ⟨?_⟩
     go_simp
     exact hK.out _ _ _ (by simp only [yZ,e12]) (zd _) trivial (fun Y hY=>⟨A15_12,c15_12,rfl,zb o15_12 hY⟩)
   refine yF ⟨fun f X hX hR hal hap=>?_⟩
   obtain ⟨A15_6,c15_6,(e6:f 6=_),o15_6⟩:=hR 6 (by decide)
   obtain ⟨A15_8,c15_8,(e8:f 8=_),o15_8⟩:=hR 8 (by decide)
   obtain ⟨A15_10,c15_10,(e10:f 10=_),o15_10⟩:=hR 10 (by decide)
   obtain ⟨A15_12,c15_12,(e12:f 12=_),o15_12⟩:=hR 12 (by decide)
   obtain ⟨A15_13,c15_13,(e13:f 13=_),o15_13⟩:=hR 13 (by decide)
   simp only [yZ,e6,e8,e10,e12,e13]
   clear hR hal hap e6 e8 e10 e12 e13
   refine zK ?_
   replace hE:=hE.trans hX
   replace N7:=zF (zb N7.out hX)
   replace N8:=zF (zb N8.out hX)
   replace N9:=zF (zb N9.out hX)
   replace N10:=zF (zb N10.out hX)
   replace N11:=zF (zb N11.out hX)
   replace N12:=zF (zb N12.out hX)
   replace N13:=zF (zb N13.out hX)
   replace N14:=zF (zb N14.out hX)
   have N15:=zF o15_13
   clear hX o15_6 o15_8 o15_10 o15_12 o15_13
   rename World=>X15_k
   go_upto_region 16 with fail
   refine zj (by kernel_rfl) 15 [0,0,0,0,0,0,56,126,0,0,512,0,4094,8191,16383] [] (fun j f X=>match j with
    | 0=>f 0=.agg ccs
    | 1=>f 1=.agg ccs
    | 2=>f 2=.slice A7_5 (digs 4294967296 u6).length c7_5
    | 3=>f 3=.agg ccs
    | 4=>f 4=.slice A14_5 (digs 4294967296 u9).length c14_5
    | 5=>f 5=.slice A15_13 (digs 4294967296 u13).length c15_13
    | 6=>∃ A1 c1,f 6=.slice A1 (digs 4294967296 u14).length c1∧RU X A1 c1 (digs 4294967296 u14)
    | 7=>∃ A1 c1,f 7=.slice A1 (digs 4294967296 u15).length c1∧RU X A1 c1 (digs 4294967296 u15)
    | 8=>f 8=.agg ccs
    | 9=>f 9=.pointer (some ⟨q+1,1,none⟩)
    | 10=>f 10=.slice A2 (digs 4294967296 y).length k2
    | 11=>f 11=.slice A13_4 (digs 4294967296 u8).length c13_4
    | 12=>∃ A1 c1,f 12=.slice A1 (digs 4294967296 u16).length c1∧RU X A1 c1 (digs 4294967296 u16)
    | 13=>∃ A1 c1,f 13=.slice A1 (digs 4294967296 u17).length c1∧RU X A1 c1 (digs 4294967296 u17)
    | 14=>∃ A1 c1,f 14=.slice A1 (digs 4294967296 u17).length c1∧RU X A1 c1 (digs 4294967296 u17)
    | _=>True) (by kernel_rfl) [(93,0),(94,1),(95,2),(96,3),(97,4),(98,5),(99,6),(100,7),(101,8),(102,9),(103,10),(104,11),(105,12),(106,13),(16,14)] (by kernel_rfl) ?_
   refine lV0 1 14 (hE.at_ hcb) (by rw [Hccs.out];exact qh) ?_
   refine lV0 2 13 (hE.at_ hcb) (by rw [Hccs.out];exact qh) ?_
   refine zT 3 12 ?_
   refine lV0 4 11 (hE.at_ hcb) (by rw [Hccs.out];exact qh) ?_
   refine zT 5 10 ?_
   refine zT 6 9 ?_
   refine rc 7 8 3 4 5 (fun _ _ hX h=>⟨_,_,h,(zb N14.out hX)⟩) (fun _ _ hX h=>⟨_,_,h,(zb N15.out hX)⟩) (fun X hX _ _ _ _ h h'=>vU X HF.out (hRC.out.ext (hE.trans hX)) h h' L_u9.out L_u13.out) E_u14.out ?_
   refine rc 8 7 1 2 6 (fun _ _ hX h=>⟨_,_,h,(zb N11.out hX)⟩) (fun _ _ _ h=>h) (fun X hX _ _ _ _ h h'=>jT X HF.out (hRC.out.ext (hE.trans hX)) h h' L_u6.out L_u14.out) E_u15.out ?_
   refine lV0 9 6 (hE.at_ hcb) (by rw [Hccs.out];exact qh) ?_
   refine zT 10 5 ?_
   refine qG 11 4 9 (hE.cell j1) ?_
   refine zT 12 3 ?_
   refine rc 13 2 8 10 11 (fun _ _ hX h=>⟨_,_,h,(zb HX2.out (hE.trans hX))⟩) (fun _ _ hX h=>⟨_,_,h,(zb N13.out hX)⟩) (fun X hX _ _ _ _ h h'=>jT X HF.out (hRC.out.ext (hE.trans hX)) h h' hy.out L_u8.out) E_u16.out ?_
   refine rc 14 1 0 7 12 (fun _ _ _ h=>h) (fun _ _ _ h=>h) (fun X hX _ _ _ _ h h'=>vU X HF.out (hRC.out.ext (hE.trans hX)) h h' L_u15.out L_u16.out) E_u17.out ?_
   refine zt 15 0 [(93,0),(94,1),(95,2),(96,3),(97,4),(98,5),(99,6),(100,7),(101,8),(102,9),(103,10),(104,11),(105,12),(106,13)] (fun f X hX hR K hK=>?_) ?_
   · obtain ⟨A16_13,c16_13,(e13:f 13=_),o16_13⟩:=hR.out 13 rfl
     simp only [yZ,e13]
     refine ⟨?_⟩
     go_simp
     exact hK.out _ _ _ (by simp only [yZ,e13]) (zd _) trivial (fun Y hY=>⟨A16_13,c16_13,rfl,zb o16_13 hY⟩)
   refine yF ⟨fun f X hX hR hal hap=>?_⟩
   obtain ⟨A16_6,c16_6,(e6:f 6=_),o16_6⟩:=hR 6 (by decide)
   obtain ⟨A16_7,c16_7,(e7:f 7=_),o16_7⟩:=hR 7 (by decide)
   obtain ⟨A16_12,c16_12,(e12:f 12=_),o16_12⟩:=hR 12 (by decide)
   obtain ⟨A16_13,c16_13,(e13:f 13=_),o16_13⟩:=hR 13 (by decide)
   obtain ⟨A16_14,c16_14,(e14:f 14=_),o16_14⟩:=hR 14 (by decide)
   simp only [yZ,e6,e7,e12,e13,e14]
   clear hR hal hap e6 e7 e12 e13 e14
   refine zK ?_
   replace hE:=hE.trans hX
   replace N7:=zF (zb N7.out hX)
   replace N8:=zF (zb N8.out hX)
   replace N9:=zF (zb N9.out hX)
   replace N10:=zF (zb N10.out hX)
   replace N11:=zF (zb N11.out hX)
   replace N12:=zF (zb N12.out hX)
   replace N13:=zF (zb N13.out hX)
   replace N14:=zF (zb N14.out hX)
   replace N15:=zF (zb N15.out hX)
   have N16:=zF o16_14
   clear hX o16_6 o16_7 o16_12 o16_13 o16_14
   rename World=>X16_k
   have hb1:=hE.at_ hrb
   go_upto_region 17 with fail
   refine zX 8 [0,0,0,0,8,0,60,127,255] [] (fun j f X=>match j with
    | 0=>f 0=.slice A15_13 (digs 4294967296 u13).length c15_13
    | 1=>f 1=.slice A16_14 (digs 4294967296 u17).length c16_14
    | 2=>f 2=.agg ccs
    | 3=>f 3=.pointer (some ⟨q+1,2,none⟩)
    | 4=>f 4=.slice A3 (digs 4294967296 z).length k3
    | 5=>f 5=.slice A6_5 (digs 4294967296 u5).length c6_5
    | 6=>∃ A1 c1,f 6=.slice A1 (digs 4294967296 u18).length c1∧RU X A1 c1 (digs 4294967296 u18)
    | 7=>∃ A c,f 7=.agg #[.slice A15_13 (digs 4294967296 u13).length c15_13,.slice A16_14 (digs 4294967296 u17).length c16_14,.slice A (digs 4294967296 u18).length c]∧RU X A c (digs 4294967296 u18)
    | _=>True) (by kernel_rfl) [(107,0),(108,1),(109,2),(110,3),(111,4),(112,5),(113,6),(114,7)] (by kernel_rfl) ?_
   refine zT 1 7 ?_
   refine zT 2 6 ?_
   refine lV0 3 5 (hE.at_ hcb) (by rw [Hccs.out];exact qh) ?_
   refine zT 4 4 ?_
   refine qG 5 3 3 (hE.cell j2) ?_
   refine zT 6 2 ?_
   refine rc 7 1 2 4 5 (fun _ _ hX h=>⟨_,_,h,(zb HX3.out (hE.trans hX))⟩) (fun _ _ hX h=>⟨_,_,h,(zb N10.out hX)⟩) (fun X hX _ _ _ _ h h'=>jT X HF.out (hRC.out.ext (hE.trans hX)) h h' hz.out L_u5.out) E_u18.out ?_
   refine zt 8 0 [(107,0),(108,1),(109,2),(110,3),(111,4),(112,5),(113,6)] (fun f X hX hR K hK=>?_) ?_
   · have e0:f 0=_:=hR.out 0 rfl
     have e1:f 1=_:=hR.out 1 rfl
     obtain ⟨A17_6,c17_6,(e6:f 6=_),o17_6⟩:=hR.out 6 rfl
     simp only [yZ,e0,e1,e6]
     refine ⟨?_⟩
     go_simp
     exact hK.out _ _ _ (by simp only [yZ,e0,e1,e6]) (zd _) trivial (fun Y hY=>⟨_,_,rfl,zb o17_6 hY⟩)
   refine yF ⟨fun f X hX hR hal hap=>?_⟩
   obtain ⟨A17_6,c17_6,(e6:f 6=_),o17_6⟩:=hR 6 (by decide)
   obtain ⟨Az,cz,(e7:f 7=_),oz⟩:=hR 7 (by decide)
   simp only [yZ,e6,e7]
   clear hR hal hap e6 e7
   refine zZ (fun K hK=>⟨zc (by kernel_rfl) (qo (cs':=#[.slice A15_13 (digs 4294967296 u13).length c15_13,.slice A16_14 (digs 4294967296 u17).length c16_14,.slice Az (digs 4294967296 u18).length cz]) (t:=132) 132 (.tmp 6) (.tmp 114) rfl rfl rfl rfl (hX.at_ hb1) xv rfl (gZ _ _ _ _ _ _ _ _ _) (fun Y hY1 hY2 hY3=>hK.out _ _ ?_))⟩)
   refine zK ?_
   go_wp2
   exact us rfl rfl rfl hY1 ⟨_,rfl,⟨_,_,_,_,_,_,rfl,(zb N15.out hX).offJ hY2 (hX.at_ hb1) (by kernel_rfl),(zb N16.out hX).offJ hY2 (hX.at_ hb1) (by kernel_rfl),oz.offJ hY2 (hX.at_ hb1) (by kernel_rfl),L_u13.out,L_u17.out,L_u18.out⟩,hY2.ext (HE0.out.trans (hE.trans hX)) (by have:=Hq.out;omega)⟩
def vL (m r s t u:Nat):Nat×Nat:=if _h:s=0 then (r,t) else vL m s (r % s) u ((t+m - r / s*u % m) % m)
termination_by s
decreasing_by exact qS _ (by omega)
theorem yh (m r t u:Nat):vL m r 0 t u=(r,t):=by rw [vL];simp
theorem gL {m r s t u:Nat} (h:s≠0):vL m r s t u=vL m s (r % s) u ((t+m - r / s*u % m) % m):=by rw [vL];simp [h]
def xG (x m:Nat):Nat×Bool:=if (vL m m (x % m) 0 1).1=1 then ((vL m m (x % m) 0 1).2,true) else (0,false)
theorem fY (A A':Option Addr) (c c' X M:Nat) (w:World) (h:RU w A c (digs 4294967296 X)) (h':RU w A' c' (digs 4294967296 M)) (hl:(digs 4294967296 X).length<30000) (hlM:(digs 4294967296 M).length≤30000) (hM2:2≤M) :
 Calls Tryz.prog 81 #[.slice A (digs 4294967296 X).length c,.slice A' (digs 4294967296 M).length c'] w fun e w'=>∃ A1 c1,e=.returned (.tuple #[.slice A1 (digs 4294967296 (xG X M).1).length c1,.bool (xG X M).2])∧RU w' A1 c1 (digs 4294967296 (xG X M).1)∧Below w.heap.size w w':=by
 have hm:=zF (wd A A' c c' X M w h h' (by omega) (by omega))
 have Hl:=zF hlM
 go_enter Tryz.func81,Tryz.ntmps81
 go_wp2_with fail
 refine hm.out.mono ?_
 rintro e w1 ⟨A1,c1,rfl,hR1,hB1⟩
 have hof:=zF (yI 1 w1 (by omega))
 go_wp2_with fail
 refine hof.out.mono ?_
 rintro e w2 ⟨A2,c2,rfl,hO2,hB2⟩
 have hB02:=hB1.trans (hB2.mono hB1.size)
 have zA:=h'.up hB02
 have zB:=hR1.up hB2
 have zD:=hO2.ru
 have hXm:=qS X (show 0<M by omega)
 clear hR1 hO2 hB1 hB2 hof hm h
 go_wp2
 go_loopw [6,7,8,9] (fun rv sv tv uv wr=>∃ (A1 A2 A3 A4:Option Addr) (c1 c2 c3 c4 r s t u:Nat),rv=.slice A1 (digs 4294967296 r).length c1∧sv=.slice A2 (digs 4294967296 s).length c2∧tv=.slice A3 (digs 4294967296 t).length c3∧uv=.slice A4 (digs 4294967296 u).length c4 ∧
  RU wr A1 c1 (digs 4294967296 r)∧RU wr A2 c2 (digs 4294967296 s)∧RU wr A3 c3 (digs 4294967296 t)∧RU wr A4 c4 (digs 4294967296 u)∧r≤M∧s≤M∧t≤M∧u≤M∧Hid (vL M r s t u=vL M M (X % M) 0 1)∧Below w.heap.size w wr)
  (fun _ sv _ _ wr=>gH wr sv)
 case atStart=>exact ⟨A',A1,none,A2,c',c1,0,c2,M,X % M,0,1,rfl,rfl,by rw [qY];rfl,rfl,zA,zB,by rw [qY];exact (OB.nil_ w2 0).ru,zD,by omega,by omega,by omega,by omega,zF rfl,hB02⟩
 case round =>
  clear zA zB zD hB02 hXm
  obtain ⟨A1,A2,A3,A4,c1,c2,c3,c4,r,s,t,u,rfl,rfl,rfl,rfl,zA,zB,zC,zD,hr,hs,ht,hu,hI,hB⟩:=hrel
  have zw:=hB.size
  have zM:=h'.up hB
  by_cases h0:s=0
  · subst h0
    have hI':=hI.out
    rw [yh] at hI'
    rw [qY] at *
    have hof:=zF (yI 1 wr (by omega))
    have hcm:=zF fun W (hW:Below wr.heap.size wr W) (A5:Option Addr) (c5:Nat) (h5:RU W A5 c5 (digs 4294967296 1))=>vf _ _ A1 A5 c1 c5 r 1 W (zA.up hW) h5
    by_cases h1:r=1
    · have hans:xG X M=(t,true):=by rw [xG,←hI',qE h1]
      have hc1:kh r 1=0:=by rw [h1];decide
      rw [hc1] at hcm
      have Hans:=zF hans
      clear hans hI hI' h1 hc1
      go_wp2_with fail
      refine hof.out.mono ?_
      rintro e w' ⟨A5,c5,rfl,hO5,hB5⟩
      have Hcm:=zF (hcm.out w' hB5 A5 c5 hO5.ru)
      go_wp2_with fail
      refine Hcm.out.mono ?_
      rintro e w' ⟨rfl,nd,rfl⟩
      have hf:=(zC.up hB5).ud nd
      have hBf:=qT (hB.trans (hB5.mono zw)) nd
      clear hcm Hcm hof
      go_wp2
      go_ret2
      exact ⟨A3,c3,by rw [Hans.out];rfl,by rw [Hans.out];exact hf,hBf⟩
    · have hans:xG X M=(0,false):=by rw [xG,←hI',zr h1]
      have hc1:kh r 1≠0:=fun e=>h1 (oo e)
      generalize kh r 1=cv at *
      have t2:(cv != 0)=true:=by simpa using hc1
      have Hans:=zF hans
      clear hans hI hI' h1
      go_wp2_with fail
      refine hof.out.mono ?_
      rintro e w' ⟨A5,c5,rfl,hO5,hB5⟩
      have Hcm:=zF (hcm.out w' hB5 A5 c5 hO5.ru)
      go_wp2_with fail
      refine Hcm.out.mono ?_
      rintro e w' ⟨rfl,nd,rfl⟩
      have hBf:=qT (hB.trans (hB5.mono zw)) nd
      clear hcm Hcm hof
      go_wp2
      go_ret2
      exact ⟨none,0,by rw [Hans.out,qY];rfl,by rw [Hans.out,qY];exact (OB.nil_ _ 0).ru,hBf⟩
  · have kp:(0:Int)<((digs 4294967296 s).length:Int):=by
     have:0<(digs 4294967296 s).length:=by rw [jP (by omega) (by omega)];simp
     omega
    have hlM:=Hl.out
    have hq1:=fV _ _ A1 A2 c1 c2 r s wr zA zB (fun b hb=>hb) (fun b hb=>hb) (by have:=we hr hlM;omega) (by omega)
    have hqM:r / s≤M:=zU (Nat.div_le_self _ _) hr
    have hlM2:r % s≤M:=zU (Nat.mod_le _ _) hr
    have Hq1:=zF hq1
    have Hrd:=zF zB.readD
    have hmod:=qS r (show 0<s by omega)
    have hstep:=zF (show vL M s (r % s) u ((t+M - r / s*u % M) % M)=vL M M (X % M) 0 1 by rw [←hI.out,gL h0])
    clear hq1 hI
    go_wp2_with fail
    refine Hq1.out.mono ?_
    rintro e w4 ⟨A5,c5,A6,c6,rfl,y5,y6,hB4⟩
    have s4:=hB4.size
    have Hm1:=zF (fX _ _ A5 A4 c5 c4 (r / s) u w4 y5.ru (zD.up hB4) (fun b hb=>hb) (fun b hb=>hb) (by have:=we hqM hlM;omega) (by have:=we hu hlM;omega))
    go_wp2_with fail
    refine Hm1.out.mono ?_
    rintro e w5 ⟨A7,c7,rfl,y7,hB5⟩
    have hB45:=hB4.trans (hB5.mono s4)
    have hr5:=wd A7 A' c7 c' (r / s*u) M w5 y7.ru (zM.up hB45) (by have:=cf (we hqM hlM) (we hu hlM);omega) (by omega)
    have hlessM:=qS (r / s*u) (show 0<M by omega)
    generalize r / s*u % M=less at *
    have Hr5:=zF hr5
    clear hr5
    go_wp2_with fail
    refine Hr5.out.mono ?_
    rintro e w6 ⟨A8,c8,rfl,y8,hB6⟩
    have hB46:=hB45.trans (hB6.mono (by have:=hB45.size;omega))
    have Ha6:=zF (yd _ _ A3 A' c3 c' t M w6 (zC.up hB46) (zM.up hB46) (fun b hb=>hb) (fun b hb=>hb) (by have:=we ht hlM;omega) (by omega))
    go_wp2_with fail
    refine Ha6.out.mono ?_
    rintro e w7 ⟨A9,c9,rfl,y9,hB7⟩
    have hB47:=hB46.trans (hB7.mono hB46.size)
    have hs7:=fU _ _ A9 A8 c9 c8 (t+M) less w7 y9.ru (y8.up hB7) (fun b hb=>hb) (fun b hb=>hb) (by have:=cg ht (zG M) hlM;omega) (by omega)
    have hdif:t+M - less≤M+M:=by omega
    have hlast:=cg (zG M) (zG M) hlM
    have hld:=we hdif hlast
    generalize t+M - less=dif at *
    have Hs7:=zF hs7
    clear hs7
    go_wp2_with fail
    refine Hs7.out.mono ?_
    rintro e w8 ⟨A10,c10,rfl,y10,hB8⟩
    have hB48:=hB47.trans (hB8.mono hB47.size)
    have Hr8:=zF (wd A10 A' c10 c' dif M w8 y10.ru (zM.up hB48) (by omega) (by omega))
    have hdm:=qS dif (show 0<M by omega)
    go_wp2_with fail
    refine Hr8.out.mono ?_
    rintro e w9 ⟨A11,c11,rfl,y11,hB9⟩
    have hB49:=hB48.trans (hB9.mono hB48.size)
    have hBw9:=hB.trans (hB49.mono zw)
    have f2:=zB.up hB49
    have hB49':Below w4.heap.size w4 w9:=(((hB5.trans (hB6.mono hB5.size)).trans (hB7.mono (by have:=hB5.size;have:=hB6.size;omega))).trans (hB8.mono (by have:=hB5.size;have:=hB6.size;have:=hB7.size;omega))).trans (hB9.mono (by have:=hB5.size;have:=hB6.size;have:=hB7.size;have:=hB8.size;omega))
    have f6:=zb y6 hB49'
    have f4:=zD.up hB49
    have Hrd9:=zF f6.readD
    clear zA zB zC zD zM y5 y6 y7 y8 y9 y10 hB4 hB5 hB6 hB7 hB8 hB9 hB45 hB46 hB47 hB48 hB49 hB49' hB Hq1 Hm1 Hr5 Ha6 Hs7 Hr8
    go_wp2
    go_roundw
    case rel=>exact ⟨A2,A6,A4,A11,c2,c6,c4,c11,s,r % s,u,dif % M,rfl,rfl,rfl,rfl,f2,f6,f4,y11,hs,hlM2,hu,by omega,hstep,hBw9⟩
    case measure=>rw [Hrd.out,Hrd9.out];exact hmod
end Go.Proofs.YtmlbicgpehchhaaGreat
