/- Laws that the proof rests on. -/
import Derived.Test.YtmlbicgpehchhaaGreatQb63217accacb
set_option maxRecDepth 100000
set_option maxHeartbeats 16000000
namespace Go.Proofs.YtmlbicgpehchhaaGreat
open Go.RowKit
def zBG (M x1 y1 z1 x2 y2 z2:Nat):Nat×Nat×Nat:=let u1:=mm M z1 z1;let u2:=mm M z2 z2;let u3:=mm M x1 u2;let u4:=mm M x2 u1;let u5:=mm M u2 z2;let u6:=mm M y1 u5;let u7:=mm M u1 z1;let u8:=mm M y2 u7;let u9:=sm M u4 u3;let u10:=sm M u8 u6;let u11:=mm M u9 u9;let u12:=mm M u11 u9;let u13:=mm M u3 u11;let u14:=mm M u10 u10;let u15:=sm M u14 u12;let u16:=am M u13 u13;let u17:=sm M u15 u16;let u18:=sm M u13 u17;let u19:=mm M u10 u18;let u20:=mm M u6 u12;let u21:=sm M u19 u20;let u22:=mm M z1 z2;let u23:=mm M u9 u22;if u9 % M=0 then (if u10 % M=0 then dk M x1 y1 z1 else (1,1,0)) else (u17,u21,u23)
def aE (M x1 y1 z1 x2 y2 z2:Nat):Nat×Nat×Nat:=if z1 % M=0 then (x2,y2,z2) else if z2 % M=0 then (x1,y1,z1) else zBG M x1 y1 z1 x2 y2 z2
theorem FJ.sz {M n x y z:Nat}{lx ly lz:List Nat}(h:FJ M n lx ly lz x y z):(nts (lx++ly++lz)).toArray.size=18:=by rw [jF,qj,zt,zt,h.x.elt.six,h.y.elt.six,h.z.elt.six]
theorem tz (w:World) (o1 o2 o3:Obj):(((w.alloc o1).alloc o2).alloc o3).heap[w.heap.size]?=some o1∧(((w.alloc o1).alloc o2).alloc o3).heap[w.heap.size+1]?=some o2∧(((w.alloc o1).alloc o2).alloc o3).heap[w.heap.size+2]?=some o3∧(((w.alloc o1).alloc o2).alloc o3).heap.size=w.heap.size+3 :=
 ⟨(zb _ _).at_ (xU w o1 o2).1,(zb _ _).at_ (xU w o1 o2).2.1,by have:=zP ((w.alloc o1).alloc o2) o3;rwa [(xU w o1 o2).2.2] at this,by simp⟩
theorem zAp {P0:Nat→Prop}{k g size n inv M bb:Nat}{pl nl bl xl yl ml ol rl tl fl l1x l1y l1z l2x l2y l2z:List Nat}{Ap An Ab Ax Ay:Option Addr}{cp cn cb cx cy x1 y1 z1 x2 y2 z2:Nat}(w:World)
 (hk:Num w P0 k g size n inv M bb pl nl bl xl yl ml ol rl tl fl Ap An Ab Ax Ay cp cn cb cx cy) (hP0:∀ b,P0 b→b<w.heap.size) (hj:FJ M n l1x l1y l1z x1 y1 z1) (hj':FJ M n l2x l2y l2z x2 y2 z2) :
 Calls Tryz.prog 140 #[.pointer (some ⟨k,0,none⟩),JV l1x l1y l1z,JV l2x l2y l2z] w fun e w'=>∃ ox oy oz,e=.returned (JV ox oy oz)∧FJ M n ox oy oz (aE M x1 y1 z1 x2 y2 z2).1 (aE M x1 y1 z1 x2 y2 z2).2.1 (aE M x1 y1 z1 x2 y2 z2).2.2∧Ext w w':=by
 obtain ⟨cs,hcs⟩:=eV ((nts (l1x++l1y++l1z)).toArray)
 obtain ⟨ct,hct⟩:=eV ((nts (l2x++l2y++l2z)).toArray)
 obtain ⟨W0,hW0⟩:=eW (((w.alloc (.cells cs 176)).alloc (.cells ct 176)).alloc (.cells #[.int .u64 0,.int .u64 0,.int .u64 0,.int .u64 0,.int .u64 0,.int .u64 0,.int .u64 0,.int .u64 0,.int .u64 0,.int .u64 0,.int .u64 0,.int .u64 0,.int .u64 0,.int .u64 0,.int .u64 0,.int .u64 0,.int .u64 0,.int .u64 0] 176))
 obtain ⟨q,hq⟩:=eV w.heap.size
 have hE0:Ext w W0:=by rw [hW0];exact ((zb _ _).trans (zb _ _)).trans (zb _ _)
 obtain ⟨hp1,hp2,hrb,hz0⟩:=tz w (.cells cs 176) (.cells ct 176) (.cells #[.int .u64 0,.int .u64 0,.int .u64 0,.int .u64 0,.int .u64 0,.int .u64 0,.int .u64 0,.int .u64 0,.int .u64 0,.int .u64 0,.int .u64 0,.int .u64 0,.int .u64 0,.int .u64 0,.int .u64 0,.int .u64 0,.int .u64 0,.int .u64 0] 176)
 rw [←hW0,hq] at hp1 hp2 hrb hz0
 have hp1:kV W0 q l1x l1y l1z:=by rw [kV,hcs];exact hp1
 have hp2:kV W0 (q+1) l2x l2y l2z:=by rw [kV,hct];exact hp2
 have hn:=zF (hk.ext hP0 hE0)
 have hP0':∀ b,P0 b→b<W0.heap.size:=fun b hb=>zR (hP0 b hb) hE0.bsize
 have k6:=hn.out.c_f
 have hJ1:=zF hj
 have hJ2:=zF hj'
 have HE0:=zF hE0
 have Hz0:=zF hz0
 rw [show JV l1x l1y l1z=.agg cs by rw [JV,hcs],show JV l2x l2y l2z=.agg ct by rw [JV,hct]]
 clear hE0 hz0 hk hP0 hj hj' hcs hct
 by_cases h1:z1 % M=0
 · have h1n:=zF h1;rw [show aE M x1 y1 z1 x2 y2 z2=(x2,y2,z2) by rw [aE,qK h1]];clear h1 k6;go_enter Tryz.func140,Tryz.ntmps140;go_upto_region 1 with fail;rw [←hW0];have Hq:=zF hq;have HW0:=zF hW0;have hE:=zy W0;clear hq hW0
   refine qQ 4 [0,1,3,7] [] (fun j f X=>match j with
    | 0=>f 0=.pointer (some ⟨q,12,none⟩)
    | 1=>∃ o,f 1=EV o∧FE M n o z1
    | 2=>f 2=.bool true
    | 3=>f 3=.bool true
    | _=>True) (by kernel_rfl) [(22,0),(23,1),(24,2),(21,3)] (by kernel_rfl) ?_
   refine zf 1 3 ?_;refine lE 2 2 0 (fun _ hX=>xG ((hE.trans hX).at_ hp1) hJ1.out.x.elt.six hJ1.out.y.elt.six) hJ1.out.z ?_;refine qJ 3 1 (fun f=>#[f 1]) (F':=152) (fun f X hX hR=>?_) ?_
   · obtain ⟨o1,(e1:f 1=_),h1⟩:=hR.out 1 rfl;simp only [e1];refine (vQ o1 X h1.elt.six).mono ?_;rintro e w2 ⟨rfl,hB⟩;rw [show decide (o1=[0,0,0,0,0,0])=true by rw [decide_eq_decide.2 (h1.zero_iff (hn.out.ext hP0' (hE.trans hX)).fr.ff)];exact qX h1n.out];exact ⟨(.bool true),rfl,hB,fun _ _=>rfl⟩
   refine qM 4 0 2 ?_;refine yF ⟨fun f X hX hR hal hap=>?_⟩;obtain ⟨o1,(e1:f 1=_),h1⟩:=hR 1 (by decide);have e3:f 3=_:=hR 3 (by decide);simp only [yZ,e1,e3];clear hR hal hap e1 e3;refine zU ?_;replace hE:=hE.trans hX;clear hX;rename World=>X1_;go_upto_region 2 with fail;have hb1:=hE.at_ hrb
   refine qQ 1 [0,1] [] (fun j f X=>match j with
    | 0=>f 0=JV l2x l2y l2z
    | _=>True) (by kernel_rfl) [(25,0)] (by kernel_rfl) ?_
   refine qH 1 0 [] (fun f X hX hR K hK=>?_) ?_
   · simp only [yZ];refine ⟨zZ (by kernel_rfl) (vf (v:=JV l2x l2y l2z) 176 (.tmp 5) rfl rfl ((hE.trans hX).at_ hp2) Tryz.underlying176 rfl (by rw [hJ2.out.sz];exact gS) rfl ?_)⟩;exact hK.out _ (JV l2x l2y l2z) _ (by simp only [yZ]) (zy _) trivial (fun _ _=>rfl)
   refine yF ⟨fun f X hX hR hal hap=>?_⟩;have e0:f 0=_:=hR 0 (by decide);simp only [yZ,e0];clear hR hal hap e0;refine zg (fun K hK=>⟨zZ (by kernel_rfl) (vS (x:=l2x) (y:=l2y) (z:=l2z) (.tmp 6) (.tmp 25) rfl rfl rfl rfl (hX.at_ hb1) rfl hJ2.out.x.elt.six hJ2.out.y.elt.six hJ2.out.z.elt.six (fun Y hY1 hY2 hY3=>hK.out _ _ ?_))⟩);refine zU ?_;go_wp2;exact dY rfl rfl rfl hY1 hJ2.out.x.elt.six hJ2.out.y.elt.six hJ2.out.z.elt.six ⟨_,_,_,rfl,hJ2.out,hY2.ext (HE0.out.trans (hE.trans hX)) (by have:=Hq.out;omega)⟩
 by_cases h2:z2 % M=0
 · have h1n:=zF h1;have h2n:=zF h2;rw [show aE M x1 y1 z1 x2 y2 z2=(x1,y1,z1) by rw [aE,qA h1,qK h2]];clear h1 h2 k6;go_enter Tryz.func140,Tryz.ntmps140;go_upto_region 1 with fail;rw [←hW0];have Hq:=zF hq;have HW0:=zF hW0;have hE:=zy W0;clear hq hW0
   refine qQ 4 [0,1,3,7] [] (fun j f X=>match j with
    | 0=>f 0=.pointer (some ⟨q,12,none⟩)
    | 1=>∃ o,f 1=EV o∧FE M n o z1
    | 2=>f 2=.bool false
    | 3=>f 3=.bool false
    | _=>True) (by kernel_rfl) [(22,0),(23,1),(24,2),(21,3)] (by kernel_rfl) ?_
   refine zf 1 3 ?_;refine lE 2 2 0 (fun _ hX=>xG ((hE.trans hX).at_ hp1) hJ1.out.x.elt.six hJ1.out.y.elt.six) hJ1.out.z ?_;refine qJ 3 1 (fun f=>#[f 1]) (F':=152) (fun f X hX hR=>?_) ?_
   · obtain ⟨o1,(e1:f 1=_),h1⟩:=hR.out 1 rfl;simp only [e1];refine (vQ o1 X h1.elt.six).mono ?_;rintro e w2 ⟨rfl,hB⟩;rw [show decide (o1=[0,0,0,0,0,0])=false by rw [decide_eq_decide.2 (h1.zero_iff (hn.out.ext hP0' (hE.trans hX)).fr.ff)];exact qb h1n.out];exact ⟨(.bool false),rfl,hB,fun _ _=>rfl⟩
   refine qM 4 0 2 ?_;refine yF ⟨fun f X hX hR hal hap=>?_⟩;obtain ⟨o1,(e1:f 1=_),h1⟩:=hR 1 (by decide);have e3:f 3=_:=hR 3 (by decide);simp only [yZ,e1,e3];clear hR hal hap e1 e3;refine zU ?_;replace hE:=hE.trans hX;clear hX;rename World=>X1_;go_upto_region 3 with fail
   refine qQ 4 [0,1,3,7] [] (fun j f X=>match j with
    | 0=>f 0=.pointer (some ⟨q+1,12,none⟩)
    | 1=>∃ o,f 1=EV o∧FE M n o z2
    | 2=>f 2=.bool true
    | 3=>f 3=.bool true
    | _=>True) (by kernel_rfl) [(27,0),(28,1),(29,2),(26,3)] (by kernel_rfl) ?_
   refine zf 1 3 ?_;refine lE 2 2 0 (fun _ hX=>xG ((hE.trans hX).at_ hp2) hJ2.out.x.elt.six hJ2.out.y.elt.six) hJ2.out.z ?_;refine qJ 3 1 (fun f=>#[f 1]) (F':=152) (fun f X hX hR=>?_) ?_
   · obtain ⟨o1,(e1:f 1=_),h1⟩:=hR.out 1 rfl;simp only [e1];refine (vQ o1 X h1.elt.six).mono ?_;rintro e w2 ⟨rfl,hB⟩;rw [show decide (o1=[0,0,0,0,0,0])=true by rw [decide_eq_decide.2 (h1.zero_iff (hn.out.ext hP0' (hE.trans hX)).fr.ff)];exact qX h2n.out];exact ⟨(.bool true),rfl,hB,fun _ _=>rfl⟩
   refine qM 4 0 2 ?_;refine yF ⟨fun f X hX hR hal hap=>?_⟩;obtain ⟨o1,(e1:f 1=_),h1⟩:=hR 1 (by decide);have e3:f 3=_:=hR 3 (by decide);simp only [yZ,e1,e3];clear hR hal hap e1 e3;refine zU ?_;replace hE:=hE.trans hX;clear hX;rename World=>X2_;go_upto_region 4 with fail;have hb1:=hE.at_ hrb
   refine qQ 1 [0,1] [] (fun j f X=>match j with
    | 0=>f 0=JV l1x l1y l1z
    | _=>True) (by kernel_rfl) [(30,0)] (by kernel_rfl) ?_
   refine qH 1 0 [] (fun f X hX hR K hK=>?_) ?_
   · simp only [yZ];refine ⟨zZ (by kernel_rfl) (vf (v:=JV l1x l1y l1z) 176 (.tmp 4) rfl rfl ((hE.trans hX).at_ hp1) Tryz.underlying176 rfl (by rw [hJ1.out.sz];exact gS) rfl ?_)⟩;exact hK.out _ (JV l1x l1y l1z) _ (by simp only [yZ]) (zy _) trivial (fun _ _=>rfl)
   refine yF ⟨fun f X hX hR hal hap=>?_⟩;have e0:f 0=_:=hR 0 (by decide);simp only [yZ,e0];clear hR hal hap e0;refine zg (fun K hK=>⟨zZ (by kernel_rfl) (vS (x:=l1x) (y:=l1y) (z:=l1z) (.tmp 6) (.tmp 30) rfl rfl rfl rfl (hX.at_ hb1) rfl hJ1.out.x.elt.six hJ1.out.y.elt.six hJ1.out.z.elt.six (fun Y hY1 hY2 hY3=>hK.out _ _ ?_))⟩);refine zU ?_;go_wp2;exact dY rfl rfl rfl hY1 hJ1.out.x.elt.six hJ1.out.y.elt.six hJ1.out.z.elt.six ⟨_,_,_,rfl,hJ1.out,hY2.ext (HE0.out.trans (hE.trans hX)) (by have:=Hq.out;omega)⟩
 · have h1n:=zF h1;have h2n:=zF h2;rw [show aE M x1 y1 z1 x2 y2 z2=zBG M x1 y1 z1 x2 y2 z2 by rw [aE,qA h1,qA h2]];clear h1 h2;obtain ⟨u1,E_u1⟩:=eG (mm M z1 z1);obtain ⟨u2,E_u2⟩:=eG (mm M z2 z2);obtain ⟨u3,E_u3⟩:=eG (mm M x1 u2);obtain ⟨u4,E_u4⟩:=eG (mm M x2 u1);obtain ⟨u5,E_u5⟩:=eG (mm M u2 z2);obtain ⟨u6,E_u6⟩:=eG (mm M y1 u5);obtain ⟨u7,E_u7⟩:=eG (mm M u1 z1);obtain ⟨u8,E_u8⟩:=eG (mm M y2 u7);obtain ⟨u9,E_u9⟩:=eG (sm M u4 u3);obtain ⟨u10,E_u10⟩:=eG (sm M u8 u6);obtain ⟨u11,E_u11⟩:=eG (mm M u9 u9);obtain ⟨u12,E_u12⟩:=eG (mm M u11 u9);obtain ⟨u13,E_u13⟩:=eG (mm M u3 u11);obtain ⟨u14,E_u14⟩:=eG (mm M u10 u10);obtain ⟨u15,E_u15⟩:=eG (sm M u14 u12);obtain ⟨u16,E_u16⟩:=eG (am M u13 u13);obtain ⟨u17,E_u17⟩:=eG (sm M u15 u16);obtain ⟨u18,E_u18⟩:=eG (sm M u13 u17);obtain ⟨u19,E_u19⟩:=eG (mm M u10 u18);obtain ⟨u20,E_u20⟩:=eG (mm M u6 u12);obtain ⟨u21,E_u21⟩:=eG (sm M u19 u20);obtain ⟨u22,E_u22⟩:=eG (mm M z1 z2);obtain ⟨u23,E_u23⟩:=eG (mm M u9 u22);have hres:=zF (show zBG M x1 y1 z1 x2 y2 z2=if u9 % M=0 then (if u10 % M=0 then dk M x1 y1 z1 else (1,1,0)) else (u17,u21,u23) by simp only [zBG,E_u1.out,E_u2.out,E_u3.out,E_u4.out,E_u5.out,E_u6.out,E_u7.out,E_u8.out,E_u9.out,E_u10.out,E_u11.out,E_u12.out,E_u13.out,E_u14.out,E_u15.out,E_u16.out,E_u17.out,E_u18.out,E_u19.out,E_u20.out,E_u21.out,E_u22.out,E_u23.out]);obtain ⟨res,hq0⟩:=eV (zBG M x1 y1 z1 x2 y2 z2);rw [hq0];have Hq0:=zF hq0;clear hq0;go_enter Tryz.func140,Tryz.ntmps140;go_upto_region 1 with fail;rw [←hW0];have Hq:=zF hq;have HW0:=zF hW0;have hE:=zy W0;clear hq hW0
   refine qQ 4 [0,1,3,7] [] (fun j f X=>match j with
    | 0=>f 0=.pointer (some ⟨q,12,none⟩)
    | 1=>∃ o,f 1=EV o∧FE M n o z1
    | 2=>f 2=.bool false
    | 3=>f 3=.bool false
    | _=>True) (by kernel_rfl) [(22,0),(23,1),(24,2),(21,3)] (by kernel_rfl) ?_
   refine zf 1 3 ?_;refine lE 2 2 0 (fun _ hX=>xG ((hE.trans hX).at_ hp1) hJ1.out.x.elt.six hJ1.out.y.elt.six) hJ1.out.z ?_;refine qJ 3 1 (fun f=>#[f 1]) (F':=152) (fun f X hX hR=>?_) ?_
   · obtain ⟨o1,(e1:f 1=_),h1⟩:=hR.out 1 rfl;simp only [e1];refine (vQ o1 X h1.elt.six).mono ?_;rintro e w2 ⟨rfl,hB⟩;rw [show decide (o1=[0,0,0,0,0,0])=false by rw [decide_eq_decide.2 (h1.zero_iff (hn.out.ext hP0' (hE.trans hX)).fr.ff)];exact qb h1n.out];exact ⟨(.bool false),rfl,hB,fun _ _=>rfl⟩
   refine qM 4 0 2 ?_;refine yF ⟨fun f X hX hR hal hap=>?_⟩;obtain ⟨o1,(e1:f 1=_),h1⟩:=hR 1 (by decide);have e3:f 3=_:=hR 3 (by decide);simp only [yZ,e1,e3];clear hR hal hap e1 e3;refine zU ?_;replace hE:=hE.trans hX;clear hX;rename World=>X1_;go_upto_region 3 with fail
   refine qQ 4 [0,1,3,7] [] (fun j f X=>match j with
    | 0=>f 0=.pointer (some ⟨q+1,12,none⟩)
    | 1=>∃ o,f 1=EV o∧FE M n o z2
    | 2=>f 2=.bool false
    | 3=>f 3=.bool false
    | _=>True) (by kernel_rfl) [(27,0),(28,1),(29,2),(26,3)] (by kernel_rfl) ?_
   refine zf 1 3 ?_;refine lE 2 2 0 (fun _ hX=>xG ((hE.trans hX).at_ hp2) hJ2.out.x.elt.six hJ2.out.y.elt.six) hJ2.out.z ?_;refine qJ 3 1 (fun f=>#[f 1]) (F':=152) (fun f X hX hR=>?_) ?_
   · obtain ⟨o1,(e1:f 1=_),h1⟩:=hR.out 1 rfl;simp only [e1];refine (vQ o1 X h1.elt.six).mono ?_;rintro e w2 ⟨rfl,hB⟩;rw [show decide (o1=[0,0,0,0,0,0])=false by rw [decide_eq_decide.2 (h1.zero_iff (hn.out.ext hP0' (hE.trans hX)).fr.ff)];exact qb h2n.out];exact ⟨(.bool false),rfl,hB,fun _ _=>rfl⟩
   refine qM 4 0 2 ?_;refine yF ⟨fun f X hX hR hal hap=>?_⟩;obtain ⟨o1,(e1:f 1=_),h1⟩:=hR 1 (by decide);have e3:f 3=_:=hR 3 (by decide);simp only [yZ,e1,e3];clear hR hal hap e1 e3;refine zU ?_;replace hE:=hE.trans hX;clear hX;rename World=>X2_;have k6':=hE.cell k6;go_upto_region 6 with fail;clear k6'
   refine z8 (by kernel_rfl) 14 [0,0,2,0,8,31,0,0,128,0,512,2047,0,0,16383,32767] [12,13] (fun j f X=>match j with
    | 0=>f 0=.pointer (some ⟨g,0,none⟩)
    | 1=>f 1=.pointer (some ⟨q,12,none⟩)
    | 2=>∃ o,f 2=EV o∧FE M n o z1
    | 3=>f 3=.pointer (some ⟨q,12,none⟩)
    | 4=>∃ o,f 4=EV o∧FE M n o z1
    | 5=>∃ o,f 5=EV o∧FE M n o u1
    | 6=>f 6=.pointer (some ⟨g,0,none⟩)
    | 7=>f 7=.pointer (some ⟨q+1,12,none⟩)
    | 8=>∃ o,f 8=EV o∧FE M n o z2
    | 9=>f 9=.pointer (some ⟨q+1,12,none⟩)
    | 10=>∃ o,f 10=EV o∧FE M n o z2
    | 11=>∃ o,f 11=EV o∧FE M n o u2
    | 12=>∃ b,f 12=.pointer (some ⟨b,0,none⟩)∧X2_.heap.size≤b∧X.heap[b]?=some (.cells #[.int .u64 0,.int .u64 0,.int .u64 0,.int .u64 0,.int .u64 0,.int .u64 0] 147 (0,0))
    | 13=>∃ b,f 13=.pointer (some ⟨b,0,none⟩)∧X2_.heap.size≤b∧X.heap[b]?=some (.cells #[.int .u64 0,.int .u64 0,.int .u64 0,.int .u64 0,.int .u64 0,.int .u64 0] 147 (0,0))
    | _=>True) (by kernel_rfl) [(35,0),(36,1),(37,2),(38,3),(39,4),(40,5),(41,6),(42,7),(43,8),(44,9),(45,10),(46,11),(8,12),(9,13)] (by kernel_rfl) ?_
   refine zf 1 13 ?_;refine zf 2 12 ?_;refine lE 3 11 1 (fun _ hX=>xG ((hE.trans hX).at_ hp1) hJ1.out.x.elt.six hJ1.out.y.elt.six) hJ1.out.z ?_;refine zf 4 10 ?_;refine lE 5 9 3 (fun _ hX=>xG ((hE.trans hX).at_ hp1) hJ1.out.x.elt.six hJ1.out.y.elt.six) hJ1.out.z ?_;refine fc 6 8 0 2 4 (fun X hX _ _ h h'=>kE X (hn.out.ext hP0' (hE.trans hX)).fr.ff h h') E_u1.out ?_;refine zf 7 7 ?_;refine zf 8 6 ?_;refine lE 9 5 7 (fun _ hX=>xG ((hE.trans hX).at_ hp2) hJ2.out.x.elt.six hJ2.out.y.elt.six) hJ2.out.z ?_;refine zf 10 4 ?_;refine lE 11 3 9 (fun _ hX=>xG ((hE.trans hX).at_ hp2) hJ2.out.x.elt.six hJ2.out.y.elt.six) hJ2.out.z ?_;refine fc 12 2 6 8 10 (fun X hX _ _ h h'=>kE X (hn.out.ext hP0' (hE.trans hX)).fr.ff h h') E_u2.out ?_;refine vB 13 1 ?_;refine vB 14 0 ?_;refine yF ⟨fun f X hX hR hal hap=>?_⟩;obtain ⟨o2,(e2:f 2=_),h2⟩:=hR 2 (by decide);obtain ⟨o4,(e4:f 4=_),h4⟩:=hR 4 (by decide);obtain ⟨o5,(e5:f 5=_),h5⟩:=hR 5 (by decide);obtain ⟨o8,(e8:f 8=_),h8⟩:=hR 8 (by decide);obtain ⟨o10,(e10:f 10=_),h10⟩:=hR 10 (by decide);obtain ⟨o11,(e11:f 11=_),h11⟩:=hR 11 (by decide);obtain ⟨br6_12,(e12:f 12=_),lr6_12,hr6_12⟩:=hR 12 (by decide);obtain ⟨br6_13,(e13:f 13=_),lr6_13,hr6_13⟩:=hR 13 (by decide);have nr6_13_12:br6_13≠br6_12:=fun e=>hap 13 12 (by decide) (by decide) rfl rfl (by decide) (by rw [e13,e12,e]);simp only [yZ,e2,e4,e5,e8,e10,e11,e12,e13];clear hR hal hap e2 e4 e5 e8 e10 e11 e12 e13;refine zg (fun K hK=>⟨zZ (by kernel_rfl) (qo (.tmp 8) (.tmp 40) rfl rfl rfl rfl (hr6_12) vE h5.elt.six (fun Y3_14 hl3_14=>hK.out _ _ ?_))⟩);refine zg (fun K hK=>⟨zZ (by kernel_rfl) (qo (.tmp 9) (.tmp 46) rfl rfl rfl rfl (hl3_14.other nr6_13_12 (hr6_13)) vE h11.elt.six (fun Y3_15 hl3_15=>hK.out _ _ ?_))⟩);refine zU ?_;have vbr6_12:VE Y3_15 M n br6_12 u1:=(hl3_15.ve (ub nr6_13_12) (hl3_14.mk' h5))
   have lb_vbr6_12:=zQ hE.bsize lr6_12;have vbr6_13:VE Y3_15 M n br6_13 u2:=(hl3_15.mk' h11)
   have lb_vbr6_13:=zQ hE.bsize lr6_13;have d_br6_12_br6_13:br6_12≠br6_13:=(ub nr6_13_12)
   have hE':Ext W0 Y3_15:=(hl3_15.ext (hl3_14.ext (hE.trans hX) (zQ hE.bsize lr6_12)) (zQ hE.bsize lr6_13))
   clear hE hX hl3_14 hl3_15 h2 h4 h5 h8 h10 h11 ;have hE:=hE';clear hE';go_upto_region 7 with fail
   refine z8 (by kernel_rfl) 12 [0,0,2,0,15,0,0,64,0,511,0,0,4095,8191] [10,11] (fun j f X=>match j with
    | 0=>f 0=.pointer (some ⟨g,0,none⟩)
    | 1=>f 1=.pointer (some ⟨q,0,none⟩)
    | 2=>∃ o,f 2=EV o∧FE M n o x1
    | 3=>∃ o,f 3=EV o∧FE M n o u2
    | 4=>∃ o,f 4=EV o∧FE M n o u3
    | 5=>f 5=.pointer (some ⟨g,0,none⟩)
    | 6=>f 6=.pointer (some ⟨q+1,0,none⟩)
    | 7=>∃ o,f 7=EV o∧FE M n o x2
    | 8=>∃ o,f 8=EV o∧FE M n o u1
    | 9=>∃ o,f 9=EV o∧FE M n o u4
    | 10=>∃ b,f 10=.pointer (some ⟨b,0,none⟩)∧Y3_15.heap.size≤b∧X.heap[b]?=some (.cells #[.int .u64 0,.int .u64 0,.int .u64 0,.int .u64 0,.int .u64 0,.int .u64 0] 147 (0,0))
    | 11=>∃ b,f 11=.pointer (some ⟨b,0,none⟩)∧Y3_15.heap.size≤b∧X.heap[b]?=some (.cells #[.int .u64 0,.int .u64 0,.int .u64 0,.int .u64 0,.int .u64 0,.int .u64 0] 147 (0,0))
    | _=>True) (by kernel_rfl) [(47,0),(48,1),(49,2),(50,3),(51,4),(52,5),(53,6),(54,7),(55,8),(56,9),(10,10),(11,11)] (by kernel_rfl) ?_
   refine zf 1 11 ?_;refine zf 2 10 ?_;refine lE 3 9 1 (fun _ hX=>kV.rx ((hE.trans hX).at_ hp1)) hJ1.out.x ?_;refine lX 4 8 (fun X hX=>let ⟨o,hbl,ho⟩:=vbr6_13.ext hX;⟨o,hbl.range,ho⟩) ?_;refine fc 5 7 0 2 3 (fun X hX _ _ h h'=>kE X (hn.out.ext hP0' (hE.trans hX)).fr.ff h h') E_u3.out ?_;refine zf 6 6 ?_;refine zf 7 5 ?_;refine lE 8 4 6 (fun _ hX=>kV.rx ((hE.trans hX).at_ hp2)) hJ2.out.x ?_;refine lX 9 3 (fun X hX=>let ⟨o,hbl,ho⟩:=vbr6_12.ext hX;⟨o,hbl.range,ho⟩) ?_;refine fc 10 2 5 7 8 (fun X hX _ _ h h'=>kE X (hn.out.ext hP0' (hE.trans hX)).fr.ff h h') E_u4.out ?_;refine vB 11 1 ?_;refine vB 12 0 ?_;refine yF ⟨fun f X hX hR hal hap=>?_⟩;obtain ⟨o2,(e2:f 2=_),h2⟩:=hR 2 (by decide);obtain ⟨o3,(e3:f 3=_),h3⟩:=hR 3 (by decide);obtain ⟨o4,(e4:f 4=_),h4⟩:=hR 4 (by decide);obtain ⟨o7,(e7:f 7=_),h7⟩:=hR 7 (by decide);obtain ⟨o8,(e8:f 8=_),h8⟩:=hR 8 (by decide);obtain ⟨o9,(e9:f 9=_),h9⟩:=hR 9 (by decide);obtain ⟨br7_10,(e10:f 10=_),lr7_10,hr7_10⟩:=hR 10 (by decide);obtain ⟨br7_11,(e11:f 11=_),lr7_11,hr7_11⟩:=hR 11 (by decide);have nr7_11_10:br7_11≠br7_10:=fun e=>hap 11 10 (by decide) (by decide) rfl rfl (by decide) (by rw [e11,e10,e]);simp only [yZ,e2,e3,e4,e7,e8,e9,e10,e11];clear hR hal hap e2 e3 e4 e7 e8 e9 e10 e11;refine zg (fun K hK=>⟨zZ (by kernel_rfl) (qo (.tmp 10) (.tmp 51) rfl rfl rfl rfl (hr7_10) vE h4.elt.six (fun Y4_12 hl4_12=>hK.out _ _ ?_))⟩);refine zg (fun K hK=>⟨zZ (by kernel_rfl) (qo (.tmp 11) (.tmp 56) rfl rfl rfl rfl (hl4_12.other nr7_11_10 (hr7_11)) vE h9.elt.six (fun Y4_13 hl4_13=>hK.out _ _ ?_))⟩);refine zU ?_;have d_br6_12_br7_10:br6_12≠br7_10:=by have:=(let ⟨_,h,_⟩:=vbr6_12;h.lt:br6_12<Y3_15.heap.size);omega
   have d_br6_12_br7_11:br6_12≠br7_11:=by have:=(let ⟨_,h,_⟩:=vbr6_12;h.lt:br6_12<Y3_15.heap.size);omega
   replace vbr6_12:=(hl4_13.ve d_br6_12_br7_11 (hl4_12.ve d_br6_12_br7_10 (vbr6_12.ext hX)))
   have d_br6_13_br7_10:br6_13≠br7_10:=by have:=(let ⟨_,h,_⟩:=vbr6_13;h.lt:br6_13<Y3_15.heap.size);omega
   have d_br6_13_br7_11:br6_13≠br7_11:=by have:=(let ⟨_,h,_⟩:=vbr6_13;h.lt:br6_13<Y3_15.heap.size);omega
   replace vbr6_13:=(hl4_13.ve d_br6_13_br7_11 (hl4_12.ve d_br6_13_br7_10 (vbr6_13.ext hX)))
   have vbr7_10:VE Y4_13 M n br7_10 u3:=(hl4_13.ve (ub nr7_11_10) (hl4_12.mk' h4))
   have lb_vbr7_10:=zQ hE.bsize lr7_10;have vbr7_11:VE Y4_13 M n br7_11 u4:=(hl4_13.mk' h9)
   have lb_vbr7_11:=zQ hE.bsize lr7_11;have d_br7_10_br7_11:br7_10≠br7_11:=(ub nr7_11_10)
   have hE':Ext W0 Y4_13:=(hl4_13.ext (hl4_12.ext (hE.trans hX) (zQ hE.bsize lr7_10)) (zQ hE.bsize lr7_11))
   clear hE hX hl4_12 hl4_13 h2 h3 h4 h7 h8 h9;have hE:=hE';clear hE';go_upto_region 8 with fail
   refine z8 (by kernel_rfl) 20 [0,0,2,0,0,0,32,120,255,0,0,1024,0,0,0,16384,61951,131071,0,0,1048575,2097151] [18,19] (fun j f X=>match j with
    | 0=>f 0=.pointer (some ⟨g,0,none⟩)
    | 1=>f 1=.pointer (some ⟨q,6,none⟩)
    | 2=>∃ o,f 2=EV o∧FE M n o y1
    | 3=>f 3=.pointer (some ⟨g,0,none⟩)
    | 4=>∃ o,f 4=EV o∧FE M n o u2
    | 5=>f 5=.pointer (some ⟨q+1,12,none⟩)
    | 6=>∃ o,f 6=EV o∧FE M n o z2
    | 7=>∃ o,f 7=EV o∧FE M n o u5
    | 8=>∃ o,f 8=EV o∧FE M n o u6
    | 9=>f 9=.pointer (some ⟨g,0,none⟩)
    | 10=>f 10=.pointer (some ⟨q+1,6,none⟩)
    | 11=>∃ o,f 11=EV o∧FE M n o y2
    | 12=>f 12=.pointer (some ⟨g,0,none⟩)
    | 13=>∃ o,f 13=EV o∧FE M n o u1
    | 14=>f 14=.pointer (some ⟨q,12,none⟩)
    | 15=>∃ o,f 15=EV o∧FE M n o z1
    | 16=>∃ o,f 16=EV o∧FE M n o u7
    | 17=>∃ o,f 17=EV o∧FE M n o u8
    | 18=>∃ b,f 18=.pointer (some ⟨b,0,none⟩)∧Y4_13.heap.size≤b∧X.heap[b]?=some (.cells #[.int .u64 0,.int .u64 0,.int .u64 0,.int .u64 0,.int .u64 0,.int .u64 0] 147 (0,0))
    | 19=>∃ b,f 19=.pointer (some ⟨b,0,none⟩)∧Y4_13.heap.size≤b∧X.heap[b]?=some (.cells #[.int .u64 0,.int .u64 0,.int .u64 0,.int .u64 0,.int .u64 0,.int .u64 0] 147 (0,0))
    | _=>True) (by kernel_rfl) [(57,0),(58,1),(59,2),(60,3),(61,4),(62,5),(63,6),(64,7),(65,8),(66,9),(67,10),(68,11),(69,12),(70,13),(71,14),(72,15),(73,16),(74,17),(12,18),(13,19)] (by kernel_rfl) ?_
   refine zf 1 19 ?_;refine zf 2 18 ?_;refine lE 3 17 1 (fun _ hX=>kV.ry ((hE.trans hX).at_ hp1) hJ1.out.x.elt.six) hJ1.out.y ?_;refine zf 4 16 ?_;refine lX 5 15 (fun X hX=>let ⟨o,hbl,ho⟩:=vbr6_13.ext hX;⟨o,hbl.range,ho⟩) ?_;refine zf 6 14 ?_;refine lE 7 13 5 (fun _ hX=>xG ((hE.trans hX).at_ hp2) hJ2.out.x.elt.six hJ2.out.y.elt.six) hJ2.out.z ?_;refine fc 8 12 3 4 6 (fun X hX _ _ h h'=>kE X (hn.out.ext hP0' (hE.trans hX)).fr.ff h h') E_u5.out ?_;refine fc 9 11 0 2 7 (fun X hX _ _ h h'=>kE X (hn.out.ext hP0' (hE.trans hX)).fr.ff h h') E_u6.out ?_;refine zf 10 10 ?_;refine zf 11 9 ?_;refine lE 12 8 10 (fun _ hX=>kV.ry ((hE.trans hX).at_ hp2) hJ2.out.x.elt.six) hJ2.out.y ?_;refine zf 13 7 ?_;refine lX 14 6 (fun X hX=>let ⟨o,hbl,ho⟩:=vbr6_12.ext hX;⟨o,hbl.range,ho⟩) ?_;refine zf 15 5 ?_;refine lE 16 4 14 (fun _ hX=>xG ((hE.trans hX).at_ hp1) hJ1.out.x.elt.six hJ1.out.y.elt.six) hJ1.out.z ?_;refine fc 17 3 12 13 15 (fun X hX _ _ h h'=>kE X (hn.out.ext hP0' (hE.trans hX)).fr.ff h h') E_u7.out ?_;refine fc 18 2 9 11 16 (fun X hX _ _ h h'=>kE X (hn.out.ext hP0' (hE.trans hX)).fr.ff h h') E_u8.out ?_;refine vB 19 1 ?_;refine vB 20 0 ?_;refine yF ⟨fun f X hX hR hal hap=>?_⟩;obtain ⟨o2,(e2:f 2=_),h2⟩:=hR 2 (by decide);obtain ⟨o4,(e4:f 4=_),h4⟩:=hR 4 (by decide);obtain ⟨o6,(e6:f 6=_),h6⟩:=hR 6 (by decide);obtain ⟨o7,(e7:f 7=_),h7⟩:=hR 7 (by decide);obtain ⟨o8,(e8:f 8=_),h8⟩:=hR 8 (by decide);obtain ⟨o11,(e11:f 11=_),h11⟩:=hR 11 (by decide);obtain ⟨o13,(e13:f 13=_),h13⟩:=hR 13 (by decide);obtain ⟨o15,(e15:f 15=_),h15⟩:=hR 15 (by decide);obtain ⟨o16,(e16:f 16=_),h16⟩:=hR 16 (by decide);obtain ⟨o17,(e17:f 17=_),h17⟩:=hR 17 (by decide);obtain ⟨br8_18,(e18:f 18=_),lr8_18,hr8_18⟩:=hR 18 (by decide);obtain ⟨br8_19,(e19:f 19=_),lr8_19,hr8_19⟩:=hR 19 (by decide);have nr8_19_18:br8_19≠br8_18:=fun e=>hap 19 18 (by decide) (by decide) rfl rfl (by decide) (by rw [e19,e18,e]);simp only [yZ,e2,e4,e6,e7,e8,e11,e13,e15,e16,e17,e18,e19];clear hR hal hap e2 e4 e6 e7 e8 e11 e13 e15 e16 e17 e18 e19;refine zg (fun K hK=>⟨zZ (by kernel_rfl) (qo (.tmp 12) (.tmp 65) rfl rfl rfl rfl (hr8_18) vE h8.elt.six (fun Y5_20 hl5_20=>hK.out _ _ ?_))⟩);refine zg (fun K hK=>⟨zZ (by kernel_rfl) (qo (.tmp 13) (.tmp 74) rfl rfl rfl rfl (hl5_20.other nr8_19_18 (hr8_19)) vE h17.elt.six (fun Y5_21 hl5_21=>hK.out _ _ ?_))⟩);refine zU ?_;have d_br6_12_br8_18:br6_12≠br8_18:=by have:=(let ⟨_,h,_⟩:=vbr6_12;h.lt:br6_12<Y4_13.heap.size);omega
   have d_br6_12_br8_19:br6_12≠br8_19:=by have:=(let ⟨_,h,_⟩:=vbr6_12;h.lt:br6_12<Y4_13.heap.size);omega
   replace vbr6_12:=(hl5_21.ve d_br6_12_br8_19 (hl5_20.ve d_br6_12_br8_18 (vbr6_12.ext hX)))
   have d_br6_13_br8_18:br6_13≠br8_18:=by have:=(let ⟨_,h,_⟩:=vbr6_13;h.lt:br6_13<Y4_13.heap.size);omega
   have d_br6_13_br8_19:br6_13≠br8_19:=by have:=(let ⟨_,h,_⟩:=vbr6_13;h.lt:br6_13<Y4_13.heap.size);omega
   replace vbr6_13:=(hl5_21.ve d_br6_13_br8_19 (hl5_20.ve d_br6_13_br8_18 (vbr6_13.ext hX)))
   have d_br7_10_br8_18:br7_10≠br8_18:=by have:=(let ⟨_,h,_⟩:=vbr7_10;h.lt:br7_10<Y4_13.heap.size);omega
   have d_br7_10_br8_19:br7_10≠br8_19:=by have:=(let ⟨_,h,_⟩:=vbr7_10;h.lt:br7_10<Y4_13.heap.size);omega
   replace vbr7_10:=(hl5_21.ve d_br7_10_br8_19 (hl5_20.ve d_br7_10_br8_18 (vbr7_10.ext hX)))
   have d_br7_11_br8_18:br7_11≠br8_18:=by have:=(let ⟨_,h,_⟩:=vbr7_11;h.lt:br7_11<Y4_13.heap.size);omega
   have d_br7_11_br8_19:br7_11≠br8_19:=by have:=(let ⟨_,h,_⟩:=vbr7_11;h.lt:br7_11<Y4_13.heap.size);omega
   replace vbr7_11:=(hl5_21.ve d_br7_11_br8_19 (hl5_20.ve d_br7_11_br8_18 (vbr7_11.ext hX)))
   have vbr8_18:VE Y5_21 M n br8_18 u6:=(hl5_21.ve (ub nr8_19_18) (hl5_20.mk' h8))
   have lb_vbr8_18:=zQ hE.bsize lr8_18;have vbr8_19:VE Y5_21 M n br8_19 u8:=(hl5_21.mk' h17)
   have lb_vbr8_19:=zQ hE.bsize lr8_19;have d_br8_18_br8_19:br8_18≠br8_19:=(ub nr8_19_18)
   have hE':Ext W0 Y5_21:=(hl5_21.ext (hl5_20.ext (hE.trans hX) (zQ hE.bsize lr8_18)) (zQ hE.bsize lr8_19))
   clear hE hX hl5_20 hl5_21 h2 h4 h6 h7 h8 h11 h13 h15 h16 h17;have hE:=hE';clear hE';go_upto_region 9 with fail
   refine z8 (by kernel_rfl) 10 [0,0,0,7,0,0,0,127,0,0,1023,2047] [8,9] (fun j f X=>match j with
    | 0=>f 0=.pointer (some ⟨g,0,none⟩)
    | 1=>∃ o,f 1=EV o∧FE M n o u4
    | 2=>∃ o,f 2=EV o∧FE M n o u3
    | 3=>∃ o,f 3=EV o∧FE M n o u9
    | 4=>f 4=.pointer (some ⟨g,0,none⟩)
    | 5=>∃ o,f 5=EV o∧FE M n o u8
    | 6=>∃ o,f 6=EV o∧FE M n o u6
    | 7=>∃ o,f 7=EV o∧FE M n o u10
    | 8=>∃ b,f 8=.pointer (some ⟨b,0,none⟩)∧Y5_21.heap.size≤b∧X.heap[b]?=some (.cells #[.int .u64 0,.int .u64 0,.int .u64 0,.int .u64 0,.int .u64 0,.int .u64 0] 147 (0,0))
    | 9=>∃ b,f 9=.pointer (some ⟨b,0,none⟩)∧Y5_21.heap.size≤b∧X.heap[b]?=some (.cells #[.int .u64 0,.int .u64 0,.int .u64 0,.int .u64 0,.int .u64 0,.int .u64 0] 147 (0,0))
    | _=>True) (by kernel_rfl) [(75,0),(76,1),(77,2),(78,3),(79,4),(80,5),(81,6),(82,7),(14,8),(15,9)] (by kernel_rfl) ?_
   refine zf 1 9 ?_;refine lX 2 8 (fun X hX=>let ⟨o,hbl,ho⟩:=vbr7_11.ext hX;⟨o,hbl.range,ho⟩) ?_;refine lX 3 7 (fun X hX=>let ⟨o,hbl,ho⟩:=vbr7_10.ext hX;⟨o,hbl.range,ho⟩) ?_;refine fc 4 6 0 1 2 (fun X hX _ _ h h'=>xx X (hn.out.ext hP0' (hE.trans hX)).fr.ff h h') E_u9.out ?_;refine zf 5 5 ?_;refine lX 6 4 (fun X hX=>let ⟨o,hbl,ho⟩:=vbr8_19.ext hX;⟨o,hbl.range,ho⟩) ?_;refine lX 7 3 (fun X hX=>let ⟨o,hbl,ho⟩:=vbr8_18.ext hX;⟨o,hbl.range,ho⟩) ?_;refine fc 8 2 4 5 6 (fun X hX _ _ h h'=>xx X (hn.out.ext hP0' (hE.trans hX)).fr.ff h h') E_u10.out ?_;refine vB 9 1 ?_;refine vB 10 0 ?_;refine yF ⟨fun f X hX hR hal hap=>?_⟩;obtain ⟨o1,(e1:f 1=_),h1⟩:=hR 1 (by decide);obtain ⟨o2,(e2:f 2=_),h2⟩:=hR 2 (by decide);obtain ⟨o3,(e3:f 3=_),h3⟩:=hR 3 (by decide);obtain ⟨o5,(e5:f 5=_),h5⟩:=hR 5 (by decide);obtain ⟨o6,(e6:f 6=_),h6⟩:=hR 6 (by decide);obtain ⟨o7,(e7:f 7=_),h7⟩:=hR 7 (by decide);obtain ⟨br9_8,(e8:f 8=_),lr9_8,hr9_8⟩:=hR 8 (by decide);obtain ⟨br9_9,(e9:f 9=_),lr9_9,hr9_9⟩:=hR 9 (by decide);have nr9_9_8:br9_9≠br9_8:=fun e=>hap 9 8 (by decide) (by decide) rfl rfl (by decide) (by rw [e9,e8,e]);simp only [yZ,e1,e2,e3,e5,e6,e7,e8,e9];clear hR hal hap e1 e2 e3 e5 e6 e7 e8 e9;refine zg (fun K hK=>⟨zZ (by kernel_rfl) (qo (.tmp 14) (.tmp 78) rfl rfl rfl rfl (hr9_8) vE h3.elt.six (fun Y6_10 hl6_10=>hK.out _ _ ?_))⟩);refine zg (fun K hK=>⟨zZ (by kernel_rfl) (qo (.tmp 15) (.tmp 82) rfl rfl rfl rfl (hl6_10.other nr9_9_8 (hr9_9)) vE h7.elt.six (fun Y6_11 hl6_11=>hK.out _ _ ?_))⟩);refine zU ?_;have d_br6_12_br9_8:br6_12≠br9_8:=by have:=(let ⟨_,h,_⟩:=vbr6_12;h.lt:br6_12<Y5_21.heap.size);omega
   have d_br6_12_br9_9:br6_12≠br9_9:=by have:=(let ⟨_,h,_⟩:=vbr6_12;h.lt:br6_12<Y5_21.heap.size);omega
   replace vbr6_12:=(hl6_11.ve d_br6_12_br9_9 (hl6_10.ve d_br6_12_br9_8 (vbr6_12.ext hX)))
   have d_br6_13_br9_8:br6_13≠br9_8:=by have:=(let ⟨_,h,_⟩:=vbr6_13;h.lt:br6_13<Y5_21.heap.size);omega
   have d_br6_13_br9_9:br6_13≠br9_9:=by have:=(let ⟨_,h,_⟩:=vbr6_13;h.lt:br6_13<Y5_21.heap.size);omega
   replace vbr6_13:=(hl6_11.ve d_br6_13_br9_9 (hl6_10.ve d_br6_13_br9_8 (vbr6_13.ext hX)))
   have d_br7_10_br9_8:br7_10≠br9_8:=by have:=(let ⟨_,h,_⟩:=vbr7_10;h.lt:br7_10<Y5_21.heap.size);omega
   have d_br7_10_br9_9:br7_10≠br9_9:=by have:=(let ⟨_,h,_⟩:=vbr7_10;h.lt:br7_10<Y5_21.heap.size);omega
   replace vbr7_10:=(hl6_11.ve d_br7_10_br9_9 (hl6_10.ve d_br7_10_br9_8 (vbr7_10.ext hX)))
   have d_br7_11_br9_8:br7_11≠br9_8:=by have:=(let ⟨_,h,_⟩:=vbr7_11;h.lt:br7_11<Y5_21.heap.size);omega
   have d_br7_11_br9_9:br7_11≠br9_9:=by have:=(let ⟨_,h,_⟩:=vbr7_11;h.lt:br7_11<Y5_21.heap.size);omega
   replace vbr7_11:=(hl6_11.ve d_br7_11_br9_9 (hl6_10.ve d_br7_11_br9_8 (vbr7_11.ext hX)))
   have d_br8_18_br9_8:br8_18≠br9_8:=by have:=(let ⟨_,h,_⟩:=vbr8_18;h.lt:br8_18<Y5_21.heap.size);omega
   have d_br8_18_br9_9:br8_18≠br9_9:=by have:=(let ⟨_,h,_⟩:=vbr8_18;h.lt:br8_18<Y5_21.heap.size);omega
   replace vbr8_18:=(hl6_11.ve d_br8_18_br9_9 (hl6_10.ve d_br8_18_br9_8 (vbr8_18.ext hX)))
   have d_br8_19_br9_8:br8_19≠br9_8:=by have:=(let ⟨_,h,_⟩:=vbr8_19;h.lt:br8_19<Y5_21.heap.size);omega
   have d_br8_19_br9_9:br8_19≠br9_9:=by have:=(let ⟨_,h,_⟩:=vbr8_19;h.lt:br8_19<Y5_21.heap.size);omega
   replace vbr8_19:=(hl6_11.ve d_br8_19_br9_9 (hl6_10.ve d_br8_19_br9_8 (vbr8_19.ext hX)))
   have vbr9_8:VE Y6_11 M n br9_8 u9:=(hl6_11.ve (ub nr9_9_8) (hl6_10.mk' h3))
   have lb_vbr9_8:=zQ hE.bsize lr9_8;have vbr9_9:VE Y6_11 M n br9_9 u10:=(hl6_11.mk' h7)
   have lb_vbr9_9:=zQ hE.bsize lr9_9;have d_br9_8_br9_9:br9_8≠br9_9:=(ub nr9_9_8)
   have hE':Ext W0 Y6_11:=(hl6_11.ext (hl6_10.ext (hE.trans hX) (zQ hE.bsize lr9_8)) (zQ hE.bsize lr9_9))
   clear hE hX hl6_10 hl6_11 h1 h2 h3 h5 h6 h7;have hE:=hE';clear hE';by_cases hh:u9 % M=0
   · by_cases hr:u10 % M=0
     · have hhn:=zF hh;have hrn:=zF hr;obtain rfl:res=dk M x1 y1 z1:=by rw [←Hq0.out,hres.out,qK hh,qK hr]
       clear hh hr;go_upto_region 10 with fail
       refine qQ 2 [0,1] [] (fun j f X=>match j with
        | 0=>∃ o,f 0=EV o∧FE M n o u9
        | 1=>f 1=.bool true
        | _=>True) (by kernel_rfl) [(83,0),(84,1)] (by kernel_rfl) ?_
       refine lX 1 1 (fun X hX=>let ⟨o,hbl,ho⟩:=vbr9_8.ext hX;⟨o,hbl.range,ho⟩) ?_;refine qJ 2 0 (fun f=>#[f 0]) (F':=152) (fun f X hX hR=>?_) ?_
       · obtain ⟨o0,(e0:f 0=_),h0⟩:=hR.out 0 rfl;simp only [e0];refine (vQ o0 X h0.elt.six).mono ?_;rintro e w2 ⟨rfl,hB⟩;rw [show decide (o0=[0,0,0,0,0,0])=true by rw [decide_eq_decide.2 (h0.zero_iff (hn.out.ext hP0' (hE.trans hX)).fr.ff)];exact qX hhn.out];exact ⟨(.bool true),rfl,hB,fun _ _=>rfl⟩
       refine yF ⟨fun f X hX hR hal hap=>?_⟩;obtain ⟨o0,(e0:f 0=_),h0⟩:=hR 0 (by decide);have e1:f 1=_:=hR 1 (by decide);simp only [yZ,e0,e1];clear hR hal hap e0 e1;refine zU ?_;replace vbr6_12:=vbr6_12.ext hX;replace vbr6_13:=vbr6_13.ext hX;replace vbr7_10:=vbr7_10.ext hX;replace vbr7_11:=vbr7_11.ext hX;replace vbr8_18:=vbr8_18.ext hX;replace vbr8_19:=vbr8_19.ext hX;replace vbr9_8:=vbr9_8.ext hX;replace vbr9_9:=vbr9_9.ext hX;replace hE:=hE.trans hX;clear hX;rename World=>X7_;go_upto_region 11 with fail
       refine qQ 2 [0,1] [] (fun j f X=>match j with
        | 0=>∃ o,f 0=EV o∧FE M n o u10
        | 1=>f 1=.bool true
        | _=>True) (by kernel_rfl) [(85,0),(86,1)] (by kernel_rfl) ?_
       refine lX 1 1 (fun X hX=>let ⟨o,hbl,ho⟩:=vbr9_9.ext hX;⟨o,hbl.range,ho⟩) ?_;refine qJ 2 0 (fun f=>#[f 0]) (F':=152) (fun f X hX hR=>?_) ?_
       · obtain ⟨o0,(e0:f 0=_),h0⟩:=hR.out 0 rfl;simp only [e0];refine (vQ o0 X h0.elt.six).mono ?_;rintro e w2 ⟨rfl,hB⟩;rw [show decide (o0=[0,0,0,0,0,0])=true by rw [decide_eq_decide.2 (h0.zero_iff (hn.out.ext hP0' (hE.trans hX)).fr.ff)];exact qX hrn.out];exact ⟨(.bool true),rfl,hB,fun _ _=>rfl⟩
       refine yF ⟨fun f X hX hR hal hap=>?_⟩;obtain ⟨o0,(e0:f 0=_),h0⟩:=hR 0 (by decide);have e1:f 1=_:=hR 1 (by decide);simp only [yZ,e0,e1];clear hR hal hap e0 e1;refine zU ?_;replace vbr6_12:=vbr6_12.ext hX;replace vbr6_13:=vbr6_13.ext hX;replace vbr7_10:=vbr7_10.ext hX;replace vbr7_11:=vbr7_11.ext hX;replace vbr8_18:=vbr8_18.ext hX;replace vbr8_19:=vbr8_19.ext hX;replace vbr9_8:=vbr9_8.ext hX;replace vbr9_9:=vbr9_9.ext hX;replace hE:=hE.trans hX;clear hX;rename World=>X8_;go_upto_region 12 with fail;have hb1:=hE.at_ hrb
       refine qQ 3 [0,0,3,7] [] (fun j f X=>match j with
        | 0=>f 0=.pointer (some ⟨k,0,none⟩)
        | 1=>f 1=JV l1x l1y l1z
        | 2=>∃ ox oy oz,f 2=JV ox oy oz∧FJ M n ox oy oz (dk M x1 y1 z1).1 (dk M x1 y1 z1).2.1 (dk M x1 y1 z1).2.2
        | _=>True) (by kernel_rfl) [(87,0),(88,1),(89,2)] (by kernel_rfl) ?_
       refine zf 1 2 ?_;refine qH 2 1 [(87,0)] (fun f X hX hR K hK=>?_) ?_
       · simp only [yZ];refine ⟨zZ (by kernel_rfl) (vf (v:=JV l1x l1y l1z) 176 (.tmp 4) rfl rfl ((hE.trans hX).at_ hp1) Tryz.underlying176 rfl (by rw [hJ1.out.sz];exact gS) rfl ?_)⟩;exact hK.out _ (JV l1x l1y l1z) _ (by simp only [yZ]) (zy _) trivial (fun _ _=>rfl)
       refine qJ 3 0 (fun f=>#[f 0,f 1]) (F':=142) (fun f X hX hR=>?_) ?_
       · have e0:f 0=_:=hR.out 0 rfl;have e1:f 1=_:=hR.out 1 rfl;simp only [e0,e1];refine (bV X (hn.out.ext hP0' (hE.trans hX)) (fun b hb=>zR (hP0' b hb) (hE.trans hX).bsize) hJ1.out).mono ?_;rintro e w2 ⟨ox,oy,oz,rfl,hf,hB⟩;exact ⟨(JV ox oy oz),rfl,hB,fun Y hY=>⟨ox,oy,oz,rfl,hf⟩⟩
       refine yF ⟨fun f X hX hR hal hap=>?_⟩;obtain ⟨ox,oy,oz,(e2:f 2=_),f2⟩:=hR 2 (by decide);simp only [yZ,e2];clear hR hal hap e2;refine zg (fun K hK=>⟨zZ (by kernel_rfl) (vS (x:=ox) (y:=oy) (z:=oz) (.tmp 6) (.tmp 89) rfl rfl rfl rfl (hX.at_ hb1) rfl f2.x.elt.six f2.y.elt.six f2.z.elt.six (fun Y hY1 hY2 hY3=>hK.out _ _ ?_))⟩);refine zU ?_;go_wp2;exact dY rfl rfl rfl hY1 f2.x.elt.six f2.y.elt.six f2.z.elt.six ⟨_,_,_,rfl,f2,hY2.ext (HE0.out.trans (hE.trans hX)) (by have:=Hq.out;omega)⟩
     · have hhn:=zF hh;have hrn:=zF hr;obtain rfl:res=(1,1,0):=by rw [←Hq0.out,hres.out,qK hh,qA hr]
       clear hh hr;go_upto_region 10 with fail
       refine qQ 2 [0,1] [] (fun j f X=>match j with
        | 0=>∃ o,f 0=EV o∧FE M n o u9
        | 1=>f 1=.bool true
        | _=>True) (by kernel_rfl) [(83,0),(84,1)] (by kernel_rfl) ?_
       refine lX 1 1 (fun X hX=>let ⟨o,hbl,ho⟩:=vbr9_8.ext hX;⟨o,hbl.range,ho⟩) ?_;refine qJ 2 0 (fun f=>#[f 0]) (F':=152) (fun f X hX hR=>?_) ?_
       · obtain ⟨o0,(e0:f 0=_),h0⟩:=hR.out 0 rfl;simp only [e0];refine (vQ o0 X h0.elt.six).mono ?_;rintro e w2 ⟨rfl,hB⟩;rw [show decide (o0=[0,0,0,0,0,0])=true by rw [decide_eq_decide.2 (h0.zero_iff (hn.out.ext hP0' (hE.trans hX)).fr.ff)];exact qX hhn.out];exact ⟨(.bool true),rfl,hB,fun _ _=>rfl⟩
       refine yF ⟨fun f X hX hR hal hap=>?_⟩;obtain ⟨o0,(e0:f 0=_),h0⟩:=hR 0 (by decide);have e1:f 1=_:=hR 1 (by decide);simp only [yZ,e0,e1];clear hR hal hap e0 e1;refine zU ?_;replace vbr6_12:=vbr6_12.ext hX;replace vbr6_13:=vbr6_13.ext hX;replace vbr7_10:=vbr7_10.ext hX;replace vbr7_11:=vbr7_11.ext hX;replace vbr8_18:=vbr8_18.ext hX;replace vbr8_19:=vbr8_19.ext hX;replace vbr9_8:=vbr9_8.ext hX;replace vbr9_9:=vbr9_9.ext hX;replace hE:=hE.trans hX;clear hX;rename World=>X7_;go_upto_region 11 with fail
       refine qQ 2 [0,1] [] (fun j f X=>match j with
        | 0=>∃ o,f 0=EV o∧FE M n o u10
        | 1=>f 1=.bool false
        | _=>True) (by kernel_rfl) [(85,0),(86,1)] (by kernel_rfl) ?_
       refine lX 1 1 (fun X hX=>let ⟨o,hbl,ho⟩:=vbr9_9.ext hX;⟨o,hbl.range,ho⟩) ?_;refine qJ 2 0 (fun f=>#[f 0]) (F':=152) (fun f X hX hR=>?_) ?_
       · obtain ⟨o0,(e0:f 0=_),h0⟩:=hR.out 0 rfl;simp only [e0];refine (vQ o0 X h0.elt.six).mono ?_;rintro e w2 ⟨rfl,hB⟩;rw [show decide (o0=[0,0,0,0,0,0])=false by rw [decide_eq_decide.2 (h0.zero_iff (hn.out.ext hP0' (hE.trans hX)).fr.ff)];exact qb hrn.out];exact ⟨(.bool false),rfl,hB,fun _ _=>rfl⟩
       refine yF ⟨fun f X hX hR hal hap=>?_⟩;obtain ⟨o0,(e0:f 0=_),h0⟩:=hR 0 (by decide);have e1:f 1=_:=hR 1 (by decide);simp only [yZ,e0,e1];clear hR hal hap e0 e1;refine zU ?_;replace vbr6_12:=vbr6_12.ext hX;replace vbr6_13:=vbr6_13.ext hX;replace vbr7_10:=vbr7_10.ext hX;replace vbr7_11:=vbr7_11.ext hX;replace vbr8_18:=vbr8_18.ext hX;replace vbr8_19:=vbr8_19.ext hX;replace vbr9_8:=vbr9_8.ext hX;replace vbr9_9:=vbr9_9.ext hX;replace hE:=hE.trans hX;clear hX;rename World=>X8_;go_upto_region 13 with fail;have hb1:=hE.at_ hrb
       refine qQ 3 [0,0,3,7] [] (fun j f X=>match j with
        | 0=>f 0=.pointer (some ⟨k,0,none⟩)
        | 1=>f 1=uq
        | 2=>∃ ox oy oz,f 2=JV ox oy oz∧FJ M n ox oy oz 1 1 0
        | _=>True) (by kernel_rfl) [(90,0),(91,1),(92,2)] (by kernel_rfl) ?_
       refine zf 1 2 ?_;refine qJ 2 1 (fun _=>#[]) (F':=113) (fun f X hX hR=>?_) ?_
       · refine (gP X).mono ?_;rintro e w2 ⟨rfl,hB⟩;exact ⟨uq,rfl,hB,fun _ _=>rfl⟩
       refine qJ 3 0 (fun f=>#[f 0,f 1]) (F':=139) (fun f X hX hR=>?_) ?_
       · have e0:f 0=_:=hR.out 0 rfl;have e1:f 1=_:=hR.out 1 rfl;simp only [e0,e1];refine (tw (fun _=>False) (fun _=>False) none none 0 0 [] [] true X (hn.out.ext hP0' (hE.trans hX)) (fun b hb=>zR (hP0' b hb) (hE.trans hX).bsize) (RN.nil_ _ _) (RN.nil_ _ _) (fun _ h=>h.elim) (fun _ h=>h.elim) (fun h=>by cases h) (fun h=>by cases h)).mono ?_;rintro e w2 ⟨ox,oy,oz,rfl,hf,hB⟩;exact ⟨(JV ox oy oz),rfl,hB,fun Y hY=>⟨ox,oy,oz,rfl,hf⟩⟩
       refine yF ⟨fun f X hX hR hal hap=>?_⟩;obtain ⟨ox,oy,oz,(e2:f 2=_),f2⟩:=hR 2 (by decide);simp only [yZ,e2];clear hR hal hap e2;refine zg (fun K hK=>⟨zZ (by kernel_rfl) (vS (x:=ox) (y:=oy) (z:=oz) (.tmp 6) (.tmp 92) rfl rfl rfl rfl (hX.at_ hb1) rfl f2.x.elt.six f2.y.elt.six f2.z.elt.six (fun Y hY1 hY2 hY3=>hK.out _ _ ?_))⟩);refine zU ?_;go_wp2;exact dY rfl rfl rfl hY1 f2.x.elt.six f2.y.elt.six f2.z.elt.six ⟨_,_,_,rfl,f2,hY2.ext (HE0.out.trans (hE.trans hX)) (by have:=Hq.out;omega)⟩
   · have hhn:=zF hh;obtain rfl:res=(u17,u21,u23):=by rw [←Hq0.out,hres.out,qA hh]
     clear hh;go_upto_region 10 with fail
     refine qQ 2 [0,1] [] (fun j f X=>match j with
      | 0=>∃ o,f 0=EV o∧FE M n o u9
      | 1=>f 1=.bool false
      | _=>True) (by kernel_rfl) [(83,0),(84,1)] (by kernel_rfl) ?_
     refine lX 1 1 (fun X hX=>let ⟨o,hbl,ho⟩:=vbr9_8.ext hX;⟨o,hbl.range,ho⟩) ?_;refine qJ 2 0 (fun f=>#[f 0]) (F':=152) (fun f X hX hR=>?_) ?_
     · obtain ⟨o0,(e0:f 0=_),h0⟩:=hR.out 0 rfl;simp only [e0];refine (vQ o0 X h0.elt.six).mono ?_;rintro e w2 ⟨rfl,hB⟩;rw [show decide (o0=[0,0,0,0,0,0])=false by rw [decide_eq_decide.2 (h0.zero_iff (hn.out.ext hP0' (hE.trans hX)).fr.ff)];exact qb hhn.out];exact ⟨(.bool false),rfl,hB,fun _ _=>rfl⟩
     refine yF ⟨fun f X hX hR hal hap=>?_⟩;obtain ⟨o0,(e0:f 0=_),h0⟩:=hR 0 (by decide);have e1:f 1=_:=hR 1 (by decide);simp only [yZ,e0,e1];clear hR hal hap e0 e1;refine zU ?_;replace vbr6_12:=vbr6_12.ext hX;replace vbr6_13:=vbr6_13.ext hX;replace vbr7_10:=vbr7_10.ext hX;replace vbr7_11:=vbr7_11.ext hX;replace vbr8_18:=vbr8_18.ext hX;replace vbr8_19:=vbr8_19.ext hX;replace vbr9_8:=vbr9_8.ext hX;replace vbr9_9:=vbr9_9.ext hX;replace hE:=hE.trans hX;clear hX;rename World=>X7_;go_upto_region 14 with fail
     refine qQ 5 [0,0,0,7,0,31] [4] (fun j f X=>match j with
      | 0=>f 0=.pointer (some ⟨g,0,none⟩)
      | 1=>∃ o,f 1=EV o∧FE M n o u9
      | 2=>∃ o,f 2=EV o∧FE M n o u9
      | 3=>∃ o,f 3=EV o∧FE M n o u11
      | 4=>∃ b,f 4=.pointer (some ⟨b,0,none⟩)∧X7_.heap.size≤b∧X.heap[b]?=some (.cells #[.int .u64 0,.int .u64 0,.int .u64 0,.int .u64 0,.int .u64 0,.int .u64 0] 147 (0,0))
      | _=>True) (by kernel_rfl) [(93,0),(94,1),(95,2),(96,3),(16,4)] (by kernel_rfl) ?_
     refine zf 1 4 ?_;refine lX 2 3 (fun X hX=>let ⟨o,hbl,ho⟩:=vbr9_8.ext hX;⟨o,hbl.range,ho⟩) ?_;refine lX 3 2 (fun X hX=>let ⟨o,hbl,ho⟩:=vbr9_8.ext hX;⟨o,hbl.range,ho⟩) ?_;refine fc 4 1 0 1 2 (fun X hX _ _ h h'=>kE X (hn.out.ext hP0' (hE.trans hX)).fr.ff h h') E_u11.out ?_;refine vB 5 0 ?_;refine yF ⟨fun f X hX hR hal hap=>?_⟩;obtain ⟨o1,(e1:f 1=_),h1⟩:=hR 1 (by decide);obtain ⟨o2,(e2:f 2=_),h2⟩:=hR 2 (by decide);obtain ⟨o3,(e3:f 3=_),h3⟩:=hR 3 (by decide);obtain ⟨br14_4,(e4:f 4=_),lr14_4,hr14_4⟩:=hR 4 (by decide);simp only [yZ,e1,e2,e3,e4];clear hR hal hap e1 e2 e3 e4;refine zg (fun K hK=>⟨zZ (by kernel_rfl) (qo (.tmp 16) (.tmp 96) rfl rfl rfl rfl (hr14_4) vE h3.elt.six (fun Y8_5 hl8_5=>hK.out _ _ ?_))⟩);refine zU ?_;have d_br6_12_br14_4:br6_12≠br14_4:=by have:=(let ⟨_,h,_⟩:=vbr6_12;h.lt:br6_12<X7_.heap.size);omega
     replace vbr6_12:=(hl8_5.ve d_br6_12_br14_4 (vbr6_12.ext hX))
     have d_br6_13_br14_4:br6_13≠br14_4:=by have:=(let ⟨_,h,_⟩:=vbr6_13;h.lt:br6_13<X7_.heap.size);omega
     replace vbr6_13:=(hl8_5.ve d_br6_13_br14_4 (vbr6_13.ext hX))
     have d_br7_10_br14_4:br7_10≠br14_4:=by have:=(let ⟨_,h,_⟩:=vbr7_10;h.lt:br7_10<X7_.heap.size);omega
     replace vbr7_10:=(hl8_5.ve d_br7_10_br14_4 (vbr7_10.ext hX))
     have d_br7_11_br14_4:br7_11≠br14_4:=by have:=(let ⟨_,h,_⟩:=vbr7_11;h.lt:br7_11<X7_.heap.size);omega
     replace vbr7_11:=(hl8_5.ve d_br7_11_br14_4 (vbr7_11.ext hX))
     have d_br8_18_br14_4:br8_18≠br14_4:=by have:=(let ⟨_,h,_⟩:=vbr8_18;h.lt:br8_18<X7_.heap.size);omega
     replace vbr8_18:=(hl8_5.ve d_br8_18_br14_4 (vbr8_18.ext hX))
     have d_br8_19_br14_4:br8_19≠br14_4:=by have:=(let ⟨_,h,_⟩:=vbr8_19;h.lt:br8_19<X7_.heap.size);omega
     replace vbr8_19:=(hl8_5.ve d_br8_19_br14_4 (vbr8_19.ext hX))
     have d_br9_8_br14_4:br9_8≠br14_4:=by have:=(let ⟨_,h,_⟩:=vbr9_8;h.lt:br9_8<X7_.heap.size);omega
     replace vbr9_8:=(hl8_5.ve d_br9_8_br14_4 (vbr9_8.ext hX))
     have d_br9_9_br14_4:br9_9≠br14_4:=by have:=(let ⟨_,h,_⟩:=vbr9_9;h.lt:br9_9<X7_.heap.size);omega
     replace vbr9_9:=(hl8_5.ve d_br9_9_br14_4 (vbr9_9.ext hX))
     have vbr14_4:VE Y8_5 M n br14_4 u11:=(hl8_5.mk' h3)
     have lb_vbr14_4:=zQ hE.bsize lr14_4;have hE':Ext W0 Y8_5:=(hl8_5.ext (hE.trans hX) (zQ hE.bsize lr14_4))
     clear hE hX hl8_5 h1 h2 h3;have hE:=hE';clear hE';go_upto_region 15 with fail
     refine z8 (by kernel_rfl) 10 [0,0,0,7,0,0,0,127,0,0,1023,2047] [8,9] (fun j f X=>match j with
      | 0=>f 0=.pointer (some ⟨g,0,none⟩)
      | 1=>∃ o,f 1=EV o∧FE M n o u11
      | 2=>∃ o,f 2=EV o∧FE M n o u9
      | 3=>∃ o,f 3=EV o∧FE M n o u12
      | 4=>f 4=.pointer (some ⟨g,0,none⟩)
      | 5=>∃ o,f 5=EV o∧FE M n o u3
      | 6=>∃ o,f 6=EV o∧FE M n o u11
      | 7=>∃ o,f 7=EV o∧FE M n o u13
      | 8=>∃ b,f 8=.pointer (some ⟨b,0,none⟩)∧Y8_5.heap.size≤b∧X.heap[b]?=some (.cells #[.int .u64 0,.int .u64 0,.int .u64 0,.int .u64 0,.int .u64 0,.int .u64 0] 147 (0,0))
      | 9=>∃ b,f 9=.pointer (some ⟨b,0,none⟩)∧Y8_5.heap.size≤b∧X.heap[b]?=some (.cells #[.int .u64 0,.int .u64 0,.int .u64 0,.int .u64 0,.int .u64 0,.int .u64 0] 147 (0,0))
      | _=>True) (by kernel_rfl) [(97,0),(98,1),(99,2),(100,3),(101,4),(102,5),(103,6),(104,7),(17,8),(18,9)] (by kernel_rfl) ?_
     refine zf 1 9 ?_;refine lX 2 8 (fun X hX=>let ⟨o,hbl,ho⟩:=vbr14_4.ext hX;⟨o,hbl.range,ho⟩) ?_;refine lX 3 7 (fun X hX=>let ⟨o,hbl,ho⟩:=vbr9_8.ext hX;⟨o,hbl.range,ho⟩) ?_;refine fc 4 6 0 1 2 (fun X hX _ _ h h'=>kE X (hn.out.ext hP0' (hE.trans hX)).fr.ff h h') E_u12.out ?_;refine zf 5 5 ?_;refine lX 6 4 (fun X hX=>let ⟨o,hbl,ho⟩:=vbr7_10.ext hX;⟨o,hbl.range,ho⟩) ?_;refine lX 7 3 (fun X hX=>let ⟨o,hbl,ho⟩:=vbr14_4.ext hX;⟨o,hbl.range,ho⟩) ?_;refine fc 8 2 4 5 6 (fun X hX _ _ h h'=>kE X (hn.out.ext hP0' (hE.trans hX)).fr.ff h h') E_u13.out ?_;refine vB 9 1 ?_;refine vB 10 0 ?_;refine yF ⟨fun f X hX hR hal hap=>?_⟩;obtain ⟨o1,(e1:f 1=_),h1⟩:=hR 1 (by decide);obtain ⟨o2,(e2:f 2=_),h2⟩:=hR 2 (by decide);obtain ⟨o3,(e3:f 3=_),h3⟩:=hR 3 (by decide);obtain ⟨o5,(e5:f 5=_),h5⟩:=hR 5 (by decide);obtain ⟨o6,(e6:f 6=_),h6⟩:=hR 6 (by decide);obtain ⟨o7,(e7:f 7=_),h7⟩:=hR 7 (by decide);obtain ⟨br15_8,(e8:f 8=_),lr15_8,hr15_8⟩:=hR 8 (by decide);obtain ⟨br15_9,(e9:f 9=_),lr15_9,hr15_9⟩:=hR 9 (by decide);have nr15_9_8:br15_9≠br15_8:=fun e=>hap 9 8 (by decide) (by decide) rfl rfl (by decide) (by rw [e9,e8,e]);simp only [yZ,e1,e2,e3,e5,e6,e7,e8,e9];clear hR hal hap e1 e2 e3 e5 e6 e7 e8 e9;refine zg (fun K hK=>⟨zZ (by kernel_rfl) (qo (.tmp 17) (.tmp 100) rfl rfl rfl rfl (hr15_8) vE h3.elt.six (fun Y9_10 hl9_10=>hK.out _ _ ?_))⟩);refine zg (fun K hK=>⟨zZ (by kernel_rfl) (qo (.tmp 18) (.tmp 104) rfl rfl rfl rfl (hl9_10.other nr15_9_8 (hr15_9)) vE h7.elt.six (fun Y9_11 hl9_11=>hK.out _ _ ?_))⟩);refine zU ?_;have d_br6_12_br15_8:br6_12≠br15_8:=by have:=(let ⟨_,h,_⟩:=vbr6_12;h.lt:br6_12<Y8_5.heap.size);omega
     have d_br6_12_br15_9:br6_12≠br15_9:=by have:=(let ⟨_,h,_⟩:=vbr6_12;h.lt:br6_12<Y8_5.heap.size);omega
     replace vbr6_12:=(hl9_11.ve d_br6_12_br15_9 (hl9_10.ve d_br6_12_br15_8 (vbr6_12.ext hX)))
     have d_br6_13_br15_8:br6_13≠br15_8:=by have:=(let ⟨_,h,_⟩:=vbr6_13;h.lt:br6_13<Y8_5.heap.size);omega
     have d_br6_13_br15_9:br6_13≠br15_9:=by have:=(let ⟨_,h,_⟩:=vbr6_13;h.lt:br6_13<Y8_5.heap.size);omega
     replace vbr6_13:=(hl9_11.ve d_br6_13_br15_9 (hl9_10.ve d_br6_13_br15_8 (vbr6_13.ext hX)))
     have d_br7_10_br15_8:br7_10≠br15_8:=by have:=(let ⟨_,h,_⟩:=vbr7_10;h.lt:br7_10<Y8_5.heap.size);omega
     have d_br7_10_br15_9:br7_10≠br15_9:=by have:=(let ⟨_,h,_⟩:=vbr7_10;h.lt:br7_10<Y8_5.heap.size);omega
     replace vbr7_10:=(hl9_11.ve d_br7_10_br15_9 (hl9_10.ve d_br7_10_br15_8 (vbr7_10.ext hX)))
     have d_br7_11_br15_8:br7_11≠br15_8:=by have:=(let ⟨_,h,_⟩:=vbr7_11;h.lt:br7_11<Y8_5.heap.size);omega
     have d_br7_11_br15_9:br7_11≠br15_9:=by have:=(let ⟨_,h,_⟩:=vbr7_11;h.lt:br7_11<Y8_5.heap.size);omega
     replace vbr7_11:=(hl9_11.ve d_br7_11_br15_9 (hl9_10.ve d_br7_11_br15_8 (vbr7_11.ext hX)))
     have d_br8_18_br15_8:br8_18≠br15_8:=by have:=(let ⟨_,h,_⟩:=vbr8_18;h.lt:br8_18<Y8_5.heap.size);omega
     have d_br8_18_br15_9:br8_18≠br15_9:=by have:=(let ⟨_,h,_⟩:=vbr8_18;h.lt:br8_18<Y8_5.heap.size);omega
     replace vbr8_18:=(hl9_11.ve d_br8_18_br15_9 (hl9_10.ve d_br8_18_br15_8 (vbr8_18.ext hX)))
     have d_br8_19_br15_8:br8_19≠br15_8:=by have:=(let ⟨_,h,_⟩:=vbr8_19;h.lt:br8_19<Y8_5.heap.size);omega
     have d_br8_19_br15_9:br8_19≠br15_9:=by have:=(let ⟨_,h,_⟩:=vbr8_19;h.lt:br8_19<Y8_5.heap.size);omega
     replace vbr8_19:=(hl9_11.ve d_br8_19_br15_9 (hl9_10.ve d_br8_19_br15_8 (vbr8_19.ext hX)))
     have d_br9_8_br15_8:br9_8≠br15_8:=by have:=(let ⟨_,h,_⟩:=vbr9_8;h.lt:br9_8<Y8_5.heap.size);omega
     have d_br9_8_br15_9:br9_8≠br15_9:=by have:=(let ⟨_,h,_⟩:=vbr9_8;h.lt:br9_8<Y8_5.heap.size);omega
     replace vbr9_8:=(hl9_11.ve d_br9_8_br15_9 (hl9_10.ve d_br9_8_br15_8 (vbr9_8.ext hX)))
     have d_br9_9_br15_8:br9_9≠br15_8:=by have:=(let ⟨_,h,_⟩:=vbr9_9;h.lt:br9_9<Y8_5.heap.size);omega
     have d_br9_9_br15_9:br9_9≠br15_9:=by have:=(let ⟨_,h,_⟩:=vbr9_9;h.lt:br9_9<Y8_5.heap.size);omega
     replace vbr9_9:=(hl9_11.ve d_br9_9_br15_9 (hl9_10.ve d_br9_9_br15_8 (vbr9_9.ext hX)))
     have d_br14_4_br15_8:br14_4≠br15_8:=by have:=(let ⟨_,h,_⟩:=vbr14_4;h.lt:br14_4<Y8_5.heap.size);omega
     have d_br14_4_br15_9:br14_4≠br15_9:=by have:=(let ⟨_,h,_⟩:=vbr14_4;h.lt:br14_4<Y8_5.heap.size);omega
     replace vbr14_4:=(hl9_11.ve d_br14_4_br15_9 (hl9_10.ve d_br14_4_br15_8 (vbr14_4.ext hX)))
     have vbr15_8:VE Y9_11 M n br15_8 u12:=(hl9_11.ve (ub nr15_9_8) (hl9_10.mk' h3))
     have lb_vbr15_8:=zQ hE.bsize lr15_8;have vbr15_9:VE Y9_11 M n br15_9 u13:=(hl9_11.mk' h7)
     have lb_vbr15_9:=zQ hE.bsize lr15_9;have d_br15_8_br15_9:br15_8≠br15_9:=(ub nr15_9_8)
     have hE':Ext W0 Y9_11:=(hl9_11.ext (hl9_10.ext (hE.trans hX) (zQ hE.bsize lr15_8)) (zQ hE.bsize lr15_9))
     clear hE hX hl9_10 hl9_11 h1 h2 h3 h5 h6 h7;have hE:=hE';clear hE';go_upto_region 16 with fail
     refine z8 (by kernel_rfl) 14 [0,0,0,0,0,28,0,126,0,0,0,2046,4095,0,16383] [13] (fun j f X=>match j with
      | 0=>f 0=.pointer (some ⟨g,0,none⟩)
      | 1=>f 1=.pointer (some ⟨g,0,none⟩)
      | 2=>f 2=.pointer (some ⟨g,0,none⟩)
      | 3=>∃ o,f 3=EV o∧FE M n o u10
      | 4=>∃ o,f 4=EV o∧FE M n o u10
      | 5=>∃ o,f 5=EV o∧FE M n o u14
      | 6=>∃ o,f 6=EV o∧FE M n o u12
      | 7=>∃ o,f 7=EV o∧FE M n o u15
      | 8=>f 8=.pointer (some ⟨g,0,none⟩)
      | 9=>∃ o,f 9=EV o∧FE M n o u13
      | 10=>∃ o,f 10=EV o∧FE M n o u13
      | 11=>∃ o,f 11=EV o∧FE M n o u16
      | 12=>∃ o,f 12=EV o∧FE M n o u17
      | 13=>∃ b,f 13=.pointer (some ⟨b,0,none⟩)∧Y9_11.heap.size≤b∧X.heap[b]?=some (.cells #[.int .u64 0,.int .u64 0,.int .u64 0,.int .u64 0,.int .u64 0,.int .u64 0] 147 (0,0))
      | _=>True) (by kernel_rfl) [(105,0),(106,1),(107,2),(108,3),(109,4),(110,5),(111,6),(112,7),(113,8),(114,9),(115,10),(116,11),(117,12),(19,13)] (by kernel_rfl) ?_
     refine zf 1 13 ?_;refine zf 2 12 ?_;refine zf 3 11 ?_;refine lX 4 10 (fun X hX=>let ⟨o,hbl,ho⟩:=vbr9_9.ext hX;⟨o,hbl.range,ho⟩) ?_;refine lX 5 9 (fun X hX=>let ⟨o,hbl,ho⟩:=vbr9_9.ext hX;⟨o,hbl.range,ho⟩) ?_;refine fc 6 8 2 3 4 (fun X hX _ _ h h'=>kE X (hn.out.ext hP0' (hE.trans hX)).fr.ff h h') E_u14.out ?_;refine lX 7 7 (fun X hX=>let ⟨o,hbl,ho⟩:=vbr15_8.ext hX;⟨o,hbl.range,ho⟩) ?_;refine fc 8 6 1 5 6 (fun X hX _ _ h h'=>xx X (hn.out.ext hP0' (hE.trans hX)).fr.ff h h') E_u15.out ?_;refine zf 9 5 ?_;refine lX 10 4 (fun X hX=>let ⟨o,hbl,ho⟩:=vbr15_9.ext hX;⟨o,hbl.range,ho⟩) ?_;refine lX 11 3 (fun X hX=>let ⟨o,hbl,ho⟩:=vbr15_9.ext hX;⟨o,hbl.range,ho⟩) ?_;refine fc 12 2 8 9 10 (fun X hX _ _ h h'=>uN X (hn.out.ext hP0' (hE.trans hX)).fr.ff h h') E_u16.out ?_;refine fc 13 1 0 7 11 (fun X hX _ _ h h'=>xx X (hn.out.ext hP0' (hE.trans hX)).fr.ff h h') E_u17.out ?_;refine vB 14 0 ?_;refine yF ⟨fun f X hX hR hal hap=>?_⟩;obtain ⟨o3,(e3:f 3=_),h3⟩:=hR 3 (by decide);obtain ⟨o4,(e4:f 4=_),h4⟩:=hR 4 (by decide);obtain ⟨o5,(e5:f 5=_),h5⟩:=hR 5 (by decide);obtain ⟨o6,(e6:f 6=_),h6⟩:=hR 6 (by decide);obtain ⟨o7,(e7:f 7=_),h7⟩:=hR 7 (by decide);obtain ⟨o9,(e9:f 9=_),h9⟩:=hR 9 (by decide);obtain ⟨o10,(e10:f 10=_),h10⟩:=hR 10 (by decide);obtain ⟨o11,(e11:f 11=_),h11⟩:=hR 11 (by decide);obtain ⟨o12,(e12:f 12=_),h12⟩:=hR 12 (by decide);obtain ⟨br16_13,(e13:f 13=_),lr16_13,hr16_13⟩:=hR 13 (by decide);simp only [yZ,e3,e4,e5,e6,e7,e9,e10,e11,e12,e13];clear hR hal hap e3 e4 e5 e6 e7 e9 e10 e11 e12 e13;refine zg (fun K hK=>⟨zZ (by kernel_rfl) (qo (.tmp 19) (.tmp 117) rfl rfl rfl rfl (hr16_13) vE h12.elt.six (fun Y10_14 hl10_14=>hK.out _ _ ?_))⟩);refine zU ?_;have d_br6_12_br16_13:br6_12≠br16_13:=by have:=(let ⟨_,h,_⟩:=vbr6_12;h.lt:br6_12<Y9_11.heap.size);omega
     replace vbr6_12:=(hl10_14.ve d_br6_12_br16_13 (vbr6_12.ext hX))
     have d_br6_13_br16_13:br6_13≠br16_13:=by have:=(let ⟨_,h,_⟩:=vbr6_13;h.lt:br6_13<Y9_11.heap.size);omega
     replace vbr6_13:=(hl10_14.ve d_br6_13_br16_13 (vbr6_13.ext hX))
     have d_br7_10_br16_13:br7_10≠br16_13:=by have:=(let ⟨_,h,_⟩:=vbr7_10;h.lt:br7_10<Y9_11.heap.size);omega
     replace vbr7_10:=(hl10_14.ve d_br7_10_br16_13 (vbr7_10.ext hX))
     have d_br7_11_br16_13:br7_11≠br16_13:=by have:=(let ⟨_,h,_⟩:=vbr7_11;h.lt:br7_11<Y9_11.heap.size);omega
     replace vbr7_11:=(hl10_14.ve d_br7_11_br16_13 (vbr7_11.ext hX))
     have d_br8_18_br16_13:br8_18≠br16_13:=by have:=(let ⟨_,h,_⟩:=vbr8_18;h.lt:br8_18<Y9_11.heap.size);omega
     replace vbr8_18:=(hl10_14.ve d_br8_18_br16_13 (vbr8_18.ext hX))
     have d_br8_19_br16_13:br8_19≠br16_13:=by have:=(let ⟨_,h,_⟩:=vbr8_19;h.lt:br8_19<Y9_11.heap.size);omega
     replace vbr8_19:=(hl10_14.ve d_br8_19_br16_13 (vbr8_19.ext hX))
     have d_br9_8_br16_13:br9_8≠br16_13:=by have:=(let ⟨_,h,_⟩:=vbr9_8;h.lt:br9_8<Y9_11.heap.size);omega
     replace vbr9_8:=(hl10_14.ve d_br9_8_br16_13 (vbr9_8.ext hX))
     have d_br9_9_br16_13:br9_9≠br16_13:=by have:=(let ⟨_,h,_⟩:=vbr9_9;h.lt:br9_9<Y9_11.heap.size);omega
     replace vbr9_9:=(hl10_14.ve d_br9_9_br16_13 (vbr9_9.ext hX))
     have d_br14_4_br16_13:br14_4≠br16_13:=by have:=(let ⟨_,h,_⟩:=vbr14_4;h.lt:br14_4<Y9_11.heap.size);omega
     replace vbr14_4:=(hl10_14.ve d_br14_4_br16_13 (vbr14_4.ext hX))
     have d_br15_8_br16_13:br15_8≠br16_13:=by have:=(let ⟨_,h,_⟩:=vbr15_8;h.lt:br15_8<Y9_11.heap.size);omega
     replace vbr15_8:=(hl10_14.ve d_br15_8_br16_13 (vbr15_8.ext hX))
     have d_br15_9_br16_13:br15_9≠br16_13:=by have:=(let ⟨_,h,_⟩:=vbr15_9;h.lt:br15_9<Y9_11.heap.size);omega
     replace vbr15_9:=(hl10_14.ve d_br15_9_br16_13 (vbr15_9.ext hX))
     have vbr16_13:VE Y10_14 M n br16_13 u17:=(hl10_14.mk' h12)
     have lb_vbr16_13:=zQ hE.bsize lr16_13;have hE':Ext W0 Y10_14:=(hl10_14.ext (hE.trans hX) (zQ hE.bsize lr16_13))
     clear hE hX hl10_14 h3 h4 h5 h6 h7 h9 h10 h11 h12;have hE:=hE';clear hE';go_upto_region 17 with fail
     refine z8 (by kernel_rfl) 14 [0,0,0,0,0,0,56,126,0,0,0,2046,4095,0,16383] [13] (fun j f X=>match j with
      | 0=>f 0=.pointer (some ⟨g,0,none⟩)
      | 1=>f 1=.pointer (some ⟨g,0,none⟩)
      | 2=>∃ o,f 2=EV o∧FE M n o u10
      | 3=>f 3=.pointer (some ⟨g,0,none⟩)
      | 4=>∃ o,f 4=EV o∧FE M n o u13
      | 5=>∃ o,f 5=EV o∧FE M n o u17
      | 6=>∃ o,f 6=EV o∧FE M n o u18
      | 7=>∃ o,f 7=EV o∧FE M n o u19
      | 8=>f 8=.pointer (some ⟨g,0,none⟩)
      | 9=>∃ o,f 9=EV o∧FE M n o u6
      | 10=>∃ o,f 10=EV o∧FE M n o u12
      | 11=>∃ o,f 11=EV o∧FE M n o u20
      | 12=>∃ o,f 12=EV o∧FE M n o u21
      | 13=>∃ b,f 13=.pointer (some ⟨b,0,none⟩)∧Y10_14.heap.size≤b∧X.heap[b]?=some (.cells #[.int .u64 0,.int .u64 0,.int .u64 0,.int .u64 0,.int .u64 0,.int .u64 0] 147 (0,0))
      | _=>True) (by kernel_rfl) [(118,0),(119,1),(120,2),(121,3),(122,4),(123,5),(124,6),(125,7),(126,8),(127,9),(128,10),(129,11),(130,12),(20,13)] (by kernel_rfl) ?_
     refine zf 1 13 ?_;refine zf 2 12 ?_;refine lX 3 11 (fun X hX=>let ⟨o,hbl,ho⟩:=vbr9_9.ext hX;⟨o,hbl.range,ho⟩) ?_;refine zf 4 10 ?_;refine lX 5 9 (fun X hX=>let ⟨o,hbl,ho⟩:=vbr15_9.ext hX;⟨o,hbl.range,ho⟩) ?_;refine lX 6 8 (fun X hX=>let ⟨o,hbl,ho⟩:=vbr16_13.ext hX;⟨o,hbl.range,ho⟩) ?_;refine fc 7 7 3 4 5 (fun X hX _ _ h h'=>xx X (hn.out.ext hP0' (hE.trans hX)).fr.ff h h') E_u18.out ?_;refine fc 8 6 1 2 6 (fun X hX _ _ h h'=>kE X (hn.out.ext hP0' (hE.trans hX)).fr.ff h h') E_u19.out ?_;refine zf 9 5 ?_;refine lX 10 4 (fun X hX=>let ⟨o,hbl,ho⟩:=vbr8_18.ext hX;⟨o,hbl.range,ho⟩) ?_;refine lX 11 3 (fun X hX=>let ⟨o,hbl,ho⟩:=vbr15_8.ext hX;⟨o,hbl.range,ho⟩) ?_;refine fc 12 2 8 9 10 (fun X hX _ _ h h'=>kE X (hn.out.ext hP0' (hE.trans hX)).fr.ff h h') E_u20.out ?_;refine fc 13 1 0 7 11 (fun X hX _ _ h h'=>xx X (hn.out.ext hP0' (hE.trans hX)).fr.ff h h') E_u21.out ?_;refine vB 14 0 ?_;refine yF ⟨fun f X hX hR hal hap=>?_⟩;obtain ⟨o2,(e2:f 2=_),h2⟩:=hR 2 (by decide);obtain ⟨o4,(e4:f 4=_),h4⟩:=hR 4 (by decide);obtain ⟨o5,(e5:f 5=_),h5⟩:=hR 5 (by decide);obtain ⟨o6,(e6:f 6=_),h6⟩:=hR 6 (by decide);obtain ⟨o7,(e7:f 7=_),h7⟩:=hR 7 (by decide);obtain ⟨o9,(e9:f 9=_),h9⟩:=hR 9 (by decide);obtain ⟨o10,(e10:f 10=_),h10⟩:=hR 10 (by decide);obtain ⟨o11,(e11:f 11=_),h11⟩:=hR 11 (by decide);obtain ⟨o12,(e12:f 12=_),h12⟩:=hR 12 (by decide);obtain ⟨br17_13,(e13:f 13=_),lr17_13,hr17_13⟩:=hR 13 (by decide);simp only [yZ,e2,e4,e5,e6,e7,e9,e10,e11,e12,e13];clear hR hal hap e2 e4 e5 e6 e7 e9 e10 e11 e12 e13;refine zg (fun K hK=>⟨zZ (by kernel_rfl) (qo (.tmp 20) (.tmp 130) rfl rfl rfl rfl (hr17_13) vE h12.elt.six (fun Y11_14 hl11_14=>hK.out _ _ ?_))⟩);refine zU ?_;have d_br6_12_br17_13:br6_12≠br17_13:=by have:=(let ⟨_,h,_⟩:=vbr6_12;h.lt:br6_12<Y10_14.heap.size);omega
     replace vbr6_12:=(hl11_14.ve d_br6_12_br17_13 (vbr6_12.ext hX))
     have d_br6_13_br17_13:br6_13≠br17_13:=by have:=(let ⟨_,h,_⟩:=vbr6_13;h.lt:br6_13<Y10_14.heap.size);omega
     replace vbr6_13:=(hl11_14.ve d_br6_13_br17_13 (vbr6_13.ext hX))
     have d_br7_10_br17_13:br7_10≠br17_13:=by have:=(let ⟨_,h,_⟩:=vbr7_10;h.lt:br7_10<Y10_14.heap.size);omega
     replace vbr7_10:=(hl11_14.ve d_br7_10_br17_13 (vbr7_10.ext hX))
     have d_br7_11_br17_13:br7_11≠br17_13:=by have:=(let ⟨_,h,_⟩:=vbr7_11;h.lt:br7_11<Y10_14.heap.size);omega
     replace vbr7_11:=(hl11_14.ve d_br7_11_br17_13 (vbr7_11.ext hX))
     have d_br8_18_br17_13:br8_18≠br17_13:=by have:=(let ⟨_,h,_⟩:=vbr8_18;h.lt:br8_18<Y10_14.heap.size);omega
     replace vbr8_18:=(hl11_14.ve d_br8_18_br17_13 (vbr8_18.ext hX))
     have d_br8_19_br17_13:br8_19≠br17_13:=by have:=(let ⟨_,h,_⟩:=vbr8_19;h.lt:br8_19<Y10_14.heap.size);omega
     replace vbr8_19:=(hl11_14.ve d_br8_19_br17_13 (vbr8_19.ext hX))
     have d_br9_8_br17_13:br9_8≠br17_13:=by have:=(let ⟨_,h,_⟩:=vbr9_8;h.lt:br9_8<Y10_14.heap.size);omega
     replace vbr9_8:=(hl11_14.ve d_br9_8_br17_13 (vbr9_8.ext hX))
     have d_br9_9_br17_13:br9_9≠br17_13:=by have:=(let ⟨_,h,_⟩:=vbr9_9;h.lt:br9_9<Y10_14.heap.size);omega
     replace vbr9_9:=(hl11_14.ve d_br9_9_br17_13 (vbr9_9.ext hX))
     have d_br14_4_br17_13:br14_4≠br17_13:=by have:=(let ⟨_,h,_⟩:=vbr14_4;h.lt:br14_4<Y10_14.heap.size);omega
     replace vbr14_4:=(hl11_14.ve d_br14_4_br17_13 (vbr14_4.ext hX))
     have d_br15_8_br17_13:br15_8≠br17_13:=by have:=(let ⟨_,h,_⟩:=vbr15_8;h.lt:br15_8<Y10_14.heap.size);omega
     replace vbr15_8:=(hl11_14.ve d_br15_8_br17_13 (vbr15_8.ext hX))
     have d_br15_9_br17_13:br15_9≠br17_13:=by have:=(let ⟨_,h,_⟩:=vbr15_9;h.lt:br15_9<Y10_14.heap.size);omega
     replace vbr15_9:=(hl11_14.ve d_br15_9_br17_13 (vbr15_9.ext hX))
     have d_br16_13_br17_13:br16_13≠br17_13:=by have:=(let ⟨_,h,_⟩:=vbr16_13;h.lt:br16_13<Y10_14.heap.size);omega
     replace vbr16_13:=(hl11_14.ve d_br16_13_br17_13 (vbr16_13.ext hX))
     have vbr17_13:VE Y11_14 M n br17_13 u21:=(hl11_14.mk' h12)
     have lb_vbr17_13:=zQ hE.bsize lr17_13;have hE':Ext W0 Y11_14:=(hl11_14.ext (hE.trans hX) (zQ hE.bsize lr17_13))
     clear hE hX hl11_14 h2 h4 h5 h6 h7 h9 h10 h11 h12;have hE:=hE';clear hE';have hb1:=hE.at_ hrb;go_upto_region 18 with fail
     refine z8 (by kernel_rfl) 12 [0,0,0,0,0,0,32,0,128,496,1020,2047,4095] [] (fun j f X=>match j with
      | 0=>∃ o,f 0=EV o∧FE M n o u17
      | 1=>∃ o,f 1=EV o∧FE M n o u21
      | 2=>f 2=.pointer (some ⟨g,0,none⟩)
      | 3=>∃ o,f 3=EV o∧FE M n o u9
      | 4=>f 4=.pointer (some ⟨g,0,none⟩)
      | 5=>f 5=.pointer (some ⟨q,12,none⟩)
      | 6=>∃ o,f 6=EV o∧FE M n o z1
      | 7=>f 7=.pointer (some ⟨q+1,12,none⟩)
      | 8=>∃ o,f 8=EV o∧FE M n o z2
      | 9=>∃ o,f 9=EV o∧FE M n o u22
      | 10=>∃ o,f 10=EV o∧FE M n o u23
      | 11=>∃ ox oy oz,f 11=JV ox oy oz∧FJ M n ox oy oz u17 u21 u23
      | _=>True) (by kernel_rfl) [(131,0),(132,1),(133,2),(134,3),(135,4),(136,5),(137,6),(138,7),(139,8),(140,9),(141,10),(142,11)] (by kernel_rfl) ?_
     refine lX 1 11 (fun X hX=>let ⟨o,hbl,ho⟩:=vbr16_13.ext hX;⟨o,hbl.range,ho⟩) ?_;refine lX 2 10 (fun X hX=>let ⟨o,hbl,ho⟩:=vbr17_13.ext hX;⟨o,hbl.range,ho⟩) ?_;refine zf 3 9 ?_;refine lX 4 8 (fun X hX=>let ⟨o,hbl,ho⟩:=vbr9_8.ext hX;⟨o,hbl.range,ho⟩) ?_;refine zf 5 7 ?_;refine zf 6 6 ?_;refine lE 7 5 5 (fun _ hX=>xG ((hE.trans hX).at_ hp1) hJ1.out.x.elt.six hJ1.out.y.elt.six) hJ1.out.z ?_;refine zf 8 4 ?_;refine lE 9 3 7 (fun _ hX=>xG ((hE.trans hX).at_ hp2) hJ2.out.x.elt.six hJ2.out.y.elt.six) hJ2.out.z ?_;refine fc 10 2 4 6 8 (fun X hX _ _ h h'=>kE X (hn.out.ext hP0' (hE.trans hX)).fr.ff h h') E_u22.out ?_;refine fc 11 1 2 3 9 (fun X hX _ _ h h'=>kE X (hn.out.ext hP0' (hE.trans hX)).fr.ff h h') E_u23.out ?_;refine qH 12 0 [(131,0),(132,1),(133,2),(134,3),(135,4),(136,5),(137,6),(138,7),(139,8),(140,9),(141,10)] (fun f X hX hR K hK=>?_) ?_
     · obtain ⟨o0,(e0:f 0=_),h0⟩:=hR.out 0 rfl;obtain ⟨o1,(e1:f 1=_),h1⟩:=hR.out 1 rfl;obtain ⟨o10,(e10:f 10=_),h10⟩:=hR.out 10 rfl;simp only [yZ,e0,e1,e10];refine ⟨zZ (by kernel_rfl) (gb (x:=o0) (y:=o1) (z:=o10) (.tmp 131) (.tmp 132) (.tmp 141) rfl rfl rfl rfl h0.elt.six h1.elt.six h10.elt.six ?_)⟩;exact hK.out _ (JV o0 o1 o10) _ (by simp only [yZ,e0,e1,e10]) (zy _) trivial (fun _ _=>⟨o0,o1,o10,rfl,⟨h0,h1,h10⟩⟩)
     refine yF ⟨fun f X hX hR hal hap=>?_⟩;obtain ⟨o0,(e0:f 0=_),h0⟩:=hR 0 (by decide);obtain ⟨o1,(e1:f 1=_),h1⟩:=hR 1 (by decide);obtain ⟨o3,(e3:f 3=_),h3⟩:=hR 3 (by decide);obtain ⟨o6,(e6:f 6=_),h6⟩:=hR 6 (by decide);obtain ⟨o8,(e8:f 8=_),h8⟩:=hR 8 (by decide);obtain ⟨o9,(e9:f 9=_),h9⟩:=hR 9 (by decide);obtain ⟨o10,(e10:f 10=_),h10⟩:=hR 10 (by decide);obtain ⟨ox,oy,oz,(e11:f 11=_),f11⟩:=hR 11 (by decide);simp only [yZ,e0,e1,e3,e6,e8,e9,e10,e11];clear hR hal hap e0 e1 e3 e6 e8 e9 e10 e11;refine zg (fun K hK=>⟨zZ (by kernel_rfl) (vS (x:=ox) (y:=oy) (z:=oz) (.tmp 6) (.tmp 142) rfl rfl rfl rfl (hX.at_ hb1) rfl f11.x.elt.six f11.y.elt.six f11.z.elt.six (fun Y hY1 hY2 hY3=>hK.out _ _ ?_))⟩);refine zU ?_;go_wp2;exact dY rfl rfl rfl hY1 f11.x.elt.six f11.y.elt.six f11.z.elt.six ⟨_,_,_,rfl,f11,hY2.ext (HE0.out.trans (hE.trans hX)) (by have:=Hq.out;omega)⟩
end Go.Proofs.YtmlbicgpehchhaaGreat
namespace Go.Proofs.YtmlbicgpehchhaaGreat
open Go.RowKit Go.Shelf
attribute [local go_sem] Oper.semAt_some
def vP (E k:Nat):Nat:=E / 2 ^ (zo E - k)
theorem nD (E:Nat):vP E 0=0:=by rw [vP,Nat.sub_zero];exact qn (jw (zH _))
theorem pM (E:Nat):vP E (zo E)=E:=by rw [vP,Nat.sub_self,kl,Nat.div_one]
theorem dN {E k:Nat}(hk:k<zo E):vP E (k+1)=2*vP E k+(kz E k).2:=by
 rw [vP,vP,kz,show zo E - k=(zo E - (k+1))+1 by omega,show zo E - 1 - k=zo E - (k+1) by omega,zu,←jd];have:=vi (E / 2 ^ (zo E - (k+1))) 2;omega
theorem te {x E k:Nat}(hk:k<zo E) (hb:(kz E k).2=0):x ^ vP E (k+1)=x ^ vP E k*x ^ vP E k:=by
 rw [dN hk,hb,qu,Nat.two_mul,qI]
theorem sL {x E k:Nat}(hk:k<zo E) (hb:(kz E k).2=1):x ^ vP E (k+1)=x ^ vP E k*x ^ vP E k*x:=by
 rw [dN hk,hb,zu,Nat.two_mul,qI]
theorem jP.just {B C g:Nat}{X Y:World}{cs:Array Value}{t:TypeId}{fr:Nat×Nat}(h:kj g X Y) (hg:X.heap[g]?=some (.cells cs t fr)):jP B C 0 X Y :=
 ⟨h.size, fun k o _ hk ho => by
  by_cases hkg:k=g
  · subst hkg
    rw [hg] at hk
    cases hk
    cases ho
  · exact (h.block k (qw hk) hkg).trans hk,fun k h1 h2=>absurd h2 (by omega)⟩
theorem kj.stay {g lo hi:Nat}{X Y:World}(h:kj g X Y) (hg:g<lo) (hi':hi≤X.heap.size):xz lo hi X Y:=⟨h.size,fun k h1 h2=>h.block k (by omega) (by omega)⟩
theorem Ext.stay {lo hi:Nat}{X Y:World}(h:Ext X Y) (hi':hi≤X.heap.size):xz lo hi X Y:=⟨h.bsize,fun k _ h2=>Below.block h k (by omega)⟩
theorem zBR (w:World) (o1 o2 o3:Obj):(((w.alloc o1).alloc o2).alloc o3).heap[w.heap.size]?=some o1∧(((w.alloc o1).alloc o2).alloc o3).heap[w.heap.size+1]?=some o2∧(((w.alloc o1).alloc o2).alloc o3).heap[w.heap.size+2]?=some o3∧(((w.alloc o1).alloc o2).alloc o3).heap.size=w.heap.size+3:=by
 have h1:=zP (w.alloc o1) o2;have h2:=zP ((w.alloc o1).alloc o2) o3;rw [qL] at h1 h2;rw [qL] at h2;exact ⟨(zb _ _).at_ ((zb _ _).at_ (zP w o1)),(zb _ _).at_ h1,h2,by simp⟩
theorem tf {g n inv M:Nat}{ml ol rl la:List Nat}(w:World) (hF:FR w g n inv M ml ol rl) (hone:FE M n ol 1) (x E:Nat) (ha:FE M n la x) (Pe:Nat→Prop) (Ae:Option Addr) (ce:Nat) (e:List Nat) (he:RN w Pe Ae ce e) (hPe:∀ b,Pe b→b<w.heap.size) (hE:val 18446744073709551616 e=E) :
 Calls Tryz.prog 180 #[.pointer (some ⟨g,0,none⟩),EV la,.slice Ae e.length ce] w fun e w'=>∃ o,e=.returned (EV o)∧FE M n o (x ^ E)∧Ext w w':=by
 obtain ⟨W0,hW0⟩:=eW (((w.alloc (.cells #[.pointer (some ⟨g,0,none⟩)] 145)).alloc (.cells (nts la).toArray 147)).alloc (.cells #[.int .u64 0,.int .u64 0,.int .u64 0,.int .u64 0,.int .u64 0,.int .u64 0] 147))
 obtain ⟨s,hs⟩:=eV w.heap.size
 have hE0:Ext w W0:=by rw [hW0];exact ((zb _ _).trans (zb _ _)).trans (zb _ _)
 obtain ⟨m0,m1,m2,hz0⟩:=zBR w (.cells #[.pointer (some ⟨g,0,none⟩)] 145) (.cells (nts la).toArray 147) (.cells #[.int .u64 0,.int .u64 0,.int .u64 0,.int .u64 0,.int .u64 0,.int .u64 0] 147)
 rw [←hW0,hs] at m0 m1 m2 hz0
 have hg:=hF.ff.fld.lt
 have c0:W0.cell? ⟨s,0,none⟩=some (.pointer (some ⟨g,0,none⟩)):=zJ m0 0
 have hFR:=zF (fun X (h:Ext w X)=>hF.below h hg)
 have HE0:=zF hE0
 have Hz0:=zF hz0
 have Hs:=zF hs
 obtain ⟨cs,hcs⟩:=eV ((nts la).toArray)
 have hA:xE W0 (s+1) la:=m1
 rw [show EV la=.agg cs by rw [EV,hcs]]
 rw [hcs] at hW0
 have Hcs:=zF hcs
 clear hcs m0 m1 hE0 hz0
 refine (callsIn_wide (n:=6)).1 ?_
 refine callsIn_of_wp_marks Tryz.func180 rfl trivial ?_ rfl
 simp only [Tryz.ntmps180,jF,qh,jI,Nat.reduceAdd,Nat.reduceSub,wt,ws,yx,xI,kI,kN]
 refine wpIn_wide.2 ?_
 go_upto_region 1 with fail
 rw [←hW0]
 have HW0:=zF hW0
 clear hW0 hs
 refine qQ 5 [0,1,3,7,0,31] [4] (fun j f X=>match j with
  | 0=>f 0=.pointer (some ⟨g,0,none⟩)
  | 1=>f 1=.pointer (some ⟨g,0,none⟩)
  | 2=>f 2=.pointer (some ⟨g,8,none⟩)
  | 3=>f 3=EV ol
  | 4=>∃ b,f 4=.pointer (some ⟨b,0,none⟩)∧W0.heap.size≤b∧X.heap[b]?=some (.cells #[.int .u64 0,.int .u64 0,.int .u64 0,.int .u64 0,.int .u64 0,.int .u64 0] 147 (0,0))
  | _=>True) (by kernel_rfl) [(10,0),(11,1),(12,2),(13,3),(7,4)] (by kernel_rfl) ?_
 refine Par.ld0 1 4 c0 ?_
 refine qM 2 3 0 ?_
 refine qM 3 2 1 ?_
 refine qH 4 1 [(10,0),(11,1),(12,2),(7,4)] (fun f X hX hR K hK=>?_) ?_
 · have e2:f 2=_:=hR.out 2 rfl;simp only [yZ,e2];refine ⟨zZ (by kernel_rfl) (vF (.tmp 12) rfl rfl (hFR.out X (HE0.out.trans hX)).r_one hone.elt.six ?_)⟩;exact hK.out _ (EV ol) _ (by simp only [yZ,e2]) (zy _) trivial (fun _ _=>rfl)
 refine vB 5 0 ?_
 refine yF ⟨fun f X hX hR hal hap=>?_⟩
 have e3:f 3=_:=hR 3 (by decide)
 obtain ⟨b4,(e4:f 4=_),l4,h4⟩:=hR 4 (by decide)
 simp only [yZ,e3,e4]
 clear hR hal hap e3 e4
 refine zg (fun K hK=>⟨zZ (by kernel_rfl) (qo (.tmp 7) (.tmp 13) rfl rfl rfl rfl h4 vE hone.elt.six (fun Y1 hl1=>hK.out _ _ ?_))⟩)
 refine zU ?_
 have hEq:Ext W0 Y1:=hl1.ext hX (by have:=l4;omega)
 have zq:s+3≤b4:=by have:=Hz0.out;omega
 have zq2:b4<Y1.heap.size:=hl1.blk.lt
 have c1:=hEq.cell c0
 have hA1:xE Y1 (s+1) la:=hEq.at_ hA
 have hq0:xE Y1 b4 ol:=hl1.blk
 have m3:=hEq.at_ m2
 have hEw:=HE0.out.trans hEq
 have heach:=bU Pe Ae ce e Y1 (he.below hEw hPe) (fun b hb=>zR (hPe b hb) hEw.bsize)
 rw [hE] at heach
 have Heach:=zF heach
 clear heach hl1 l4 h4 hX m2 hA c0
 go_wp2_with (go_at_call 141;refine Heach.out.mono ?_;rintro e' w3 ⟨Ae',ce',rfl,be,hOe,hB3⟩)
 obtain ⟨t,ht⟩:=eV Y1.heap.size
 rw [ht] at be hOe hB3 zq2
 have zn:t<w3.heap.size:=qw be
 have hbe:=zJ be 0
 simp only [zK,zL] at hbe
 have hseq:=bT t t w3.heap.size (In t w3.heap.size) Ae' ce' (digs 18446744073709551616 E) w3 (fun b hb=>hb) (zH _) zn (zH _) hbe hOe.rn
 rw [zc (by omega)] at hseq
 have Hseq:=zF hseq
 have hE3:Ext Y1 w3:=by rw [←ht] at hB3;exact hB3
 have hEw3:=hEw.trans hE3
 have c3:=hE3.cell c1
 have hA3:xE w3 (s+1) la:=hE3.at_ hA1
 have hq3:xE w3 b4 ol:=hE3.at_ hq0
 have m4:=hE3.at_ m3
 have hI0:VE w3 M n b4 (x ^ vP E 0):=⟨ol,hq3,by rw [nD,kl];exact hone⟩
 have hFR3:=zF (fun X (h:Below b4 w3 X)=>(hFR.out w3 hEw3).below h (by have:=Hs.out;omega))
 clear hseq Heach hbe be hOe hB3 hE3 c1 hA1 hq0 m3 hEq
 have hInv:OwnFrom w3.heap.size (fun (k:Nat) X=>VE X M n b4 (x ^ vP E k)∧Below b4 w3 X):=by
  rintro k X X' row ⟨⟨l,h1,h2⟩,h5⟩ hg' hr;have hr':=fun r e=>(hr r e).2;exact ⟨⟨l,(yK hg' hr' h1 rfl).trans h1,h2⟩,ownFrom_below (by omega) (by omega) k X X' row h5 hg' hr⟩
 refine (wpIn_wide (n:=6)).1 ?_
 refine' dB (by omega) (gf:=179) (lb:=#[.pointer (some ⟨t,0,none⟩)]) (by rw [←ht];rfl) (enters_of Tryz.func179 (by kernel_rfl) rfl)
  Hseq.out (fun h k=>xz.trans h k) (fun X l o o' hl ho _ _=>⟨by simp,fun i _ hi=>qY (by omega)⟩) yM (zO _ _) (fun _=>rfl)
  (fun k X=>VE X M n b4 (x ^ vP E k)∧Below b4 w3 X) (fun k X=>VE X M n b4 (x ^ vP E k)∧Below b4 w3 X) (fun _ _ _=>False)
  hInv hInv (fun _ _ _ _ _ h=>h.elim) (fun _ _ _ _=>trivial) (fun B k A C _ _ hi ht=>?hIT) (fun h=>by cases h) ⟨hI0,zO _ _⟩ _ ?assign ?body ?done ?stop
 case hIT=>exact xV (I:=fun k X=>VE X M n b4 (x ^ vP E k)∧Below b4 w3 X) (B:=w3.heap.size) hInv hi ht
 case assign =>
  intro l k X K hK;gi_wp2;exact hK
 case body =>
  rintro l k V ⟨⟨lo,hl,hf⟩,h5⟩ hlt _;have zV:=h5.size;have hq:b4<V.heap.size:=hl.lt;have cV:V.cell? ⟨s,0,none⟩=some (.pointer (some ⟨g,0,none⟩)):=(h5.cell (p:=⟨s,0,none⟩) (by show s<b4;omega)).trans c3;have hAV:xE V (s+1) la:=(h5.block (s+1) (by omega)).trans hA3;have hH:=zF hf;have hbit:(kz E k).2=0∨(kz E k).2=1:=by
   have:(kz E k).2<2:=qP _ (by omega);omega
  obtain ⟨bt,hbt⟩:=eV ((kz E k).2);rw [hbt] at hbit ⊢;have Hbt:=zF hbt;have Hbit:=zF hbit;have H5:=zF h5;obtain ⟨v,hv⟩:=eV (x ^ vP E k);rw [hv] at hH hf;have Hv:=zF hv;have HlV:=zF hl;clear hv hbt hbit hf h5;gi_upto_region 4 with fail
  refine Par.uI 4 [0,0,0,7,15] [] (fun j f X=>match j with
   | 0=>f 0=.pointer (some ⟨g,0,none⟩)
   | 1=>f 1=EV lo
   | 2=>f 2=EV lo
   | 3=>∃ o,f 3=EV o∧FE M n o (v*v)
   | _=>True) (by kernel_rfl) [(18,0),(19,1),(20,2),(21,3)] (by kernel_rfl) (by kernel_rfl) ?_
  refine qH 1 3 [(19,1),(20,2)] (fun f X hX hR K hK=>?_) ?_
  · have x0:=hX.cell cV;simp only [yZ];refine ⟨?_⟩;go_simp;exact jA hK (s:=by simp only [yZ])
  refine qH 2 2 [(18,0),(20,2)] (fun f X hX hR K hK=>?_) ?_
  · simp only [yZ];refine ⟨zZ (by kernel_rfl) (vF (.tmp 7) rfl rfl (xE.range (hX.at_ hl)) hH.out.elt.six ?_)⟩;exact hK.out _ (EV lo) _ (by simp only [yZ]) (zy _) trivial (fun _ _=>rfl)
  refine qH 3 1 [(18,0),(19,1)] (fun f X hX hR K hK=>?_) ?_
  · simp only [yZ];refine ⟨zZ (by kernel_rfl) (vF (.tmp 7) rfl rfl (xE.range (hX.at_ hl)) hH.out.elt.six ?_)⟩;exact hK.out _ (EV lo) _ (by simp only [yZ]) (zy _) trivial (fun _ _=>rfl)
  refine qH 4 0 [(18,0),(19,1),(20,2)] (fun f X hX hR K hK=>?_) ?_
  · have e0:f 0=_:=hR.out 0 rfl;have e1:f 1=_:=hR.out 1 rfl;have e2:f 2=_:=hR.out 2 rfl;simp only [yZ,e0,e1,e2];refine ⟨?_⟩;go_simp;refine (uX X (hFR3.out X (H5.out.trans (Below.mono hX (by omega)))).ff hH.out hH.out).mono ?_;rintro e w2 ⟨o,rfl,ho,hB⟩;exact hK.out _ (EV o) _ (by simp only [yZ,e0,e1,e2]) hB trivial (fun Y hY=>⟨o,rfl,ho⟩)
  refine yF ⟨fun f X hX hR hal hap=>?_⟩;have e0:f 0=_:=hR 0 (by decide);have e1:f 1=_:=hR 1 (by decide);have e2:f 2=_:=hR 2 (by decide);obtain ⟨o3,(e3:f 3=_),h3⟩:=hR 3 (by decide);simp only [yZ,e0,e1,e2,e3];clear hR hal hap e0 e1 e2 e3;refine zg (fun K hK=>⟨zZ (by kernel_rfl) (qo (.tmp 7) (.tmp 21) rfl rfl rfl rfl (hX.at_ hl) (by rw [qj];exact hH.out.elt.six) h3.elt.six (fun Y1 hl1=>hK.out _ _ ?_))⟩);refine zU ?_;refine ⟨nofun,?_⟩;have hK1:jP w3.heap.size (w3.heap.size+2) 0 V Y1:=(jP.below hX (zH _)).trans (jP.just hl1.just (hX.at_ hl));have hS1:xz t w3.heap.size V Y1:=xz.trans (hX.stay zV) (hl1.just.stay zq2 (zQ zV hX.bsize));have hB1:Below b4 w3 Y1:=(H5.out.trans (Below.mono hX (by omega))).trans (hl1.just.below (zH _) (by have:=hX.bsize;omega));have hy1:xE Y1 b4 o3:=hl1.blk;have zY:=hB1.size;have hq1:b4<Y1.heap.size:=hy1.lt;have HK1:=zF hK1;have HS1:=zF hS1;have HB1:=zF hB1;have Hy1:=zF hy1;have H3:=zF h3;have cY:Y1.cell? ⟨s,0,none⟩=some (.pointer (some ⟨g,0,none⟩)):=(hB1.cell (p:=⟨s,0,none⟩) (by show s<b4;omega)).trans c3;have hAY:xE Y1 (s+1) la:=(hB1.block (s+1) (by omega)).trans hA3;clear hK1 hS1 hB1 hy1 hl1 hX h3 hl cV hAV hH;rcases Hbit.out with hb0 | hb1
  · have hp:=zF (te (x:=x) hlt (Hbt.out.trans hb0));subst hb0;gi_wp2;exact ⟨HK1.out,HS1.out,⟨o3,Hy1.out,by rw [hp.out,Hv.out];exact H3.out⟩,HB1.out⟩
  · have hp:=zF (sL (x:=x) hlt (Hbt.out.trans hb1));rw [hb1,show ((1:Nat):Int)=1 from rfl];gi_upto_region 6 with fail
    rename World=>V1;have hl:=Hy1.out;have zV1:=HB1.out.size
    refine Par.uI 4 [0,0,0,7,15] [] (fun j f X=>match j with
     | 0=>f 0=.pointer (some ⟨g,0,none⟩)
     | 1=>f 1=EV o3
     | 2=>f 2=EV la
     | 3=>∃ o,f 3=EV o∧FE M n o (v*v*x)
     | _=>True) (by kernel_rfl) [(24,0),(25,1),(26,2),(27,3)] (by kernel_rfl) (by kernel_rfl) ?_
    refine qH 1 3 [(25,1),(26,2)] (fun f X hX hR K hK=>?_) ?_
    · have x0:=hX.cell cY;simp only [yZ];refine ⟨?_⟩;go_simp;exact jA hK (s:=by simp only [yZ])
    refine qH 2 2 [(24,0),(26,2)] (fun f X hX hR K hK=>?_) ?_
    · simp only [yZ];refine ⟨zZ (by kernel_rfl) (vF (.tmp 7) rfl rfl (xE.range (hX.at_ hl)) H3.out.elt.six ?_)⟩;exact hK.out _ (EV o3) _ (by simp only [yZ]) (zy _) trivial (fun _ _=>rfl)
    refine qH 3 1 [(24,0),(25,1)] (fun f X hX hR K hK=>?_) ?_
    · simp only [yZ];refine ⟨zZ (by kernel_rfl) (vF (.tmp 4) rfl rfl (xE.range (hX.at_ hAY)) ha.elt.six ?_)⟩;exact hK.out _ (EV la) _ (by simp only [yZ]) (zy _) trivial (fun _ _=>rfl)
    refine qH 4 0 [(24,0),(25,1),(26,2)] (fun f X hX hR K hK=>?_) ?_
    · have e0:f 0=_:=hR.out 0 rfl;have e1:f 1=_:=hR.out 1 rfl;have e2:f 2=_:=hR.out 2 rfl;simp only [yZ,e0,e1,e2];refine ⟨?_⟩;go_simp;refine (uX X (hFR3.out X (HB1.out.trans (Below.mono hX (by omega)))).ff H3.out ha).mono ?_;rintro e w2 ⟨o,rfl,ho,hB⟩;exact hK.out _ (EV o) _ (by simp only [yZ,e0,e1,e2]) hB trivial (fun Y hY=>⟨o,rfl,ho⟩)
    refine yF ⟨fun f X hX hR hal hap=>?_⟩;have e0:f 0=_:=hR 0 (by decide);have e1:f 1=_:=hR 1 (by decide);have e2:f 2=_:=hR 2 (by decide);obtain ⟨o5,(e3:f 3=_),h3⟩:=hR 3 (by decide);simp only [yZ,e0,e1,e2,e3];clear hR hal hap e0 e1 e2 e3;refine zg (fun K hK=>⟨zZ (by kernel_rfl) (qo (.tmp 7) (.tmp 27) rfl rfl rfl rfl (hX.at_ hl) (by rw [qj];exact H3.out.elt.six) h3.elt.six (fun Y2 hl1=>hK.out _ _ ?_))⟩);refine zU ?_;refine ⟨nofun,?_⟩;have hK2:jP w3.heap.size (w3.heap.size+2) 0 V1 Y2:=(jP.below hX (zH _)).trans (jP.just hl1.just (hX.at_ hl));have hS2:xz t w3.heap.size V1 Y2:=xz.trans (hX.stay zV1) (hl1.just.stay zq2 (zQ zV1 hX.bsize));have hB2:Below b4 w3 Y2:=(HB1.out.trans (Below.mono hX (by omega))).trans (hl1.just.below (zH _) (by have:=hX.bsize;omega));have HK2:=zF (HK1.out.trans hK2);have HS2:=zF (xz.trans HS1.out hS2);have HB2:=zF hB2;have Hy2:=zF hl1.blk;have H4:=zF h3;clear hK2 hS2 hB2 hl1 h3;gi_wp2;exact ⟨HK2.out,HS2.out,⟨o5,Hy2.out,by rw [hp.out,Hv.out];exact H4.out⟩,HB2.out⟩
 case done =>
  rintro D V hD ⟨⟨lo,hl,hf⟩,h5⟩ hKD;rw [pM] at hf;have hmV:=(h5.block (s+2) (by omega)).trans m4;go_upto_region 7 with fail
  refine qQ 1 [0,1] [] (fun j f X=>match j with
   | 0=>f 0=EV lo
   | _=>True) (by kernel_rfl) [(28,0)] (by kernel_rfl) ?_
  refine qH 1 0 [] (fun f X hX hR K hK=>?_) ?_
  · simp only [yZ];refine ⟨zZ (by kernel_rfl) (vF (.tmp 7) rfl rfl (xE.range (hX.at_ hl)) hf.elt.six ?_)⟩;exact hK.out _ (EV lo) _ (by simp only [yZ]) (zy _) trivial (fun _ _=>rfl)
  refine yF ⟨fun f X hX hR hal hap=>?_⟩;have e0:f 0=_:=hR 0 (by decide);simp only [yZ,e0];clear hR hal hap e0;refine zg (fun K hK=>⟨zZ (by kernel_rfl) (qo (.tmp 6) (.tmp 28) rfl rfl rfl rfl (hX.at_ hmV) vE hf.elt.six (fun Y2 hl1=>hK.out _ _ ?_))⟩);refine zU ?_;go_wp2;have hKY:Y2.heap[D]?=some (.deferred (some [])):=hl1.other (by omega) (hX.at_ hKD);have hrY:(Y2.putObj D (.deferred none)).heap[s+1+1]?=some (.cells (nts lo).toArray 147 (0,0)):=(qY (by omega)).trans hl1.blk;have hEY:Ext w Y2:=hl1.ext (yL hEw3 (Below.mono (h5.trans (Below.mono hX (by have:=h5.size;omega))) (by have:=Hs.out;omega))) (by have:=Hs.out;omega);refine ⟨by simp,.inl ⟨_,_,rfl,run_takeDeferred hKY,_,yV rfl _ _ (s+1+1) _ _ _ (.array 6 69) rfl hrY Tryz.underlying147 rfl (by rw [jF,qj,hf.elt.six];exact bK),⟨lo,rfl,hf,yL hEY (belowK_b (w:=w) (zH _) Y2 D _ _ (by have:=Hs.out;omega) hKY rfl rfl)⟩⟩⟩
 case stop=>exact fun _ _ _ _ _ _ _ h _=>h.elim
end Go.Proofs.YtmlbicgpehchhaaGreat
namespace Go.Proofs.YtmlbicgpehchhaaGreat
open Go.RowKit
def PtV (w:World) (base:Nat) (v:Value):Option (Nat×Nat)→Prop
 | none=>v=uq
 | some p=>∃ A c A' c',v=.agg #[.bool false,.slice A (digs 18446744073709551616 p.1).length c,.slice A' (digs 18446744073709551616 p.2).length c']∧OB w base A c (digs 18446744073709551616 p.1)∧OB w base A' c' (digs 18446744073709551616 p.2)
def oi (M x y z:Nat):Option (Nat×Nat):=if z % M=0 then none else let u1:=z ^ (M - 2);let u2:=mm M u1 u1;let u3:=mm M x u2;let u4:=mm M u2 u1;let u5:=mm M y u4;some (u3 % M,u5 % M)
theorem zA2 {P0:Nat→Prop}{k g size n inv M bb:Nat}{pl nl bl xl yl ml ol rl tl fl lx ly lz:List Nat}{Ap An Ab Ax Ay:Option Addr}{cp cn cb cx cy x y z:Nat}(w:World)
 (hk:Num w P0 k g size n inv M bb pl nl bl xl yl ml ol rl tl fl Ap An Ab Ax Ay cp cn cb cx cy) (hP0:∀ b,P0 b→b<w.heap.size) (hpl:pl.length<100000) (hj:FJ M n lx ly lz x y z) :
 Calls Tryz.prog 143 #[.pointer (some ⟨k,0,none⟩),JV lx ly lz] w fun e w'=>∃ v,e=.returned v∧PtV w' w.heap.size v (oi M x y z)∧Ext w w':=by
 obtain ⟨cs,hcs⟩:=eV ((nts (lx++ly++lz)).toArray)
 obtain ⟨W0,hW0⟩:=eW ((w.alloc (.cells cs 176)).alloc (.cells #[.bool false,.slice none 0 0,.slice none 0 0] 29))
 obtain ⟨q,hq⟩:=eV w.heap.size
 have hE0:Ext w W0:=by rw [hW0];exact (zb _ _).trans (zb _ _)
 obtain ⟨hpj,hrb,hz0⟩:=xU w (.cells cs 176) (.cells #[.bool false,.slice none 0 0,.slice none 0 0] 29)
 rw [←hW0,hq] at hpj hrb hz0
 have hpj:kV W0 q lx ly lz:=by rw [kV,hcs];exact hpj
 have hn:=zF (hk.ext hP0 hE0)
 have hP0':∀ b,P0 b→b<W0.heap.size:=fun b hb=>zR (hP0 b hb) hE0.bsize
 have k6:=hn.out.c_f
 have k1:=hn.out.c_p
 have hJ:=zF hj
 have HE0:=zF hE0
 have Hz0:=zF hz0
 have Hpv:=zF hk.pv
 have Hpl:=zF hpl
 have hM1:=hk.fr.ff.big
 have Hqs:=zF (show q≤W0.heap.size by omega)
 rw [show JV lx ly lz=.agg cs by rw [JV,hcs],hq]
 clear hE0 hz0 hk hP0 hj hcs hpl
 by_cases hz:z % M=0
 · have hzn:=zF hz;rw [oi,qK hz];clear hz k6 k1;go_enter Tryz.func143,Tryz.ntmps143;go_upto_region 1 with fail;rw [←hW0];have Hq:=zF hq;have HW0:=zF hW0;have hE:=zy W0;clear hq hW0
   refine qQ 3 [0,1,3] [] (fun j f X=>match j with
    | 0=>f 0=.pointer (some ⟨q,12,none⟩)
    | 1=>∃ o,f 1=EV o∧FE M n o z
    | 2=>f 2=.bool true
    | _=>True) (by kernel_rfl) [(10,0),(11,1),(12,2)] (by kernel_rfl) ?_
   refine zf 1 2 ?_;refine lE 2 1 0 (fun _ hX=>xG ((hE.trans hX).at_ hpj) hJ.out.x.elt.six hJ.out.y.elt.six) hJ.out.z ?_;refine qJ 3 0 (fun f=>#[f 1]) (F':=152) (fun f X hX hR=>?_) ?_
   · obtain ⟨o1,(e1:f 1=_),h1⟩:=hR.out 1 rfl;simp only [e1];refine (vQ o1 X h1.elt.six).mono ?_;rintro e w2 ⟨rfl,hB⟩;rw [show decide (o1=[0,0,0,0,0,0])=true by rw [decide_eq_decide.2 (h1.zero_iff (hn.out.ext hP0' (hE.trans hX)).fr.ff)];exact qX hzn.out];exact ⟨(.bool true),rfl,hB,fun _ _=>rfl⟩
   refine yF ⟨fun f X hX hR hal hap=>?_⟩;obtain ⟨o1,(e1:f 1=_),h1⟩:=hR 1 (by decide);have e2:f 2=_:=hR 2 (by decide);simp only [yZ,e1,e2];clear hR hal hap e1 e2;refine zU ?_;replace hE:=hE.trans hX;clear hX;rename World=>X1_;go_upto_region 2 with fail;have hb1:=hE.at_ hrb
   refine qQ 1 [0,1] [] (fun j f X=>match j with
    | 0=>f 0=uq
    | _=>True) (by kernel_rfl) [(13,0)] (by kernel_rfl) ?_
   refine qJ 1 0 (fun _=>#[]) (F':=113) (fun f X hX hR=>?_) ?_
   · refine (gP X).mono ?_;rintro e w2 ⟨rfl,hB⟩;exact ⟨uq,rfl,hB,fun _ _=>rfl⟩
   refine yF ⟨fun f X hX hR hal hap=>?_⟩;have e0:f 0=_:=hR 0 (by decide);simp only [yZ,e0];clear hR hal hap e0;refine zg (fun K hK=>⟨zZ (by kernel_rfl) (vD (cs':=#[.bool true,.slice none 0 0,.slice none 0 0]) (t:=29) 29 (.tmp 4) (.tmp 13) rfl rfl rfl rfl (hX.at_ hb1) gR rfl (cU _ _ _ _ _ _ _) (fun Y hY1 hY2 hY3=>hK.out _ _ ?_))⟩);refine zU ?_;go_wp2;exact oe rfl rfl rfl hY1 ⟨_,rfl,rfl,hY2.ext (HE0.out.trans (hE.trans hX)) (by have:=Hq.out;omega)⟩
 · have hzn:=zF hz;obtain ⟨u1,E_u1⟩:=eG (z ^ (M - 2));obtain ⟨u2,E_u2⟩:=eG (mm M u1 u1);obtain ⟨u3,E_u3⟩:=eG (mm M x u2);obtain ⟨u4,E_u4⟩:=eG (mm M u2 u1);obtain ⟨u5,E_u5⟩:=eG (mm M y u4);have hres:oi M x y z=some (u3 % M,u5 % M):=by rw [oi,qA hz];simp only [E_u1.out,E_u2.out,E_u3.out,E_u4.out,E_u5.out]
   rw [hres];clear hres hz;go_enter Tryz.func143,Tryz.ntmps143;go_upto_region 1 with fail;rw [←hW0];have Hq:=zF hq;have HW0:=zF hW0;have hE:=zy W0;clear hq hW0
   refine qQ 3 [0,1,3] [] (fun j f X=>match j with
    | 0=>f 0=.pointer (some ⟨q,12,none⟩)
    | 1=>∃ o,f 1=EV o∧FE M n o z
    | 2=>f 2=.bool false
    | _=>True) (by kernel_rfl) [(10,0),(11,1),(12,2)] (by kernel_rfl) ?_
   refine zf 1 2 ?_;refine lE 2 1 0 (fun _ hX=>xG ((hE.trans hX).at_ hpj) hJ.out.x.elt.six hJ.out.y.elt.six) hJ.out.z ?_;refine qJ 3 0 (fun f=>#[f 1]) (F':=152) (fun f X hX hR=>?_) ?_
   · obtain ⟨o1,(e1:f 1=_),h1⟩:=hR.out 1 rfl;simp only [e1];refine (vQ o1 X h1.elt.six).mono ?_;rintro e w2 ⟨rfl,hB⟩;rw [show decide (o1=[0,0,0,0,0,0])=false by rw [decide_eq_decide.2 (h1.zero_iff (hn.out.ext hP0' (hE.trans hX)).fr.ff)];exact qb hzn.out];exact ⟨(.bool false),rfl,hB,fun _ _=>rfl⟩
   refine yF ⟨fun f X hX hR hal hap=>?_⟩;obtain ⟨o1,(e1:f 1=_),h1⟩:=hR 1 (by decide);have e2:f 2=_:=hR 2 (by decide);simp only [yZ,e1,e2];clear hR hal hap e1 e2;refine zU ?_;replace hE:=hE.trans hX;clear hX;rename World=>X1_;have k6':=hE.cell k6;have k1':=hE.cell k1;go_upto_region 4 with fail;clear k6'
   refine z8 (by kernel_rfl) 11 [0,1,3,7,0,31,63,127,127,255,1023] [] (fun j f X=>match j with
    | 0=>f 0=.pointer (some ⟨k,0,none⟩)
    | 1=>f 1=.pointer (some ⟨k,0,none⟩)
    | 2=>f 2=.pointer (some ⟨k,1,none⟩)
    | 3=>f 3=.slice Ap pl.length cp
    | 4=>∃ A1 c1,f 4=.slice A1 (digs 18446744073709551616 2).length c1∧OB X q A1 c1 (digs 18446744073709551616 2)
    | 5=>∃ A1 c1,f 5=.tuple #[.slice A1 (digs 18446744073709551616 (M - 2)).length c1,.bool true]∧OB X q A1 c1 (digs 18446744073709551616 (M - 2))
    | 6=>∃ A1 c1,f 6=.tuple #[.slice A1 (digs 18446744073709551616 (M - 2)).length c1,.bool true]∧OB X q A1 c1 (digs 18446744073709551616 (M - 2))
    | 7=>∃ A1 c1,f 7=.slice A1 (digs 18446744073709551616 (M - 2)).length c1∧OB X q A1 c1 (digs 18446744073709551616 (M - 2))
    | 8=>f 8=.bool true
    | 9=>∃ A1 c1,f 9=.slice A1 (digs 18446744073709551616 (M - 2)).length c1∧OB X q A1 c1 (digs 18446744073709551616 (M - 2))
    | 10=>f 10=.bool true
    | _=>True) (by kernel_rfl) [(19,0),(20,1),(21,2),(22,3),(23,4),(24,5),(18,6),(25,7),(26,8),(6,9),(7,10)] (by kernel_rfl) ?_
   refine zf 1 10 ?_;refine qM 2 9 0 ?_;refine qM 3 8 1 ?_;refine q9 4 7 2 k1' ?_;refine qJ 5 6 (fun _=>#[Value.int IntKind.u64 2]) (F':=103) (fun f X hX hR=>?_) ?_
   · refine (xN 2 X (by omega)).mono ?_;rintro e w2 ⟨A1,c1,rfl,hO,hB⟩;exact ⟨_,rfl,hB,fun Y hY=>⟨A1,c1,rfl,(hO.mono (zQ Hqs.out (hE.trans hX).bsize)).below hY (zH _)⟩⟩
   refine qJ 6 5 (fun f=>#[f 3,f 4]) (F':=125) (fun f X hX hR=>?_) ?_
   · have e3:f 3=_:=hR.out 3 rfl;obtain ⟨A4,c4,(e4:f 4=_),o4⟩:=hR.out 4 rfl;simp only [e3,e4];refine (fU P0 _ Ap A4 cp c4 pl _ X (hn.out.ext hP0' (hE.trans hX)).p o4.rn (fun b hb=>zR (hP0' b hb) (hE.trans hX).bsize) (fun b hb=>hb.2) Hpl.out (by rw [Hpv.out,zc (by omega)];omega)).mono ?_;rw [Hpv.out,zc (by omega)];rintro e w2 ⟨A1,c1,rfl,hO,hB⟩;exact ⟨_,rfl,hB,fun Y hY=>⟨A1,c1,rfl,(hO.mono (zQ Hqs.out (hE.trans hX).bsize)).below hY (zH _)⟩⟩
   refine qH 7 4 [(19,0),(20,1),(21,2),(22,3),(23,4),(24,5)] (fun f X hX hR K hK=>?_) ?_
   · obtain ⟨A5,c5,(e5:f 5=_),o5⟩:=hR.out 5 rfl;simp only [yZ,e5];refine ⟨?_⟩;go_simp;exact hK.out _ _ _ (by simp only [yZ,e5]) (zy _) trivial (fun Y hY=>⟨A5,c5,rfl,o5.below (hY) (zH _)⟩)
   refine qH 8 3 [(19,0),(20,1),(21,2),(22,3),(23,4),(24,5),(18,6),(26,8)] (fun f X hX hR K hK=>?_) ?_
   · obtain ⟨A6,c6,(e6:f 6=_),o6⟩:=hR.out 6 rfl;simp only [yZ,e6];refine ⟨?_⟩;go_simp;exact hK.out _ _ _ (by simp only [yZ,e6]) (zy _) trivial (fun Y hY=>⟨A6,c6,rfl,o6.below (hY) (zH _)⟩)
   refine qH 9 2 [(19,0),(20,1),(21,2),(22,3),(23,4),(24,5),(18,6),(25,7),(6,9)] (fun f X hX hR K hK=>?_) ?_
   · obtain ⟨A6,c6,(e6:f 6=_),o6⟩:=hR.out 6 rfl;simp only [yZ,e6];refine ⟨?_⟩;go_simp;exact jA hK (s:=by simp only [yZ,e6])
   refine qH 10 1 [(19,0),(20,1),(21,2),(22,3),(23,4),(24,5),(18,6),(25,7),(26,8)] (fun f X hX hR K hK=>?_) ?_
   · obtain ⟨A7,c7,(e7:f 7=_),o7⟩:=hR.out 7 rfl;simp only [yZ,e7];refine ⟨?_⟩;go_simp;exact hK.out _ _ _ (by simp only [yZ,e7]) (zy _) trivial (fun Y hY=>⟨A7,c7,rfl,o7.below (hY) (zH _)⟩)
   refine qM 11 0 8 ?_;refine yF ⟨fun f X hX hR hal hap=>?_⟩;obtain ⟨A4,c4,(e4:f 4=_),o4⟩:=hR 4 (by decide);obtain ⟨A5,c5,(e5:f 5=_),o5⟩:=hR 5 (by decide);obtain ⟨A6,c6,(e6:f 6=_),o6⟩:=hR 6 (by decide);obtain ⟨A7,c7,(e7:f 7=_),o7⟩:=hR 7 (by decide);obtain ⟨A9,c9,(e9:f 9=_),o9⟩:=hR 9 (by decide);simp only [yZ,e4,e5,e6,e7,e9];clear hR hal hap e4 e5 e6 e7 e9;refine zU ?_;replace hE:=hE.trans hX;have hL:=o9;rename World=>X4_;clear hX k1' o4 o5 o6 o7 o9;go_upto_region 5 with fail
   refine qQ 6 [0,0,2,0,15,0,63] [5] (fun j f X=>match j with
    | 0=>f 0=.pointer (some ⟨g,0,none⟩)
    | 1=>f 1=.pointer (some ⟨q,12,none⟩)
    | 2=>∃ o,f 2=EV o∧FE M n o z
    | 3=>f 3=.slice A9 (digs 18446744073709551616 (M - 2)).length c9
    | 4=>∃ o,f 4=EV o∧FE M n o u1
    | 5=>∃ b,f 5=.pointer (some ⟨b,0,none⟩)∧X4_.heap.size≤b∧X.heap[b]?=some (.cells #[.int .u64 0,.int .u64 0,.int .u64 0,.int .u64 0,.int .u64 0,.int .u64 0] 147 (0,0))
    | _=>True) (by kernel_rfl) [(27,0),(28,1),(29,2),(30,3),(31,4),(8,5)] (by kernel_rfl) ?_
   refine zf 1 5 ?_;refine zf 2 4 ?_;refine lE 3 3 1 (fun _ hX=>xG ((hE.trans hX).at_ hpj) hJ.out.x.elt.six hJ.out.y.elt.six) hJ.out.z ?_;refine zf 4 2 ?_;refine qJ 5 1 (fun f=>#[f 0,f 2,f 3]) (F':=180) (fun f X hX hR=>?_) ?_
   · have e0:f 0=_:=hR.out 0 rfl;obtain ⟨o2,(e2:f 2=_),h2⟩:=hR.out 2 rfl;have e3:f 3=_:=hR.out 3 rfl;simp only [e0,e2,e3];refine (tf X (hn.out.ext hP0' (hE.trans hX)).fr hn.out.fr.fone z (M - 2) h2 _ A9 c9 _ (hL.below hX (zH _)).rn (fun b hb=>hb.2) (zc (by omega) _)).mono ?_;rw [E_u1.out];rintro e w2 ⟨o,rfl,ho,hB⟩;exact ⟨(EV o),rfl,hB,fun Y hY=>⟨o,rfl,ho⟩⟩
   refine vB 6 0 ?_;refine yF ⟨fun f X hX hR hal hap=>?_⟩;obtain ⟨o2,(e2:f 2=_),h2⟩:=hR 2 (by decide);obtain ⟨o4,(e4:f 4=_),h4⟩:=hR 4 (by decide);obtain ⟨br5_5,(e5:f 5=_),lr5_5,hr5_5⟩:=hR 5 (by decide);simp only [yZ,e2,e4,e5];clear hR hal hap e2 e4 e5;refine zg (fun K hK=>⟨zZ (by kernel_rfl) (qo (.tmp 8) (.tmp 31) rfl rfl rfl rfl (hr5_5) vE h4.elt.six (fun Y2_6 hl2_6=>hK.out _ _ ?_))⟩);refine zU ?_;have vbr5_5:VE Y2_6 M n br5_5 u1:=(hl2_6.mk' h4)
   have lb_vbr5_5:=zQ hE.bsize lr5_5;have hE':Ext W0 Y2_6:=(hl2_6.ext (hE.trans hX) (zQ hE.bsize lr5_5))
   clear hE hX hl2_6 h2 h4 ;have hE:=hE';clear hE';go_upto_region 6 with fail
   refine qQ 5 [0,0,0,7,0,31] [4] (fun j f X=>match j with
    | 0=>f 0=.pointer (some ⟨g,0,none⟩)
    | 1=>∃ o,f 1=EV o∧FE M n o u1
    | 2=>∃ o,f 2=EV o∧FE M n o u1
    | 3=>∃ o,f 3=EV o∧FE M n o u2
    | 4=>∃ b,f 4=.pointer (some ⟨b,0,none⟩)∧Y2_6.heap.size≤b∧X.heap[b]?=some (.cells #[.int .u64 0,.int .u64 0,.int .u64 0,.int .u64 0,.int .u64 0,.int .u64 0] 147 (0,0))
    | _=>True) (by kernel_rfl) [(32,0),(33,1),(34,2),(35,3),(9,4)] (by kernel_rfl) ?_
   refine zf 1 4 ?_;refine lX 2 3 (fun X hX=>let ⟨o,hbl,ho⟩:=vbr5_5.ext hX;⟨o,hbl.range,ho⟩) ?_;refine lX 3 2 (fun X hX=>let ⟨o,hbl,ho⟩:=vbr5_5.ext hX;⟨o,hbl.range,ho⟩) ?_;refine fc 4 1 0 1 2 (fun X hX _ _ h h'=>kE X (hn.out.ext hP0' (hE.trans hX)).fr.ff h h') E_u2.out ?_;refine vB 5 0 ?_;refine yF ⟨fun f X hX hR hal hap=>?_⟩;obtain ⟨o1,(e1:f 1=_),h1⟩:=hR 1 (by decide);obtain ⟨o2,(e2:f 2=_),h2⟩:=hR 2 (by decide);obtain ⟨o3,(e3:f 3=_),h3⟩:=hR 3 (by decide);obtain ⟨br6_4,(e4:f 4=_),lr6_4,hr6_4⟩:=hR 4 (by decide);simp only [yZ,e1,e2,e3,e4];clear hR hal hap e1 e2 e3 e4;refine zg (fun K hK=>⟨zZ (by kernel_rfl) (qo (.tmp 9) (.tmp 35) rfl rfl rfl rfl (hr6_4) vE h3.elt.six (fun Y3_5 hl3_5=>hK.out _ _ ?_))⟩);refine zU ?_;have d_br5_5_br6_4:br5_5≠br6_4:=by have:=(let ⟨_,h,_⟩:=vbr5_5;h.lt:br5_5<Y2_6.heap.size);omega
   replace vbr5_5:=(hl3_5.ve d_br5_5_br6_4 (vbr5_5.ext hX))
   have vbr6_4:VE Y3_5 M n br6_4 u2:=(hl3_5.mk' h3)
   have lb_vbr6_4:=zQ hE.bsize lr6_4;have hE':Ext W0 Y3_5:=(hl3_5.ext (hE.trans hX) (zQ hE.bsize lr6_4))
   clear hE hX hl3_5 h1 h2 h3;have hE:=hE';clear hE';have hb1:=hE.at_ hrb;go_upto_region 7 with fail
   refine z8 (by kernel_rfl) 18 [0,0,0,4,0,30,63,0,0,0,512,0,0,0,14463,32639,65535,131071,262143] [] (fun j f X=>match j with
    | 0=>f 0=.pointer (some ⟨g,0,none⟩)
    | 1=>f 1=.pointer (some ⟨g,0,none⟩)
    | 2=>f 2=.pointer (some ⟨q,0,none⟩)
    | 3=>∃ o,f 3=EV o∧FE M n o x
    | 4=>∃ o,f 4=EV o∧FE M n o u2
    | 5=>∃ o,f 5=EV o∧FE M n o u3
    | 6=>∃ A1 c1,f 6=.slice A1 (digs 18446744073709551616 (u3 % M)).length c1∧OB X q A1 c1 (digs 18446744073709551616 (u3 % M))
    | 7=>f 7=.pointer (some ⟨g,0,none⟩)
    | 8=>f 8=.pointer (some ⟨g,0,none⟩)
    | 9=>f 9=.pointer (some ⟨q,6,none⟩)
    | 10=>∃ o,f 10=EV o∧FE M n o y
    | 11=>f 11=.pointer (some ⟨g,0,none⟩)
    | 12=>∃ o,f 12=EV o∧FE M n o u2
    | 13=>∃ o,f 13=EV o∧FE M n o u1
    | 14=>∃ o,f 14=EV o∧FE M n o u4
    | 15=>∃ o,f 15=EV o∧FE M n o u5
    | 16=>∃ A1 c1,f 16=.slice A1 (digs 18446744073709551616 (u5 % M)).length c1∧OB X q A1 c1 (digs 18446744073709551616 (u5 % M))
    | 17=>∃ A1 c1 A2 c2,f 17=.agg #[.bool false,.slice A1 (digs 18446744073709551616 (u3 % M)).length c1,.slice A2 (digs 18446744073709551616 (u5 % M)).length c2]∧OB X q A1 c1 (digs 18446744073709551616 (u3 % M))∧OB X q A2 c2 (digs 18446744073709551616 (u5 % M))
    | _=>True) (by kernel_rfl) [(36,0),(37,1),(38,2),(39,3),(40,4),(41,5),(42,6),(43,7),(44,8),(45,9),(46,10),(47,11),(48,12),(49,13),(50,14),(51,15),(52,16),(53,17)] (by kernel_rfl) ?_
   refine zf 1 17 ?_;refine zf 2 16 ?_;refine zf 3 15 ?_;refine lE 4 14 2 (fun _ hX=>kV.rx ((hE.trans hX).at_ hpj)) hJ.out.x ?_;refine lX 5 13 (fun X hX=>let ⟨o,hbl,ho⟩:=vbr6_4.ext hX;⟨o,hbl.range,ho⟩) ?_;refine fc 6 12 1 3 4 (fun X hX _ _ h h'=>kE X (hn.out.ext hP0' (hE.trans hX)).fr.ff h h') E_u3.out ?_;refine qJ 7 11 (fun f=>#[f 0,f 5]) (F':=181) (fun f X hX hR=>?_) ?_
   · have e0:f 0=_:=hR.out 0 rfl;obtain ⟨o5,(e5:f 5=_),h5⟩:=hR.out 5 rfl;simp only [e0,e5];refine (zAv X (hn.out.ext hP0' (hE.trans hX)).fr h5).mono ?_;rintro e w2 ⟨A1,c1,rfl,hO,hB⟩;exact ⟨_,rfl,hB,fun Y hY=>⟨A1,c1,rfl,(hO.mono (zQ Hqs.out (hE.trans hX).bsize)).below hY (zH _)⟩⟩
   refine zf 8 10 ?_;refine zf 9 9 ?_;refine zf 10 8 ?_;refine lE 11 7 9 (fun _ hX=>kV.ry ((hE.trans hX).at_ hpj) hJ.out.x.elt.six) hJ.out.y ?_;refine zf 12 6 ?_;refine lX 13 5 (fun X hX=>let ⟨o,hbl,ho⟩:=vbr6_4.ext hX;⟨o,hbl.range,ho⟩) ?_;refine lX 14 4 (fun X hX=>let ⟨o,hbl,ho⟩:=vbr5_5.ext hX;⟨o,hbl.range,ho⟩) ?_;refine fc 15 3 11 12 13 (fun X hX _ _ h h'=>kE X (hn.out.ext hP0' (hE.trans hX)).fr.ff h h') E_u4.out ?_;refine fc 16 2 8 10 14 (fun X hX _ _ h h'=>kE X (hn.out.ext hP0' (hE.trans hX)).fr.ff h h') E_u5.out ?_;refine qJ 17 1 (fun f=>#[f 7,f 15]) (F':=181) (fun f X hX hR=>?_) ?_
   · have e7:f 7=_:=hR.out 7 rfl;obtain ⟨o15,(e15:f 15=_),h15⟩:=hR.out 15 rfl;simp only [e7,e15];refine (zAv X (hn.out.ext hP0' (hE.trans hX)).fr h15).mono ?_;rintro e w2 ⟨A1,c1,rfl,hO,hB⟩;exact ⟨_,rfl,hB,fun Y hY=>⟨A1,c1,rfl,(hO.mono (zQ Hqs.out (hE.trans hX).bsize)).below hY (zH _)⟩⟩
   refine qH 18 0 [(36,0),(37,1),(38,2),(39,3),(40,4),(41,5),(42,6),(43,7),(44,8),(45,9),(46,10),(47,11),(48,12),(49,13),(50,14),(51,15),(52,16)] (fun f X hX hR K hK=>?_) ?_
   · obtain ⟨A6,c6,(e6:f 6=_),o6⟩:=hR.out 6 rfl;obtain ⟨A16,c16,(e16:f 16=_),o16⟩:=hR.out 16 rfl;simp only [yZ,e6,e16];refine ⟨?_⟩;go_simp;exact hK.out _ _ _ (by simp only [yZ,e6,e16]) (zy _) trivial (fun Y hY=>⟨A6,c6,A16,c16,rfl,o6.below hY (zH _),o16.below hY (zH _)⟩)
   refine yF ⟨fun f X hX hR hal hap=>?_⟩;obtain ⟨o3,(e3:f 3=_),h3⟩:=hR 3 (by decide);obtain ⟨o4,(e4:f 4=_),h4⟩:=hR 4 (by decide);obtain ⟨o5,(e5:f 5=_),h5⟩:=hR 5 (by decide);obtain ⟨A6,c6,(e6:f 6=_),o6⟩:=hR 6 (by decide);obtain ⟨o10,(e10:f 10=_),h10⟩:=hR 10 (by decide);obtain ⟨o12,(e12:f 12=_),h12⟩:=hR 12 (by decide);obtain ⟨o13,(e13:f 13=_),h13⟩:=hR 13 (by decide);obtain ⟨o14,(e14:f 14=_),h14⟩:=hR 14 (by decide);obtain ⟨o15,(e15:f 15=_),h15⟩:=hR 15 (by decide);obtain ⟨A16,c16,(e16:f 16=_),o16⟩:=hR 16 (by decide);obtain ⟨A17,c17,B17,d17,(e17:f 17=_),o17,p17⟩:=hR 17 (by decide);simp only [yZ,e3,e4,e5,e6,e10,e12,e13,e14,e15,e16,e17];clear hR hal hap e3 e4 e5 e6 e10 e12 e13 e14 e15 e16 e17;refine zg (fun K hK=>⟨zZ (by kernel_rfl) (vD (cs':=#[.bool false,.slice A17 (digs 18446744073709551616 (u3 % M)).length c17,.slice B17 (digs 18446744073709551616 (u5 % M)).length d17]) (t:=29) 29 (.tmp 4) (.tmp 53) rfl rfl rfl rfl (hX.at_ hb1) gR rfl (cU _ _ _ _ _ _ _) (fun Y hY1 hY2 hY3=>hK.out _ _ ?_))⟩);refine zU ?_;go_wp2;exact oe rfl rfl rfl hY1 ⟨_,rfl,⟨A17,c17,B17,d17,rfl,o17.just hY2 (hX.at_ hb1) (by decide),p17.just hY2 (hX.at_ hb1) (by decide)⟩,hY2.ext (HE0.out.trans (hE.trans hX)) (by have:=Hq.out;omega)⟩
def APt (w:World) (v:Value) (inf:Bool) (x y:Nat):Prop:=∃ (A A':Option Addr) (c c':Nat) (a b:List Nat),v=.agg #[.bool inf,.slice A a.length c,.slice A' b.length c']∧RU w A c a∧RU w A' c' b∧val 18446744073709551616 a=x∧val 18446744073709551616 b=y
theorem APt.ext {w X:World}{v:Value}{inf:Bool}{x y:Nat}(h:APt w v inf x y) (hE:Ext w X):APt X v inf x y:=by
 obtain ⟨A,A',c,c',a,b,rfl,ha,hb,hx,hy⟩:=h;exact ⟨A,A',c,c',a,b,rfl,qm ha hE,qm hb hE,hx,hy⟩
theorem APt.inf_ (w:World):APt w uq true 0 0:=⟨none,none,0,0,[],[],rfl,RN.nil_ _ _,RN.nil_ _ _,rfl,rfl⟩
theorem PtV.pt {w:World}{base:Nat}{v:Value}{o:Option (Nat×Nat)}(h:PtV w base v o):APt w v o.isNone (o.elim 0 (·.1)) (o.elim 0 (·.2)):=by
 cases o with
 | none=>cases h;exact APt.inf_ w
 | some p =>
   obtain ⟨A,c,A',c',rfl,h1,h2⟩:=h;exact ⟨A,A',c,c',_,_,rfl,h1.ru,h2.ru,zc (by omega) _,zc (by omega) _⟩
theorem PtV.ext {w X:World}{base:Nat}{v:Value}{o:Option (Nat×Nat)}(h:PtV w base v o) (hE:Ext w X):PtV X base v o:=by
 cases o with
 | none=>exact h
 | some p =>
   obtain ⟨A,c,A',c',rfl,h1,h2⟩:=h;exact ⟨A,c,A',c',rfl,h1.below hE (zH _),h2.below hE (zH _)⟩
theorem PtV.mono {w:World}{base base':Nat}{v:Value}{o:Option (Nat×Nat)}(h:PtV w base v o) (hb:base'≤base):PtV w base' v o:=by
 cases o with
 | none=>exact h
 | some p =>
   obtain ⟨A,c,A',c',rfl,h1,h2⟩:=h;exact ⟨A,c,A',c',rfl,h1.mono hb,h2.mono hb⟩
def JAt (C:Crv) (v:Value) (p:Nat×Nat×Nat):Prop:=∃ lx ly lz,v=JV lx ly lz∧FJ C.M C.n lx ly lz p.1 p.2.1 p.2.2
def upP (inf:Bool) (x y:Nat):Nat×Nat×Nat:=if inf then (1,1,0) else (x,y,1)
def nB (M:Nat) (p q:Nat×Nat×Nat):Nat×Nat×Nat:=aE M p.1 p.2.1 p.2.2 q.1 q.2.1 q.2.2
def bZ (M:Nat) (p:Nat×Nat×Nat):Nat×Nat×Nat:=dk M p.1 p.2.1 p.2.2
def ay (M:Nat) (p:Nat×Nat×Nat):Option (Nat×Nat):=oi M p.1 p.2.1 p.2.2
def onQ (C:Crv) (inf:Bool) (x y:Nat):Bool:=inf || onB C.M C.bb x y
theorem zCf {M bb x y:Nat}(h:onB M bb x y=true):x<M∧y<M:=by
 simp only [onB,wN,vg] at h;exact h.1
theorem zAY {C:Crv}{inf:Bool}{x y:Nat}(h:onQ C inf x y=true) (hi:inf=false):x<C.M∧y<C.M:=by
 subst hi;exact zCf h
section
variable {C:Crv} {w:World} {k:Nat} {v u:Value}
theorem zCd (h:OfC C w k) (hC:C.Fine){inf:Bool}{x y:Nat}(hv:APt w v inf x y):Calls Tryz.prog 108 #[.pointer (some ⟨k,0,none⟩),v] w fun e w'=>e=.returned (.bool (onQ C inf x y))∧Ext w w':=by
 obtain ⟨A,A',c,c',a,b,rfl,ha,hb,rfl,rfl⟩:=hv;exact on_c h hC _ _ A A' c c' a b inf ha hb (fun _ h=>h) (fun _ h=>h)
theorem up_j (h:OfC C w k){inf:Bool}{x y:Nat}(hv:APt w v inf x y) (ho:onQ C inf x y=true):Calls Tryz.prog 139 #[.pointer (some ⟨k,0,none⟩),v] w fun e w'=>∃ o,e=.returned o∧JAt C o (upP inf x y)∧Ext w w':=by
 obtain ⟨A,A',c,c',a,b,rfl,ha,hb,rfl,rfl⟩:=hv;obtain ⟨P0,g,inv,ml,ol,rl,tl,fl,Ap,An,Ab,Ax,Ay,cp,cn,cb,cx,cy,hn,hP⟩:=h;refine (tw _ _ A A' c c' a b inf w hn hP ha hb (fun _ h=>h) (fun _ h=>h) (fun hi=>(zAY ho hi).1) (fun hi=>(zAY ho hi).2)).mono ?_;rintro e w' ⟨ox,oy,oz,rfl,hf,hE⟩;refine ⟨_,rfl,⟨ox,oy,oz,rfl,?_⟩,hE⟩;cases inf <;> exact hf
theorem zA3 (h:OfC C w k){p:Nat×Nat×Nat}(hv:JAt C v p):Calls Tryz.prog 142 #[.pointer (some ⟨k,0,none⟩),v] w fun e w'=>∃ o,e=.returned o∧JAt C o (bZ C.M p)∧Ext w w':=by
 obtain ⟨lx,ly,lz,rfl,hf⟩:=hv;obtain ⟨P0,g,inv,ml,ol,rl,tl,fl,Ap,An,Ab,Ax,Ay,cp,cn,cb,cx,cy,hn,hP⟩:=h;refine (bV w hn hP hf).mono ?_;rintro e w' ⟨ox,oy,oz,rfl,hf',hE⟩;exact ⟨_,rfl,⟨ox,oy,oz,rfl,hf'⟩,hE⟩
theorem zCL (h:OfC C w k){p q:Nat×Nat×Nat}(hv:JAt C v p) (hu:JAt C u q):Calls Tryz.prog 140 #[.pointer (some ⟨k,0,none⟩),v,u] w fun e w'=>∃ o,e=.returned o∧JAt C o (nB C.M p q)∧Ext w w':=by
 obtain ⟨lx,ly,lz,rfl,hf⟩:=hv;obtain ⟨mx,my,mz,rfl,hg⟩:=hu;obtain ⟨P0,g,inv,ml,ol,rl,tl,fl,Ap,An,Ab,Ax,Ay,cp,cn,cb,cx,cy,hn,hP⟩:=h;refine (zAp w hn hP hf hg).mono ?_;rintro e w' ⟨ox,oy,oz,rfl,hf',hE⟩;exact ⟨_,rfl,⟨ox,oy,oz,rfl,hf'⟩,hE⟩
theorem zCr (h:OfC C w k){p:Nat×Nat×Nat}(hpl:C.pl.length<100000) (hv:JAt C v p):Calls Tryz.prog 143 #[.pointer (some ⟨k,0,none⟩),v] w fun e w'=>∃ o,e=.returned o∧PtV w' w.heap.size o (ay C.M p)∧Ext w w':=by
 obtain ⟨lx,ly,lz,rfl,hf⟩:=hv;obtain ⟨P0,g,inv,ml,ol,rl,tl,fl,Ap,An,Ab,Ax,Ay,cp,cn,cb,cx,cy,hn,hP⟩:=h;exact zA2 w hn hP hpl hf
end
theorem IsC.plen {c:Int}{C:Crv}(h:IsC c C):C.pl.length<100000:=by
 rcases h with ⟨_,rfl⟩ | ⟨_,rfl⟩ <;> decide
def RPv (w:World) (v:Value) (bi:Bool) (x y:Nat):Prop:=∃ (A A':Option Addr) (c c':Nat),v=.agg #[.bool bi,.slice A (digs 4294967296 x).length c,.slice A' (digs 4294967296 y).length c']∧RU w A c (digs 4294967296 x)∧RU w A' c' (digs 4294967296 y)
theorem RPv.ext {w X:World}{v:Value}{bi:Bool}{x y:Nat}(h:RPv w v bi x y) (hE:Ext w X):RPv X v bi x y:=by
 obtain ⟨A,A',c,c',rfl,h1,h2⟩:=h;exact ⟨A,A',c,c',rfl,qm h1 hE,qm h2 hE⟩
theorem RPv.inf_ (w:World):RPv w uq true 0 0:=⟨none,none,0,0,by rw [qU];rfl,RN.nil0 _,RN.nil0 _⟩
theorem RPU.pv {w:World}{v:Value}{o:Option (Nat×Nat)}(h:RPU w v o):RPv w v o.isNone (o.elim 0 (·.1)) (o.elim 0 (·.2)):=by
 cases o with
 | none=>cases h;exact RPv.inf_ w
 | some p =>
  obtain ⟨A,c,A',c',rfl,h1,h2⟩:=h;exact ⟨A,A',c,c',rfl,h1,h2⟩
def APn (w:World) (v:Value) (bi:Bool) (a b:List Nat):Prop:=∃ (A A':Option Addr) (c c':Nat),v=.agg #[.bool bi,.slice A a.length c,.slice A' b.length c']∧RU w A c a∧RU w A' c' b
theorem APn.ext {w X:World}{v:Value}{bi:Bool}{a b:List Nat}(h:APn w v bi a b) (hE:Ext w X):APn X v bi a b:=by
 obtain ⟨A,A',c,c',rfl,h1,h2⟩:=h;exact ⟨A,A',c,c',rfl,qm h1 hE,qm h2 hE⟩
theorem APn.pt {w:World}{v:Value}{bi:Bool}{a b:List Nat}(h:APn w v bi a b):APt w v bi (val 18446744073709551616 a) (val 18446744073709551616 b):=by
 obtain ⟨A,A',c,c',rfl,h1,h2⟩:=h;exact ⟨A,A',c,c',a,b,rfl,h1,h2,rfl,rfl⟩
def IsU (c:Int) (C:Crv):Prop:=IsC c C∨(c≠1∧c≠2∧C=c0)
structure Crv.Norm (C:Crv):Prop where
 p:digs 18446744073709551616 C.M=C.pl
 n:digs 18446744073709551616 (val 18446744073709551616 C.nl)=C.nl
 x:digs 18446744073709551616 (val 18446744073709551616 C.xl)=C.xl
 y:digs 18446744073709551616 (val 18446744073709551616 C.yl)=C.yl
def Crv.inf (C:Crv):Bool:=C.size==0
theorem IsC.inf {c:Int}{C:Crv}(h:IsC c C):C.inf=false:=by
 rcases h with ⟨_,rfl⟩ | ⟨_,rfl⟩ <;> rfl
theorem zBf {c:Int}{C:Crv}(h:IsU c C) (w:World):Calls Tryz.prog 138 #[.int .i64 c] w fun e w'=>∃ A cc,e=.returned (.slice A C.nl.length cc)∧RU w' A cc C.nl∧Ext w w':=by
 rcases h with h | ⟨h1,h2,rfl⟩
 · exact zBg h w
 · exact (sq h1 h2 w).mono fun e w' ⟨h,hE⟩=>⟨none,0,h,RN.nil_ _ _,hE⟩
def z85:Array Value:=Array.replicate 288 (.int .u64 0)
theorem zBv:(Tryz.prog.info? 178).map (·.size)=some 288:=by kernel_rfl
theorem th:z85.size=288:=by kernel_rfl
def JRow (C:Crv) (X:World) (b i:Nat) (p:Nat×Nat×Nat):Prop:=∃ x y z,X.rangeAt b (18*i) (nts (x++y++z))∧FJ C.M C.n x y z p.1 p.2.1 p.2.2
structure wQ (C:Crv) (X:World) (b:Nat) (t:Nat→Nat×Nat×Nat) (n:Nat):Prop where
 blk:∃ cs:Array Value,X.heap[b]?=some (.cells cs 178 (0,0))∧cs.size=288
 row:∀ i,i<n→JRow C X b i (t i)
section
variable {C:Crv} {X Y:World} {b n:Nat} {t:Nat→Nat×Nat×Nat}
theorem wQ.lt (h:wQ C X b t n):b<X.heap.size:=by
 obtain ⟨cs,hb,_⟩:=h.blk;exact qw hb
theorem wQ.same (h:wQ C X b t n) (hb:Y.heap[b]?=X.heap[b]?):wQ C Y b t n:=by
 obtain ⟨cs,h1,h2⟩:=h.blk;refine ⟨⟨cs,hb.trans h1,h2⟩,fun i hi=>?_⟩;obtain ⟨x,y,z,hr,hf⟩:=h.row i hi;exact ⟨x,y,z,fun j v hv=>(zT hb).trans (hr j v hv),hf⟩
theorem wQ.ext (h:wQ C X b t n) (hE:Ext X Y):wQ C Y b t n:=h.same (Below.block hE b h.lt)
theorem wQ.just {g:Nat}(h:wQ C X b t n) (hj:kj g X Y) (hg:b≠g):wQ C Y b t n:=h.same (hj.block b h.lt hg)
theorem oO {x y z:List Nat}{M m:Nat}{p:Nat×Nat×Nat}(h:FJ M m x y z p.1 p.2.1 p.2.2):(nts (x++y++z)).length=18:=by
 rw [qj,zt,zt,h.x.elt.six,h.y.elt.six,h.z.elt.six]
theorem cF {op:Oper}{a:Act}{K:Act→World→Prop}{Q:Exit→Act→World→Prop}(x:Operand) (ho:op.op=.load 176 x){i:Nat}(h:wQ C X b t n) (hi:i<n){o:Nat}(hoi:18*i=o) (hx:a.eval x=.pointer (some ⟨b,o,none⟩)) (hK:∀ v,JAt C v (t i)→K (a.put op.dst v) X):op.wp Tryz.prog a X K Q:=by
 obtain ⟨lx,ly,lz,hr,hf⟩:=h.row i hi;subst hoi;exact wp_load_mid 176 x ho b (18*i) hx _ _ hr Tryz.underlying176 rfl (by rw [oO hf];exact gS) (hK _ ⟨lx,ly,lz,rfl,hf⟩)
theorem rV {T:TypeId}(b:Nat):∀ (vs:List Value) (o:Nat) (X:World) (cs:Array Value),X.heap[b]?=some (.cells cs T (0,0))→∃ ds:Array Value,(X.setCells b o vs).heap[b]?=some (.cells ds T (0,0))∧ds.size=cs.size
 | [],_,X,cs,h=>⟨cs,h,rfl⟩
 | v :: vs, o, X, cs, h => by
   obtain ⟨ds,h1,h2⟩:=rV b vs (o+1) (X.setCell ⟨b,o,none⟩ v) _ (jm h o v);exact ⟨ds,h1,by rw [h2];simp⟩
theorem gu (b:Nat):∀ (vs:List Value) (o:Nat) (X:World),kj b X (X.setCells b o vs)∧(X.setCells b o vs).heap.size=X.heap.size
 | [],_,X=>⟨kj.refl b X,rfl⟩
 | v :: vs, o, X => by
   obtain ⟨h1,h2⟩:=gu b vs (o+1) (X.setCell ⟨b,o,none⟩ v);exact ⟨((kj.refl b X).set o v).trans h1,h2.trans (by simp [World.setCell])⟩
theorem sM {op:Oper}{a:Act}{K:Act→World→Prop}{Q:Exit→Act→World→Prop}(x y:Operand) (ho:op.op=.store 176 x y) (hd:op.dst=none) (h:wQ C X b t n) (hn:n<16){v:Value}(hv:JAt C v (t n)){o:Nat}(hoi:18*n=o) (hx:a.eval x=.pointer (some ⟨b,o,none⟩)) (hy:a.eval y=v)
 (hK:∀ Y,wQ C Y b t (n+1)→kj b X Y→Y.heap.size=X.heap.size→K a Y):op.wp Tryz.prog a X K Q:=by
 obtain ⟨lx,ly,lz,rfl,hf⟩:=hv
 obtain ⟨cs,hb,hs⟩:=h.blk
 subst hoi
 have hl:=oO hf
 have ht:X.there b (18*n) (nts (lx++ly++lz)).toArray.size:=fun j hj=>by
  rw [jF,hl] at hj;refine ⟨?_,zv hb _⟩;rw [zJ hb];simp [hs];omega
 refine wp_store_mid 176 x y ho b (18*n) _ hx hy ht (by rw [jF,hl];exact gS) (nA _) ?_
 rw [hd]
 obtain ⟨h1,h2⟩:=gu b (nts (lx++ly++lz)) (18*n) X
 refine hK _ ⟨?_,fun i hi=>?_⟩ h1 h2
 · obtain ⟨ds,h3,h4⟩:=rV b (nts (lx++ly++lz)) (18*n) X cs hb;exact ⟨ds,h3,h4.trans hs⟩
 · rcases zz i n with hlt | hge
   · obtain ⟨mx,my,mz,hr,hg⟩:=h.row i hlt;exact ⟨mx,my,mz,World.rangeAt_setCells_apart hr _ _ _ (.inr (.inl (by rw [oO hg];omega))),hg⟩
   · obtain rfl:i=n:=by omega
     exact ⟨lx,ly,lz,World.rangeAt_setCells_same _ _ _ _ (by rwa [jF] at ht),hf⟩
end
theorem six3 {l:List Nat}(h:l.length=18):∃ a0 a1 a2 a3 a4 a5 a6 a7 a8 a9 b0 b1 b2 b3 b4 b5 b6 b7,l=[a0,a1,a2,a3,a4,a5,a6,a7,a8,a9,b0,b1,b2,b3,b4,b5,b6,b7]:=by
 match l,h with
 | [a0,a1,a2,a3,a4,a5,a6,a7,a8,a9,b0,b1,b2,b3,b4,b5,b6,b7],_=>exact ⟨_,_,_,_,_,_,_,_,_,_,_,_,_,_,_,_,_,_,rfl⟩
theorem sJ {x y:List Nat}(hx:x.length=18) (hy:y.length=18):Tryz.prog.built 178 [(0,.agg (nts x).toArray),(1,.agg (nts y).toArray)]=some (nts (x++y++List.replicate 252 0)).toArray:=by
 obtain ⟨a0,a1,a2,a3,a4,a5,a6,a7,a8,a9,b0,b1,b2,b3,b4,b5,b6,b7,rfl⟩:=six3 hx;obtain ⟨c0,c1,c2,c3,c4,c5,c6,c7,c8,c9,d0,d1,d2,d3,d4,d5,d6,d7,rfl⟩:=six3 hy;kernel_rfl
theorem pO {C:Crv}{op:Oper}{a:Act}{X:World}{K:Act→World→Prop}{Q:Exit→Act→World→Prop}(p q:Operand) (ho:op.op=.build 178 #[(0,p),(1,q)]){v u:Value}{x y:Nat×Nat×Nat}(hp:a.eval p=v) (hq:a.eval q=u) (hv:JAt C v x) (hu:JAt C u y)
 (hK:∀ cs:Array Value,cs.size=288→cs.all (·.oneCell')=true→(∀ W b,W.heap[b]?=some (.cells cs 178 (0,0))→∀ t:Nat→Nat×Nat×Nat,t 0=x→t 1=y→wQ C W b t 2)→K (a.put op.dst (.agg cs)) X):op.wp Tryz.prog a X K Q:=by
 obtain ⟨x1,x2,x3,rfl,hf⟩:=hv
 obtain ⟨y1,y2,y3,rfl,hg⟩:=hu
 have hlx:(x1++x2++x3).length=18:=by have:=oO hf;rwa [qj] at this
 have hly:(y1++y2++y3).length=18:=by have:=oO hg;rwa [qj] at this
 have hb:(#[(0,p),(1,q)].map fun (i,x)=>(i,a.eval x)).toList=[(0,.agg (nts (x1++x2++x3)).toArray),(1,.agg (nts (y1++y2++y3)).toArray)]:=by simp [hp,hq,JV]
 have hs:(x1++x2++x3++(y1++y2++y3)++List.replicate 252 0).length=288:=by rw [zt,zt,hlx,hly,List.length_replicate]
 refine wp_build 178 #[(0,p),(1,q)] ho (by rw [hb,sJ hlx hly];rfl) ?_
 rw [hb,sJ hlx hly,vU]
 refine hK _ (by rw [jF,qj,hs]) (nA _) fun W b h t h0 h1=>⟨⟨_,h,by rw [jF,qj,hs]⟩,fun i hi=>?_⟩
 have key:∀ pre l post:List Nat,x1++x2++x3++(y1++y2++y3)++List.replicate 252 0=pre++l++post→W.rangeAt b pre.length (nts l):=fun pre l post e j v hv=>by
  rw [zJ h,e,zK,ul,ul,kT,List.getElem?_append_right (by rw [qj];omega),qj,Nat.add_sub_cancel_left,List.getElem?_append_left,hv];exact (List.getElem?_eq_some_iff.1 hv).1
 rcases (show i=0∨i=1 by omega) with rfl | rfl
 · rw [h0];exact ⟨x1,x2,x3,by have:=key [] (x1++x2++x3) _ (by rw [kI,kT]);simpa using this,hf⟩
 · rw [h1];exact ⟨y1,y2,y3,by have:=key (x1++x2++x3) (y1++y2++y3) _ rfl;rwa [hlx] at this,hg⟩
theorem se {X:World}{base b:Nat}{v:Value}{o:Option (Nat×Nat)}(h:PtV X base v o):∃ x0 x1 x2,v=.agg #[x0,x1,x2]∧(#[x0,x1,x2]:Array Value).all (·.oneCell')=true∧∀ Y,kj b X Y→(∃ cs,X.heap[b]?=some (.cells cs 29 (0,0)))→PtV Y base v o:=by
 cases o with
 | none=>cases h;exact ⟨_,_,_,rfl,cU _ _ _ _ _ _ _,fun _ _ _=>rfl⟩
 | some p =>
   obtain ⟨A,c,A',c',rfl,h1,h2⟩:=h;exact ⟨_,_,_,rfl,cU _ _ _ _ _ _ _,fun Y hj ⟨cs,hb⟩=>⟨A,c,A',c',rfl,h1.just hj hb (by decide),h2.just hj hb (by decide)⟩⟩
end Go.Proofs.YtmlbicgpehchhaaGreat
namespace Go.Proofs.YtmlbicgpehchhaaGreat
open Go.RowKit Go.Shelf
attribute [local go_sem] Oper.semAt_some
def zBT (M:Nat) (p:Nat×Nat×Nat):Nat→Nat×Nat×Nat
 | 0=>(1,1,0)
 | 1=>p
 | k+2=>nB M (zBT M p (k+1)) p
def wY (M:Nat) (p:Nat×Nat×Nat) (E:Nat):Nat→(Nat×Nat×Nat)×Nat
 | 0=>((1,1,0),0)
 | k+1=>if (kz E k).1 % 4=0 then (nB M (bZ M (wY M p E k).1) (zBT M p (2*(wY M p E k).2+(kz E k).2)),0) else (bZ M (wY M p E k).1,2*(wY M p E k).2+(kz E k).2)
def aB (C:Crv) (bi:Bool) (x y E:Nat):Option (Option (Nat×Nat)):=if onQ C bi x y=true then (if zo E≤4096 then some (ay C.M (wY C.M (upP bi x y) E (zo E)).1) else none) else none
theorem rZ {X:World}{b:Nat}{u:Value}{T:TypeId}(h:X.heap[b]?=some (.cells #[u] T (0,0))) (v:Value):(X.setCell ⟨b,0,none⟩ v).heap[b]?=some (.cells #[v] T (0,0))∧kj b X (X.setCell ⟨b,0,none⟩ v) :=
 ⟨by simpa using jm h 0 v,(kj.refl b X).set 0 v⟩
def gG (C:Crv) (X:World) (b:Nat) (p:Nat×Nat×Nat):Prop:=∃ x y z,kV X b x y z∧FJ C.M C.n x y z p.1 p.2.1 p.2.2
theorem kV.lt' {X:World}{b:Nat}{x y z:List Nat}(h:kV X b x y z):b<X.heap.size:=qw h
theorem gG.ext {C:Crv}{X Y:World}{b:Nat}{p:Nat×Nat×Nat}(h:gG C X b p) (hE:Ext X Y):gG C Y b p:=let ⟨x,y,z,h1,h2⟩:=h;⟨x,y,z,hE.at_ h1,h2⟩
theorem zA4 (M:Nat) (p:Nat×Nat×Nat) (E:Nat):∀ k,k<zo E→(wY M p E k).2*2 ^ ((zo E - 1 - k) % 4)<8
 | 0,_=>by rw [show (wY M p E 0).2=0 from rfl];omega
 | k+1,h=>by
  have ih:=zA4 M p E k (by omega);have hb:(kz E k).2<2:=qP _ (by omega);have hi:(kz E k).1=zo E - 1 - k:=rfl;simp only [wY];split
  · simp
  · rename_i hne;rw [hi] at hne;obtain ⟨i,hi'⟩:=eV (zo E - 1 - k);rw [hi'] at ih hne;rw [show zo E - 1 - (k+1)=i - 1 by omega];have hr:i % 4=1∨i % 4=2∨i % 4=3:=by omega
    show (2*(wY M p E k).2+(kz E k).2)*_<8;rcases hr with hr | hr | hr
    · rw [hr] at ih;rw [show (i - 1) % 4=0 by omega];omega
    · rw [hr] at ih;rw [show (i - 1) % 4=1 by omega];omega
    · rw [hr] at ih;rw [show (i - 1) % 4=2 by omega];omega
theorem zBz {M:Nat}{p:Nat×Nat×Nat}{E k:Nat}(h:k<zo E):(wY M p E k).2<8:=jB (Nat.le_mul_of_pos_right _ (qZ (by omega))) (zA4 M p E k h)
theorem zCW {fn:Func}{tm:Array Value}{W:World}{p u:Tmp}{g:Nat}{ty:TypeId}{fr:Nat×Nat}{x0 x1 x2 v:Value}(hr:fn.results=#[.cell p 29,.tmp u]) (hp:tm.getD p undef=.pointer (some ⟨g,0,none⟩)) (hu:tm.getD u undef=v)
 (hg:W.heap[g]?=some (.cells #[x0,x1,x2] ty fr)):(results fn tm).run Tryz.prog W=.ok (.tuple #[.agg #[x0,x1,x2],v]) W:=by
 rw [results_cell_tmp hr,hp]
 have h1:(asAddr (.pointer (some ⟨g,0,none⟩)):Sem Addr).run Tryz.prog W=.ok ⟨g,0,none⟩ W:=rfl
 rw [h1,qy,run_loadVar_row W g ty 29 #[x0,x1,x2] fr _ hg Tryz.underlying29 rfl gR,qy,hu]
theorem gG.just {C:Crv}{X Y:World}{b g:Nat}{p:Nat×Nat×Nat}(h:gG C X b p) (hj:kj g X Y) (hb:b≠g):gG C Y b p:=let ⟨x,y,z,h1,h2⟩:=h;⟨x,y,z,hj.at_ hb h1,h2⟩
theorem OB.putC {X:World}{base D:Nat}{A:Option Addr}{c:Nat}{l:List Nat}{o o':Obj}(h:OB X base A c l) (hD:X.heap[D]?=some o) (hc:o.isCells=false):OB (X.putObj D o') base A c l:=by
 obtain ⟨h1,h2,h3,h4⟩:=h;refine ⟨h1,h2,h3,fun hl=>?_⟩;obtain ⟨g,cur,e,hg,hgc,hr⟩:=h4 hl;refine ⟨g,cur,e,hg,(qY (fun e=>?_)).trans hgc,hr⟩;subst e;rw [hD] at hgc;cases hgc;cases hc
theorem PtV.put {X:World}{base D:Nat}{v:Value}{p:Option (Nat×Nat)}{o':Obj}(h:PtV X base v p) (hD:X.heap[D]?=some (.deferred (some []))):PtV (X.putObj D o') base v p:=by
 cases p with
 | none=>exact h
 | some p =>
  obtain ⟨A,c,A',c',rfl,h1,h2⟩:=h;exact ⟨A,c,A',c',rfl,h1.putC hD rfl,h2.putC hD rfl⟩
structure MK (n0 t bo be:Nat) (w3 V Z:World):Prop where
 keeps:jP n0 (n0+2) 0 V Z
 stay:xz t n0 V Z
 below:Below bo w3 Z
 tab:Z.heap[be]?=V.heap[be]?
 size:n0≤Z.heap.size
theorem MK.ext {n0 t bo be:Nat}{w3 V Z Z':World}(h:MK n0 t bo be w3 V Z) (hE:Ext Z Z') (hbe:be<n0) (hbo:bo≤n0):MK n0 t bo be w3 V Z' :=
 ⟨h.keeps.trans (jP.below hE (zH _)),xz.trans h.stay (hE.stay h.size),h.below.trans (Below.mono hE (by have:=h.size;omega)),(Below.block hE be (by have:=h.size;omega)).trans h.tab,zQ h.size hE.bsize⟩
theorem MK.just {n0 t bo be g:Nat}{w3 V Z Z':World}{cs:Array Value}{T:TypeId}{fr:Nat×Nat}(h:MK n0 t bo be w3 V Z) (hj:kj g Z Z') (hg:Z.heap[g]?=some (.cells cs T fr)) (hgt:g<t) (hgb:bo≤g) (hne:be≠g) (hbe:be<n0) (hbo:bo≤n0):MK n0 t bo be w3 V Z' :=
 ⟨h.keeps.trans (jP.just hj hg),xz.trans h.stay (hj.stay hgt h.size),h.below.trans (hj.below hgb (by have:=h.size;omega)),(hj.block be (by have:=h.size;omega) hne).trans h.tab,zQ h.size hj.size⟩
theorem gG.below {C:Crv}{X Y:World}{b B:Nat}{p:Nat×Nat×Nat}(h:gG C X b p) (hB:Below B X Y) (hb:b<B):gG C Y b p:=let ⟨x,y,z,h1,h2⟩:=h;⟨x,y,z,(hB.block b hb).trans h1,h2⟩
theorem mul_c {c:Int}{C:Crv}(hC:IsC c C){p:Value}{bi:Bool}{x y E:Nat}{An:Option Addr}{cn:Nat}{n:List Nat}(w:World) (hp:APt w p bi x y) (hn:RU w An cn n) (hE:val 18446744073709551616 n=E) :
 Calls Tryz.prog 100 #[.int .i64 c,.slice An n.length cn,p] w fun e w'=>∃ o,e=.returned (.tuple #[o,.bool (aB C bi x y E).isSome])∧PtV w' w.heap.size o (aB C bi x y E).join∧Ext w w':=by
 obtain ⟨A,A',ca,cb,a,b,rfl,ha,hb,hx,hy⟩:=hp
 have hp:APt w (.agg #[.bool bi,.slice A a.length ca,.slice A' b.length cb]) bi x y:=⟨A,A',ca,cb,a,b,rfl,ha,hb,hx,hy⟩
 obtain ⟨W0,hW0⟩:=eW ((w.alloc (.cells #[.bool bi,.slice A a.length ca,.slice A' b.length cb] 29)).alloc (.cells #[.bool false,.slice none 0 0,.slice none 0 0] 29))
 obtain ⟨q,hq⟩:=eV w.heap.size
 have hE0:Ext w W0:=by rw [hW0];exact (zb _ _).trans (zb _ _)
 obtain ⟨h1,h3,hz0⟩:=xU w (.cells #[.bool bi,.slice A a.length ca,.slice A' b.length cb] 29) (.cells #[.bool false,.slice none 0 0,.slice none 0 0] 29)
 rw [←hW0,hq] at h1 h3 hz0
 have hp0:=zF (hp.ext hE0)
 have HE0:=zF hE0
 have Hz0:=zF hz0
 have HC:=zF hC
 have HN:=zF (qm hn hE0)
 have HE:=zF hE
 rw [hq]
 obtain ⟨res,hres⟩:=eV (aB C bi x y E)
 rw [hres]
 have Hres:=zF hres
 clear hp hE0 hz0 hC hres ha hb hx hy hn hE
 obtain ⟨o1,ho1⟩:=eV (onQ C bi x y)
 have Ho1:=zF ho1
 obtain ⟨nb,hnb⟩:=eV (zo E)
 have Hnb:=zF hnb
 clear ho1 hnb
 cases o1
 case false =>
  obtain rfl:res=none:=by rw [←Hres.out,aB,qA (by rw [Ho1.out];decide)]
  go_enter Tryz.func100,Tryz.ntmps100;go_upto_region 1 with fail;rw [←hW0];have Hq:=zF hq;clear hW0 hq;go_upto_region 2 with (go_at_call 102;refine (zAZ HC.out _).mono ?_;rintro e wa ⟨k1,rfl,hk1,hE1⟩);obtain ⟨b2,hb2⟩:=eV wa.heap.size;have h2:=zP wa (.cells #[.pointer (some ⟨k1,0,none⟩)] 143);have hA:=zb wa (.cells #[.pointer (some ⟨k1,0,none⟩)] 143);rw [hb2] at h2;have hz1:(wa.alloc (.cells #[.pointer (some ⟨k1,0,none⟩)] 143)).heap.size=b2+1:=by rw [qL,hb2]
  generalize hW1:wa.alloc (.cells #[.pointer (some ⟨k1,0,none⟩)] 143)=W1 at *;rw [hb2];have Hk1:=zF (hk1.ext hA);have HE1:=zF (hE1.trans hA);have Hz1:=zF hz1;have HB2:=zF (show q+2≤b2 by have:=hE1.bsize;have:=Hz0.out;omega);replace h1:=HE1.out.at_ h1;replace h3:=HE1.out.at_ h3;have ck:=zJ h2 0;simp only [zK,zL] at ck;clear hk1 hE1 hA hz1 hb2 hW1
  refine qQ 9 [0,0,3,7,15,31,63,127,255] [] (fun j f X=>match j with
   | 0=>f 0=.pointer (some ⟨k1,0,none⟩)
   | 1=>f 1=.agg #[.bool bi,.slice A a.length ca,.slice A' b.length cb]
   | 2=>f 2=.bool false
   | 3=>f 3=.bool true
   | 4=>f 4=.bool true
   | 5=>f 5=undef
   | 6=>f 6=undef
   | 7=>f 7=undef
   | 8=>f 8=.bool true
   | _=>True) (by kernel_rfl) [(17,0),(18,1),(19,2),(20,3),(21,4),(22,5),(23,6),(24,7),(25,8)] (by kernel_rfl) ?_
  refine Par.ld0 1 8 ck ?_;refine lV0 2 7 h1 gR ?_;refine qJ 3 6 (fun f=>#[f 0,f 1]) (F':=108) (fun f X hX hR=>?_) ?_
  · have e0:f 0=_:=hR.out 0 rfl;have e1:f 1=_:=hR.out 1 rfl;simp only [e0,e1];refine (zCd (Hk1.out.ext hX) HC.out.fine (hp0.out.ext (HE1.out.trans hX))).mono ?_;rw [Ho1.out];rintro e w2 ⟨rfl,hB⟩;exact ⟨_,rfl,hB,fun _ _=>rfl⟩
  refine qM 4 5 2 ?_;refine qM 5 4 3 ?_;refine qT 6 3 4 ?_;refine qT 7 2 4 ?_;refine qT 8 1 4 ?_;refine jj 9 0 4 7 ?_;refine yF ⟨fun f X hX hR hal hap=>?_⟩;have e8:f 8=_:=hR 8 (by decide);simp only [yZ,e8];clear hR hal hap e8;refine zU ?_;have hb1:=hX.at_ h3;go_wp2_with (go_at_call 113;refine (gP _).mono ?_;rintro e wb ⟨rfl,hE2⟩;have hrb2:=hE2.at_ hb1;obtain ⟨z0,z1,z2,f0,f1,f2⟩:=gI hrb2);exact bR rfl rfl rfl rfl (cT hrb2 _ _ _) ⟨_,rfl,rfl,cW (((HE0.out.trans HE1.out).trans hX).trans hE2) (by have:=Hq.out;omega) _ _ _⟩
 case true =>
  by_cases hbits:nb≤4096;case neg =>
   obtain rfl:res=none:=by rw [←Hres.out,aB,qK Ho1.out,qA (by rw [Hnb.out];exact hbits)]
   have Hgt:=zF (show (4096:Int)<(nb:Int) by omega);go_enter Tryz.func100,Tryz.ntmps100;go_upto_region 1 with fail;rw [←hW0];have Hq:=zF hq;clear hW0 hq;go_upto_region 2 with (go_at_call 102;refine (zAZ HC.out _).mono ?_;rintro e wa ⟨k1,rfl,hk1,hE1⟩);obtain ⟨b2,hb2⟩:=eV wa.heap.size;have h2:=zP wa (.cells #[.pointer (some ⟨k1,0,none⟩)] 143);have hA:=zb wa (.cells #[.pointer (some ⟨k1,0,none⟩)] 143);rw [hb2] at h2;have hz1:(wa.alloc (.cells #[.pointer (some ⟨k1,0,none⟩)] 143)).heap.size=b2+1:=by rw [qL,hb2]
   generalize hW1:wa.alloc (.cells #[.pointer (some ⟨k1,0,none⟩)] 143)=W1 at *;rw [hb2];have Hk1:=zF (hk1.ext hA);have HE1:=zF (hE1.trans hA);have Hz1:=zF hz1;have HB2:=zF (show q+2≤b2 by have:=hE1.bsize;have:=Hz0.out;omega);replace h1:=HE1.out.at_ h1;replace h3:=HE1.out.at_ h3;have ck:=zJ h2 0;simp only [zK,zL] at ck;clear hk1 hE1 hA hz1 hb2 hW1
   refine qQ 9 [0,0,3,7,15,31,63,127,255] [] (fun j f X=>match j with
    | 0=>f 0=.pointer (some ⟨k1,0,none⟩)
    | 1=>f 1=.agg #[.bool bi,.slice A a.length ca,.slice A' b.length cb]
    | 2=>f 2=.bool true
    | 3=>f 3=.bool false
    | 4=>f 4=.bool false
    | 5=>f 5=.slice An n.length cn
    | 6=>f 6=.int .i64 (nb:Int)
    | 7=>f 7=.bool true
    | 8=>f 8=.bool true
    | _=>True) (by kernel_rfl) [(17,0),(18,1),(19,2),(20,3),(21,4),(22,5),(23,6),(24,7),(25,8)] (by kernel_rfl) ?_
   refine Par.ld0 1 8 ck ?_;refine lV0 2 7 h1 gR ?_;refine qJ 3 6 (fun f=>#[f 0,f 1]) (F':=108) (fun f X hX hR=>?_) ?_
   · have e0:f 0=_:=hR.out 0 rfl;have e1:f 1=_:=hR.out 1 rfl;simp only [e0,e1];refine (zCd (Hk1.out.ext hX) HC.out.fine (hp0.out.ext (HE1.out.trans hX))).mono ?_;rw [Ho1.out];rintro e w2 ⟨rfl,hB⟩;exact ⟨_,rfl,hB,fun _ _=>rfl⟩
   refine qM 4 5 2 ?_;refine qM 5 4 3 ?_;refine qM 6 3 4 ?_;refine wj 7 2 4 (fun f=>#[f 5]) (F':=84) (fun f X hX hR=>?_) ?_
   · have e5:f 5=_:=hR.out 5 rfl;simp only [e5];refine (vJ _ An cn n X (qm HN.out (HE1.out.trans hX))).mono ?_;rw [HE.out,Hnb.out];rintro e w2 ⟨rfl,rfl⟩;exact ⟨_,rfl,(zy _),fun _ _=>rfl⟩
   refine qH 8 1 [(17,0),(18,1),(19,2),(20,3),(21,4),(22,5),(23,6)] (fun f X hX hR K hK=>?_) ?_
   · have e4:f 4=_:=hR.out 4 rfl;have e6:f 6=_:=hR.out 6 rfl;have hgt:decide ((4096:Int)<(nb:Int))=true:=qX (by have:=Hgt.out;omega);have hgn:decide (4096<nb)=true:=qX (by have:=Hgt.out;omega);simp only [yZ,e4,e6];refine ⟨zZ (by kernel_rfl) ?_⟩;go_simp;exact jA hK (s:=by simp only [yZ,e4,e6])
   refine jj 9 0 4 7 ?_;refine yF ⟨fun f X hX hR hal hap=>?_⟩;have e8:f 8=_:=hR 8 (by decide);simp only [yZ,e8];clear hR hal hap e8;refine zU ?_;have hb1:=hX.at_ h3;go_wp2_with (go_at_call 113;refine (gP _).mono ?_;rintro e wb ⟨rfl,hE2⟩;have hrb2:=hE2.at_ hb1;obtain ⟨z0,z1,z2,f0,f1,f2⟩:=gI hrb2);exact bR rfl rfl rfl rfl (cT hrb2 _ _ _) ⟨_,rfl,rfl,cW (((HE0.out.trans HE1.out).trans hX).trans hE2) (by have:=Hq.out;omega) _ _ _⟩
  case pos =>
   obtain rfl:res=some (ay C.M (wY C.M (upP bi x y) E nb).1):=by rw [←Hres.out,aB,qK Ho1.out,qK (by rw [Hnb.out];exact hbits),Hnb.out]
   have Hgt:=zF (show ¬ (4096:Int)<(nb:Int) by omega);refine (callsIn_wide (n:=6)).1 ?_;refine callsIn_of_wp_marks Tryz.func100 rfl trivial ?_ rfl;simp only [Tryz.ntmps100,jF,qh,jI,Nat.reduceAdd,Nat.reduceSub,wt,ws,yx,xI,kI,kN];refine wpIn_wide.2 ?_;go_upto_region 1 with fail;rw [←hW0];have Hq:=zF hq;clear hW0 hq;go_upto_region 2 with (go_at_call 102;refine (zAZ HC.out _).mono ?_;rintro e wa ⟨k1,rfl,hk1,hE1⟩);obtain ⟨b2,hb2⟩:=eV wa.heap.size;have h2:=zP wa (.cells #[.pointer (some ⟨k1,0,none⟩)] 143);have hA:=zb wa (.cells #[.pointer (some ⟨k1,0,none⟩)] 143);rw [hb2] at h2;have hz1:(wa.alloc (.cells #[.pointer (some ⟨k1,0,none⟩)] 143)).heap.size=b2+1:=by rw [qL,hb2]
   generalize hW1:wa.alloc (.cells #[.pointer (some ⟨k1,0,none⟩)] 143)=W1 at *;rw [hb2];have Hk1:=zF (hk1.ext hA);have HE1:=zF (hE1.trans hA);have Hz1:=zF hz1;have HB2:=zF (show q+2≤b2 by have:=hE1.bsize;have:=Hz0.out;omega);replace h1:=HE1.out.at_ h1;replace h3:=HE1.out.at_ h3;have ck:=zJ h2 0;simp only [zK,zL] at ck;clear hk1 hE1 hA hz1 hb2 hW1
   refine qQ 9 [0,0,3,7,15,31,63,127,255] [] (fun j f X=>match j with
    | 0=>f 0=.pointer (some ⟨k1,0,none⟩)
    | 1=>f 1=.agg #[.bool bi,.slice A a.length ca,.slice A' b.length cb]
    | 2=>f 2=.bool true
    | 3=>f 3=.bool false
    | 4=>f 4=.bool false
    | 5=>f 5=.slice An n.length cn
    | 6=>f 6=.int .i64 (nb:Int)
    | 7=>f 7=.bool false
    | 8=>f 8=.bool false
    | _=>True) (by kernel_rfl) [(17,0),(18,1),(19,2),(20,3),(21,4),(22,5),(23,6),(24,7),(25,8)] (by kernel_rfl) ?_
   refine Par.ld0 1 8 ck ?_;refine lV0 2 7 h1 gR ?_;refine qJ 3 6 (fun f=>#[f 0,f 1]) (F':=108) (fun f X hX hR=>?_) ?_
   · have e0:f 0=_:=hR.out 0 rfl;have e1:f 1=_:=hR.out 1 rfl;simp only [e0,e1];refine (zCd (Hk1.out.ext hX) HC.out.fine (hp0.out.ext (HE1.out.trans hX))).mono ?_;rw [Ho1.out];rintro e w2 ⟨rfl,hB⟩;exact ⟨_,rfl,hB,fun _ _=>rfl⟩
   refine qM 4 5 2 ?_;refine qM 5 4 3 ?_;refine qM 6 3 4 ?_;refine wj 7 2 4 (fun f=>#[f 5]) (F':=84) (fun f X hX hR=>?_) ?_
   · have e5:f 5=_:=hR.out 5 rfl;simp only [e5];refine (vJ _ An cn n X (qm HN.out (HE1.out.trans hX))).mono ?_;rw [HE.out,Hnb.out];rintro e w2 ⟨rfl,rfl⟩;exact ⟨_,rfl,(zy _),fun _ _=>rfl⟩
   refine qH 8 1 [(17,0),(18,1),(19,2),(20,3),(21,4),(22,5),(23,6)] (fun f X hX hR K hK=>?_) ?_
   · have e4:f 4=_:=hR.out 4 rfl;have e6:f 6=_:=hR.out 6 rfl;have hgt:decide ((4096:Int)<(nb:Int))=false:=qb (by have:=Hgt.out;omega);have hgn:decide (4096<nb)=false:=qb (by have:=Hgt.out;omega);simp only [yZ,e4,e6];refine ⟨zZ (by kernel_rfl) ?_⟩;go_simp;exact jA hK (s:=by simp only [yZ,e4,e6])
   refine jj 9 0 4 7 ?_;refine yF ⟨fun f X hX hR hal hap=>?_⟩;have e8:f 8=_:=hR 8 (by decide);simp only [yZ,e8];clear hR hal hap e8;refine zU ?_;have HX:=zF hX;rename World=>X2;replace ck:=hX.cell ck;replace h1:=hX.at_ h1;replace h3:=hX.at_ h3;clear hX h2;go_upto_region 4 with fail;obtain ⟨pt,hpt⟩:=eV (zBT C.M (upP bi x y));have ht0:pt 0=(1,1,0):=by rw [←hpt];rfl
   have ht1:pt 1=upP bi x y:=by rw [←hpt];rfl
   have hts:∀ k,1≤k→pt (k+1)=nB C.M (pt k) (pt 1):=by
    intro k hk;obtain ⟨k,rfl⟩:∃ m,k=m+1:=⟨k - 1,by omega⟩
    rw [←hpt];rfl
   have Hpt:=zF hpt;have Ht0:=zF ht0;have Ht1:=zF ht1;have Hts:=zF hts;clear hpt ht0 ht1 hts
   refine z8 (by kernel_rfl) 4 [0,0,3,0,15] [3] (fun j f X=>match j with
    | 0=>f 0=.pointer (some ⟨k1,0,none⟩)
    | 1=>f 1=uq
    | 2=>∃ v,f 2=v∧JAt C v (1,1,0)
    | 3=>∃ b,f 3=.pointer (some ⟨b,0,none⟩)∧X2.heap.size≤b∧X.heap[b]?=some (.cells #[.int .u64 0,.int .u64 0,.int .u64 0,.int .u64 0,.int .u64 0,.int .u64 0,.int .u64 0,.int .u64 0,.int .u64 0,.int .u64 0,.int .u64 0,.int .u64 0,.int .u64 0,.int .u64 0,.int .u64 0,.int .u64 0,.int .u64 0,.int .u64 0] 176 (0,0))
    | _=>True) (by kernel_rfl) [(27,0),(28,1),(29,2),(9,3)] (by kernel_rfl) ?_
   refine Par.ld0 1 3 ck ?_;refine qJ 2 2 (fun _=>#[]) (F':=113) (fun f X hX hR=>?_) ?_
   · refine (gP X).mono ?_;rintro e w2 ⟨rfl,hB⟩;exact ⟨uq,rfl,hB,fun _ _=>rfl⟩
   refine qJ 3 1 (fun f=>#[f 0,f 1]) (F':=139) (fun f X hX hR=>?_) ?_
   · have e0:f 0=_:=hR.out 0 rfl;have e1:f 1=_:=hR.out 1 rfl;simp only [e0,e1];refine (up_j (Hk1.out.ext (HX.out.trans hX)) (APt.inf_ X) rfl).mono ?_;rintro e w2 ⟨o,rfl,hj,hB⟩;exact ⟨_,rfl,hB,fun _ _=>⟨_,rfl,hj⟩⟩
   refine vB 4 0 ?_;refine yF ⟨fun f X hX hR hal hap=>?_⟩;obtain ⟨v2,(e2:f 2=_),j2⟩:=hR 2 (by decide);obtain ⟨bo3,(e3:f 3=_),lo3,ho3⟩:=hR 3 (by decide);simp only [yZ,e2,e3];clear hR hal hap e2 e3;obtain ⟨ox,oy,oz,ev,hf⟩:=j2;subst ev;refine zg (fun K hK=>⟨zZ (by kernel_rfl) (vS (x:=ox) (y:=oy) (z:=oz) (.tmp 9) (.tmp 29) rfl rfl rfl rfl ho3 rfl hf.x.elt.six hf.y.elt.six hf.z.elt.six (fun Y hY1 hY2 hY3=>hK.out _ _ ?_))⟩);refine zU ?_;have hXY:=hY2.ext hX lo3;have hbo:q+2≤bo3:=by have:=HX.out.bsize;have:=HE1.out.bsize;have:=Hz0.out;omega
   have hJo:gG C Y bo3 (pt 0):=⟨ox,oy,oz,hY1,by rw [Ht0.out];exact hf⟩
   replace ck:=hXY.cell ck;replace h1:=hXY.at_ h1;replace h3:=hXY.at_ h3;have HXY:=zF (HX.out.trans hXY);have lo:=zQ HX.out.bsize lo3;have zY:bo3<Y.heap.size:=hY1.lt';clear hX hY1 hY2 hY3 ho3 lo3 hf hXY;rename World=>V4;go_upto_region 5 with fail
   refine z8 (by kernel_rfl) 6 [0,0,0,6,15,0,63] [5] (fun j f X=>match j with
    | 0=>∃ v,f 0=v∧JAt C v (pt 0)
    | 1=>f 1=.pointer (some ⟨k1,0,none⟩)
    | 2=>f 2=.agg #[.bool bi,.slice A a.length ca,.slice A' b.length cb]
    | 3=>∃ v,f 3=v∧JAt C v (pt 1)
    | 4=>∃ cs:Array Value,f 4=.agg cs∧cs.size=288∧cs.all (·.oneCell')=true∧(∀ (W:World) (b:Nat),W.heap[b]?=some (.cells cs 178 (0,0))→wQ C W b pt 2)
    | 5=>∃ b,f 5=.pointer (some ⟨b,0,none⟩)∧V4.heap.size≤b∧X.heap[b]?=some (.cells z85 178 (0,0))
    | _=>True) (by kernel_rfl) [(30,0),(31,1),(32,2),(33,3),(34,4),(10,5)] (by kernel_rfl) ?_
   refine qH 1 5 [(31,1),(32,2),(33,3),(10,5)] (fun f X hX hR K hK=>?_) ?_
   · obtain ⟨jx,jy,jz,hjb,hjf⟩:=hJo.ext hX;simp only [yZ];refine ⟨vf (v:=JV jx jy jz) (t:=176) 176 (.tmp 9) rfl rfl hjb Tryz.underlying176 rfl (by rw [hjf.sz];exact gS) rfl ?_⟩;exact hK.out _ (JV jx jy jz) _ (by simp only [yZ]) (zy _) trivial (fun _ _=>⟨_,rfl,⟨jx,jy,jz,rfl,hjf⟩⟩)
   refine Par.ld0 2 4 ck ?_;refine lV0 3 3 h1 gR ?_;refine qJ 4 2 (fun f=>#[f 1,f 2]) (F':=139) (fun f X hX hR=>?_) ?_
   · have e1:f 1=_:=hR.out 1 rfl;have e2:f 2=_:=hR.out 2 rfl;simp only [e1,e2];refine (up_j (Hk1.out.ext (HXY.out.trans hX)) (hp0.out.ext ((HE1.out.trans HXY.out).trans hX)) Ho1.out).mono ?_;rintro e w2 ⟨o,rfl,hj,hB⟩;exact ⟨o,rfl,hB,fun _ _=>⟨_,rfl,by rw [Ht1.out];exact hj⟩⟩
   refine qH 5 1 [(30,0),(31,1),(32,2),(33,3),(10,5)] (fun f X hX hR K hK=>?_) ?_
   · obtain ⟨v0,(e0:f 0=_),j0⟩:=hR.out 0 rfl;obtain ⟨v3,(e3:f 3=_),j3⟩:=hR.out 3 rfl;simp only [yZ,e0,e3];refine ⟨pO (.tmp 30) (.tmp 33) rfl rfl rfl j0 j3 (fun cs h1 h2 h3=>?_)⟩;exact hK.out _ (.agg cs) _ (by simp only [yZ,e0,e3]) (zy _) trivial (fun _ _=>⟨cs,rfl,h1,h2,fun W b hb=>h3 W b hb pt rfl rfl⟩)
   refine vB 6 0 ?_;refine yF ⟨fun f X hX hR hal hap=>?_⟩;obtain ⟨v0,(e0:f 0=_),j0⟩:=hR 0 (by decide);obtain ⟨v3,(e3:f 3=_),j3⟩:=hR 3 (by decide);obtain ⟨cs,(e4:f 4=_),hs4,ho4,ht4⟩:=hR 4 (by decide);obtain ⟨be5,(e5:f 5=_),le5,he5⟩:=hR 5 (by decide);simp only [yZ,e0,e3,e4,e5];clear hR hal hap e0 e3 e4 e5;refine zg (fun K hK=>⟨zZ (by kernel_rfl) (vD (cs':=cs) (t:=178) 178 (.tmp 10) (.tmp 34) rfl rfl rfl rfl he5 (by rw [hs4];exact zBv) (by rw [hs4,th]) ho4 (fun Y hY1 hY2 hY3=>hK.out _ _ ?_))⟩);refine zU ?_;have hT2:wQ C Y be5 pt 2:=ht4 Y be5 hY1;have hXZ:=hY2.ext hX le5;have zE:be5<Y.heap.size:=qw hY1;have zoe:bo3<be5:=by omega
   have HXZ:=zF (HXY.out.trans hXZ);replace ck:=hXZ.cell ck;replace hJo:=hJo.ext hXZ;replace h3:=hXZ.at_ h3;clear hX hY1 hY2 hY3 he5 le5 hXZ j0 j3 ht4 hs4 ho4 h1 zY HXY;rename World=>V5;have hb2o:b2<bo3:=by have:=Hz1.out;omega
   go_wp2;go_loopw [11] (fun iv wr=>∃ k:Nat,iv=.int .i64 (k:Int)∧2≤k∧k≤16∧wQ C wr be5 pt k∧Below be5 V5 wr) (fun iv _=>(16 - intOf iv).toNat);case atStart=>exact ⟨2,by go_num,by omega,by omega,hT2,zO _ _⟩
   case round =>
    obtain ⟨k,rfl,hk2,hk16,hT,hB⟩:=hrel;by_cases hlt:k<16
    · obtain ⟨m,hm⟩:∃ m,k=m+1:=⟨k - 1,by omega⟩
      have e1:(k:Int) - 1=(m:Int):=by omega
      have k1':(k:Int)<16:=by omega
      have k2':(m:Int)<16:=by omega
      have ckr:=(hB.cell (p:=⟨b2,0,none⟩) (by show b2<be5;omega)).trans ck;have HEr:=zF (show Ext W1 wr from yL HXZ.out (Below.mono hB (by have:=Hz1.out;omega)));have hsz:=hT.lt;have Hpk:=zF (show pt k=nB C.M (pt m) (pt 1) by rw [hm];exact Hts.out m (by omega));clear hm;go_upto_region 9 with fail
      refine z8 (by kernel_rfl) 10 [0,0,0,4,12,28,0,64,254,511,1023] [] (fun j f X=>match j with
       | 0=>f 0=.int .i64 (k:Int)
       | 1=>f 1=.pointer (some ⟨k1,0,none⟩)
       | 2=>f 2=.int .i64 (k:Int)
       | 3=>f 3=.int .i64 (m:Int)
       | 4=>f 4=.pointer (some ⟨be5,m*18,none⟩)
       | 5=>∃ v,f 5=v∧JAt C v (pt m)
       | 6=>f 6=.pointer (some ⟨be5,18,none⟩)
       | 7=>∃ v,f 7=v∧JAt C v (pt 1)
       | 8=>∃ v,f 8=v∧JAt C v (pt k)
       | 9=>f 9=.pointer (some ⟨be5,k*18,none⟩)
       | _=>True) (by kernel_rfl) [(39,0),(40,1),(41,2),(42,3),(43,4),(44,5),(45,6),(46,7),(47,8),(48,9)] (by kernel_rfl) ?_
      refine zf 1 9 ?_;refine Par.ld0 2 8 ckr ?_;refine zf 3 7 ?_;refine qH 4 6 [(39,0),(40,1),(41,2),(45,6),(46,7)] (fun f X hX hR K hK=>?_) ?_
      · have e2:f 2=_:=hR.out 2 rfl;have ew:IntKind.i64.wrap (m:Int)=(m:Int):=wq _ (by omega);simp only [yZ,e2];refine ⟨?_⟩;go_simp;exact jA hK (s:=by simp only [yZ,e2])
      refine qH 5 5 [(39,0),(40,1),(41,2),(42,3),(45,6),(46,7)] (fun f X hX hR K hK=>?_) ?_
      · have e3:f 3=_:=hR.out 3 rfl;simp only [yZ,e3];refine ⟨?_⟩;go_simp;exact jA hK (s:=by simp only [yZ,e3])
      refine qH 6 4 [(39,0),(40,1),(41,2),(42,3),(43,4),(45,6),(46,7)] (fun f X hX hR K hK=>?_) ?_
      · have e4:f 4=_:=hR.out 4 rfl;simp only [yZ,e4];refine ⟨cF (.tmp 43) rfl (hT.ext hX) (i:=m) (by omega) (zj _ _) rfl (fun v hv=>?_)⟩;exact hK.out _ v _ (by simp only [yZ,e4]) (zy _) trivial (fun _ _=>⟨_,rfl,hv⟩)
      refine zf 7 3 ?_;refine qH 8 2 [(39,0),(40,1),(41,2),(42,3),(43,4),(44,5),(45,6)] (fun f X hX hR K hK=>?_) ?_
      · have e6:f 6=_:=hR.out 6 rfl;simp only [yZ,e6];refine ⟨cF (.tmp 45) rfl (hT.ext hX) (i:=1) (by omega) rfl rfl (fun v hv=>?_)⟩;exact hK.out _ v _ (by simp only [yZ,e6]) (zy _) trivial (fun _ _=>⟨_,rfl,hv⟩)
      refine qJ 9 1 (fun f=>#[f 1,f 5,f 7]) (F':=140) (fun f X hX hR=>?_) ?_
      · have e1:f 1=_:=hR.out 1 rfl;obtain ⟨v5,(e5:f 5=_),j5⟩:=hR.out 5 rfl;obtain ⟨v7,(e7:f 7=_),j7⟩:=hR.out 7 rfl;simp only [e1,e5,e7];refine (zCL (Hk1.out.ext (HEr.out.trans hX)) j5 j7).mono ?_;rintro e w2 ⟨o,rfl,hj,hB⟩;exact ⟨o,rfl,hB,fun _ _=>⟨_,rfl,by rw [Hpk.out];exact hj⟩⟩
      refine qH 10 0 [(39,0),(40,1),(41,2),(42,3),(43,4),(44,5),(45,6),(46,7),(47,8)] (fun f X hX hR K hK=>?_) ?_
      · have e0:f 0=_:=hR.out 0 rfl;simp only [yZ,e0];refine ⟨?_⟩;go_simp;exact jA hK (s:=by simp only [yZ,e0])
      refine yF ⟨fun f X hX hR hal hap=>?_⟩;obtain ⟨v5,(e5:f 5=_),j5⟩:=hR 5 (by decide);obtain ⟨v7,(e7:f 7=_),j7⟩:=hR 7 (by decide);obtain ⟨v8,(e8:f 8=_),j8⟩:=hR 8 (by decide);have e9:f 9=_:=hR 9 (by decide);simp only [yZ,e5,e7,e8,e9];clear hR hal hap e5 e7 e8 e9;refine zg (fun K hK=>⟨sM (.tmp 48) (.tmp 47) rfl rfl (hT.ext hX) hlt j8 (zj _ _) rfl rfl (fun Y hY1 hY2 hY3=>hK.out _ _ ?_)⟩);refine zU ?_;have hBY:Below be5 V5 Y:=(hB.trans (Below.mono hX (by omega))).trans (hY2.below (zH _) (by have:=hX.bsize;omega));have HBY:=zF hBY;have HTY:=zF hY1;have hkw:IntKind.i64.wrap ((k:Int)+1)=(k:Int)+1:=wq _ (by omega);clear hX hY1 hY2 hY3 j5 j7 j8 hBY hT hB ckr;go_wp2;go_roundw;case rel=>exact ⟨k+1,by go_num,by omega,by omega,HTY.out,HBY.out⟩
      case measure=>simp [intOf];omega
    · have hkk:k=16:=by omega
      rw [show (k:Int)=16 by omega];rw [hkk] at hT;have k1':¬ (16:Int)<16:=by omega
      clear hlt hk2 hk16 hkk;have HT:=zF hT;have HBr:=zF hB;have hJr:gG C wr bo3 (pt 0):=hJo.below hB zoe;have h3r:=(hB.block (q+1) (by omega)).trans h3;have ckr:=(hB.cell (p:=⟨b2,0,none⟩) (by show b2<be5;omega)).trans ck;clear hT hB hJo h3 ck;have HEr:=zF (show Ext W1 wr from yL HXZ.out (Below.mono HBr.out (by have:=Hz1.out;omega)));obtain ⟨bd,hbd⟩:=eV wr.heap.size;have d0:=zP wr (.cells #[.int .u64 0] 135);have hA6:=zb wr (.cells #[.int .u64 0] 135);rw [hbd] at d0;have hz6:(wr.alloc (.cells #[.int .u64 0] 135)).heap.size=bd+1:=by rw [qL,hbd]
      have zbe:be5<bd:=by have:=HT.out.lt;omega
      go_upto_region 11 with fail;generalize hW6:wr.alloc (.cells #[.int .u64 0] 135)=W6 at *;replace ckr:=hA6.cell ckr;replace h3r:=hA6.at_ h3r;replace hJr:=hJr.ext hA6;have HT6:=zF (HT.out.ext hA6);have HE6:=zF (HEr.out.trans hA6);have heach:=bU _ An cn n W6 (qm HN.out (HE1.out.trans HE6.out)) (fun b hb=>hb);rw [HE.out,hz6] at heach;have Heach:=zF heach;have hW6z:=zF hz6;clear heach hA6 hbd hz6 hW6 HT HBr HEr;go_wp2_with (go_at_call 141;refine Heach.out.mono ?_;rintro e' w3 ⟨Ae',ce',rfl,be,hOe,hB3⟩);obtain ⟨t,ht⟩:=eV (bd+1);rw [ht] at be hOe hB3;rw [ht];have hbdt:bd<t:=by omega
      have hbot:bo3<t:=by omega
      have zn:t<w3.heap.size:=qw be;have hbe:=zJ be 0;simp only [zK,zL] at hbe;have hseq:=bT t t w3.heap.size (In t w3.heap.size) Ae' ce' (digs 18446744073709551616 E) w3 (fun b hb=>hb) (zH _) zn (zH _) hbe hOe.rn;rw [zc (by omega),Hnb.out] at hseq;have Hseq:=zF hseq;have hE3:Ext W6 w3:=by rw [←ht,←hW6z.out] at hB3;exact hB3
      have HE3:=zF (HE6.out.trans hE3);have c3:=hE3.cell ckr;have hJ3:=hJr.ext hE3;have hT3:=HT6.out.ext hE3;have hd3:=hE3.at_ d0;have h33:=hE3.at_ h3r;clear hseq Heach hbe be hOe hB3 hE3 ckr hJr d0 h3r HT6 ht;have hI0:gG C w3 bo3 (wY C.M (upP bi x y) E 0).1:=by rw [show (wY C.M (upP bi x y) E 0).1=pt 0 by rw [Ht0.out];rfl];exact hJ3
      have hInv:OwnFrom w3.heap.size (fun (k:Nat) X=>gG C X bo3 (wY C.M (upP bi x y) E k).1∧X.heap[bd]?=some (.cells #[.int .u64 ((wY C.M (upP bi x y) E k).2:Int)] 135 (0,0))∧wQ C X be5 pt 16∧Below bo3 w3 X):=by
       rintro k X X' row ⟨⟨jx,jy,jz,g1,g2⟩,g3,g4,g5⟩ hg' hr;have hr':=fun r e=>(hr r e).2;obtain ⟨cs',g6,g7⟩:=g4.blk;exact ⟨⟨jx,jy,jz,(yK hg' hr' g1 rfl).trans g1,g2⟩,(yK hg' hr' g3 rfl).trans g3,g4.same (yK hg' hr' g6 rfl),ownFrom_below (by omega) (by omega) k X X' row g5 hg' hr⟩
      refine (wpIn_wide (n:=6)).1 ?_
      refine' dB (by omega) (gf:=179) (lb:=#[.pointer (some ⟨t,0,none⟩)]) rfl (enters_of Tryz.func179 (by kernel_rfl) rfl)
       Hseq.out (fun h k=>xz.trans h k) (fun X l o o' hl ho _ _=>⟨by simp,fun i _ hi=>qY (by omega)⟩) yM (zO _ _) (fun _=>rfl)
       (fun k X=>gG C X bo3 (wY C.M (upP bi x y) E k).1∧X.heap[bd]?=some (.cells #[.int .u64 ((wY C.M (upP bi x y) E k).2:Int)] 135 (0,0))∧wQ C X be5 pt 16∧Below bo3 w3 X) (fun k X=>gG C X bo3 (wY C.M (upP bi x y) E k).1∧X.heap[bd]?=some (.cells #[.int .u64 ((wY C.M (upP bi x y) E k).2:Int)] 135 (0,0))∧wQ C X be5 pt 16∧Below bo3 w3 X) (fun _ _ _=>False)
       hInv hInv (fun _ _ _ _ _ h=>h.elim) (fun _ _ _ _=>trivial) (fun B k A C' _ _ hi ht=>?hIT) (fun h=>by cases h) ⟨hI0,hd3,hT3,zO _ _⟩ _ ?assign ?body ?done ?stop
      case hIT=>exact xV (I:=fun k X=>gG C X bo3 (wY C.M (upP bi x y) E k).1∧X.heap[bd]?=some (.cells #[.int .u64 ((wY C.M (upP bi x y) E k).2:Int)] 135 (0,0))∧wQ C X be5 pt 16∧Below bo3 w3 X) (B:=w3.heap.size) hInv hi ht
      case assign =>
       intro l k X K hK;gi_wp2;exact hK
      case body =>
       rintro l k V ⟨⟨jx,jy,jz,hjb,hjf⟩,hdV,hTV,h5⟩ hlt _;have zV:=h5.size;have hd8:=zBz (M:=C.M) (p:=upP bi x y) (E:=E) (k:=k) (by rw [Hnb.out];exact hlt);have hstep:wY C.M (upP bi x y) E (k+1)=if (kz E k).1 % 4=0 then (nB C.M (bZ C.M (wY C.M (upP bi x y) E k).1) (zBT C.M (upP bi x y) (2*(wY C.M (upP bi x y) E k).2+(kz E k).2)),0) else (bZ C.M (wY C.M (upP bi x y) E k).1,2*(wY C.M (upP bi x y) E k).2+(kz E k).2):=rfl
       rw [Hpt.out] at hstep;have hb2':(kz E k).2<2:=qP _ (by omega);have hi1:(kz E k).1≤4096:=by show zo E - 1 - k≤4096;rw [Hnb.out];omega
       obtain ⟨so,hso⟩:=eV ((wY C.M (upP bi x y) E k).1);obtain ⟨d,hd⟩:=eV ((wY C.M (upP bi x y) E k).2);obtain ⟨bt,hbt⟩:=eV ((kz E k).2);obtain ⟨ii,hii⟩:=eV ((kz E k).1);obtain ⟨d2,hd2⟩:=eV (2*d+bt);rw [hso,hd,hbt,hii,hd2] at hstep;rw [hso] at hjf;rw [hd] at hdV hd8;rw [hbt] at hb2';rw [hii] at hi1;rw [hbt,hii];have Hstep:=zF hstep;have Hd2:=zF hd2;have HEV:=zF (show Ext W1 V from yL HE3.out (Below.mono h5 lo));have hd16:d2<16:=by omega
       have hM0:MK w3.heap.size t bo3 be5 w3 V V:=⟨jP.refl _ _ _ _,xz.refl _ _ _,h5,rfl,zV⟩
       have HM0:=zF hM0;have Hjf:=zF hjf;have HTV:=zF hTV;have cV:V.cell? ⟨b2,0,none⟩=some (.pointer (some ⟨k1,0,none⟩)):=(h5.cell (p:=⟨b2,0,none⟩) (by show b2<bo3;omega)).trans c3;clear hstep hd2 hso hd hbt hii hM0 hjf hTV h5;gi_upto_region 14 with fail
       refine Par.uI 3 [0,0,3,7] [] (fun j f X=>match j with
        | 0=>f 0=.pointer (some ⟨k1,0,none⟩)
        | 1=>f 1=JV jx jy jz
        | 2=>∃ v,f 2=v∧JAt C v (bZ C.M so)
        | _=>True) (by kernel_rfl) [(53,0),(54,1),(55,2)] (by kernel_rfl) (by kernel_rfl) ?_
       refine qH 1 2 [(54,1)] (fun f X hX hR K hK=>?_) ?_
       · have x0:=hX.cell cV;simp only [yZ];refine ⟨?_⟩;go_simp;exact jA hK (s:=by simp only [yZ])
       refine qH 2 1 [(53,0)] (fun f X hX hR K hK=>?_) ?_
       · simp only [yZ];refine ⟨vf (v:=JV jx jy jz) (t:=176) 176 (.tmp 9) rfl rfl (hX.at_ hjb) Tryz.underlying176 rfl (by rw [Hjf.out.sz];exact gS) rfl ?_⟩;exact hK.out _ (JV jx jy jz) _ (by simp only [yZ]) (zy _) trivial (fun _ _=>rfl)
       refine qH 3 0 [(53,0),(54,1)] (fun f X hX hR K hK=>?_) ?_
       · have e0:f 0=_:=hR.out 0 rfl;have e1:f 1=_:=hR.out 1 rfl;simp only [yZ,e0,e1];refine ⟨?_⟩;go_simp;refine (zA3 (Hk1.out.ext (HEV.out.trans hX)) ⟨jx,jy,jz,rfl,Hjf.out⟩).mono ?_;rintro e w2 ⟨o,rfl,hj,hB⟩;exact hK.out _ o _ (by simp only [yZ,e0,e1]) hB trivial (fun _ _=>⟨_,rfl,hj⟩)
       refine yF ⟨fun f X hX hR hal hap=>?_⟩;have e0:f 0=_:=hR 0 (by decide);have e1:f 1=_:=hR 1 (by decide);obtain ⟨v2,(e2:f 2=_),j2⟩:=hR 2 (by decide);simp only [yZ,e0,e1,e2];clear hR hal hap e0 e1 e2;obtain ⟨ox,oy,oz,ev,hf⟩:=j2;subst ev;refine zg (fun K hK=>⟨zZ (by kernel_rfl) (vS (x:=ox) (y:=oy) (z:=oz) (.tmp 9) (.tmp 55) rfl rfl rfl rfl (hX.at_ hjb) Hjf.out.sz hf.x.elt.six hf.y.elt.six hf.z.elt.six (fun Y hY1 hY2 hY3=>hK.out _ _ ?_))⟩);refine zU ?_;refine ⟨nofun,?_⟩;have hM1:=(HM0.out.ext hX (by omega) (by omega)).just hY2 (hX.at_ hjb) (by omega) (zH _) (by omega) (by omega) (by omega);have hdY:=hY2.at_ (by omega) (hX.at_ hdV);have HM1:=zF hM1;have HJ1:=zF (show gG C Y bo3 (bZ C.M so) from ⟨ox,oy,oz,hY1,hf⟩);have HdY:=zF hdY;have cd:=zJ hdY 0;have fd:=zv hdY 0;simp only [zK,zL] at cd;have hw1:IntKind.u64.wrap (2*(d:Int))=2*(d:Int):=jD _ (by omega);have hw2:IntKind.u64.wrap (2*(d:Int)+(bt:Int))=(d2:Int):=by rw [jD _ (by omega)];have:=Hd2.out;omega
       clear hM1 hdY hX hY1 hY2 hY3 hf hjb hdV cV;gi_upto_region 16 with fail
       obtain ⟨hdV2,hj2⟩:=rZ HdY.out (.int .u64 (d2:Int));have hM2:=HM1.out.just hj2 HdY.out (by omega) (by omega) (by omega) (by omega) (by omega);have hJ2:=HJ1.out.just hj2 (by omega);generalize hV2:Y.setCell ⟨bd,0,none⟩ (.int .u64 (d2:Int))=V2 at *;have HM2:=zF hM2;have HJ2:=zF hJ2;have HdV2:=zF hdV2;clear hM2 hJ2 hj2 hV2 cd fd hw1 hw2;by_cases hi4:ii % 4=0
       · have hst:wY C.M (upP bi x y) E (k+1)=(nB C.M (bZ C.M so) (pt d2),0):=by rw [Hstep.out,qK hi4]
         have Hst:=zF hst;have hr4:(ii:Int) % 4=0:=by omega
         have hr5:(ii:Int).tmod 4=0:=by rw [IntWalk.rem_in _ _ (by omega)];exact hr4
         have hTV2:=zF (HTV.out.same HM2.out.tab);have cV2:V2.cell? ⟨b2,0,none⟩=some (.pointer (some ⟨k1,0,none⟩)):=(HM2.out.below.cell (p:=⟨b2,0,none⟩) (by show b2<bo3;omega)).trans c3;have cd2:=zJ hdV2 0;simp only [zK,zL] at cd2;have HE2:=zF (show Ext W1 V2 from yL HE3.out (Below.mono HM2.out.below lo));obtain ⟨mx,my,mz,hmb,hmf⟩:=HJ2.out;have Hmf:=zF hmf;clear hst hmf;gi_upto_region 17 with fail
         clear hr4 hr5
         refine Par.br (by kernel_rfl) 6 [0,0,0,4,12,31,63] [] (fun j f X=>match j with
          | 0=>f 0=.pointer (some ⟨k1,0,none⟩)
          | 1=>f 1=JV mx my mz
          | 2=>f 2=.int .u64 (d2:Int)
          | 3=>f 3=.pointer (some ⟨be5,d2*18,none⟩)
          | 4=>∃ v,f 4=v∧JAt C v (pt d2)
          | 5=>∃ v,f 5=v∧JAt C v (nB C.M (bZ C.M so) (pt d2))
          | _=>True) (by kernel_rfl) [(63,0),(64,1),(65,2),(66,3),(67,4),(68,5)] (by kernel_rfl) (by kernel_rfl) ?_
         refine qH 1 5 [(64,1),(65,2),(66,3),(67,4)] (fun f X hX hR K hK=>?_) ?_
         · have x0:=hX.cell cV2;simp only [yZ];refine ⟨?_⟩;go_simp;exact jA hK (s:=by simp only [yZ])
         refine qH 2 4 [(63,0),(65,2),(66,3),(67,4)] (fun f X hX hR K hK=>?_) ?_
         · simp only [yZ];refine ⟨vf (v:=JV mx my mz) (t:=176) 176 (.tmp 9) rfl rfl (hX.at_ hmb) Tryz.underlying176 rfl (by rw [Hmf.out.sz];exact gS) rfl ?_⟩;exact hK.out _ (JV mx my mz) _ (by simp only [yZ]) (zy _) trivial (fun _ _=>rfl)
         refine qH 3 3 [(63,0),(64,1)] (fun f X hX hR K hK=>?_) ?_
         · have x0:=hX.cell cd2;simp only [yZ];refine ⟨?_⟩;go_simp;exact jA hK (s:=by simp only [yZ])
         refine qH 4 2 [(63,0),(64,1),(65,2)] (fun f X hX hR K hK=>?_) ?_
         · have e2:f 2=_:=hR.out 2 rfl;have hd17:(d2:Int)<16:=by omega
           simp only [yZ,e2];refine ⟨?_⟩;go_simp;exact jA hK (s:=by simp only [yZ,e2])
         refine qH 5 1 [(63,0),(64,1),(65,2),(66,3)] (fun f X hX hR K hK=>?_) ?_
         · have e3:f 3=_:=hR.out 3 rfl;simp only [yZ,e3];refine ⟨cF (.tmp 66) rfl (hTV2.out.ext hX) (i:=d2) hd16 (zj _ _) rfl (fun v hv=>?_)⟩;exact hK.out _ v _ (by simp only [yZ,e3]) (zy _) trivial (fun _ _=>⟨_,rfl,hv⟩)
         refine qH 6 0 [(63,0),(64,1),(65,2),(66,3),(67,4)] (fun f X hX hR K hK=>?_) ?_
         · have e0:f 0=_:=hR.out 0 rfl;have e1:f 1=_:=hR.out 1 rfl;obtain ⟨v4,(e4:f 4=_),j4⟩:=hR.out 4 rfl;simp only [yZ,e0,e1,e4];refine ⟨?_⟩;go_simp;refine (zCL (Hk1.out.ext (HE2.out.trans hX)) ⟨mx,my,mz,rfl,Hmf.out⟩ j4).mono ?_;rintro e w2 ⟨o,rfl,hj,hB⟩;exact hK.out _ o _ (by simp only [yZ,e0,e1,e4]) hB trivial (fun _ _=>⟨_,rfl,hj⟩)
         refine yF ⟨fun f X hX hR hal hap=>?_⟩;have e0:f 0=_:=hR 0 (by decide);have e1:f 1=_:=hR 1 (by decide);have e2:f 2=_:=hR 2 (by decide);have e3:f 3=_:=hR 3 (by decide);obtain ⟨v4,(e4:f 4=_),j4⟩:=hR 4 (by decide);obtain ⟨v5,(e5:f 5=_),j5⟩:=hR 5 (by decide);simp only [yZ,e0,e1,e2,e3,e4,e5];clear hR hal hap e0 e1 e2 e3 e4 e5;obtain ⟨ux,uy,uz,ev,hf⟩:=j5;subst ev;refine zg (fun K hK=>⟨zZ (by kernel_rfl) (vS (x:=ux) (y:=uy) (z:=uz) (.tmp 9) (.tmp 68) rfl rfl rfl rfl (hX.at_ hmb) Hmf.out.sz hf.x.elt.six hf.y.elt.six hf.z.elt.six (fun Y hY1 hY2 hY3=>hK.out _ _ ?_))⟩);refine zU ?_;refine ⟨nofun,?_⟩;have hM3:=(HM2.out.ext hX (by omega) (by omega)).just hY2 (hX.at_ hmb) (by omega) (zH _) (by omega) (by omega) (by omega);have hd3':=hY2.at_ (by omega) (hX.at_ hdV2);have hJ3':gG C Y bo3 (nB C.M (bZ C.M so) (pt d2)):=⟨ux,uy,uz,hY1,hf⟩
         obtain ⟨hd4,hj4⟩:=rZ hd3' (.int .u64 0);have hM4:=hM3.just hj4 hd3' (by omega) (by omega) (by omega) (by omega) (by omega);have hJ4:=hJ3'.just hj4 (by omega);have cd:=zJ hd3' 0;have fd:=zv hd3' 0;simp only [zK,zL] at cd;have HM4:=zF hM4;have HJ4:=zF hJ4;have Hd4:=zF hd4;clear hM3 hM4 hJ3' hJ4 hd3' hd4 hj4 hX hY1 hY2 hY3 hf hmb cV2 cd2 hdV2;gi_wp2;exact ⟨HM4.out.keeps,HM4.out.stay,by rw [Hst.out];exact HJ4.out,by rw [Hst.out];exact Hd4.out,HTV.out.same HM4.out.tab,HM4.out.below⟩
       · have hst:wY C.M (upP bi x y) E (k+1)=(bZ C.M so,d2):=by rw [Hstep.out,qA hi4]
         have Hst:=zF hst;have hr4:¬ (ii:Int) % 4=0:=by omega
         have hr5:¬ (ii:Int).tmod 4=0:=by rw [IntWalk.rem_in _ _ (by omega)];exact hr4
         clear hst hdV2;gi_wp2;exact ⟨HM2.out.keeps,HM2.out.stay,by rw [Hst.out];exact HJ2.out,by rw [Hst.out];exact HdV2.out,HTV.out.same HM2.out.tab,HM2.out.below⟩
      case done =>
       rintro D V hD ⟨⟨jx,jy,jz,hjb,hjf⟩,hdV,hTV,h5⟩ hKD;have HEV:=zF (show Ext W1 V from yL HE3.out (Below.mono h5 lo));have cV:V.cell? ⟨b2,0,none⟩=some (.pointer (some ⟨k1,0,none⟩)):=(h5.cell (p:=⟨b2,0,none⟩) (by show b2<bo3;omega)).trans c3;have hrV:=(h5.block (q+1) (by omega)).trans h33;have Hjf:=zF hjf;have HEX:=zF ((HE0.out.trans HE1.out).trans HEV.out);obtain ⟨rs,hrs⟩:=eV ((wY C.M (upP bi x y) E nb).1);rw [hrs] at Hjf;have Hrs:=zF hrs;clear hjf hTV hdV hrs h5;go_upto_region 19 with fail
       refine qQ 3 [0,0,3,7,15] [] (fun j f X=>match j with
        | 0=>f 0=.pointer (some ⟨k1,0,none⟩)
        | 1=>f 1=JV jx jy jz
        | 2=>∃ v,f 2=v∧PtV X q v (ay C.M rs)
        | _=>True) (by kernel_rfl) [(69,0),(70,1),(71,2)] (by kernel_rfl) ?_
       refine Par.ld0 1 2 cV ?_;refine qH 2 1 [(69,0)] (fun f X hX hR K hK=>?_) ?_
       · simp only [yZ];refine ⟨vf (v:=JV jx jy jz) (t:=176) 176 (.tmp 9) rfl rfl (hX.at_ hjb) Tryz.underlying176 rfl (by rw [Hjf.out.sz];exact gS) rfl ?_⟩;exact hK.out _ (JV jx jy jz) _ (by simp only [yZ]) (zy _) trivial (fun _ _=>rfl)
       refine qJ 3 0 (fun f=>#[f 0,f 1]) (F':=143) (fun f X hX hR=>?_) ?_
       · have e0:f 0=_:=hR.out 0 rfl;have e1:f 1=_:=hR.out 1 rfl;simp only [e0,e1];refine (zCr (Hk1.out.ext (HEV.out.trans hX)) HC.out.plen ⟨jx,jy,jz,rfl,Hjf.out⟩).mono ?_;rintro e w2 ⟨o,rfl,hj,hB⟩;exact ⟨o,rfl,hB,fun Y hY=>⟨_,rfl,(hj.mono (by have:=HEX.out.bsize;have:=hX.bsize;have:=Hq.out;omega)).ext hY⟩⟩
       refine yF ⟨fun f X hX hR hal hap=>?_⟩;obtain ⟨v2,(e2:f 2=_),j2⟩:=hR 2 (by decide);simp only [yZ,e2];clear hR hal hap e2;obtain ⟨x0,x1,x2,ev,hone,hst⟩:=se (b:=q+1) j2;subst ev;refine zg (fun K hK=>⟨zZ (by kernel_rfl) (vD (cs':=#[x0,x1,x2]) (t:=29) 29 (.tmp 6) (.tmp 71) rfl rfl rfl rfl (hX.at_ hrV) gR rfl hone (fun Y hY1 hY2 hY3=>hK.out _ _ ?_))⟩);refine zg (fun K hK=>⟨zZ (by kernel_rfl) ?_⟩);go_simp;refine hK.out _ _ ?_;refine zU ?_;go_wp2;have hKY:Y.heap[D]?=some (.deferred (some [])):=hY2.at_ (by omega) (hX.at_ hKD);have hrY:(Y.putObj D (.deferred none)).heap[q+1]?=some (.cells #[x0,x1,x2] 29 (0,0)):=(qY (by omega)).trans hY1;have hEY:Ext w Y:=hY2.ext (HEX.out.trans hX) (by have:=Hq.out;omega);have hst':PtV Y q (.agg #[x0,x1,x2]) (ay C.M rs):=hst Y hY2 ⟨_,hX.at_ hrV⟩;have hpo:PtV (Y.putObj D (.deferred none)) q (.agg #[x0,x1,x2]) (ay C.M rs):=hst'.put hKY;refine ⟨by simp,.inl ⟨_,_,rfl,run_takeDeferred hKY,_,zCW rfl rfl rfl hrY,⟨_,rfl,by rw [Hrs.out];exact hpo,yL hEY (belowK_b (w:=w) (zH _) Y D _ _ (by have:=Hq.out;omega) hKY rfl rfl)⟩⟩⟩
      case stop=>exact fun _ _ _ _ _ _ _ h _=>h.elim
end Go.Proofs.YtmlbicgpehchhaaGreat
namespace Go.Proofs.YtmlbicgpehchhaaGreat.Ec
open Go.RowKit
def um (C:Crv) (x:Nat):Bool:=decide (0<x) && decide (x<val 18446744073709551616 C.nl)
theorem sw {x:Nat} : (0:Int)<(zo x:Int)↔0<x:=by
 by_cases h:x=0
 · subst h;simp [ka]
 · have:=(kC h).2.2;omega
theorem zA1 {c:Int}{C:Crv}(hC:IsU c C) (P:Nat→Prop) (A:Option Addr) (cap:Nat) (l:List Nat) (w:World) (h:RN w P A cap l) (hP:∀ b,P b→b<w.heap.size) :
 Calls Tryz.prog 98 #[.int .i64 c,.slice A l.length cap] w fun e w'=>e=.returned (.bool (um C (val 18446744073709551616 l)))∧Ext w w':=by
 have HB:=zF (vJ P A cap l w h)
 have HO:=zF (zBf hC w)
 have HC:=zF (fun X (hX:Ext w X) A' c'=>fun (h2:RU X A' c' C.nl)=>wL P (fun b=>b<X.heap.size) A A' cap c' l C.nl X (h.below hX hP) h2)
 unfold um
 obtain ⟨x,hx⟩:=eV (val 18446744073709551616 l)
 rw [hx] at HB HC ⊢
 obtain ⟨n,hn⟩:=eV (val 18446744073709551616 C.nl)
 simp only [hn] at HC
 rw [hn]
 clear hx hn h hP
 by_cases h0:0<x
 · have k0:(0:Int)<(zo x:Int):=sw.2 h0;have Hx:=zF h0;clear h0;go_enter Tryz.func98,Tryz.ntmps98;go_wp2_with fail;refine HB.out.mono ?_;rintro e w1 ⟨rfl,rfl⟩;go_wp2_with fail;refine HO.out.mono ?_;rintro e w1 ⟨A',c',rfl,h2,hE⟩;have HC2:=zF (HC.out w1 hE A' c' h2);have HE:=zF hE;clear h2 hE;go_wp2_with fail;refine HC2.out.mono ?_;rintro e w2 ⟨rfl,d,rfl⟩;obtain ⟨z,hz⟩:=eV (jo x n)
   have Hz:=zF (show (decide (0<x) && decide (x<n))=decide (z<0) by
    rw [←hz,qX Hx.out,Bool.true_and]
    unfold jo
    by_cases h1:x<n
    · rw [qK h1,qX h1];rfl
    · rw [qA h1,qb h1];split <;> rfl)
   rw [hz];clear hz;go_wp2;go_ret;exact ⟨by rw [Hz.out];rfl,HE.out.trans (Ext.drewN _ _)⟩
 · obtain rfl:x=0:=by omega
   have k0:¬ (0:Int)<(zo 0:Int):=by simp [ka]
   clear h0;go_enter Tryz.func98,Tryz.ntmps98;go_wp2_with fail;refine HB.out.mono ?_;rintro e w1 ⟨rfl,rfl⟩;go_wp2;go_ret;exact ⟨rfl,zy _⟩
end Go.Proofs.YtmlbicgpehchhaaGreat.Ec
