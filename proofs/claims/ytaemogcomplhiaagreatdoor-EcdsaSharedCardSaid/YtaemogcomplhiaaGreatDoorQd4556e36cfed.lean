/- Laws that the proof rests on. -/
import Derived.Test.YtaemogcomplhiaaGreatDoorQ4c4162a1d9e0
set_option maxRecDepth 100000
set_option maxHeartbeats 16000000
namespace Go.Proofs.YtaemogcomplhiaaGreatDoor
open Go.RowKit
def gO (M x y z:Nat):Nat×Nat×Nat:=let u1:=mm M z z;let u2:=mm M y y;let u3:=mm M x u2;let u4:=sm M x u1;let u5:=am M x u1;let u6:=mm M u4 u5;let u7:=mm M 3 u6;let u8:=am M u3 u3;let u9:=am M u8 u8;let u10:=mm M u7 u7;let u11:=am M u9 u9;let u12:=sm M u10 u11;let u13:=am M y z;let u14:=mm M u13 u13;let u15:=sm M u14 u2;let u16:=sm M u15 u1;let u17:=mm M u2 u2;let u18:=am M u17 u17;let u19:=am M u18 u18;let u20:=sm M u9 u12;let u21:=mm M u7 u20;let u22:=am M u19 u19;let u23:=sm M u21 u22;(u12,u23,u16)
theorem bR {P0:Nat→Prop}{k g size n inv M bb:Nat}{pl nl bl xl yl ml ol rl tl fl lx ly lz:List Nat}{Ap An Ab Ax Ay:Option Addr}{cp cn cb cx cy x y z:Nat}(w:World)
 (hk:Num w P0 k g size n inv M bb pl nl bl xl yl ml ol rl tl fl Ap An Ab Ax Ay cp cn cb cx cy) (hP0:∀ b,P0 b→b<w.heap.size) (hj:FJ M n lx ly lz x y z) :
 Calls Tryz.prog 77 #[.pointer (some ⟨k,0,none⟩),JV lx ly lz] w fun e w'=>∃ ox oy oz,e=.returned (JV ox oy oz)∧FJ M n ox oy oz (gO M x y z).1 (gO M x y z).2.1 (gO M x y z).2.2∧Ext w w':=by
 obtain⟨cs,hcs⟩:=eV ((nts (lx++ly++lz)).toArray)
 obtain⟨W0,hW0⟩:=eW ((w.alloc (.cells cs 123)).alloc (.cells #[.int .u64 0,.int .u64 0,.int .u64 0,.int .u64 0,.int .u64 0,.int .u64 0,.int .u64 0,.int .u64 0,.int .u64 0,.int .u64 0,.int .u64 0,.int .u64 0,.int .u64 0,.int .u64 0,.int .u64 0,.int .u64 0,.int .u64 0,.int .u64 0] 123))
 obtain⟨q,hq⟩:=eV w.heap.size
 have hE0:Ext w W0:=by rw[hW0];exact(zO _ _).trans (zO _ _)
 obtain⟨hpj,hrb,hz0⟩:=wL w (.cells cs 123) (.cells #[.int .u64 0,.int .u64 0,.int .u64 0,.int .u64 0,.int .u64 0,.int .u64 0,.int .u64 0,.int .u64 0,.int .u64 0,.int .u64 0,.int .u64 0,.int .u64 0,.int .u64 0,.int .u64 0,.int .u64 0,.int .u64 0,.int .u64 0,.int .u64 0] 123)
 rw[←hW0,hq]at hpj hrb hz0
 have hpj:kD W0 q lx ly lz:=by rw[kD,hcs];exact hpj
 have hn:=zF (hk.ext hP0 hE0)
 have hP0':∀ b,P0 b→b<W0.heap.size:=fun b hb=>zI (hP0 b hb) hE0.bsize
 have k6:=hn.out.c_f
 have hJ:=zF hj
 have HE0:=zF hE0
 have Hz0:=zF hz0
 obtain⟨u1,E_u1⟩:=eG (mm M z z)
 obtain⟨u2,E_u2⟩:=eG (mm M y y)
 obtain⟨u3,E_u3⟩:=eG (mm M x u2)
 obtain⟨u4,E_u4⟩:=eG (sm M x u1)
 obtain⟨u5,E_u5⟩:=eG (am M x u1)
 obtain⟨u6,E_u6⟩:=eG (mm M u4 u5)
 obtain⟨u7,E_u7⟩:=eG (mm M 3 u6)
 obtain⟨u8,E_u8⟩:=eG (am M u3 u3)
 obtain⟨u9,E_u9⟩:=eG (am M u8 u8)
 obtain⟨u10,E_u10⟩:=eG (mm M u7 u7)
 obtain⟨u11,E_u11⟩:=eG (am M u9 u9)
 obtain⟨u12,E_u12⟩:=eG (sm M u10 u11)
 obtain⟨u13,E_u13⟩:=eG (am M y z)
 obtain⟨u14,E_u14⟩:=eG (mm M u13 u13)
 obtain⟨u15,E_u15⟩:=eG (sm M u14 u2)
 obtain⟨u16,E_u16⟩:=eG (sm M u15 u1)
 obtain⟨u17,E_u17⟩:=eG (mm M u2 u2)
 obtain⟨u18,E_u18⟩:=eG (am M u17 u17)
 obtain⟨u19,E_u19⟩:=eG (am M u18 u18)
 obtain⟨u20,E_u20⟩:=eG (sm M u9 u12)
 obtain⟨u21,E_u21⟩:=eG (mm M u7 u20)
 obtain⟨u22,E_u22⟩:=eG (am M u19 u19)
 obtain⟨u23,E_u23⟩:=eG (sm M u21 u22)
 have hres:=zF (show gO M x y z=(u12,u23,u16) by simp only[gO,E_u1.out,E_u2.out,E_u3.out,E_u4.out,E_u5.out,E_u6.out,E_u7.out,E_u8.out,E_u9.out,E_u10.out,E_u11.out,E_u12.out,E_u13.out,E_u14.out,E_u15.out,E_u16.out,E_u17.out,E_u18.out,E_u19.out,E_u20.out,E_u21.out,E_u22.out,E_u23.out])
 rw[hres.out]
 rw[show JV lx ly lz=.agg cs by rw[JV,hcs]]
 have Hcs:=zF hcs
 clear hE0 hz0 hk hP0 hj hcs
 go_enter Tryz.func77,Tryz.ntmps77
 go_upto_region 1 with fail
 rw[←hW0]
 have Hq:=zF hq
 have HW0:=zF hW0
 have hE:=zX W0
 clear hq hW0
 go_upto_region 2 with fail
 clear k6
 refine zh (by kernel_rfl) 14 [0,0,2,0,8,31,0,0,128,0,512,2047,0,0,16383,32767] [12,13] (fun j f X=>match j with
  | 0=>f 0=.pointer (some ⟨g,0,none⟩)
  | 1=>f 1=.pointer (some ⟨q,12,none⟩)
  | 2=>∃ o,f 2=EV o∧FE M n o z
  | 3=>f 3=.pointer (some ⟨q,12,none⟩)
  | 4=>∃ o,f 4=EV o∧FE M n o z
  | 5=>∃ o,f 5=EV o∧FE M n o u1
  | 6=>f 6=.pointer (some ⟨g,0,none⟩)
  | 7=>f 7=.pointer (some ⟨q,6,none⟩)
  | 8=>∃ o,f 8=EV o∧FE M n o y
  | 9=>f 9=.pointer (some ⟨q,6,none⟩)
  | 10=>∃ o,f 10=EV o∧FE M n o y
  | 11=>∃ o,f 11=EV o∧FE M n o u2
  | 12=>∃ b,f 12=.pointer (some ⟨b,0,none⟩)∧W0.heap.size≤b∧X.heap[b]?=some (.cells #[.int .u64 0,.int .u64 0,.int .u64 0,.int .u64 0,.int .u64 0,.int .u64 0] 109 (0,0))
  | 13=>∃ b,f 13=.pointer (some ⟨b,0,none⟩)∧W0.heap.size≤b∧X.heap[b]?=some (.cells #[.int .u64 0,.int .u64 0,.int .u64 0,.int .u64 0,.int .u64 0,.int .u64 0] 109 (0,0))
  | _=>True) (by kernel_rfl) [(20,0),(21,1),(22,2),(23,3),(24,4),(25,5),(26,6),(27,7),(28,8),(29,9),(30,10),(31,11),(6,12),(7,13)] (by kernel_rfl) ?_
 refine zJ 1 13 ?_
 refine zJ 2 12 ?_
 refine lE 3 11 1 (fun _ hX=>xK ((hE.trans hX).at_ hpj) hJ.out.x.elt.six hJ.out.y.elt.six) hJ.out.z ?_
 refine zJ 4 10 ?_
 refine lE 5 9 3 (fun _ hX=>xK ((hE.trans hX).at_ hpj) hJ.out.x.elt.six hJ.out.y.elt.six) hJ.out.z ?_
 refine fc 6 8 0 2 4 (fun X hX _ _ h h'=>js X (hn.out.ext hP0' (hE.trans hX)).fr.ff h h') E_u1.out ?_
 refine zJ 7 7 ?_
 refine zJ 8 6 ?_
 refine lE 9 5 7 (fun _ hX=>kD.ry ((hE.trans hX).at_ hpj) hJ.out.x.elt.six) hJ.out.y ?_
 refine zJ 10 4 ?_
 refine lE 11 3 9 (fun _ hX=>kD.ry ((hE.trans hX).at_ hpj) hJ.out.x.elt.six) hJ.out.y ?_
 refine fc 12 2 6 8 10 (fun X hX _ _ h h'=>js X (hn.out.ext hP0' (hE.trans hX)).fr.ff h h') E_u2.out ?_
 refine kK 13 1 ?_
 refine kK 14 0 ?_
 refine yF ⟨fun f X hX hR hal hap=>?_⟩
 obtain⟨o2,(e2:f 2=_),h2⟩:=hR 2 (by decide)
 obtain⟨o4,(e4:f 4=_),h4⟩:=hR 4 (by decide)
 obtain⟨o5,(e5:f 5=_),h5⟩:=hR 5 (by decide)
 obtain⟨o8,(e8:f 8=_),h8⟩:=hR 8 (by decide)
 obtain⟨o10,(e10:f 10=_),h10⟩:=hR 10 (by decide)
 obtain⟨o11,(e11:f 11=_),h11⟩:=hR 11 (by decide)
 obtain⟨br2_12,(e12:f 12=_),lr2_12,hr2_12⟩:=hR 12 (by decide)
 obtain⟨br2_13,(e13:f 13=_),lr2_13,hr2_13⟩:=hR 13 (by decide)
 have nr2_13_12:br2_13≠br2_12:=fun e=>hap 13 12 (by decide) (by decide) rfl rfl (by decide) (by rw[e13,e12,e])
 simp only[yZ,e2,e4,e5,e8,e10,e11,e12,e13]
 clear hR hal hap e2 e4 e5 e8 e10 e11 e12 e13
 refine zP (fun K hK=>⟨zU (by kernel_rfl) (qe (.tmp 6) (.tmp 25) rfl rfl rfl rfl (hr2_12) ke h5.elt.six (fun Y1_14 hl1_14=>hK.out _ _ ?_))⟩)
 refine zP (fun K hK=>⟨zU (by kernel_rfl) (qe (.tmp 7) (.tmp 31) rfl rfl rfl rfl (hl1_14.other nr2_13_12 (hr2_13)) ke h11.elt.six (fun Y1_15 hl1_15=>hK.out _ _ ?_))⟩)
 refine zH ?_
 have vbr2_12:VE Y1_15 M n br2_12 u1:=(hl1_15.ve (xO nr2_13_12) (hl1_14.mk' h5))
 have lb_vbr2_12:=zK hE.bsize lr2_12
 have vbr2_13:VE Y1_15 M n br2_13 u2:=(hl1_15.mk' h11)
 have lb_vbr2_13:=zK hE.bsize lr2_13
 have d_br2_12_br2_13:br2_12≠br2_13:=(xO nr2_13_12)
 have hE':Ext W0 Y1_15:=(hl1_15.ext (hl1_14.ext (hE.trans hX) (zK hE.bsize lr2_12)) (zK hE.bsize lr2_13))
 clear hE hX hl1_14 hl1_15 h2 h4 h5 h8 h10 h11 
 have hE:=hE'
 clear hE'
 go_upto_region 3 with fail
 refine zN 6 [0,0,2,0,15,0,63] [5] (fun j f X=>match j with
  | 0=>f 0=.pointer (some ⟨g,0,none⟩)
  | 1=>f 1=.pointer (some ⟨q,0,none⟩)
  | 2=>∃ o,f 2=EV o∧FE M n o x
  | 3=>∃ o,f 3=EV o∧FE M n o u2
  | 4=>∃ o,f 4=EV o∧FE M n o u3
  | 5=>∃ b,f 5=.pointer (some ⟨b,0,none⟩)∧Y1_15.heap.size≤b∧X.heap[b]?=some (.cells #[.int .u64 0,.int .u64 0,.int .u64 0,.int .u64 0,.int .u64 0,.int .u64 0] 109 (0,0))
  | _=>True) (by kernel_rfl) [(32,0),(33,1),(34,2),(35,3),(36,4),(8,5)] (by kernel_rfl) ?_
 refine zJ 1 5 ?_
 refine zJ 2 4 ?_
 refine lE 3 3 1 (fun _ hX=>kD.rx ((hE.trans hX).at_ hpj)) hJ.out.x ?_
 refine lX 4 2 (fun X hX=>let ⟨o,hbl,ho⟩:=vbr2_13.ext hX;⟨o,hbl.range,ho⟩) ?_
 refine fc 5 1 0 2 3 (fun X hX _ _ h h'=>js X (hn.out.ext hP0' (hE.trans hX)).fr.ff h h') E_u3.out ?_
 refine kK 6 0 ?_
 refine yF ⟨fun f X hX hR hal hap=>?_⟩
 obtain⟨o2,(e2:f 2=_),h2⟩:=hR 2 (by decide)
 obtain⟨o3,(e3:f 3=_),h3⟩:=hR 3 (by decide)
 obtain⟨o4,(e4:f 4=_),h4⟩:=hR 4 (by decide)
 obtain⟨br3_5,(e5:f 5=_),lr3_5,hr3_5⟩:=hR 5 (by decide)
 simp only[yZ,e2,e3,e4,e5]
 clear hR hal hap e2 e3 e4 e5
 refine zP (fun K hK=>⟨zU (by kernel_rfl) (qe (.tmp 8) (.tmp 36) rfl rfl rfl rfl (hr3_5) ke h4.elt.six (fun Y2_6 hl2_6=>hK.out _ _ ?_))⟩)
 refine zH ?_
 have d_br2_12_br3_5:br2_12≠br3_5:=by have:=(let ⟨_,h,_⟩:=vbr2_12;h.lt:br2_12<Y1_15.heap.size);omega
 replace vbr2_12:=(hl2_6.ve d_br2_12_br3_5 (vbr2_12.ext hX))
 have d_br2_13_br3_5:br2_13≠br3_5:=by have:=(let ⟨_,h,_⟩:=vbr2_13;h.lt:br2_13<Y1_15.heap.size);omega
 replace vbr2_13:=(hl2_6.ve d_br2_13_br3_5 (vbr2_13.ext hX))
 have vbr3_5:VE Y2_6 M n br3_5 u3:=(hl2_6.mk' h4)
 have lb_vbr3_5:=zK hE.bsize lr3_5
 have hE':Ext W0 Y2_6:=(hl2_6.ext (hE.trans hX) (zK hE.bsize lr3_5))
 clear hE hX hl2_6 h2 h3 h4
 have hE:=hE'
 clear hE'
 go_upto_region 4 with fail
 refine zh (by kernel_rfl) 19 [0,0,2,6,14,0,0,0,128,0,960,0,0,4096,0,32704,65504,131071,0,524287] [18] (fun j f X=>match j with
  | 0=>f 0=.pointer (some ⟨g,0,none⟩)
  | 1=>f 1=.pointer (some ⟨k,0,none⟩)
  | 2=>f 2=.pointer (some ⟨k,0,none⟩)
  | 3=>f 3=.pointer (some ⟨k,7,none⟩)
  | 4=>∃ o,f 4=EV o∧FE M n o 3
  | 5=>f 5=.pointer (some ⟨g,0,none⟩)
  | 6=>f 6=.pointer (some ⟨g,0,none⟩)
  | 7=>f 7=.pointer (some ⟨q,0,none⟩)
  | 8=>∃ o,f 8=EV o∧FE M n o x
  | 9=>∃ o,f 9=EV o∧FE M n o u1
  | 10=>∃ o,f 10=EV o∧FE M n o u4
  | 11=>f 11=.pointer (some ⟨g,0,none⟩)
  | 12=>f 12=.pointer (some ⟨q,0,none⟩)
  | 13=>∃ o,f 13=EV o∧FE M n o x
  | 14=>∃ o,f 14=EV o∧FE M n o u1
  | 15=>∃ o,f 15=EV o∧FE M n o u5
  | 16=>∃ o,f 16=EV o∧FE M n o u6
  | 17=>∃ o,f 17=EV o∧FE M n o u7
  | 18=>∃ b,f 18=.pointer (some ⟨b,0,none⟩)∧Y2_6.heap.size≤b∧X.heap[b]?=some (.cells #[.int .u64 0,.int .u64 0,.int .u64 0,.int .u64 0,.int .u64 0,.int .u64 0] 109 (0,0))
  | _=>True) (by kernel_rfl) [(37,0),(38,1),(39,2),(40,3),(41,4),(42,5),(43,6),(44,7),(45,8),(46,9),(47,10),(48,11),(49,12),(50,13),(51,14),(52,15),(53,16),(54,17),(9,18)] (by kernel_rfl) ?_
 refine zJ 1 18 ?_
 refine zJ 2 17 ?_
 refine qN 3 16 1 ?_
 refine qN 4 15 2 ?_
 refine zt 5 14 [(37,0),(38,1),(39,2),(40,3),(42,5),(43,6),(44,7),(45,8),(46,9),(47,10),(48,11),(49,12),(50,13),(51,14),(52,15),(53,16),(9,18)] (fun f X hX hR K hK=>?_) ?_
 · have e3:f 3=_:=hR.out 3 rfl;simp only[yZ,e3];refine⟨zU (by kernel_rfl) (kg (.tmp 40) rfl rfl ((hn.out.ext hP0' (hE.trans hX)).r_three) hn.out.three.elt.six ?_)⟩;exact hK.out _ (EV tl) _ (by simp only[yZ,e3]) (zX _) trivial (fun Y hY=>⟨tl,rfl,hn.out.three⟩)
 refine zJ 6 13 ?_
 refine zJ 7 12 ?_
 refine zJ 8 11 ?_
 refine lE 9 10 7 (fun _ hX=>kD.rx ((hE.trans hX).at_ hpj)) hJ.out.x ?_
 refine lX 10 9 (fun X hX=>let ⟨o,hbl,ho⟩:=vbr2_12.ext hX;⟨o,hbl.range,ho⟩) ?_
 refine fc 11 8 6 8 9 (fun X hX _ _ h h'=>xr X (hn.out.ext hP0' (hE.trans hX)).fr.ff h h') E_u4.out ?_
 refine zJ 12 7 ?_
 refine zJ 13 6 ?_
 refine lE 14 5 12 (fun _ hX=>kD.rx ((hE.trans hX).at_ hpj)) hJ.out.x ?_
 refine lX 15 4 (fun X hX=>let ⟨o,hbl,ho⟩:=vbr2_12.ext hX;⟨o,hbl.range,ho⟩) ?_
 refine fc 16 3 11 13 14 (fun X hX _ _ h h'=>uE X (hn.out.ext hP0' (hE.trans hX)).fr.ff h h') E_u5.out ?_
 refine fc 17 2 5 10 15 (fun X hX _ _ h h'=>js X (hn.out.ext hP0' (hE.trans hX)).fr.ff h h') E_u6.out ?_
 refine fc 18 1 0 4 16 (fun X hX _ _ h h'=>js X (hn.out.ext hP0' (hE.trans hX)).fr.ff h h') E_u7.out ?_
 refine kK 19 0 ?_
 refine yF ⟨fun f X hX hR hal hap=>?_⟩
 obtain⟨o4,(e4:f 4=_),h4⟩:=hR 4 (by decide)
 obtain⟨o8,(e8:f 8=_),h8⟩:=hR 8 (by decide)
 obtain⟨o9,(e9:f 9=_),h9⟩:=hR 9 (by decide)
 obtain⟨o10,(e10:f 10=_),h10⟩:=hR 10 (by decide)
 obtain⟨o13,(e13:f 13=_),h13⟩:=hR 13 (by decide)
 obtain⟨o14,(e14:f 14=_),h14⟩:=hR 14 (by decide)
 obtain⟨o15,(e15:f 15=_),h15⟩:=hR 15 (by decide)
 obtain⟨o16,(e16:f 16=_),h16⟩:=hR 16 (by decide)
 obtain⟨o17,(e17:f 17=_),h17⟩:=hR 17 (by decide)
 obtain⟨br4_18,(e18:f 18=_),lr4_18,hr4_18⟩:=hR 18 (by decide)
 simp only[yZ,e4,e8,e9,e10,e13,e14,e15,e16,e17,e18]
 clear hR hal hap e4 e8 e9 e10 e13 e14 e15 e16 e17 e18
 refine zP (fun K hK=>⟨zU (by kernel_rfl) (qe (.tmp 9) (.tmp 54) rfl rfl rfl rfl (hr4_18) ke h17.elt.six (fun Y3_19 hl3_19=>hK.out _ _ ?_))⟩)
 refine zH ?_
 have d_br2_12_br4_18:br2_12≠br4_18:=by have:=(let ⟨_,h,_⟩:=vbr2_12;h.lt:br2_12<Y2_6.heap.size);omega
 replace vbr2_12:=(hl3_19.ve d_br2_12_br4_18 (vbr2_12.ext hX))
 have d_br2_13_br4_18:br2_13≠br4_18:=by have:=(let ⟨_,h,_⟩:=vbr2_13;h.lt:br2_13<Y2_6.heap.size);omega
 replace vbr2_13:=(hl3_19.ve d_br2_13_br4_18 (vbr2_13.ext hX))
 have d_br3_5_br4_18:br3_5≠br4_18:=by have:=(let ⟨_,h,_⟩:=vbr3_5;h.lt:br3_5<Y2_6.heap.size);omega
 replace vbr3_5:=(hl3_19.ve d_br3_5_br4_18 (vbr3_5.ext hX))
 have vbr4_18:VE Y3_19 M n br4_18 u7:=(hl3_19.mk' h17)
 have lb_vbr4_18:=zK hE.bsize lr4_18
 have hE':Ext W0 Y3_19:=(hl3_19.ext (hE.trans hX) (zK hE.bsize lr4_18))
 clear hE hX hl3_19 h4 h8 h9 h10 h13 h14 h15 h16 h17
 have hE:=hE'
 clear hE'
 go_upto_region 5 with fail
 refine zh (by kernel_rfl) 11 [0,0,0,0,14,0,0,0,254,511,0,2047] [10] (fun j f X=>match j with
  | 0=>f 0=.pointer (some ⟨g,0,none⟩)
  | 1=>f 1=.pointer (some ⟨g,0,none⟩)
  | 2=>∃ o,f 2=EV o∧FE M n o u3
  | 3=>∃ o,f 3=EV o∧FE M n o u3
  | 4=>∃ o,f 4=EV o∧FE M n o u8
  | 5=>f 5=.pointer (some ⟨g,0,none⟩)
  | 6=>∃ o,f 6=EV o∧FE M n o u3
  | 7=>∃ o,f 7=EV o∧FE M n o u3
  | 8=>∃ o,f 8=EV o∧FE M n o u8
  | 9=>∃ o,f 9=EV o∧FE M n o u9
  | 10=>∃ b,f 10=.pointer (some ⟨b,0,none⟩)∧Y3_19.heap.size≤b∧X.heap[b]?=some (.cells #[.int .u64 0,.int .u64 0,.int .u64 0,.int .u64 0,.int .u64 0,.int .u64 0] 109 (0,0))
  | _=>True) (by kernel_rfl) [(55,0),(56,1),(57,2),(58,3),(59,4),(60,5),(61,6),(62,7),(63,8),(64,9),(10,10)] (by kernel_rfl) ?_
 refine zJ 1 10 ?_
 refine zJ 2 9 ?_
 refine lX 3 8 (fun X hX=>let ⟨o,hbl,ho⟩:=vbr3_5.ext hX;⟨o,hbl.range,ho⟩) ?_
 refine lX 4 7 (fun X hX=>let ⟨o,hbl,ho⟩:=vbr3_5.ext hX;⟨o,hbl.range,ho⟩) ?_
 refine fc 5 6 1 2 3 (fun X hX _ _ h h'=>uE X (hn.out.ext hP0' (hE.trans hX)).fr.ff h h') E_u8.out ?_
 refine zJ 6 5 ?_
 refine lX 7 4 (fun X hX=>let ⟨o,hbl,ho⟩:=vbr3_5.ext hX;⟨o,hbl.range,ho⟩) ?_
 refine lX 8 3 (fun X hX=>let ⟨o,hbl,ho⟩:=vbr3_5.ext hX;⟨o,hbl.range,ho⟩) ?_
 refine fc 9 2 5 6 7 (fun X hX _ _ h h'=>uE X (hn.out.ext hP0' (hE.trans hX)).fr.ff h h') E_u8.out ?_
 refine fc 10 1 0 4 8 (fun X hX _ _ h h'=>uE X (hn.out.ext hP0' (hE.trans hX)).fr.ff h h') E_u9.out ?_
 refine kK 11 0 ?_
 refine yF ⟨fun f X hX hR hal hap=>?_⟩
 obtain⟨o2,(e2:f 2=_),h2⟩:=hR 2 (by decide)
 obtain⟨o3,(e3:f 3=_),h3⟩:=hR 3 (by decide)
 obtain⟨o4,(e4:f 4=_),h4⟩:=hR 4 (by decide)
 obtain⟨o6,(e6:f 6=_),h6⟩:=hR 6 (by decide)
 obtain⟨o7,(e7:f 7=_),h7⟩:=hR 7 (by decide)
 obtain⟨o8,(e8:f 8=_),h8⟩:=hR 8 (by decide)
 obtain⟨o9,(e9:f 9=_),h9⟩:=hR 9 (by decide)
 obtain⟨br5_10,(e10:f 10=_),lr5_10,hr5_10⟩:=hR 10 (by decide)
 simp only[yZ,e2,e3,e4,e6,e7,e8,e9,e10]
 clear hR hal hap e2 e3 e4 e6 e7 e8 e9 e10
 refine zP (fun K hK=>⟨zU (by kernel_rfl) (qe (.tmp 10) (.tmp 64) rfl rfl rfl rfl (hr5_10) ke h9.elt.six (fun Y4_11 hl4_11=>hK.out _ _ ?_))⟩)
 refine zH ?_
 have d_br2_12_br5_10:br2_12≠br5_10:=by have:=(let ⟨_,h,_⟩:=vbr2_12;h.lt:br2_12<Y3_19.heap.size);omega
 replace vbr2_12:=(hl4_11.ve d_br2_12_br5_10 (vbr2_12.ext hX))
 have d_br2_13_br5_10:br2_13≠br5_10:=by have:=(let ⟨_,h,_⟩:=vbr2_13;h.lt:br2_13<Y3_19.heap.size);omega
 replace vbr2_13:=(hl4_11.ve d_br2_13_br5_10 (vbr2_13.ext hX))
 have d_br3_5_br5_10:br3_5≠br5_10:=by have:=(let ⟨_,h,_⟩:=vbr3_5;h.lt:br3_5<Y3_19.heap.size);omega
 replace vbr3_5:=(hl4_11.ve d_br3_5_br5_10 (vbr3_5.ext hX))
 have d_br4_18_br5_10:br4_18≠br5_10:=by have:=(let ⟨_,h,_⟩:=vbr4_18;h.lt:br4_18<Y3_19.heap.size);omega
 replace vbr4_18:=(hl4_11.ve d_br4_18_br5_10 (vbr4_18.ext hX))
 have vbr5_10:VE Y4_11 M n br5_10 u9:=(hl4_11.mk' h9)
 have lb_vbr5_10:=zK hE.bsize lr5_10
 have hE':Ext W0 Y4_11:=(hl4_11.ext (hE.trans hX) (zK hE.bsize lr5_10))
 clear hE hX hl4_11 h2 h3 h4 h6 h7 h8 h9
 have hE:=hE'
 clear hE'
 go_upto_region 6 with fail
 refine zh (by kernel_rfl) 11 [0,0,0,0,14,0,0,0,254,511,0,2047] [10] (fun j f X=>match j with
  | 0=>f 0=.pointer (some ⟨g,0,none⟩)
  | 1=>f 1=.pointer (some ⟨g,0,none⟩)
  | 2=>∃ o,f 2=EV o∧FE M n o u7
  | 3=>∃ o,f 3=EV o∧FE M n o u7
  | 4=>∃ o,f 4=EV o∧FE M n o u10
  | 5=>f 5=.pointer (some ⟨g,0,none⟩)
  | 6=>∃ o,f 6=EV o∧FE M n o u9
  | 7=>∃ o,f 7=EV o∧FE M n o u9
  | 8=>∃ o,f 8=EV o∧FE M n o u11
  | 9=>∃ o,f 9=EV o∧FE M n o u12
  | 10=>∃ b,f 10=.pointer (some ⟨b,0,none⟩)∧Y4_11.heap.size≤b∧X.heap[b]?=some (.cells #[.int .u64 0,.int .u64 0,.int .u64 0,.int .u64 0,.int .u64 0,.int .u64 0] 109 (0,0))
  | _=>True) (by kernel_rfl) [(65,0),(66,1),(67,2),(68,3),(69,4),(70,5),(71,6),(72,7),(73,8),(74,9),(11,10)] (by kernel_rfl) ?_
 refine zJ 1 10 ?_
 refine zJ 2 9 ?_
 refine lX 3 8 (fun X hX=>let ⟨o,hbl,ho⟩:=vbr4_18.ext hX;⟨o,hbl.range,ho⟩) ?_
 refine lX 4 7 (fun X hX=>let ⟨o,hbl,ho⟩:=vbr4_18.ext hX;⟨o,hbl.range,ho⟩) ?_
 refine fc 5 6 1 2 3 (fun X hX _ _ h h'=>js X (hn.out.ext hP0' (hE.trans hX)).fr.ff h h') E_u10.out ?_
 refine zJ 6 5 ?_
 refine lX 7 4 (fun X hX=>let ⟨o,hbl,ho⟩:=vbr5_10.ext hX;⟨o,hbl.range,ho⟩) ?_
 refine lX 8 3 (fun X hX=>let ⟨o,hbl,ho⟩:=vbr5_10.ext hX;⟨o,hbl.range,ho⟩) ?_
 refine fc 9 2 5 6 7 (fun X hX _ _ h h'=>uE X (hn.out.ext hP0' (hE.trans hX)).fr.ff h h') E_u11.out ?_
 refine fc 10 1 0 4 8 (fun X hX _ _ h h'=>xr X (hn.out.ext hP0' (hE.trans hX)).fr.ff h h') E_u12.out ?_
 refine kK 11 0 ?_
 refine yF ⟨fun f X hX hR hal hap=>?_⟩
 obtain⟨o2,(e2:f 2=_),h2⟩:=hR 2 (by decide)
 obtain⟨o3,(e3:f 3=_),h3⟩:=hR 3 (by decide)
 obtain⟨o4,(e4:f 4=_),h4⟩:=hR 4 (by decide)
 obtain⟨o6,(e6:f 6=_),h6⟩:=hR 6 (by decide)
 obtain⟨o7,(e7:f 7=_),h7⟩:=hR 7 (by decide)
 obtain⟨o8,(e8:f 8=_),h8⟩:=hR 8 (by decide)
 obtain⟨o9,(e9:f 9=_),h9⟩:=hR 9 (by decide)
 obtain⟨br6_10,(e10:f 10=_),lr6_10,hr6_10⟩:=hR 10 (by decide)
 simp only[yZ,e2,e3,e4,e6,e7,e8,e9,e10]
 clear hR hal hap e2 e3 e4 e6 e7 e8 e9 e10
 refine zP (fun K hK=>⟨zU (by kernel_rfl) (qe (.tmp 11) (.tmp 74) rfl rfl rfl rfl (hr6_10) ke h9.elt.six (fun Y5_11 hl5_11=>hK.out _ _ ?_))⟩)
 refine zH ?_
 have d_br2_12_br6_10:br2_12≠br6_10:=by have:=(let ⟨_,h,_⟩:=vbr2_12;h.lt:br2_12<Y4_11.heap.size);omega
 replace vbr2_12:=(hl5_11.ve d_br2_12_br6_10 (vbr2_12.ext hX))
 have d_br2_13_br6_10:br2_13≠br6_10:=by have:=(let ⟨_,h,_⟩:=vbr2_13;h.lt:br2_13<Y4_11.heap.size);omega
 replace vbr2_13:=(hl5_11.ve d_br2_13_br6_10 (vbr2_13.ext hX))
 have d_br3_5_br6_10:br3_5≠br6_10:=by have:=(let ⟨_,h,_⟩:=vbr3_5;h.lt:br3_5<Y4_11.heap.size);omega
 replace vbr3_5:=(hl5_11.ve d_br3_5_br6_10 (vbr3_5.ext hX))
 have d_br4_18_br6_10:br4_18≠br6_10:=by have:=(let ⟨_,h,_⟩:=vbr4_18;h.lt:br4_18<Y4_11.heap.size);omega
 replace vbr4_18:=(hl5_11.ve d_br4_18_br6_10 (vbr4_18.ext hX))
 have d_br5_10_br6_10:br5_10≠br6_10:=by have:=(let ⟨_,h,_⟩:=vbr5_10;h.lt:br5_10<Y4_11.heap.size);omega
 replace vbr5_10:=(hl5_11.ve d_br5_10_br6_10 (vbr5_10.ext hX))
 have vbr6_10:VE Y5_11 M n br6_10 u12:=(hl5_11.mk' h9)
 have lb_vbr6_10:=zK hE.bsize lr6_10
 have hE':Ext W0 Y5_11:=(hl5_11.ext (hE.trans hX) (zK hE.bsize lr6_10))
 clear hE hX hl5_11 h2 h3 h4 h6 h7 h8 h9
 have hE:=hE'
 clear hE'
 go_upto_region 7 with fail
 refine zN 7 [0,0,2,0,8,31,0,127] [6] (fun j f X=>match j with
  | 0=>f 0=.pointer (some ⟨g,0,none⟩)
  | 1=>f 1=.pointer (some ⟨q,6,none⟩)
  | 2=>∃ o,f 2=EV o∧FE M n o y
  | 3=>f 3=.pointer (some ⟨q,12,none⟩)
  | 4=>∃ o,f 4=EV o∧FE M n o z
  | 5=>∃ o,f 5=EV o∧FE M n o u13
  | 6=>∃ b,f 6=.pointer (some ⟨b,0,none⟩)∧Y5_11.heap.size≤b∧X.heap[b]?=some (.cells #[.int .u64 0,.int .u64 0,.int .u64 0,.int .u64 0,.int .u64 0,.int .u64 0] 109 (0,0))
  | _=>True) (by kernel_rfl) [(75,0),(76,1),(77,2),(78,3),(79,4),(80,5),(12,6)] (by kernel_rfl) ?_
 refine zJ 1 6 ?_
 refine zJ 2 5 ?_
 refine lE 3 4 1 (fun _ hX=>kD.ry ((hE.trans hX).at_ hpj) hJ.out.x.elt.six) hJ.out.y ?_
 refine zJ 4 3 ?_
 refine lE 5 2 3 (fun _ hX=>xK ((hE.trans hX).at_ hpj) hJ.out.x.elt.six hJ.out.y.elt.six) hJ.out.z ?_
 refine fc 6 1 0 2 4 (fun X hX _ _ h h'=>uE X (hn.out.ext hP0' (hE.trans hX)).fr.ff h h') E_u13.out ?_
 refine kK 7 0 ?_
 refine yF ⟨fun f X hX hR hal hap=>?_⟩
 obtain⟨o2,(e2:f 2=_),h2⟩:=hR 2 (by decide)
 obtain⟨o4,(e4:f 4=_),h4⟩:=hR 4 (by decide)
 obtain⟨o5,(e5:f 5=_),h5⟩:=hR 5 (by decide)
 obtain⟨br7_6,(e6:f 6=_),lr7_6,hr7_6⟩:=hR 6 (by decide)
 simp only[yZ,e2,e4,e5,e6]
 clear hR hal hap e2 e4 e5 e6
 refine zP (fun K hK=>⟨zU (by kernel_rfl) (qe (.tmp 12) (.tmp 80) rfl rfl rfl rfl (hr7_6) ke h5.elt.six (fun Y6_7 hl6_7=>hK.out _ _ ?_))⟩)
 refine zH ?_
 have d_br2_12_br7_6:br2_12≠br7_6:=by have:=(let ⟨_,h,_⟩:=vbr2_12;h.lt:br2_12<Y5_11.heap.size);omega
 replace vbr2_12:=(hl6_7.ve d_br2_12_br7_6 (vbr2_12.ext hX))
 have d_br2_13_br7_6:br2_13≠br7_6:=by have:=(let ⟨_,h,_⟩:=vbr2_13;h.lt:br2_13<Y5_11.heap.size);omega
 replace vbr2_13:=(hl6_7.ve d_br2_13_br7_6 (vbr2_13.ext hX))
 have d_br3_5_br7_6:br3_5≠br7_6:=by have:=(let ⟨_,h,_⟩:=vbr3_5;h.lt:br3_5<Y5_11.heap.size);omega
 replace vbr3_5:=(hl6_7.ve d_br3_5_br7_6 (vbr3_5.ext hX))
 have d_br4_18_br7_6:br4_18≠br7_6:=by have:=(let ⟨_,h,_⟩:=vbr4_18;h.lt:br4_18<Y5_11.heap.size);omega
 replace vbr4_18:=(hl6_7.ve d_br4_18_br7_6 (vbr4_18.ext hX))
 have d_br5_10_br7_6:br5_10≠br7_6:=by have:=(let ⟨_,h,_⟩:=vbr5_10;h.lt:br5_10<Y5_11.heap.size);omega
 replace vbr5_10:=(hl6_7.ve d_br5_10_br7_6 (vbr5_10.ext hX))
 have d_br6_10_br7_6:br6_10≠br7_6:=by have:=(let ⟨_,h,_⟩:=vbr6_10;h.lt:br6_10<Y5_11.heap.size);omega
 replace vbr6_10:=(hl6_7.ve d_br6_10_br7_6 (vbr6_10.ext hX))
 have vbr7_6:VE Y6_7 M n br7_6 u13:=(hl6_7.mk' h5)
 have lb_vbr7_6:=zK hE.bsize lr7_6
 have hE':Ext W0 Y6_7:=(hl6_7.ext (hE.trans hX) (zK hE.bsize lr7_6))
 clear hE hX hl6_7 h2 h4 h5
 have hE:=hE'
 clear hE'
 go_upto_region 8 with fail
 refine zh (by kernel_rfl) 11 [0,0,0,0,0,28,0,126,0,511,0,2047] [10] (fun j f X=>match j with
  | 0=>f 0=.pointer (some ⟨g,0,none⟩)
  | 1=>f 1=.pointer (some ⟨g,0,none⟩)
  | 2=>f 2=.pointer (some ⟨g,0,none⟩)
  | 3=>∃ o,f 3=EV o∧FE M n o u13
  | 4=>∃ o,f 4=EV o∧FE M n o u13
  | 5=>∃ o,f 5=EV o∧FE M n o u14
  | 6=>∃ o,f 6=EV o∧FE M n o u2
  | 7=>∃ o,f 7=EV o∧FE M n o u15
  | 8=>∃ o,f 8=EV o∧FE M n o u1
  | 9=>∃ o,f 9=EV o∧FE M n o u16
  | 10=>∃ b,f 10=.pointer (some ⟨b,0,none⟩)∧Y6_7.heap.size≤b∧X.heap[b]?=some (.cells #[.int .u64 0,.int .u64 0,.int .u64 0,.int .u64 0,.int .u64 0,.int .u64 0] 109 (0,0))
  | _=>True) (by kernel_rfl) [(81,0),(82,1),(83,2),(84,3),(85,4),(86,5),(87,6),(88,7),(89,8),(90,9),(13,10)] (by kernel_rfl) ?_
 refine zJ 1 10 ?_
 refine zJ 2 9 ?_
 refine zJ 3 8 ?_
 refine lX 4 7 (fun X hX=>let ⟨o,hbl,ho⟩:=vbr7_6.ext hX;⟨o,hbl.range,ho⟩) ?_
 refine lX 5 6 (fun X hX=>let ⟨o,hbl,ho⟩:=vbr7_6.ext hX;⟨o,hbl.range,ho⟩) ?_
 refine fc 6 5 2 3 4 (fun X hX _ _ h h'=>js X (hn.out.ext hP0' (hE.trans hX)).fr.ff h h') E_u14.out ?_
 refine lX 7 4 (fun X hX=>let ⟨o,hbl,ho⟩:=vbr2_13.ext hX;⟨o,hbl.range,ho⟩) ?_
 refine fc 8 3 1 5 6 (fun X hX _ _ h h'=>xr X (hn.out.ext hP0' (hE.trans hX)).fr.ff h h') E_u15.out ?_
 refine lX 9 2 (fun X hX=>let ⟨o,hbl,ho⟩:=vbr2_12.ext hX;⟨o,hbl.range,ho⟩) ?_
 refine fc 10 1 0 7 8 (fun X hX _ _ h h'=>xr X (hn.out.ext hP0' (hE.trans hX)).fr.ff h h') E_u16.out ?_
 refine kK 11 0 ?_
 refine yF ⟨fun f X hX hR hal hap=>?_⟩
 obtain⟨o3,(e3:f 3=_),h3⟩:=hR 3 (by decide)
 obtain⟨o4,(e4:f 4=_),h4⟩:=hR 4 (by decide)
 obtain⟨o5,(e5:f 5=_),h5⟩:=hR 5 (by decide)
 obtain⟨o6,(e6:f 6=_),h6⟩:=hR 6 (by decide)
 obtain⟨o7,(e7:f 7=_),h7⟩:=hR 7 (by decide)
 obtain⟨o8,(e8:f 8=_),h8⟩:=hR 8 (by decide)
 obtain⟨o9,(e9:f 9=_),h9⟩:=hR 9 (by decide)
 obtain⟨br8_10,(e10:f 10=_),lr8_10,hr8_10⟩:=hR 10 (by decide)
 simp only[yZ,e3,e4,e5,e6,e7,e8,e9,e10]
 clear hR hal hap e3 e4 e5 e6 e7 e8 e9 e10
 refine zP (fun K hK=>⟨zU (by kernel_rfl) (qe (.tmp 13) (.tmp 90) rfl rfl rfl rfl (hr8_10) ke h9.elt.six (fun Y7_11 hl7_11=>hK.out _ _ ?_))⟩)
 refine zH ?_
 have d_br2_12_br8_10:br2_12≠br8_10:=by have:=(let ⟨_,h,_⟩:=vbr2_12;h.lt:br2_12<Y6_7.heap.size);omega
 replace vbr2_12:=(hl7_11.ve d_br2_12_br8_10 (vbr2_12.ext hX))
 have d_br2_13_br8_10:br2_13≠br8_10:=by have:=(let ⟨_,h,_⟩:=vbr2_13;h.lt:br2_13<Y6_7.heap.size);omega
 replace vbr2_13:=(hl7_11.ve d_br2_13_br8_10 (vbr2_13.ext hX))
 have d_br3_5_br8_10:br3_5≠br8_10:=by have:=(let ⟨_,h,_⟩:=vbr3_5;h.lt:br3_5<Y6_7.heap.size);omega
 replace vbr3_5:=(hl7_11.ve d_br3_5_br8_10 (vbr3_5.ext hX))
 have d_br4_18_br8_10:br4_18≠br8_10:=by have:=(let ⟨_,h,_⟩:=vbr4_18;h.lt:br4_18<Y6_7.heap.size);omega
 replace vbr4_18:=(hl7_11.ve d_br4_18_br8_10 (vbr4_18.ext hX))
 have d_br5_10_br8_10:br5_10≠br8_10:=by have:=(let ⟨_,h,_⟩:=vbr5_10;h.lt:br5_10<Y6_7.heap.size);omega
 replace vbr5_10:=(hl7_11.ve d_br5_10_br8_10 (vbr5_10.ext hX))
 have d_br6_10_br8_10:br6_10≠br8_10:=by have:=(let ⟨_,h,_⟩:=vbr6_10;h.lt:br6_10<Y6_7.heap.size);omega
 replace vbr6_10:=(hl7_11.ve d_br6_10_br8_10 (vbr6_10.ext hX))
 have d_br7_6_br8_10:br7_6≠br8_10:=by have:=(let ⟨_,h,_⟩:=vbr7_6;h.lt:br7_6<Y6_7.heap.size);omega
 replace vbr7_6:=(hl7_11.ve d_br7_6_br8_10 (vbr7_6.ext hX))
 have vbr8_10:VE Y7_11 M n br8_10 u16:=(hl7_11.mk' h9)
 have lb_vbr8_10:=zK hE.bsize lr8_10
 have hE':Ext W0 Y7_11:=(hl7_11.ext (hE.trans hX) (zK hE.bsize lr8_10))
 clear hE hX hl7_11 h3 h4 h5 h6 h7 h8 h9
 have hE:=hE'
 clear hE'
 go_upto_region 9 with fail
 refine zN 5 [0,0,0,7,0,31] [4] (fun j f X=>match j with
  | 0=>f 0=.pointer (some ⟨g,0,none⟩)
  | 1=>∃ o,f 1=EV o∧FE M n o u2
  | 2=>∃ o,f 2=EV o∧FE M n o u2
  | 3=>∃ o,f 3=EV o∧FE M n o u17
  | 4=>∃ b,f 4=.pointer (some ⟨b,0,none⟩)∧Y7_11.heap.size≤b∧X.heap[b]?=some (.cells #[.int .u64 0,.int .u64 0,.int .u64 0,.int .u64 0,.int .u64 0,.int .u64 0] 109 (0,0))
  | _=>True) (by kernel_rfl) [(91,0),(92,1),(93,2),(94,3),(14,4)] (by kernel_rfl) ?_
 refine zJ 1 4 ?_
 refine lX 2 3 (fun X hX=>let ⟨o,hbl,ho⟩:=vbr2_13.ext hX;⟨o,hbl.range,ho⟩) ?_
 refine lX 3 2 (fun X hX=>let ⟨o,hbl,ho⟩:=vbr2_13.ext hX;⟨o,hbl.range,ho⟩) ?_
 refine fc 4 1 0 1 2 (fun X hX _ _ h h'=>js X (hn.out.ext hP0' (hE.trans hX)).fr.ff h h') E_u17.out ?_
 refine kK 5 0 ?_
 refine yF ⟨fun f X hX hR hal hap=>?_⟩
 obtain⟨o1,(e1:f 1=_),h1⟩:=hR 1 (by decide)
 obtain⟨o2,(e2:f 2=_),h2⟩:=hR 2 (by decide)
 obtain⟨o3,(e3:f 3=_),h3⟩:=hR 3 (by decide)
 obtain⟨br9_4,(e4:f 4=_),lr9_4,hr9_4⟩:=hR 4 (by decide)
 simp only[yZ,e1,e2,e3,e4]
 clear hR hal hap e1 e2 e3 e4
 refine zP (fun K hK=>⟨zU (by kernel_rfl) (qe (.tmp 14) (.tmp 94) rfl rfl rfl rfl (hr9_4) ke h3.elt.six (fun Y8_5 hl8_5=>hK.out _ _ ?_))⟩)
 refine zH ?_
 have d_br2_12_br9_4:br2_12≠br9_4:=by have:=(let ⟨_,h,_⟩:=vbr2_12;h.lt:br2_12<Y7_11.heap.size);omega
 replace vbr2_12:=(hl8_5.ve d_br2_12_br9_4 (vbr2_12.ext hX))
 have d_br2_13_br9_4:br2_13≠br9_4:=by have:=(let ⟨_,h,_⟩:=vbr2_13;h.lt:br2_13<Y7_11.heap.size);omega
 replace vbr2_13:=(hl8_5.ve d_br2_13_br9_4 (vbr2_13.ext hX))
 have d_br3_5_br9_4:br3_5≠br9_4:=by have:=(let ⟨_,h,_⟩:=vbr3_5;h.lt:br3_5<Y7_11.heap.size);omega
 replace vbr3_5:=(hl8_5.ve d_br3_5_br9_4 (vbr3_5.ext hX))
 have d_br4_18_br9_4:br4_18≠br9_4:=by have:=(let ⟨_,h,_⟩:=vbr4_18;h.lt:br4_18<Y7_11.heap.size);omega
 replace vbr4_18:=(hl8_5.ve d_br4_18_br9_4 (vbr4_18.ext hX))
 have d_br5_10_br9_4:br5_10≠br9_4:=by have:=(let ⟨_,h,_⟩:=vbr5_10;h.lt:br5_10<Y7_11.heap.size);omega
 replace vbr5_10:=(hl8_5.ve d_br5_10_br9_4 (vbr5_10.ext hX))
 have d_br6_10_br9_4:br6_10≠br9_4:=by have:=(let ⟨_,h,_⟩:=vbr6_10;h.lt:br6_10<Y7_11.heap.size);omega
 replace vbr6_10:=(hl8_5.ve d_br6_10_br9_4 (vbr6_10.ext hX))
 have d_br7_6_br9_4:br7_6≠br9_4:=by have:=(let ⟨_,h,_⟩:=vbr7_6;h.lt:br7_6<Y7_11.heap.size);omega
 replace vbr7_6:=(hl8_5.ve d_br7_6_br9_4 (vbr7_6.ext hX))
 have d_br8_10_br9_4:br8_10≠br9_4:=by have:=(let ⟨_,h,_⟩:=vbr8_10;h.lt:br8_10<Y7_11.heap.size);omega
 replace vbr8_10:=(hl8_5.ve d_br8_10_br9_4 (vbr8_10.ext hX))
 have vbr9_4:VE Y8_5 M n br9_4 u17:=(hl8_5.mk' h3)
 have lb_vbr9_4:=zK hE.bsize lr9_4
 have hE':Ext W0 Y8_5:=(hl8_5.ext (hE.trans hX) (zK hE.bsize lr9_4))
 clear hE hX hl8_5 h1 h2 h3
 have hE:=hE'
 clear hE'
 go_upto_region 10 with fail
 refine zN 4 [0,0,0,7,15] [] (fun j f X=>match j with
  | 0=>f 0=.pointer (some ⟨g,0,none⟩)
  | 1=>∃ o,f 1=EV o∧FE M n o u17
  | 2=>∃ o,f 2=EV o∧FE M n o u17
  | 3=>∃ o,f 3=EV o∧FE M n o u18
  | _=>True) (by kernel_rfl) [(95,0),(96,1),(97,2),(98,3)] (by kernel_rfl) ?_
 refine zJ 1 3 ?_
 refine lX 2 2 (fun X hX=>let ⟨o,hbl,ho⟩:=vbr9_4.ext hX;⟨o,hbl.range,ho⟩) ?_
 refine lX 3 1 (fun X hX=>let ⟨o,hbl,ho⟩:=vbr9_4.ext hX;⟨o,hbl.range,ho⟩) ?_
 refine fc 4 0 0 1 2 (fun X hX _ _ h h'=>uE X (hn.out.ext hP0' (hE.trans hX)).fr.ff h h') E_u18.out ?_
 refine yF ⟨fun f X hX hR hal hap=>?_⟩
 obtain⟨o1,(e1:f 1=_),h1⟩:=hR 1 (by decide)
 obtain⟨o2,(e2:f 2=_),h2⟩:=hR 2 (by decide)
 obtain⟨o3,(e3:f 3=_),h3⟩:=hR 3 (by decide)
 simp only[yZ,e1,e2,e3]
 clear hR hal hap e1 e2 e3
 obtain⟨lo4,hbo4,hfo4⟩:=vbr9_4.ext hX
 refine zP (fun K hK=>⟨zU (by kernel_rfl) (qe (.tmp 14) (.tmp 98) rfl rfl rfl rfl hbo4 (by rw[qf];exact hfo4.elt.six) h3.elt.six (fun Y9_4 hl9_4=>hK.out _ _ ?_))⟩)
 refine zH ?_
 replace vbr2_12:=(hl9_4.ve d_br2_12_br9_4 (vbr2_12.ext hX))
 replace vbr2_13:=(hl9_4.ve d_br2_13_br9_4 (vbr2_13.ext hX))
 replace vbr3_5:=(hl9_4.ve d_br3_5_br9_4 (vbr3_5.ext hX))
 replace vbr4_18:=(hl9_4.ve d_br4_18_br9_4 (vbr4_18.ext hX))
 replace vbr5_10:=(hl9_4.ve d_br5_10_br9_4 (vbr5_10.ext hX))
 replace vbr6_10:=(hl9_4.ve d_br6_10_br9_4 (vbr6_10.ext hX))
 replace vbr7_6:=(hl9_4.ve d_br7_6_br9_4 (vbr7_6.ext hX))
 replace vbr8_10:=(hl9_4.ve d_br8_10_br9_4 (vbr8_10.ext hX))
 have vbr9_4':VE Y9_4 M n br9_4 u18:=hl9_4.mk' h3
 have hE':Ext W0 Y9_4:=(hl9_4.ext (hE.trans hX) lb_vbr9_4)
 clear hE hX hl9_4 h1 h2 h3 vbr9_4
 have hE:=hE'
 clear hE'
 have vbr9_4:=vbr9_4'
 clear vbr9_4'
 go_upto_region 11 with fail
 refine zN 4 [0,0,0,7,15] [] (fun j f X=>match j with
  | 0=>f 0=.pointer (some ⟨g,0,none⟩)
  | 1=>∃ o,f 1=EV o∧FE M n o u18
  | 2=>∃ o,f 2=EV o∧FE M n o u18
  | 3=>∃ o,f 3=EV o∧FE M n o u19
  | _=>True) (by kernel_rfl) [(99,0),(100,1),(101,2),(102,3)] (by kernel_rfl) ?_
 refine zJ 1 3 ?_
 refine lX 2 2 (fun X hX=>let ⟨o,hbl,ho⟩:=vbr9_4.ext hX;⟨o,hbl.range,ho⟩) ?_
 refine lX 3 1 (fun X hX=>let ⟨o,hbl,ho⟩:=vbr9_4.ext hX;⟨o,hbl.range,ho⟩) ?_
 refine fc 4 0 0 1 2 (fun X hX _ _ h h'=>uE X (hn.out.ext hP0' (hE.trans hX)).fr.ff h h') E_u19.out ?_
 refine yF ⟨fun f X hX hR hal hap=>?_⟩
 obtain⟨o1,(e1:f 1=_),h1⟩:=hR 1 (by decide)
 obtain⟨o2,(e2:f 2=_),h2⟩:=hR 2 (by decide)
 obtain⟨o3,(e3:f 3=_),h3⟩:=hR 3 (by decide)
 simp only[yZ,e1,e2,e3]
 clear hR hal hap e1 e2 e3
 obtain⟨lo4,hbo4,hfo4⟩:=vbr9_4.ext hX
 refine zP (fun K hK=>⟨zU (by kernel_rfl) (qe (.tmp 14) (.tmp 102) rfl rfl rfl rfl hbo4 (by rw[qf];exact hfo4.elt.six) h3.elt.six (fun Y10_4 hl10_4=>hK.out _ _ ?_))⟩)
 refine zH ?_
 replace vbr2_12:=(hl10_4.ve d_br2_12_br9_4 (vbr2_12.ext hX))
 replace vbr2_13:=(hl10_4.ve d_br2_13_br9_4 (vbr2_13.ext hX))
 replace vbr3_5:=(hl10_4.ve d_br3_5_br9_4 (vbr3_5.ext hX))
 replace vbr4_18:=(hl10_4.ve d_br4_18_br9_4 (vbr4_18.ext hX))
 replace vbr5_10:=(hl10_4.ve d_br5_10_br9_4 (vbr5_10.ext hX))
 replace vbr6_10:=(hl10_4.ve d_br6_10_br9_4 (vbr6_10.ext hX))
 replace vbr7_6:=(hl10_4.ve d_br7_6_br9_4 (vbr7_6.ext hX))
 replace vbr8_10:=(hl10_4.ve d_br8_10_br9_4 (vbr8_10.ext hX))
 have vbr9_4':VE Y10_4 M n br9_4 u19:=hl10_4.mk' h3
 have hE':Ext W0 Y10_4:=(hl10_4.ext (hE.trans hX) lb_vbr9_4)
 clear hE hX hl10_4 h1 h2 h3 vbr9_4
 have hE:=hE'
 clear hE'
 have vbr9_4:=vbr9_4'
 clear vbr9_4'
 go_upto_region 12 with fail
 refine zh (by kernel_rfl) 14 [0,0,0,0,0,0,56,126,0,0,0,2046,4095,0,16383] [13] (fun j f X=>match j with
  | 0=>f 0=.pointer (some ⟨g,0,none⟩)
  | 1=>f 1=.pointer (some ⟨g,0,none⟩)
  | 2=>∃ o,f 2=EV o∧FE M n o u7
  | 3=>f 3=.pointer (some ⟨g,0,none⟩)
  | 4=>∃ o,f 4=EV o∧FE M n o u9
  | 5=>∃ o,f 5=EV o∧FE M n o u12
  | 6=>∃ o,f 6=EV o∧FE M n o u20
  | 7=>∃ o,f 7=EV o∧FE M n o u21
  | 8=>f 8=.pointer (some ⟨g,0,none⟩)
  | 9=>∃ o,f 9=EV o∧FE M n o u19
  | 10=>∃ o,f 10=EV o∧FE M n o u19
  | 11=>∃ o,f 11=EV o∧FE M n o u22
  | 12=>∃ o,f 12=EV o∧FE M n o u23
  | 13=>∃ b,f 13=.pointer (some ⟨b,0,none⟩)∧Y10_4.heap.size≤b∧X.heap[b]?=some (.cells #[.int .u64 0,.int .u64 0,.int .u64 0,.int .u64 0,.int .u64 0,.int .u64 0] 109 (0,0))
  | _=>True) (by kernel_rfl) [(103,0),(104,1),(105,2),(106,3),(107,4),(108,5),(109,6),(110,7),(111,8),(112,9),(113,10),(114,11),(115,12),(15,13)] (by kernel_rfl) ?_
 refine zJ 1 13 ?_
 refine zJ 2 12 ?_
 refine lX 3 11 (fun X hX=>let ⟨o,hbl,ho⟩:=vbr4_18.ext hX;⟨o,hbl.range,ho⟩) ?_
 refine zJ 4 10 ?_
 refine lX 5 9 (fun X hX=>let ⟨o,hbl,ho⟩:=vbr5_10.ext hX;⟨o,hbl.range,ho⟩) ?_
 refine lX 6 8 (fun X hX=>let ⟨o,hbl,ho⟩:=vbr6_10.ext hX;⟨o,hbl.range,ho⟩) ?_
 refine fc 7 7 3 4 5 (fun X hX _ _ h h'=>xr X (hn.out.ext hP0' (hE.trans hX)).fr.ff h h') E_u20.out ?_
 refine fc 8 6 1 2 6 (fun X hX _ _ h h'=>js X (hn.out.ext hP0' (hE.trans hX)).fr.ff h h') E_u21.out ?_
 refine zJ 9 5 ?_
 refine lX 10 4 (fun X hX=>let ⟨o,hbl,ho⟩:=vbr9_4.ext hX;⟨o,hbl.range,ho⟩) ?_
 refine lX 11 3 (fun X hX=>let ⟨o,hbl,ho⟩:=vbr9_4.ext hX;⟨o,hbl.range,ho⟩) ?_
 refine fc 12 2 8 9 10 (fun X hX _ _ h h'=>uE X (hn.out.ext hP0' (hE.trans hX)).fr.ff h h') E_u22.out ?_
 refine fc 13 1 0 7 11 (fun X hX _ _ h h'=>xr X (hn.out.ext hP0' (hE.trans hX)).fr.ff h h') E_u23.out ?_
 refine kK 14 0 ?_
 refine yF ⟨fun f X hX hR hal hap=>?_⟩
 obtain⟨o2,(e2:f 2=_),h2⟩:=hR 2 (by decide)
 obtain⟨o4,(e4:f 4=_),h4⟩:=hR 4 (by decide)
 obtain⟨o5,(e5:f 5=_),h5⟩:=hR 5 (by decide)
 obtain⟨o6,(e6:f 6=_),h6⟩:=hR 6 (by decide)
 obtain⟨o7,(e7:f 7=_),h7⟩:=hR 7 (by decide)
 obtain⟨o9,(e9:f 9=_),h9⟩:=hR 9 (by decide)
 obtain⟨o10,(e10:f 10=_),h10⟩:=hR 10 (by decide)
 obtain⟨o11,(e11:f 11=_),h11⟩:=hR 11 (by decide)
 obtain⟨o12,(e12:f 12=_),h12⟩:=hR 12 (by decide)
 obtain⟨br12_13,(e13:f 13=_),lr12_13,hr12_13⟩:=hR 13 (by decide)
 simp only[yZ,e2,e4,e5,e6,e7,e9,e10,e11,e12,e13]
 clear hR hal hap e2 e4 e5 e6 e7 e9 e10 e11 e12 e13
 refine zP (fun K hK=>⟨zU (by kernel_rfl) (qe (.tmp 15) (.tmp 115) rfl rfl rfl rfl (hr12_13) ke h12.elt.six (fun Y11_14 hl11_14=>hK.out _ _ ?_))⟩)
 refine zH ?_
 have d_br2_12_br12_13:br2_12≠br12_13:=by have:=(let ⟨_,h,_⟩:=vbr2_12;h.lt:br2_12<Y10_4.heap.size);omega
 replace vbr2_12:=(hl11_14.ve d_br2_12_br12_13 (vbr2_12.ext hX))
 have d_br2_13_br12_13:br2_13≠br12_13:=by have:=(let ⟨_,h,_⟩:=vbr2_13;h.lt:br2_13<Y10_4.heap.size);omega
 replace vbr2_13:=(hl11_14.ve d_br2_13_br12_13 (vbr2_13.ext hX))
 have d_br3_5_br12_13:br3_5≠br12_13:=by have:=(let ⟨_,h,_⟩:=vbr3_5;h.lt:br3_5<Y10_4.heap.size);omega
 replace vbr3_5:=(hl11_14.ve d_br3_5_br12_13 (vbr3_5.ext hX))
 have d_br4_18_br12_13:br4_18≠br12_13:=by have:=(let ⟨_,h,_⟩:=vbr4_18;h.lt:br4_18<Y10_4.heap.size);omega
 replace vbr4_18:=(hl11_14.ve d_br4_18_br12_13 (vbr4_18.ext hX))
 have d_br5_10_br12_13:br5_10≠br12_13:=by have:=(let ⟨_,h,_⟩:=vbr5_10;h.lt:br5_10<Y10_4.heap.size);omega
 replace vbr5_10:=(hl11_14.ve d_br5_10_br12_13 (vbr5_10.ext hX))
 have d_br6_10_br12_13:br6_10≠br12_13:=by have:=(let ⟨_,h,_⟩:=vbr6_10;h.lt:br6_10<Y10_4.heap.size);omega
 replace vbr6_10:=(hl11_14.ve d_br6_10_br12_13 (vbr6_10.ext hX))
 have d_br7_6_br12_13:br7_6≠br12_13:=by have:=(let ⟨_,h,_⟩:=vbr7_6;h.lt:br7_6<Y10_4.heap.size);omega
 replace vbr7_6:=(hl11_14.ve d_br7_6_br12_13 (vbr7_6.ext hX))
 have d_br8_10_br12_13:br8_10≠br12_13:=by have:=(let ⟨_,h,_⟩:=vbr8_10;h.lt:br8_10<Y10_4.heap.size);omega
 replace vbr8_10:=(hl11_14.ve d_br8_10_br12_13 (vbr8_10.ext hX))
 have d_br9_4_br12_13:br9_4≠br12_13:=by have:=(let ⟨_,h,_⟩:=vbr9_4;h.lt:br9_4<Y10_4.heap.size);omega
 replace vbr9_4:=(hl11_14.ve d_br9_4_br12_13 (vbr9_4.ext hX))
 have vbr12_13:VE Y11_14 M n br12_13 u23:=(hl11_14.mk' h12)
 have lb_vbr12_13:=zK hE.bsize lr12_13
 have hE':Ext W0 Y11_14:=(hl11_14.ext (hE.trans hX) (zK hE.bsize lr12_13))
 clear hE hX hl11_14 h2 h4 h5 h6 h7 h9 h10 h11 h12
 have hE:=hE'
 clear hE'
 obtain⟨ox,blx,fx⟩:=vbr6_10
 obtain⟨oy,bly,fy⟩:=vbr12_13
 obtain⟨oz,blz,fz⟩:=vbr8_10
 have hb1:=hE.at_ hrb
 go_upto_region 13 with fail
 refine zN 4 [0,0,0,7,15] [] (fun j f X=>match j with
  | 0=>f 0=EV ox
  | 1=>f 1=EV oy
  | 2=>f 2=EV oz
  | 3=>f 3=JV ox oy oz
  | _=>True) (by kernel_rfl) [(116,0),(117,1),(118,2),(119,3)] (by kernel_rfl) ?_
 refine zt 1 3 [(117,1),(118,2)] (fun f X hX hR K hK=>?_) ?_
 · simp only[yZ];refine⟨zU (by kernel_rfl) (kg (.tmp 11) rfl rfl (xJ.range (hX.at_ blx)) fx.elt.six ?_)⟩;exact hK.out _ (EV ox) _ (by simp only[yZ]) (zX _) trivial (fun _ _=>rfl)
 refine zt 2 2 [(116,0),(118,2)] (fun f X hX hR K hK=>?_) ?_
 · simp only[yZ];refine⟨zU (by kernel_rfl) (kg (.tmp 15) rfl rfl (xJ.range (hX.at_ bly)) fy.elt.six ?_)⟩;exact hK.out _ (EV oy) _ (by simp only[yZ]) (zX _) trivial (fun _ _=>rfl)
 refine zt 3 1 [(116,0),(117,1)] (fun f X hX hR K hK=>?_) ?_
 · simp only[yZ];refine⟨zU (by kernel_rfl) (kg (.tmp 13) rfl rfl (xJ.range (hX.at_ blz)) fz.elt.six ?_)⟩;exact hK.out _ (EV oz) _ (by simp only[yZ]) (zX _) trivial (fun _ _=>rfl)
 refine zt 4 0 [(116,0),(117,1),(118,2)] (fun f X hX hR K hK=>?_) ?_
 · have e0:f 0=_:=hR.out 0 rfl;have e1:f 1=_:=hR.out 1 rfl;have e2:f 2=_:=hR.out 2 rfl;simp only[yZ,e0,e1,e2];refine⟨zU (by kernel_rfl) (gR (x:=ox) (y:=oy) (z:=oz) (.tmp 116) (.tmp 117) (.tmp 118) rfl rfl rfl rfl fx.elt.six fy.elt.six fz.elt.six ?_)⟩;exact hK.out _ (JV ox oy oz) _ (by simp only[yZ,e0,e1,e2]) (zX _) trivial (fun _ _=>rfl)
 refine yF ⟨fun f X hX hR hal hap=>?_⟩
 have e3:f 3=_:=hR 3 (by decide)
 simp only[yZ,e3]
 clear hR hal hap e3
 refine zP (fun K hK=>⟨zU (by kernel_rfl) (vG (x:=ox) (y:=oy) (z:=oz) (.tmp 4) (.tmp 119) rfl rfl rfl rfl (hX.at_ hb1) rfl fx.elt.six fy.elt.six fz.elt.six (fun Y hY1 hY2 hY3=>hK.out _ _ ?_))⟩)
 refine zH ?_
 go_wp2
 exact dX rfl rfl rfl hY1 fx.elt.six fy.elt.six fz.elt.six ⟨_,_,_,rfl,⟨fx,fy,fz⟩,hY2.ext (HE0.out.trans (hE.trans hX)) (by have:=Hq.out;omega)⟩
theorem FE.zero {M n:Nat}(h:0<M):FE M n [0,0,0,0,0,0] 0:=⟨⟨rfl,by intro x hx;simp at hx;omega,by simp[val];omega⟩,by simp[val]⟩
theorem tp {P0:Nat→Prop}{k g size n inv M bb:Nat}{pl nl bl xl yl ml ol rl tl fl:List Nat}{Ap An Ab Ax Ay:Option Addr}{cp cn cb cx cy:Nat}(Pa Pb:Nat→Prop)(A A':Option Addr)(c c':Nat)(a b:List Nat)(inf:Bool)(w:World)
 (hk:Num w P0 k g size n inv M bb pl nl bl xl yl ml ol rl tl fl Ap An Ab Ax Ay cp cn cb cx cy) (hP0:∀ b,P0 b→b<w.heap.size) (h:RN w Pa A c a) (h':RN w Pb A' c' b) (hPa:∀ b,Pa b→b<w.heap.size) (hPb:∀ b,Pb b→b<w.heap.size)
 (hxM:inf=false→val 18446744073709551616 a<M) (hyM:inf=false→val 18446744073709551616 b<M) :
 Calls Tryz.prog 74 #[.pointer (some ⟨k,0,none⟩),.agg #[.bool inf,.slice A a.length c,.slice A' b.length c']] w fun e w'=>∃ ox oy oz,e=.returned (JV ox oy oz)∧FJ M n ox oy oz (if inf then 1 else val 18446744073709551616 a) (if inf then 1 else val 18446744073709551616 b) (if inf then 0 else 1)∧Ext w w':=by
 obtain⟨W0,hW0⟩:=eW ((w.alloc (.cells #[.bool inf,.slice A a.length c,.slice A' b.length c'] 33)).alloc (.cells #[.int .u64 0,.int .u64 0,.int .u64 0,.int .u64 0,.int .u64 0,.int .u64 0,.int .u64 0,.int .u64 0,.int .u64 0,.int .u64 0,.int .u64 0,.int .u64 0,.int .u64 0,.int .u64 0,.int .u64 0,.int .u64 0,.int .u64 0,.int .u64 0] 123))
 obtain⟨q,hq⟩:=eV w.heap.size
 have hE0:Ext w W0:=by rw[hW0];exact(zO _ _).trans (zO _ _)
 obtain⟨hbx,hrb,hz0⟩:=wL w (.cells #[.bool inf,.slice A a.length c,.slice A' b.length c'] 33) (.cells #[.int .u64 0,.int .u64 0,.int .u64 0,.int .u64 0,.int .u64 0,.int .u64 0,.int .u64 0,.int .u64 0,.int .u64 0,.int .u64 0,.int .u64 0,.int .u64 0,.int .u64 0,.int .u64 0,.int .u64 0,.int .u64 0,.int .u64 0,.int .u64 0] 123)
 rw[←hW0,hq]at hbx hrb hz0
 have b0:W0.cell? ⟨q,0,none⟩=some (.bool inf):=zQ hbx 0
 have b1:W0.cell? ⟨q,1,none⟩=some (.slice A a.length c):=zQ hbx 1
 have b2:W0.cell? ⟨q,2,none⟩=some (.slice A' b.length c'):=zQ hbx 2
 have hn:=zF (hk.ext hP0 hE0)
 have hP0':∀ b,P0 b→b<W0.heap.size:=fun b hb=>zI (hP0 b hb) hE0.bsize
 have hPa':∀ b,Pa b→b<W0.heap.size:=fun b hb=>zI (hPa b hb) hE0.bsize
 have hPb':∀ b,Pb b→b<W0.heap.size:=fun b hb=>zI (hPb b hb) hE0.bsize
 have ha:=h.below hE0 hPa
 have hb:=h'.below hE0 hPb
 have k6:=hn.out.c_f
 have HE0:=zF hE0
 have Hz0:=zF hz0
 have hM1:=hk.fr.ff.big
 obtain⟨x,hx⟩:=eV (val 18446744073709551616 a)
 obtain⟨y,hy⟩:=eV (val 18446744073709551616 b)
 rw[hx]at hxM
 rw[hy]at hyM
 rw[hx,hy]
 have Hx:=zF hx
 have Hy:=zF hy
 clear hE0 hz0 hk hP0 hx hy h h' hPa hPb
 cases inf
 case true =>
  clear b1 b2 ha hb Hx Hy hxM hyM hPa' hPb';simp only[if_true];go_enter Tryz.func74,Tryz.ntmps74;go_upto_region 1 with fail;rw[←hW0];have Hq:=zF hq;have HW0:=zF hW0;have hE:=zX W0;clear hq hW0;go_upto_region 3 with fail;clear k6 b0
  refine zN 6 [0,1,0,7,0,31,63] [] (fun j f X=>match j with
   | 0=>f 0=.pointer (some ⟨g,0,none⟩)
   | 1=>f 1=EV ol
   | 2=>f 2=.pointer (some ⟨g,0,none⟩)
   | 3=>f 3=EV ol
   | 4=>f 4=.agg #[.int .u64 0,.int .u64 0,.int .u64 0,.int .u64 0,.int .u64 0,.int .u64 0]
   | 5=>f 5=JV ol ol [0,0,0,0,0,0]
   | _=>True) (by kernel_rfl) [(12,0),(13,1),(14,2),(15,3),(16,4),(17,5)] (by kernel_rfl) ?_
  refine zJ 1 5 ?_;refine qI 2 4 (fun f=>#[f 0]) (F':=105) (fun f X hX hR=>?_) ?_
  · have e0:f 0=_:=hR.out 0 rfl;simp only[e0];refine(mK X (hn.out.ext hP0' (hE.trans hX)).fr).mono ?_;rintro e w2 ⟨rfl,hB⟩;exact⟨(EV ol),rfl,hB,fun _ _=>rfl⟩
  refine zJ 3 3 ?_;refine qI 4 2 (fun f=>#[f 2]) (F':=105) (fun f X hX hR=>?_) ?_
  · have e2:f 2=_:=hR.out 2 rfl;simp only[e2];refine(mK X (hn.out.ext hP0' (hE.trans hX)).fr).mono ?_;rintro e w2 ⟨rfl,hB⟩;exact⟨(EV ol),rfl,hB,fun _ _=>rfl⟩
  refine zJ 5 1 ?_;refine zt 6 0 [(12,0),(13,1),(14,2),(15,3),(16,4)] (fun f X hX hR K hK=>?_) ?_
  · have e1:f 1=_:=hR.out 1 rfl;have e3:f 3=_:=hR.out 3 rfl;have e4:f 4=_:=hR.out 4 rfl;simp only[yZ,e1,e3,e4];refine⟨zU (by kernel_rfl) (gR (x:=ol) (y:=ol) (z:=[0,0,0,0,0,0]) (.tmp 13) (.tmp 15) (.tmp 16) rfl rfl rfl rfl hn.out.fr.fone.elt.six hn.out.fr.fone.elt.six rfl ?_)⟩;exact hK.out _ (JV ol ol [0,0,0,0,0,0]) _ (by simp only[yZ,e1,e3,e4]) (zX _) trivial (fun _ _=>rfl)
  refine yF ⟨fun f X hX hR hal hap=>?_⟩;have e5:f 5=_:=hR 5 (by decide);simp only[yZ,e5];clear hR hal hap e5;refine zP (fun K hK=>⟨zU (by kernel_rfl) (vG (x:=ol) (y:=ol) (z:=[0,0,0,0,0,0]) (.tmp 4) (.tmp 17) rfl rfl rfl rfl (hX.at_ hrb) rfl hn.out.fr.fone.elt.six hn.out.fr.fone.elt.six rfl (fun Y hY1 hY2 hY3=>hK.out _ _ ?_))⟩);refine zH ?_;go_wp2;exact dX rfl rfl rfl hY1 hn.out.fr.fone.elt.six hn.out.fr.fone.elt.six rfl ⟨_,_,_,rfl,⟨hn.out.fr.fone,hn.out.fr.fone,FE.zero (by omega)⟩,hY2.ext (HE0.out.trans (hE.trans hX)) (by have:=Hq.out;omega)⟩
 case false =>
  have hxM:=hxM rfl;have hyM:=hyM rfl;simp only[xz,yL];go_enter Tryz.func74,Tryz.ntmps74;go_upto_region 1 with fail;rw[←hW0];have Hq:=zF hq;have HW0:=zF hW0;have Hqs:=zF (show q≤W0.heap.size by have:=Hz0.out;omega);have hE:=zX W0;clear hq hW0;go_upto_region 4 with fail;clear k6 b0
  refine zh (by kernel_rfl) 13 [0,0,2,6,15,0,0,64,223,511,0,2047,4095,8191] [] (fun j f X=>match j with
   | 0=>f 0=.pointer (some ⟨g,0,none⟩)
   | 1=>f 1=.pointer (some ⟨q,1,none⟩)
   | 2=>f 2=.slice A a.length c
   | 3=>∃ A1 c1,f 3=.slice A1 (digs 18446744073709551616 x).length c1∧OB X q A1 c1 (digs 18446744073709551616 x)
   | 4=>∃ o,f 4=EV o∧FE M n o x
   | 5=>f 5=.pointer (some ⟨g,0,none⟩)
   | 6=>f 6=.pointer (some ⟨q,2,none⟩)
   | 7=>f 7=.slice A' b.length c'
   | 8=>∃ A1 c1,f 8=.slice A1 (digs 18446744073709551616 y).length c1∧OB X q A1 c1 (digs 18446744073709551616 y)
   | 9=>∃ o,f 9=EV o∧FE M n o y
   | 10=>f 10=.pointer (some ⟨g,0,none⟩)
   | 11=>f 11=EV ol
   | 12=>∃ o o',f 12=JV o o' ol∧FE M n o x∧FE M n o' y
   | _=>True) (by kernel_rfl) [(18,0),(19,1),(20,2),(21,3),(22,4),(23,5),(24,6),(25,7),(26,8),(27,9),(28,10),(29,11),(30,12)] (by kernel_rfl) ?_
  refine zJ 1 12 ?_;refine zJ 2 11 ?_;refine qK 3 10 1 b1 ?_;refine qI 4 9 (fun f=>#[f 2]) (F':=100) (fun f X hX hR=>?_) ?_
  · have e2:f 2=_:=hR.out 2 rfl;simp only[e2];refine(yW Pa A c a X (ha.below (hE.trans hX) hPa')).mono ?_;rw[Hx.out];rintro e w2 ⟨A1,c1,rfl,hO,hB⟩;exact⟨_,rfl,hB,fun Y hY=>⟨A1,c1,rfl,(hO.mono (zK Hqs.out (hE.trans hX).bsize)).below hY (zG _)⟩⟩
  refine qI 5 8 (fun f=>#[f 0,f 3]) (F':=92) (fun f X hX hR=>?_) ?_
  · have e0:f 0=_:=hR.out 0 rfl;obtain⟨A3,c3,(e3:f 3=_),o3⟩:=hR.out 3 rfl;simp only[e0,e3];refine(yn _ A3 c3 _ X (hn.out.ext hP0' (hE.trans hX)).fr o3.rn (fun b hb=>hb.2) (hn.out.six hxM) (by rw[zd (by omega)];exact hxM)).mono ?_;rintro e w2 ⟨o,rfl,ho,hB⟩;rw[zd (by omega)]at ho;exact⟨(EV o),rfl,hB,fun Y hY=>⟨o,rfl,ho⟩⟩
  refine zJ 6 7 ?_;refine zJ 7 6 ?_;refine qK 8 5 6 b2 ?_;refine qI 9 4 (fun f=>#[f 7]) (F':=100) (fun f X hX hR=>?_) ?_
  · have e7:f 7=_:=hR.out 7 rfl;simp only[e7];refine(yW Pb A' c' b X (hb.below (hE.trans hX) hPb')).mono ?_;rw[Hy.out];rintro e w2 ⟨A1,c1,rfl,hO,hB⟩;exact⟨_,rfl,hB,fun Y hY=>⟨A1,c1,rfl,(hO.mono (zK Hqs.out (hE.trans hX).bsize)).below hY (zG _)⟩⟩
  refine qI 10 3 (fun f=>#[f 5,f 8]) (F':=92) (fun f X hX hR=>?_) ?_
  · have e5:f 5=_:=hR.out 5 rfl;obtain⟨A8,c8,(e8:f 8=_),o8⟩:=hR.out 8 rfl;simp only[e5,e8];refine(yn _ A8 c8 _ X (hn.out.ext hP0' (hE.trans hX)).fr o8.rn (fun b hb=>hb.2) (hn.out.six hyM) (by rw[zd (by omega)];exact hyM)).mono ?_;rintro e w2 ⟨o,rfl,ho,hB⟩;rw[zd (by omega)]at ho;exact⟨(EV o),rfl,hB,fun Y hY=>⟨o,rfl,ho⟩⟩
  refine zJ 11 2 ?_;refine qI 12 1 (fun f=>#[f 10]) (F':=105) (fun f X hX hR=>?_) ?_
  · have e10:f 10=_:=hR.out 10 rfl;simp only[e10];refine(mK X (hn.out.ext hP0' (hE.trans hX)).fr).mono ?_;rintro e w2 ⟨rfl,hB⟩;exact⟨(EV ol),rfl,hB,fun _ _=>rfl⟩
  refine zt 13 0 [(18,0),(19,1),(20,2),(21,3),(22,4),(23,5),(24,6),(25,7),(26,8),(27,9),(28,10),(29,11)] (fun f X hX hR K hK=>?_) ?_
  · obtain⟨o4,(e4:f 4=_),h4⟩:=hR.out 4 rfl;obtain⟨o9,(e9:f 9=_),h9⟩:=hR.out 9 rfl;have e11:f 11=_:=hR.out 11 rfl;simp only[yZ,e4,e9,e11];refine⟨zU (by kernel_rfl) (gR (x:=o4) (y:=o9) (z:=ol) (.tmp 22) (.tmp 27) (.tmp 29) rfl rfl rfl rfl h4.elt.six h9.elt.six hn.out.fr.fone.elt.six ?_)⟩;exact hK.out _ (JV o4 o9 ol) _ (by simp only[yZ,e4,e9,e11]) (zX _) trivial (fun _ _=>⟨o4,o9,rfl,h4,h9⟩)
  refine yF ⟨fun f X hX hR hal hap=>?_⟩;obtain⟨A3,c3,(e3:f 3=_),o3⟩:=hR 3 (by decide);obtain⟨o4,(e4:f 4=_),h4⟩:=hR 4 (by decide);obtain⟨A8,c8,(e8:f 8=_),o8⟩:=hR 8 (by decide);obtain⟨o9,(e9:f 9=_),h9⟩:=hR 9 (by decide);obtain⟨ox,oy,(e12:f 12=_),fx,fy⟩:=hR 12 (by decide);simp only[yZ,e3,e4,e8,e9,e12];clear hR hal hap e3 e4 e8 e9 e12;refine zP (fun K hK=>⟨zU (by kernel_rfl) (vG (x:=ox) (y:=oy) (z:=ol) (.tmp 4) (.tmp 30) rfl rfl rfl rfl (hX.at_ hrb) rfl fx.elt.six fy.elt.six hn.out.fr.fone.elt.six (fun Y hY1 hY2 hY3=>hK.out _ _ ?_))⟩);refine zH ?_;go_wp2;exact dX rfl rfl rfl hY1 fx.elt.six fy.elt.six hn.out.fr.fone.elt.six ⟨_,_,_,rfl,⟨fx,fy,hn.out.fr.fone⟩,hY2.ext (HE0.out.trans (hE.trans hX)) (by have:=Hq.out;omega)⟩
def gj (M x1 y1 z1 x2 y2 z2:Nat):Nat×Nat×Nat:=let u1:=mm M z1 z1;let u2:=mm M z2 z2;let u3:=mm M x1 u2;let u4:=mm M x2 u1;let u5:=mm M u2 z2;let u6:=mm M y1 u5;let u7:=mm M u1 z1;let u8:=mm M y2 u7;let u9:=sm M u4 u3;let u10:=sm M u8 u6;let u11:=mm M u9 u9;let u12:=mm M u11 u9;let u13:=mm M u3 u11;let u14:=mm M u10 u10;let u15:=sm M u14 u12;let u16:=am M u13 u13;let u17:=sm M u15 u16;let u18:=sm M u13 u17;let u19:=mm M u10 u18;let u20:=mm M u6 u12;let u21:=sm M u19 u20;let u22:=mm M z1 z2;let u23:=mm M u9 u22;if u9%M=0 then(if u10%M=0 then gO M x1 y1 z1 else(1,1,0))else(u17,u21,u23)
def bV (M x1 y1 z1 x2 y2 z2:Nat):Nat×Nat×Nat:=if z1%M=0 then(x2,y2,z2)else if z2%M=0 then(x1,y1,z1)else gj M x1 y1 z1 x2 y2 z2
theorem FJ.sz {M n x y z:Nat}{lx ly lz:List Nat}(h:FJ M n lx ly lz x y z):(nts (lx++ly++lz)).toArray.size=18:=by rw[qX,qf,zz,zz,h.x.elt.six,h.y.elt.six,h.z.elt.six]
theorem mv (w:World)(o1 o2 o3:Obj):(((w.alloc o1).alloc o2).alloc o3).heap[w.heap.size]?=some o1∧(((w.alloc o1).alloc o2).alloc o3).heap[w.heap.size+1]?=some o2∧(((w.alloc o1).alloc o2).alloc o3).heap[w.heap.size+2]?=some o3∧(((w.alloc o1).alloc o2).alloc o3).heap.size=w.heap.size+3 :=
 ⟨(zO _ _).at_ (wL w o1 o2).1,(zO _ _).at_ (wL w o1 o2).2.1,by have:=zS ((w.alloc o1).alloc o2) o3;rwa [(wL w o1 o2).2.2]at this,by simp⟩
theorem zA1 {P0:Nat→Prop}{k g size n inv M bb:Nat}{pl nl bl xl yl ml ol rl tl fl l1x l1y l1z l2x l2y l2z:List Nat}{Ap An Ab Ax Ay:Option Addr}{cp cn cb cx cy x1 y1 z1 x2 y2 z2:Nat}(w:World)
 (hk:Num w P0 k g size n inv M bb pl nl bl xl yl ml ol rl tl fl Ap An Ab Ax Ay cp cn cb cx cy) (hP0:∀ b,P0 b→b<w.heap.size) (hj:FJ M n l1x l1y l1z x1 y1 z1) (hj':FJ M n l2x l2y l2z x2 y2 z2) :
 Calls Tryz.prog 75 #[.pointer (some ⟨k,0,none⟩),JV l1x l1y l1z,JV l2x l2y l2z] w fun e w'=>∃ ox oy oz,e=.returned (JV ox oy oz)∧FJ M n ox oy oz (bV M x1 y1 z1 x2 y2 z2).1 (bV M x1 y1 z1 x2 y2 z2).2.1 (bV M x1 y1 z1 x2 y2 z2).2.2∧Ext w w':=by
 obtain⟨cs,hcs⟩:=eV ((nts (l1x++l1y++l1z)).toArray)
 obtain⟨ct,hct⟩:=eV ((nts (l2x++l2y++l2z)).toArray)
 obtain⟨W0,hW0⟩:=eW (((w.alloc (.cells cs 123)).alloc (.cells ct 123)).alloc (.cells #[.int .u64 0,.int .u64 0,.int .u64 0,.int .u64 0,.int .u64 0,.int .u64 0,.int .u64 0,.int .u64 0,.int .u64 0,.int .u64 0,.int .u64 0,.int .u64 0,.int .u64 0,.int .u64 0,.int .u64 0,.int .u64 0,.int .u64 0,.int .u64 0] 123))
 obtain⟨q,hq⟩:=eV w.heap.size
 have hE0:Ext w W0:=by rw[hW0];exact((zO _ _).trans (zO _ _)).trans (zO _ _)
 obtain⟨hp1,hp2,hrb,hz0⟩:=mv w (.cells cs 123) (.cells ct 123) (.cells #[.int .u64 0,.int .u64 0,.int .u64 0,.int .u64 0,.int .u64 0,.int .u64 0,.int .u64 0,.int .u64 0,.int .u64 0,.int .u64 0,.int .u64 0,.int .u64 0,.int .u64 0,.int .u64 0,.int .u64 0,.int .u64 0,.int .u64 0,.int .u64 0] 123)
 rw[←hW0,hq]at hp1 hp2 hrb hz0
 have hp1:kD W0 q l1x l1y l1z:=by rw[kD,hcs];exact hp1
 have hp2:kD W0 (q+1) l2x l2y l2z:=by rw[kD,hct];exact hp2
 have hn:=zF (hk.ext hP0 hE0)
 have hP0':∀ b,P0 b→b<W0.heap.size:=fun b hb=>zI (hP0 b hb) hE0.bsize
 have k6:=hn.out.c_f
 have hJ1:=zF hj
 have hJ2:=zF hj'
 have HE0:=zF hE0
 have Hz0:=zF hz0
 rw[show JV l1x l1y l1z=.agg cs by rw[JV,hcs],show JV l2x l2y l2z=.agg ct by rw[JV,hct]]
 clear hE0 hz0 hk hP0 hj hj' hcs hct
 by_cases h1:z1%M=0
 · have h1n:=zF h1;rw[show bV M x1 y1 z1 x2 y2 z2=(x2,y2,z2) by rw[bV,qg h1]];clear h1 k6;go_enter Tryz.func75,Tryz.ntmps75;go_upto_region 1 with fail;rw[←hW0];have Hq:=zF hq;have HW0:=zF hW0;have hE:=zX W0;clear hq hW0
   refine zN 4 [0,1,3,7] [] (fun j f X=>match j with
    | 0=>f 0=.pointer (some ⟨q,12,none⟩)
    | 1=>∃ o,f 1=EV o∧FE M n o z1
    | 2=>f 2=.bool true
    | 3=>f 3=.bool true
    | _=>True) (by kernel_rfl) [(22,0),(23,1),(24,2),(21,3)] (by kernel_rfl) ?_
   refine zJ 1 3 ?_;refine lE 2 2 0 (fun _ hX=>xK ((hE.trans hX).at_ hp1) hJ1.out.x.elt.six hJ1.out.y.elt.six) hJ1.out.z ?_;refine qI 3 1 (fun f=>#[f 1]) (F':=104) (fun f X hX hR=>?_) ?_
   · obtain⟨o1,(e1:f 1=_),h1⟩:=hR.out 1 rfl;simp only[e1];refine(vF o1 X h1.elt.six).mono ?_;rintro e w2 ⟨rfl,hB⟩;rw[show decide (o1=[0,0,0,0,0,0])=true by rw[decide_eq_decide.2 (h1.zero_iff (hn.out.ext hP0' (hE.trans hX)).fr.ff)];exact qZ h1n.out];exact⟨(.bool true),rfl,hB,fun _ _=>rfl⟩
   refine qN 4 0 2 ?_;refine yF ⟨fun f X hX hR hal hap=>?_⟩;obtain⟨o1,(e1:f 1=_),h1⟩:=hR 1 (by decide);have e3:f 3=_:=hR 3 (by decide);simp only[yZ,e1,e3];clear hR hal hap e1 e3;refine zH ?_;replace hE:=hE.trans hX;clear hX;rename World=>X1_;go_upto_region 2 with fail;have hb1:=hE.at_ hrb
   refine zN 1 [0,1] [] (fun j f X=>match j with
    | 0=>f 0=JV l2x l2y l2z
    | _=>True) (by kernel_rfl) [(25,0)] (by kernel_rfl) ?_
   refine zt 1 0 [] (fun f X hX hR K hK=>?_) ?_
   · simp only[yZ];refine⟨zU (by kernel_rfl) (kB (v:=JV l2x l2y l2z) 123 (.tmp 5) rfl rfl ((hE.trans hX).at_ hp2) Tryz.underlying123 rfl (by rw[hJ2.out.sz];exact gJ) rfl ?_)⟩;exact hK.out _ (JV l2x l2y l2z) _ (by simp only[yZ]) (zX _) trivial (fun _ _=>rfl)
   refine yF ⟨fun f X hX hR hal hap=>?_⟩;have e0:f 0=_:=hR 0 (by decide);simp only[yZ,e0];clear hR hal hap e0;refine zP (fun K hK=>⟨zU (by kernel_rfl) (vG (x:=l2x) (y:=l2y) (z:=l2z) (.tmp 6) (.tmp 25) rfl rfl rfl rfl (hX.at_ hb1) rfl hJ2.out.x.elt.six hJ2.out.y.elt.six hJ2.out.z.elt.six (fun Y hY1 hY2 hY3=>hK.out _ _ ?_))⟩);refine zH ?_;go_wp2;exact dX rfl rfl rfl hY1 hJ2.out.x.elt.six hJ2.out.y.elt.six hJ2.out.z.elt.six ⟨_,_,_,rfl,hJ2.out,hY2.ext (HE0.out.trans (hE.trans hX)) (by have:=Hq.out;omega)⟩
 by_cases h2:z2%M=0
 · have h1n:=zF h1;have h2n:=zF h2;rw[show bV M x1 y1 z1 x2 y2 z2=(x1,y1,z1) by rw[bV,ql h1,qg h2]];clear h1 h2 k6;go_enter Tryz.func75,Tryz.ntmps75;go_upto_region 1 with fail;rw[←hW0];have Hq:=zF hq;have HW0:=zF hW0;have hE:=zX W0;clear hq hW0
   refine zN 4 [0,1,3,7] [] (fun j f X=>match j with
    | 0=>f 0=.pointer (some ⟨q,12,none⟩)
    | 1=>∃ o,f 1=EV o∧FE M n o z1
    | 2=>f 2=.bool false
    | 3=>f 3=.bool false
    | _=>True) (by kernel_rfl) [(22,0),(23,1),(24,2),(21,3)] (by kernel_rfl) ?_
   refine zJ 1 3 ?_;refine lE 2 2 0 (fun _ hX=>xK ((hE.trans hX).at_ hp1) hJ1.out.x.elt.six hJ1.out.y.elt.six) hJ1.out.z ?_;refine qI 3 1 (fun f=>#[f 1]) (F':=104) (fun f X hX hR=>?_) ?_
   · obtain⟨o1,(e1:f 1=_),h1⟩:=hR.out 1 rfl;simp only[e1];refine(vF o1 X h1.elt.six).mono ?_;rintro e w2 ⟨rfl,hB⟩;rw[show decide (o1=[0,0,0,0,0,0])=false by rw[decide_eq_decide.2 (h1.zero_iff (hn.out.ext hP0' (hE.trans hX)).fr.ff)];exact jF h1n.out];exact⟨(.bool false),rfl,hB,fun _ _=>rfl⟩
   refine qN 4 0 2 ?_;refine yF ⟨fun f X hX hR hal hap=>?_⟩;obtain⟨o1,(e1:f 1=_),h1⟩:=hR 1 (by decide);have e3:f 3=_:=hR 3 (by decide);simp only[yZ,e1,e3];clear hR hal hap e1 e3;refine zH ?_;replace hE:=hE.trans hX;clear hX;rename World=>X1_;go_upto_region 3 with fail
   refine zN 4 [0,1,3,7] [] (fun j f X=>match j with
    | 0=>f 0=.pointer (some ⟨q+1,12,none⟩)
    | 1=>∃ o,f 1=EV o∧FE M n o z2
    | 2=>f 2=.bool true
    | 3=>f 3=.bool true
    | _=>True) (by kernel_rfl) [(27,0),(28,1),(29,2),(26,3)] (by kernel_rfl) ?_
   refine zJ 1 3 ?_;refine lE 2 2 0 (fun _ hX=>xK ((hE.trans hX).at_ hp2) hJ2.out.x.elt.six hJ2.out.y.elt.six) hJ2.out.z ?_;refine qI 3 1 (fun f=>#[f 1]) (F':=104) (fun f X hX hR=>?_) ?_
   · obtain⟨o1,(e1:f 1=_),h1⟩:=hR.out 1 rfl;simp only[e1];refine(vF o1 X h1.elt.six).mono ?_;rintro e w2 ⟨rfl,hB⟩;rw[show decide (o1=[0,0,0,0,0,0])=true by rw[decide_eq_decide.2 (h1.zero_iff (hn.out.ext hP0' (hE.trans hX)).fr.ff)];exact qZ h2n.out];exact⟨(.bool true),rfl,hB,fun _ _=>rfl⟩
   refine qN 4 0 2 ?_;refine yF ⟨fun f X hX hR hal hap=>?_⟩;obtain⟨o1,(e1:f 1=_),h1⟩:=hR 1 (by decide);have e3:f 3=_:=hR 3 (by decide);simp only[yZ,e1,e3];clear hR hal hap e1 e3;refine zH ?_;replace hE:=hE.trans hX;clear hX;rename World=>X2_;go_upto_region 4 with fail;have hb1:=hE.at_ hrb
   refine zN 1 [0,1] [] (fun j f X=>match j with
    | 0=>f 0=JV l1x l1y l1z
    | _=>True) (by kernel_rfl) [(30,0)] (by kernel_rfl) ?_
   refine zt 1 0 [] (fun f X hX hR K hK=>?_) ?_
   · simp only[yZ];refine⟨zU (by kernel_rfl) (kB (v:=JV l1x l1y l1z) 123 (.tmp 4) rfl rfl ((hE.trans hX).at_ hp1) Tryz.underlying123 rfl (by rw[hJ1.out.sz];exact gJ) rfl ?_)⟩;exact hK.out _ (JV l1x l1y l1z) _ (by simp only[yZ]) (zX _) trivial (fun _ _=>rfl)
   refine yF ⟨fun f X hX hR hal hap=>?_⟩;have e0:f 0=_:=hR 0 (by decide);simp only[yZ,e0];clear hR hal hap e0;refine zP (fun K hK=>⟨zU (by kernel_rfl) (vG (x:=l1x) (y:=l1y) (z:=l1z) (.tmp 6) (.tmp 30) rfl rfl rfl rfl (hX.at_ hb1) rfl hJ1.out.x.elt.six hJ1.out.y.elt.six hJ1.out.z.elt.six (fun Y hY1 hY2 hY3=>hK.out _ _ ?_))⟩);refine zH ?_;go_wp2;exact dX rfl rfl rfl hY1 hJ1.out.x.elt.six hJ1.out.y.elt.six hJ1.out.z.elt.six ⟨_,_,_,rfl,hJ1.out,hY2.ext (HE0.out.trans (hE.trans hX)) (by have:=Hq.out;omega)⟩
 · have h1n:=zF h1;have h2n:=zF h2;rw[show bV M x1 y1 z1 x2 y2 z2=gj M x1 y1 z1 x2 y2 z2 by rw[bV,ql h1,ql h2]];clear h1 h2;obtain⟨u1,E_u1⟩:=eG (mm M z1 z1);obtain⟨u2,E_u2⟩:=eG (mm M z2 z2);obtain⟨u3,E_u3⟩:=eG (mm M x1 u2);obtain⟨u4,E_u4⟩:=eG (mm M x2 u1);obtain⟨u5,E_u5⟩:=eG (mm M u2 z2);obtain⟨u6,E_u6⟩:=eG (mm M y1 u5);obtain⟨u7,E_u7⟩:=eG (mm M u1 z1);obtain⟨u8,E_u8⟩:=eG (mm M y2 u7);obtain⟨u9,E_u9⟩:=eG (sm M u4 u3);obtain⟨u10,E_u10⟩:=eG (sm M u8 u6);obtain⟨u11,E_u11⟩:=eG (mm M u9 u9);obtain⟨u12,E_u12⟩:=eG (mm M u11 u9);obtain⟨u13,E_u13⟩:=eG (mm M u3 u11);obtain⟨u14,E_u14⟩:=eG (mm M u10 u10);obtain⟨u15,E_u15⟩:=eG (sm M u14 u12);obtain⟨u16,E_u16⟩:=eG (am M u13 u13);obtain⟨u17,E_u17⟩:=eG (sm M u15 u16);obtain⟨u18,E_u18⟩:=eG (sm M u13 u17);obtain⟨u19,E_u19⟩:=eG (mm M u10 u18);obtain⟨u20,E_u20⟩:=eG (mm M u6 u12);obtain⟨u21,E_u21⟩:=eG (sm M u19 u20);obtain⟨u22,E_u22⟩:=eG (mm M z1 z2);obtain⟨u23,E_u23⟩:=eG (mm M u9 u22);have hres:=zF (show gj M x1 y1 z1 x2 y2 z2=if u9%M=0 then(if u10%M=0 then gO M x1 y1 z1 else(1,1,0))else(u17,u21,u23) by simp only[gj,E_u1.out,E_u2.out,E_u3.out,E_u4.out,E_u5.out,E_u6.out,E_u7.out,E_u8.out,E_u9.out,E_u10.out,E_u11.out,E_u12.out,E_u13.out,E_u14.out,E_u15.out,E_u16.out,E_u17.out,E_u18.out,E_u19.out,E_u20.out,E_u21.out,E_u22.out,E_u23.out]);obtain⟨res,hq0⟩:=eV (gj M x1 y1 z1 x2 y2 z2);rw[hq0];have Hq0:=zF hq0;clear hq0;go_enter Tryz.func75,Tryz.ntmps75;go_upto_region 1 with fail;rw[←hW0];have Hq:=zF hq;have HW0:=zF hW0;have hE:=zX W0;clear hq hW0
   refine zN 4 [0,1,3,7] [] (fun j f X=>match j with
    | 0=>f 0=.pointer (some ⟨q,12,none⟩)
    | 1=>∃ o,f 1=EV o∧FE M n o z1
    | 2=>f 2=.bool false
    | 3=>f 3=.bool false
    | _=>True) (by kernel_rfl) [(22,0),(23,1),(24,2),(21,3)] (by kernel_rfl) ?_
   refine zJ 1 3 ?_;refine lE 2 2 0 (fun _ hX=>xK ((hE.trans hX).at_ hp1) hJ1.out.x.elt.six hJ1.out.y.elt.six) hJ1.out.z ?_;refine qI 3 1 (fun f=>#[f 1]) (F':=104) (fun f X hX hR=>?_) ?_
   · obtain⟨o1,(e1:f 1=_),h1⟩:=hR.out 1 rfl;simp only[e1];refine(vF o1 X h1.elt.six).mono ?_;rintro e w2 ⟨rfl,hB⟩;rw[show decide (o1=[0,0,0,0,0,0])=false by rw[decide_eq_decide.2 (h1.zero_iff (hn.out.ext hP0' (hE.trans hX)).fr.ff)];exact jF h1n.out];exact⟨(.bool false),rfl,hB,fun _ _=>rfl⟩
   refine qN 4 0 2 ?_;refine yF ⟨fun f X hX hR hal hap=>?_⟩;obtain⟨o1,(e1:f 1=_),h1⟩:=hR 1 (by decide);have e3:f 3=_:=hR 3 (by decide);simp only[yZ,e1,e3];clear hR hal hap e1 e3;refine zH ?_;replace hE:=hE.trans hX;clear hX;rename World=>X1_;go_upto_region 3 with fail
   refine zN 4 [0,1,3,7] [] (fun j f X=>match j with
    | 0=>f 0=.pointer (some ⟨q+1,12,none⟩)
    | 1=>∃ o,f 1=EV o∧FE M n o z2
    | 2=>f 2=.bool false
    | 3=>f 3=.bool false
    | _=>True) (by kernel_rfl) [(27,0),(28,1),(29,2),(26,3)] (by kernel_rfl) ?_
   refine zJ 1 3 ?_;refine lE 2 2 0 (fun _ hX=>xK ((hE.trans hX).at_ hp2) hJ2.out.x.elt.six hJ2.out.y.elt.six) hJ2.out.z ?_;refine qI 3 1 (fun f=>#[f 1]) (F':=104) (fun f X hX hR=>?_) ?_
   · obtain⟨o1,(e1:f 1=_),h1⟩:=hR.out 1 rfl;simp only[e1];refine(vF o1 X h1.elt.six).mono ?_;rintro e w2 ⟨rfl,hB⟩;rw[show decide (o1=[0,0,0,0,0,0])=false by rw[decide_eq_decide.2 (h1.zero_iff (hn.out.ext hP0' (hE.trans hX)).fr.ff)];exact jF h2n.out];exact⟨(.bool false),rfl,hB,fun _ _=>rfl⟩
   refine qN 4 0 2 ?_;refine yF ⟨fun f X hX hR hal hap=>?_⟩;obtain⟨o1,(e1:f 1=_),h1⟩:=hR 1 (by decide);have e3:f 3=_:=hR 3 (by decide);simp only[yZ,e1,e3];clear hR hal hap e1 e3;refine zH ?_;replace hE:=hE.trans hX;clear hX;rename World=>X2_;have k6':=hE.cell k6;go_upto_region 6 with fail;clear k6'
   refine zh (by kernel_rfl) 14 [0,0,2,0,8,31,0,0,128,0,512,2047,0,0,16383,32767] [12,13] (fun j f X=>match j with
    | 0=>f 0=.pointer (some ⟨g,0,none⟩)
    | 1=>f 1=.pointer (some ⟨q,12,none⟩)
    | 2=>∃ o,f 2=EV o∧FE M n o z1
    | 3=>f 3=.pointer (some ⟨q,12,none⟩)
    | 4=>∃ o,f 4=EV o∧FE M n o z1
    | 5=>∃ o,f 5=EV o∧FE M n o u1
    | 6=>f 6=.pointer (some ⟨g,0,none⟩)
    | 7=>f 7=.pointer (some ⟨q+1,12,none⟩)
    | 8=>∃ o,f 8=EV o∧FE M n o z2
    | 9=>f 9=.pointer (some ⟨q+1,12,none⟩)
    | 10=>∃ o,f 10=EV o∧FE M n o z2
    | 11=>∃ o,f 11=EV o∧FE M n o u2
    | 12=>∃ b,f 12=.pointer (some ⟨b,0,none⟩)∧X2_.heap.size≤b∧X.heap[b]?=some (.cells #[.int .u64 0,.int .u64 0,.int .u64 0,.int .u64 0,.int .u64 0,.int .u64 0] 109 (0,0))
    | 13=>∃ b,f 13=.pointer (some ⟨b,0,none⟩)∧X2_.heap.size≤b∧X.heap[b]?=some (.cells #[.int .u64 0,.int .u64 0,.int .u64 0,.int .u64 0,.int .u64 0,.int .u64 0] 109 (0,0))
    | _=>True) (by kernel_rfl) [(35,0),(36,1),(37,2),(38,3),(39,4),(40,5),(41,6),(42,7),(43,8),(44,9),(45,10),(46,11),(8,12),(9,13)] (by kernel_rfl) ?_
   refine zJ 1 13 ?_;refine zJ 2 12 ?_;refine lE 3 11 1 (fun _ hX=>xK ((hE.trans hX).at_ hp1) hJ1.out.x.elt.six hJ1.out.y.elt.six) hJ1.out.z ?_;refine zJ 4 10 ?_;refine lE 5 9 3 (fun _ hX=>xK ((hE.trans hX).at_ hp1) hJ1.out.x.elt.six hJ1.out.y.elt.six) hJ1.out.z ?_;refine fc 6 8 0 2 4 (fun X hX _ _ h h'=>js X (hn.out.ext hP0' (hE.trans hX)).fr.ff h h') E_u1.out ?_;refine zJ 7 7 ?_;refine zJ 8 6 ?_;refine lE 9 5 7 (fun _ hX=>xK ((hE.trans hX).at_ hp2) hJ2.out.x.elt.six hJ2.out.y.elt.six) hJ2.out.z ?_;refine zJ 10 4 ?_;refine lE 11 3 9 (fun _ hX=>xK ((hE.trans hX).at_ hp2) hJ2.out.x.elt.six hJ2.out.y.elt.six) hJ2.out.z ?_;refine fc 12 2 6 8 10 (fun X hX _ _ h h'=>js X (hn.out.ext hP0' (hE.trans hX)).fr.ff h h') E_u2.out ?_;refine kK 13 1 ?_;refine kK 14 0 ?_;refine yF ⟨fun f X hX hR hal hap=>?_⟩;obtain⟨o2,(e2:f 2=_),h2⟩:=hR 2 (by decide);obtain⟨o4,(e4:f 4=_),h4⟩:=hR 4 (by decide);obtain⟨o5,(e5:f 5=_),h5⟩:=hR 5 (by decide);obtain⟨o8,(e8:f 8=_),h8⟩:=hR 8 (by decide);obtain⟨o10,(e10:f 10=_),h10⟩:=hR 10 (by decide);obtain⟨o11,(e11:f 11=_),h11⟩:=hR 11 (by decide);obtain⟨br6_12,(e12:f 12=_),lr6_12,hr6_12⟩:=hR 12 (by decide);obtain⟨br6_13,(e13:f 13=_),lr6_13,hr6_13⟩:=hR 13 (by decide);have nr6_13_12:br6_13≠br6_12:=fun e=>hap 13 12 (by decide) (by decide) rfl rfl (by decide) (by rw[e13,e12,e]);simp only[yZ,e2,e4,e5,e8,e10,e11,e12,e13];clear hR hal hap e2 e4 e5 e8 e10 e11 e12 e13;refine zP (fun K hK=>⟨zU (by kernel_rfl) (qe (.tmp 8) (.tmp 40) rfl rfl rfl rfl (hr6_12) ke h5.elt.six (fun Y3_14 hl3_14=>hK.out _ _ ?_))⟩);refine zP (fun K hK=>⟨zU (by kernel_rfl) (qe (.tmp 9) (.tmp 46) rfl rfl rfl rfl (hl3_14.other nr6_13_12 (hr6_13)) ke h11.elt.six (fun Y3_15 hl3_15=>hK.out _ _ ?_))⟩);refine zH ?_;have vbr6_12:VE Y3_15 M n br6_12 u1:=(hl3_15.ve (xO nr6_13_12) (hl3_14.mk' h5))
   have lb_vbr6_12:=zK hE.bsize lr6_12;have vbr6_13:VE Y3_15 M n br6_13 u2:=(hl3_15.mk' h11)
   have lb_vbr6_13:=zK hE.bsize lr6_13;have d_br6_12_br6_13:br6_12≠br6_13:=(xO nr6_13_12)
   have hE':Ext W0 Y3_15:=(hl3_15.ext (hl3_14.ext (hE.trans hX) (zK hE.bsize lr6_12)) (zK hE.bsize lr6_13))
   clear hE hX hl3_14 hl3_15 h2 h4 h5 h8 h10 h11 ;have hE:=hE';clear hE';go_upto_region 7 with fail
   refine zh (by kernel_rfl) 12 [0,0,2,0,15,0,0,64,0,511,0,0,4095,8191] [10,11] (fun j f X=>match j with
    | 0=>f 0=.pointer (some ⟨g,0,none⟩)
    | 1=>f 1=.pointer (some ⟨q,0,none⟩)
    | 2=>∃ o,f 2=EV o∧FE M n o x1
    | 3=>∃ o,f 3=EV o∧FE M n o u2
    | 4=>∃ o,f 4=EV o∧FE M n o u3
    | 5=>f 5=.pointer (some ⟨g,0,none⟩)
    | 6=>f 6=.pointer (some ⟨q+1,0,none⟩)
    | 7=>∃ o,f 7=EV o∧FE M n o x2
    | 8=>∃ o,f 8=EV o∧FE M n o u1
    | 9=>∃ o,f 9=EV o∧FE M n o u4
    | 10=>∃ b,f 10=.pointer (some ⟨b,0,none⟩)∧Y3_15.heap.size≤b∧X.heap[b]?=some (.cells #[.int .u64 0,.int .u64 0,.int .u64 0,.int .u64 0,.int .u64 0,.int .u64 0] 109 (0,0))
    | 11=>∃ b,f 11=.pointer (some ⟨b,0,none⟩)∧Y3_15.heap.size≤b∧X.heap[b]?=some (.cells #[.int .u64 0,.int .u64 0,.int .u64 0,.int .u64 0,.int .u64 0,.int .u64 0] 109 (0,0))
    | _=>True) (by kernel_rfl) [(47,0),(48,1),(49,2),(50,3),(51,4),(52,5),(53,6),(54,7),(55,8),(56,9),(10,10),(11,11)] (by kernel_rfl) ?_
   refine zJ 1 11 ?_;refine zJ 2 10 ?_;refine lE 3 9 1 (fun _ hX=>kD.rx ((hE.trans hX).at_ hp1)) hJ1.out.x ?_;refine lX 4 8 (fun X hX=>let ⟨o,hbl,ho⟩:=vbr6_13.ext hX;⟨o,hbl.range,ho⟩) ?_;refine fc 5 7 0 2 3 (fun X hX _ _ h h'=>js X (hn.out.ext hP0' (hE.trans hX)).fr.ff h h') E_u3.out ?_;refine zJ 6 6 ?_;refine zJ 7 5 ?_;refine lE 8 4 6 (fun _ hX=>kD.rx ((hE.trans hX).at_ hp2)) hJ2.out.x ?_;refine lX 9 3 (fun X hX=>let ⟨o,hbl,ho⟩:=vbr6_12.ext hX;⟨o,hbl.range,ho⟩) ?_;refine fc 10 2 5 7 8 (fun X hX _ _ h h'=>js X (hn.out.ext hP0' (hE.trans hX)).fr.ff h h') E_u4.out ?_;refine kK 11 1 ?_;refine kK 12 0 ?_;refine yF ⟨fun f X hX hR hal hap=>?_⟩;obtain⟨o2,(e2:f 2=_),h2⟩:=hR 2 (by decide);obtain⟨o3,(e3:f 3=_),h3⟩:=hR 3 (by decide);obtain⟨o4,(e4:f 4=_),h4⟩:=hR 4 (by decide);obtain⟨o7,(e7:f 7=_),h7⟩:=hR 7 (by decide);obtain⟨o8,(e8:f 8=_),h8⟩:=hR 8 (by decide);obtain⟨o9,(e9:f 9=_),h9⟩:=hR 9 (by decide);obtain⟨br7_10,(e10:f 10=_),lr7_10,hr7_10⟩:=hR 10 (by decide);obtain⟨br7_11,(e11:f 11=_),lr7_11,hr7_11⟩:=hR 11 (by decide);have nr7_11_10:br7_11≠br7_10:=fun e=>hap 11 10 (by decide) (by decide) rfl rfl (by decide) (by rw[e11,e10,e]);simp only[yZ,e2,e3,e4,e7,e8,e9,e10,e11];clear hR hal hap e2 e3 e4 e7 e8 e9 e10 e11;refine zP (fun K hK=>⟨zU (by kernel_rfl) (qe (.tmp 10) (.tmp 51) rfl rfl rfl rfl (hr7_10) ke h4.elt.six (fun Y4_12 hl4_12=>hK.out _ _ ?_))⟩);refine zP (fun K hK=>⟨zU (by kernel_rfl) (qe (.tmp 11) (.tmp 56) rfl rfl rfl rfl (hl4_12.other nr7_11_10 (hr7_11)) ke h9.elt.six (fun Y4_13 hl4_13=>hK.out _ _ ?_))⟩);refine zH ?_;have d_br6_12_br7_10:br6_12≠br7_10:=by have:=(let ⟨_,h,_⟩:=vbr6_12;h.lt:br6_12<Y3_15.heap.size);omega
   have d_br6_12_br7_11:br6_12≠br7_11:=by have:=(let ⟨_,h,_⟩:=vbr6_12;h.lt:br6_12<Y3_15.heap.size);omega
   replace vbr6_12:=(hl4_13.ve d_br6_12_br7_11 (hl4_12.ve d_br6_12_br7_10 (vbr6_12.ext hX)))
   have d_br6_13_br7_10:br6_13≠br7_10:=by have:=(let ⟨_,h,_⟩:=vbr6_13;h.lt:br6_13<Y3_15.heap.size);omega
   have d_br6_13_br7_11:br6_13≠br7_11:=by have:=(let ⟨_,h,_⟩:=vbr6_13;h.lt:br6_13<Y3_15.heap.size);omega
   replace vbr6_13:=(hl4_13.ve d_br6_13_br7_11 (hl4_12.ve d_br6_13_br7_10 (vbr6_13.ext hX)))
   have vbr7_10:VE Y4_13 M n br7_10 u3:=(hl4_13.ve (xO nr7_11_10) (hl4_12.mk' h4))
   have lb_vbr7_10:=zK hE.bsize lr7_10;have vbr7_11:VE Y4_13 M n br7_11 u4:=(hl4_13.mk' h9)
   have lb_vbr7_11:=zK hE.bsize lr7_11;have d_br7_10_br7_11:br7_10≠br7_11:=(xO nr7_11_10)
   have hE':Ext W0 Y4_13:=(hl4_13.ext (hl4_12.ext (hE.trans hX) (zK hE.bsize lr7_10)) (zK hE.bsize lr7_11))
   clear hE hX hl4_12 hl4_13 h2 h3 h4 h7 h8 h9;have hE:=hE';clear hE';go_upto_region 8 with fail
   refine zh (by kernel_rfl) 20 [0,0,2,0,0,0,32,120,255,0,0,1024,0,0,0,16384,61951,131071,0,0,1048575,2097151] [18,19] (fun j f X=>match j with
    | 0=>f 0=.pointer (some ⟨g,0,none⟩)
    | 1=>f 1=.pointer (some ⟨q,6,none⟩)
    | 2=>∃ o,f 2=EV o∧FE M n o y1
    | 3=>f 3=.pointer (some ⟨g,0,none⟩)
    | 4=>∃ o,f 4=EV o∧FE M n o u2
    | 5=>f 5=.pointer (some ⟨q+1,12,none⟩)
    | 6=>∃ o,f 6=EV o∧FE M n o z2
    | 7=>∃ o,f 7=EV o∧FE M n o u5
    | 8=>∃ o,f 8=EV o∧FE M n o u6
    | 9=>f 9=.pointer (some ⟨g,0,none⟩)
    | 10=>f 10=.pointer (some ⟨q+1,6,none⟩)
    | 11=>∃ o,f 11=EV o∧FE M n o y2
    | 12=>f 12=.pointer (some ⟨g,0,none⟩)
    | 13=>∃ o,f 13=EV o∧FE M n o u1
    | 14=>f 14=.pointer (some ⟨q,12,none⟩)
    | 15=>∃ o,f 15=EV o∧FE M n o z1
    | 16=>∃ o,f 16=EV o∧FE M n o u7
    | 17=>∃ o,f 17=EV o∧FE M n o u8
    | 18=>∃ b,f 18=.pointer (some ⟨b,0,none⟩)∧Y4_13.heap.size≤b∧X.heap[b]?=some (.cells #[.int .u64 0,.int .u64 0,.int .u64 0,.int .u64 0,.int .u64 0,.int .u64 0] 109 (0,0))
    | 19=>∃ b,f 19=.pointer (some ⟨b,0,none⟩)∧Y4_13.heap.size≤b∧X.heap[b]?=some (.cells #[.int .u64 0,.int .u64 0,.int .u64 0,.int .u64 0,.int .u64 0,.int .u64 0] 109 (0,0))
    | _=>True) (by kernel_rfl) [(57,0),(58,1),(59,2),(60,3),(61,4),(62,5),(63,6),(64,7),(65,8),(66,9),(67,10),(68,11),(69,12),(70,13),(71,14),(72,15),(73,16),(74,17),(12,18),(13,19)] (by kernel_rfl) ?_
   refine zJ 1 19 ?_;refine zJ 2 18 ?_;refine lE 3 17 1 (fun _ hX=>kD.ry ((hE.trans hX).at_ hp1) hJ1.out.x.elt.six) hJ1.out.y ?_;refine zJ 4 16 ?_;refine lX 5 15 (fun X hX=>let ⟨o,hbl,ho⟩:=vbr6_13.ext hX;⟨o,hbl.range,ho⟩) ?_;refine zJ 6 14 ?_;refine lE 7 13 5 (fun _ hX=>xK ((hE.trans hX).at_ hp2) hJ2.out.x.elt.six hJ2.out.y.elt.six) hJ2.out.z ?_;refine fc 8 12 3 4 6 (fun X hX _ _ h h'=>js X (hn.out.ext hP0' (hE.trans hX)).fr.ff h h') E_u5.out ?_;refine fc 9 11 0 2 7 (fun X hX _ _ h h'=>js X (hn.out.ext hP0' (hE.trans hX)).fr.ff h h') E_u6.out ?_;refine zJ 10 10 ?_;refine zJ 11 9 ?_;refine lE 12 8 10 (fun _ hX=>kD.ry ((hE.trans hX).at_ hp2) hJ2.out.x.elt.six) hJ2.out.y ?_;refine zJ 13 7 ?_;refine lX 14 6 (fun X hX=>let ⟨o,hbl,ho⟩:=vbr6_12.ext hX;⟨o,hbl.range,ho⟩) ?_;refine zJ 15 5 ?_;refine lE 16 4 14 (fun _ hX=>xK ((hE.trans hX).at_ hp1) hJ1.out.x.elt.six hJ1.out.y.elt.six) hJ1.out.z ?_;refine fc 17 3 12 13 15 (fun X hX _ _ h h'=>js X (hn.out.ext hP0' (hE.trans hX)).fr.ff h h') E_u7.out ?_;refine fc 18 2 9 11 16 (fun X hX _ _ h h'=>js X (hn.out.ext hP0' (hE.trans hX)).fr.ff h h') E_u8.out ?_;refine kK 19 1 ?_;refine kK 20 0 ?_;refine yF ⟨fun f X hX hR hal hap=>?_⟩;obtain⟨o2,(e2:f 2=_),h2⟩:=hR 2 (by decide);obtain⟨o4,(e4:f 4=_),h4⟩:=hR 4 (by decide);obtain⟨o6,(e6:f 6=_),h6⟩:=hR 6 (by decide);obtain⟨o7,(e7:f 7=_),h7⟩:=hR 7 (by decide);obtain⟨o8,(e8:f 8=_),h8⟩:=hR 8 (by decide);obtain⟨o11,(e11:f 11=_),h11⟩:=hR 11 (by decide);obtain⟨o13,(e13:f 13=_),h13⟩:=hR 13 (by decide);obtain⟨o15,(e15:f 15=_),h15⟩:=hR 15 (by decide);obtain⟨o16,(e16:f 16=_),h16⟩:=hR 16 (by decide);obtain⟨o17,(e17:f 17=_),h17⟩:=hR 17 (by decide);obtain⟨br8_18,(e18:f 18=_),lr8_18,hr8_18⟩:=hR 18 (by decide);obtain⟨br8_19,(e19:f 19=_),lr8_19,hr8_19⟩:=hR 19 (by decide);have nr8_19_18:br8_19≠br8_18:=fun e=>hap 19 18 (by decide) (by decide) rfl rfl (by decide) (by rw[e19,e18,e]);simp only[yZ,e2,e4,e6,e7,e8,e11,e13,e15,e16,e17,e18,e19];clear hR hal hap e2 e4 e6 e7 e8 e11 e13 e15 e16 e17 e18 e19;refine zP (fun K hK=>⟨zU (by kernel_rfl) (qe (.tmp 12) (.tmp 65) rfl rfl rfl rfl (hr8_18) ke h8.elt.six (fun Y5_20 hl5_20=>hK.out _ _ ?_))⟩);refine zP (fun K hK=>⟨zU (by kernel_rfl) (qe (.tmp 13) (.tmp 74) rfl rfl rfl rfl (hl5_20.other nr8_19_18 (hr8_19)) ke h17.elt.six (fun Y5_21 hl5_21=>hK.out _ _ ?_))⟩);refine zH ?_;have d_br6_12_br8_18:br6_12≠br8_18:=by have:=(let ⟨_,h,_⟩:=vbr6_12;h.lt:br6_12<Y4_13.heap.size);omega
   have d_br6_12_br8_19:br6_12≠br8_19:=by have:=(let ⟨_,h,_⟩:=vbr6_12;h.lt:br6_12<Y4_13.heap.size);omega
   replace vbr6_12:=(hl5_21.ve d_br6_12_br8_19 (hl5_20.ve d_br6_12_br8_18 (vbr6_12.ext hX)))
   have d_br6_13_br8_18:br6_13≠br8_18:=by have:=(let ⟨_,h,_⟩:=vbr6_13;h.lt:br6_13<Y4_13.heap.size);omega
   have d_br6_13_br8_19:br6_13≠br8_19:=by have:=(let ⟨_,h,_⟩:=vbr6_13;h.lt:br6_13<Y4_13.heap.size);omega
   replace vbr6_13:=(hl5_21.ve d_br6_13_br8_19 (hl5_20.ve d_br6_13_br8_18 (vbr6_13.ext hX)))
   have d_br7_10_br8_18:br7_10≠br8_18:=by have:=(let ⟨_,h,_⟩:=vbr7_10;h.lt:br7_10<Y4_13.heap.size);omega
   have d_br7_10_br8_19:br7_10≠br8_19:=by have:=(let ⟨_,h,_⟩:=vbr7_10;h.lt:br7_10<Y4_13.heap.size);omega
   replace vbr7_10:=(hl5_21.ve d_br7_10_br8_19 (hl5_20.ve d_br7_10_br8_18 (vbr7_10.ext hX)))
   have d_br7_11_br8_18:br7_11≠br8_18:=by have:=(let ⟨_,h,_⟩:=vbr7_11;h.lt:br7_11<Y4_13.heap.size);omega
   have d_br7_11_br8_19:br7_11≠br8_19:=by have:=(let ⟨_,h,_⟩:=vbr7_11;h.lt:br7_11<Y4_13.heap.size);omega
   replace vbr7_11:=(hl5_21.ve d_br7_11_br8_19 (hl5_20.ve d_br7_11_br8_18 (vbr7_11.ext hX)))
   have vbr8_18:VE Y5_21 M n br8_18 u6:=(hl5_21.ve (xO nr8_19_18) (hl5_20.mk' h8))
   have lb_vbr8_18:=zK hE.bsize lr8_18;have vbr8_19:VE Y5_21 M n br8_19 u8:=(hl5_21.mk' h17)
   have lb_vbr8_19:=zK hE.bsize lr8_19;have d_br8_18_br8_19:br8_18≠br8_19:=(xO nr8_19_18)
   have hE':Ext W0 Y5_21:=(hl5_21.ext (hl5_20.ext (hE.trans hX) (zK hE.bsize lr8_18)) (zK hE.bsize lr8_19))
   clear hE hX hl5_20 hl5_21 h2 h4 h6 h7 h8 h11 h13 h15 h16 h17;have hE:=hE';clear hE';go_upto_region 9 with fail
   refine zh (by kernel_rfl) 10 [0,0,0,7,0,0,0,127,0,0,1023,2047] [8,9] (fun j f X=>match j with
    | 0=>f 0=.pointer (some ⟨g,0,none⟩)
    | 1=>∃ o,f 1=EV o∧FE M n o u4
    | 2=>∃ o,f 2=EV o∧FE M n o u3
    | 3=>∃ o,f 3=EV o∧FE M n o u9
    | 4=>f 4=.pointer (some ⟨g,0,none⟩)
    | 5=>∃ o,f 5=EV o∧FE M n o u8
    | 6=>∃ o,f 6=EV o∧FE M n o u6
    | 7=>∃ o,f 7=EV o∧FE M n o u10
    | 8=>∃ b,f 8=.pointer (some ⟨b,0,none⟩)∧Y5_21.heap.size≤b∧X.heap[b]?=some (.cells #[.int .u64 0,.int .u64 0,.int .u64 0,.int .u64 0,.int .u64 0,.int .u64 0] 109 (0,0))
    | 9=>∃ b,f 9=.pointer (some ⟨b,0,none⟩)∧Y5_21.heap.size≤b∧X.heap[b]?=some (.cells #[.int .u64 0,.int .u64 0,.int .u64 0,.int .u64 0,.int .u64 0,.int .u64 0] 109 (0,0))
    | _=>True) (by kernel_rfl) [(75,0),(76,1),(77,2),(78,3),(79,4),(80,5),(81,6),(82,7),(14,8),(15,9)] (by kernel_rfl) ?_
   refine zJ 1 9 ?_;refine lX 2 8 (fun X hX=>let ⟨o,hbl,ho⟩:=vbr7_11.ext hX;⟨o,hbl.range,ho⟩) ?_;refine lX 3 7 (fun X hX=>let ⟨o,hbl,ho⟩:=vbr7_10.ext hX;⟨o,hbl.range,ho⟩) ?_;refine fc 4 6 0 1 2 (fun X hX _ _ h h'=>xr X (hn.out.ext hP0' (hE.trans hX)).fr.ff h h') E_u9.out ?_;refine zJ 5 5 ?_;refine lX 6 4 (fun X hX=>let ⟨o,hbl,ho⟩:=vbr8_19.ext hX;⟨o,hbl.range,ho⟩) ?_;refine lX 7 3 (fun X hX=>let ⟨o,hbl,ho⟩:=vbr8_18.ext hX;⟨o,hbl.range,ho⟩) ?_;refine fc 8 2 4 5 6 (fun X hX _ _ h h'=>xr X (hn.out.ext hP0' (hE.trans hX)).fr.ff h h') E_u10.out ?_;refine kK 9 1 ?_;refine kK 10 0 ?_;refine yF ⟨fun f X hX hR hal hap=>?_⟩;obtain⟨o1,(e1:f 1=_),h1⟩:=hR 1 (by decide);obtain⟨o2,(e2:f 2=_),h2⟩:=hR 2 (by decide);obtain⟨o3,(e3:f 3=_),h3⟩:=hR 3 (by decide);obtain⟨o5,(e5:f 5=_),h5⟩:=hR 5 (by decide);obtain⟨o6,(e6:f 6=_),h6⟩:=hR 6 (by decide);obtain⟨o7,(e7:f 7=_),h7⟩:=hR 7 (by decide);obtain⟨br9_8,(e8:f 8=_),lr9_8,hr9_8⟩:=hR 8 (by decide);obtain⟨br9_9,(e9:f 9=_),lr9_9,hr9_9⟩:=hR 9 (by decide);have nr9_9_8:br9_9≠br9_8:=fun e=>hap 9 8 (by decide) (by decide) rfl rfl (by decide) (by rw[e9,e8,e]);simp only[yZ,e1,e2,e3,e5,e6,e7,e8,e9];clear hR hal hap e1 e2 e3 e5 e6 e7 e8 e9;refine zP (fun K hK=>⟨zU (by kernel_rfl) (qe (.tmp 14) (.tmp 78) rfl rfl rfl rfl (hr9_8) ke h3.elt.six (fun Y6_10 hl6_10=>hK.out _ _ ?_))⟩);refine zP (fun K hK=>⟨zU (by kernel_rfl) (qe (.tmp 15) (.tmp 82) rfl rfl rfl rfl (hl6_10.other nr9_9_8 (hr9_9)) ke h7.elt.six (fun Y6_11 hl6_11=>hK.out _ _ ?_))⟩);refine zH ?_;have d_br6_12_br9_8:br6_12≠br9_8:=by have:=(let ⟨_,h,_⟩:=vbr6_12;h.lt:br6_12<Y5_21.heap.size);omega
   have d_br6_12_br9_9:br6_12≠br9_9:=by have:=(let ⟨_,h,_⟩:=vbr6_12;h.lt:br6_12<Y5_21.heap.size);omega
   replace vbr6_12:=(hl6_11.ve d_br6_12_br9_9 (hl6_10.ve d_br6_12_br9_8 (vbr6_12.ext hX)))
   have d_br6_13_br9_8:br6_13≠br9_8:=by have:=(let ⟨_,h,_⟩:=vbr6_13;h.lt:br6_13<Y5_21.heap.size);omega
   have d_br6_13_br9_9:br6_13≠br9_9:=by have:=(let ⟨_,h,_⟩:=vbr6_13;h.lt:br6_13<Y5_21.heap.size);omega
   replace vbr6_13:=(hl6_11.ve d_br6_13_br9_9 (hl6_10.ve d_br6_13_br9_8 (vbr6_13.ext hX)))
   have d_br7_10_br9_8:br7_10≠br9_8:=by have:=(let ⟨_,h,_⟩:=vbr7_10;h.lt:br7_10<Y5_21.heap.size);omega
   have d_br7_10_br9_9:br7_10≠br9_9:=by have:=(let ⟨_,h,_⟩:=vbr7_10;h.lt:br7_10<Y5_21.heap.size);omega
   replace vbr7_10:=(hl6_11.ve d_br7_10_br9_9 (hl6_10.ve d_br7_10_br9_8 (vbr7_10.ext hX)))
   have d_br7_11_br9_8:br7_11≠br9_8:=by have:=(let ⟨_,h,_⟩:=vbr7_11;h.lt:br7_11<Y5_21.heap.size);omega
   have d_br7_11_br9_9:br7_11≠br9_9:=by have:=(let ⟨_,h,_⟩:=vbr7_11;h.lt:br7_11<Y5_21.heap.size);omega
   replace vbr7_11:=(hl6_11.ve d_br7_11_br9_9 (hl6_10.ve d_br7_11_br9_8 (vbr7_11.ext hX)))
   have d_br8_18_br9_8:br8_18≠br9_8:=by have:=(let ⟨_,h,_⟩:=vbr8_18;h.lt:br8_18<Y5_21.heap.size);omega
   have d_br8_18_br9_9:br8_18≠br9_9:=by have:=(let ⟨_,h,_⟩:=vbr8_18;h.lt:br8_18<Y5_21.heap.size);omega
   replace vbr8_18:=(hl6_11.ve d_br8_18_br9_9 (hl6_10.ve d_br8_18_br9_8 (vbr8_18.ext hX)))
   have d_br8_19_br9_8:br8_19≠br9_8:=by have:=(let ⟨_,h,_⟩:=vbr8_19;h.lt:br8_19<Y5_21.heap.size);omega
   have d_br8_19_br9_9:br8_19≠br9_9:=by have:=(let ⟨_,h,_⟩:=vbr8_19;h.lt:br8_19<Y5_21.heap.size);omega
   replace vbr8_19:=(hl6_11.ve d_br8_19_br9_9 (hl6_10.ve d_br8_19_br9_8 (vbr8_19.ext hX)))
   have vbr9_8:VE Y6_11 M n br9_8 u9:=(hl6_11.ve (xO nr9_9_8) (hl6_10.mk' h3))
   have lb_vbr9_8:=zK hE.bsize lr9_8;have vbr9_9:VE Y6_11 M n br9_9 u10:=(hl6_11.mk' h7)
   have lb_vbr9_9:=zK hE.bsize lr9_9;have d_br9_8_br9_9:br9_8≠br9_9:=(xO nr9_9_8)
   have hE':Ext W0 Y6_11:=(hl6_11.ext (hl6_10.ext (hE.trans hX) (zK hE.bsize lr9_8)) (zK hE.bsize lr9_9))
   clear hE hX hl6_10 hl6_11 h1 h2 h3 h5 h6 h7;have hE:=hE';clear hE';by_cases hh:u9%M=0
   · by_cases hr:u10%M=0
     · have hhn:=zF hh;have hrn:=zF hr;obtain rfl:res=gO M x1 y1 z1:=by rw[←Hq0.out,hres.out,qg hh,qg hr]
       clear hh hr;go_upto_region 10 with fail
       refine zN 2 [0,1] [] (fun j f X=>match j with
        | 0=>∃ o,f 0=EV o∧FE M n o u9
        | 1=>f 1=.bool true
        | _=>True) (by kernel_rfl) [(83,0),(84,1)] (by kernel_rfl) ?_
       refine lX 1 1 (fun X hX=>let ⟨o,hbl,ho⟩:=vbr9_8.ext hX;⟨o,hbl.range,ho⟩) ?_;refine qI 2 0 (fun f=>#[f 0]) (F':=104) (fun f X hX hR=>?_) ?_
       · obtain⟨o0,(e0:f 0=_),h0⟩:=hR.out 0 rfl;simp only[e0];refine(vF o0 X h0.elt.six).mono ?_;rintro e w2 ⟨rfl,hB⟩;rw[show decide (o0=[0,0,0,0,0,0])=true by rw[decide_eq_decide.2 (h0.zero_iff (hn.out.ext hP0' (hE.trans hX)).fr.ff)];exact qZ hhn.out];exact⟨(.bool true),rfl,hB,fun _ _=>rfl⟩
       refine yF ⟨fun f X hX hR hal hap=>?_⟩;obtain⟨o0,(e0:f 0=_),h0⟩:=hR 0 (by decide);have e1:f 1=_:=hR 1 (by decide);simp only[yZ,e0,e1];clear hR hal hap e0 e1;refine zH ?_;replace vbr6_12:=vbr6_12.ext hX;replace vbr6_13:=vbr6_13.ext hX;replace vbr7_10:=vbr7_10.ext hX;replace vbr7_11:=vbr7_11.ext hX;replace vbr8_18:=vbr8_18.ext hX;replace vbr8_19:=vbr8_19.ext hX;replace vbr9_8:=vbr9_8.ext hX;replace vbr9_9:=vbr9_9.ext hX;replace hE:=hE.trans hX;clear hX;rename World=>X7_;go_upto_region 11 with fail
       refine zN 2 [0,1] [] (fun j f X=>match j with
        | 0=>∃ o,f 0=EV o∧FE M n o u10
        | 1=>f 1=.bool true
        | _=>True) (by kernel_rfl) [(85,0),(86,1)] (by kernel_rfl) ?_
       refine lX 1 1 (fun X hX=>let ⟨o,hbl,ho⟩:=vbr9_9.ext hX;⟨o,hbl.range,ho⟩) ?_;refine qI 2 0 (fun f=>#[f 0]) (F':=104) (fun f X hX hR=>?_) ?_
       · obtain⟨o0,(e0:f 0=_),h0⟩:=hR.out 0 rfl;simp only[e0];refine(vF o0 X h0.elt.six).mono ?_;rintro e w2 ⟨rfl,hB⟩;rw[show decide (o0=[0,0,0,0,0,0])=true by rw[decide_eq_decide.2 (h0.zero_iff (hn.out.ext hP0' (hE.trans hX)).fr.ff)];exact qZ hrn.out];exact⟨(.bool true),rfl,hB,fun _ _=>rfl⟩
       refine yF ⟨fun f X hX hR hal hap=>?_⟩;obtain⟨o0,(e0:f 0=_),h0⟩:=hR 0 (by decide);have e1:f 1=_:=hR 1 (by decide);simp only[yZ,e0,e1];clear hR hal hap e0 e1;refine zH ?_;replace vbr6_12:=vbr6_12.ext hX;replace vbr6_13:=vbr6_13.ext hX;replace vbr7_10:=vbr7_10.ext hX;replace vbr7_11:=vbr7_11.ext hX;replace vbr8_18:=vbr8_18.ext hX;replace vbr8_19:=vbr8_19.ext hX;replace vbr9_8:=vbr9_8.ext hX;replace vbr9_9:=vbr9_9.ext hX;replace hE:=hE.trans hX;clear hX;rename World=>X8_;go_upto_region 12 with fail;have hb1:=hE.at_ hrb
       refine zN 3 [0,0,3,7] [] (fun j f X=>match j with
        | 0=>f 0=.pointer (some ⟨k,0,none⟩)
        | 1=>f 1=JV l1x l1y l1z
        | 2=>∃ ox oy oz,f 2=JV ox oy oz∧FJ M n ox oy oz (gO M x1 y1 z1).1 (gO M x1 y1 z1).2.1 (gO M x1 y1 z1).2.2
        | _=>True) (by kernel_rfl) [(87,0),(88,1),(89,2)] (by kernel_rfl) ?_
       refine zJ 1 2 ?_;refine zt 2 1 [(87,0)] (fun f X hX hR K hK=>?_) ?_
       · simp only[yZ];refine⟨zU (by kernel_rfl) (kB (v:=JV l1x l1y l1z) 123 (.tmp 4) rfl rfl ((hE.trans hX).at_ hp1) Tryz.underlying123 rfl (by rw[hJ1.out.sz];exact gJ) rfl ?_)⟩;exact hK.out _ (JV l1x l1y l1z) _ (by simp only[yZ]) (zX _) trivial (fun _ _=>rfl)
       refine qI 3 0 (fun f=>#[f 0,f 1]) (F':=77) (fun f X hX hR=>?_) ?_
       · have e0:f 0=_:=hR.out 0 rfl;have e1:f 1=_:=hR.out 1 rfl;simp only[e0,e1];refine(bR X (hn.out.ext hP0' (hE.trans hX)) (fun b hb=>zI (hP0' b hb) (hE.trans hX).bsize) hJ1.out).mono ?_;rintro e w2 ⟨ox,oy,oz,rfl,hf,hB⟩;exact⟨(JV ox oy oz),rfl,hB,fun Y hY=>⟨ox,oy,oz,rfl,hf⟩⟩
       refine yF ⟨fun f X hX hR hal hap=>?_⟩;obtain⟨ox,oy,oz,(e2:f 2=_),f2⟩:=hR 2 (by decide);simp only[yZ,e2];clear hR hal hap e2;refine zP (fun K hK=>⟨zU (by kernel_rfl) (vG (x:=ox) (y:=oy) (z:=oz) (.tmp 6) (.tmp 89) rfl rfl rfl rfl (hX.at_ hb1) rfl f2.x.elt.six f2.y.elt.six f2.z.elt.six (fun Y hY1 hY2 hY3=>hK.out _ _ ?_))⟩);refine zH ?_;go_wp2;exact dX rfl rfl rfl hY1 f2.x.elt.six f2.y.elt.six f2.z.elt.six ⟨_,_,_,rfl,f2,hY2.ext (HE0.out.trans (hE.trans hX)) (by have:=Hq.out;omega)⟩
     · have hhn:=zF hh;have hrn:=zF hr;obtain rfl:res=(1,1,0):=by rw[←Hq0.out,hres.out,qg hh,ql hr]
       clear hh hr;go_upto_region 10 with fail
       refine zN 2 [0,1] [] (fun j f X=>match j with
        | 0=>∃ o,f 0=EV o∧FE M n o u9
        | 1=>f 1=.bool true
        | _=>True) (by kernel_rfl) [(83,0),(84,1)] (by kernel_rfl) ?_
       refine lX 1 1 (fun X hX=>let ⟨o,hbl,ho⟩:=vbr9_8.ext hX;⟨o,hbl.range,ho⟩) ?_;refine qI 2 0 (fun f=>#[f 0]) (F':=104) (fun f X hX hR=>?_) ?_
       · obtain⟨o0,(e0:f 0=_),h0⟩:=hR.out 0 rfl;simp only[e0];refine(vF o0 X h0.elt.six).mono ?_;rintro e w2 ⟨rfl,hB⟩;rw[show decide (o0=[0,0,0,0,0,0])=true by rw[decide_eq_decide.2 (h0.zero_iff (hn.out.ext hP0' (hE.trans hX)).fr.ff)];exact qZ hhn.out];exact⟨(.bool true),rfl,hB,fun _ _=>rfl⟩
       refine yF ⟨fun f X hX hR hal hap=>?_⟩;obtain⟨o0,(e0:f 0=_),h0⟩:=hR 0 (by decide);have e1:f 1=_:=hR 1 (by decide);simp only[yZ,e0,e1];clear hR hal hap e0 e1;refine zH ?_;replace vbr6_12:=vbr6_12.ext hX;replace vbr6_13:=vbr6_13.ext hX;replace vbr7_10:=vbr7_10.ext hX;replace vbr7_11:=vbr7_11.ext hX;replace vbr8_18:=vbr8_18.ext hX;replace vbr8_19:=vbr8_19.ext hX;replace vbr9_8:=vbr9_8.ext hX;replace vbr9_9:=vbr9_9.ext hX;replace hE:=hE.trans hX;clear hX;rename World=>X7_;go_upto_region 11 with fail
       refine zN 2 [0,1] [] (fun j f X=>match j with
        | 0=>∃ o,f 0=EV o∧FE M n o u10
        | 1=>f 1=.bool false
        | _=>True) (by kernel_rfl) [(85,0),(86,1)] (by kernel_rfl) ?_
       refine lX 1 1 (fun X hX=>let ⟨o,hbl,ho⟩:=vbr9_9.ext hX;⟨o,hbl.range,ho⟩) ?_;refine qI 2 0 (fun f=>#[f 0]) (F':=104) (fun f X hX hR=>?_) ?_
       · obtain⟨o0,(e0:f 0=_),h0⟩:=hR.out 0 rfl;simp only[e0];refine(vF o0 X h0.elt.six).mono ?_;rintro e w2 ⟨rfl,hB⟩;rw[show decide (o0=[0,0,0,0,0,0])=false by rw[decide_eq_decide.2 (h0.zero_iff (hn.out.ext hP0' (hE.trans hX)).fr.ff)];exact jF hrn.out];exact⟨(.bool false),rfl,hB,fun _ _=>rfl⟩
       refine yF ⟨fun f X hX hR hal hap=>?_⟩;obtain⟨o0,(e0:f 0=_),h0⟩:=hR 0 (by decide);have e1:f 1=_:=hR 1 (by decide);simp only[yZ,e0,e1];clear hR hal hap e0 e1;refine zH ?_;replace vbr6_12:=vbr6_12.ext hX;replace vbr6_13:=vbr6_13.ext hX;replace vbr7_10:=vbr7_10.ext hX;replace vbr7_11:=vbr7_11.ext hX;replace vbr8_18:=vbr8_18.ext hX;replace vbr8_19:=vbr8_19.ext hX;replace vbr9_8:=vbr9_8.ext hX;replace vbr9_9:=vbr9_9.ext hX;replace hE:=hE.trans hX;clear hX;rename World=>X8_;go_upto_region 13 with fail;have hb1:=hE.at_ hrb
       refine zN 3 [0,0,3,7] [] (fun j f X=>match j with
        | 0=>f 0=.pointer (some ⟨k,0,none⟩)
        | 1=>f 1=gL
        | 2=>∃ ox oy oz,f 2=JV ox oy oz∧FJ M n ox oy oz 1 1 0
        | _=>True) (by kernel_rfl) [(90,0),(91,1),(92,2)] (by kernel_rfl) ?_
       refine zJ 1 2 ?_;refine qI 2 1 (fun _=>#[]) (F':=73) (fun f X hX hR=>?_) ?_
       · refine(yX X).mono ?_;rintro e w2 ⟨rfl,hB⟩;exact⟨gL,rfl,hB,fun _ _=>rfl⟩
       refine qI 3 0 (fun f=>#[f 0,f 1]) (F':=74) (fun f X hX hR=>?_) ?_
       · have e0:f 0=_:=hR.out 0 rfl;have e1:f 1=_:=hR.out 1 rfl;simp only[e0,e1];refine(tp (fun _=>False) (fun _=>False) none none 0 0 [] [] true X (hn.out.ext hP0' (hE.trans hX)) (fun b hb=>zI (hP0' b hb) (hE.trans hX).bsize) (RN.nil_ _ _) (RN.nil_ _ _) (fun _ h=>h.elim) (fun _ h=>h.elim) (fun h=>by cases h) (fun h=>by cases h)).mono ?_;rintro e w2 ⟨ox,oy,oz,rfl,hf,hB⟩;exact⟨(JV ox oy oz),rfl,hB,fun Y hY=>⟨ox,oy,oz,rfl,hf⟩⟩
       refine yF ⟨fun f X hX hR hal hap=>?_⟩;obtain⟨ox,oy,oz,(e2:f 2=_),f2⟩:=hR 2 (by decide);simp only[yZ,e2];clear hR hal hap e2;refine zP (fun K hK=>⟨zU (by kernel_rfl) (vG (x:=ox) (y:=oy) (z:=oz) (.tmp 6) (.tmp 92) rfl rfl rfl rfl (hX.at_ hb1) rfl f2.x.elt.six f2.y.elt.six f2.z.elt.six (fun Y hY1 hY2 hY3=>hK.out _ _ ?_))⟩);refine zH ?_;go_wp2;exact dX rfl rfl rfl hY1 f2.x.elt.six f2.y.elt.six f2.z.elt.six ⟨_,_,_,rfl,f2,hY2.ext (HE0.out.trans (hE.trans hX)) (by have:=Hq.out;omega)⟩
   · have hhn:=zF hh;obtain rfl:res=(u17,u21,u23):=by rw[←Hq0.out,hres.out,ql hh]
     clear hh;go_upto_region 10 with fail
     refine zN 2 [0,1] [] (fun j f X=>match j with
      | 0=>∃ o,f 0=EV o∧FE M n o u9
      | 1=>f 1=.bool false
      | _=>True) (by kernel_rfl) [(83,0),(84,1)] (by kernel_rfl) ?_
     refine lX 1 1 (fun X hX=>let ⟨o,hbl,ho⟩:=vbr9_8.ext hX;⟨o,hbl.range,ho⟩) ?_;refine qI 2 0 (fun f=>#[f 0]) (F':=104) (fun f X hX hR=>?_) ?_
     · obtain⟨o0,(e0:f 0=_),h0⟩:=hR.out 0 rfl;simp only[e0];refine(vF o0 X h0.elt.six).mono ?_;rintro e w2 ⟨rfl,hB⟩;rw[show decide (o0=[0,0,0,0,0,0])=false by rw[decide_eq_decide.2 (h0.zero_iff (hn.out.ext hP0' (hE.trans hX)).fr.ff)];exact jF hhn.out];exact⟨(.bool false),rfl,hB,fun _ _=>rfl⟩
     refine yF ⟨fun f X hX hR hal hap=>?_⟩;obtain⟨o0,(e0:f 0=_),h0⟩:=hR 0 (by decide);have e1:f 1=_:=hR 1 (by decide);simp only[yZ,e0,e1];clear hR hal hap e0 e1;refine zH ?_;replace vbr6_12:=vbr6_12.ext hX;replace vbr6_13:=vbr6_13.ext hX;replace vbr7_10:=vbr7_10.ext hX;replace vbr7_11:=vbr7_11.ext hX;replace vbr8_18:=vbr8_18.ext hX;replace vbr8_19:=vbr8_19.ext hX;replace vbr9_8:=vbr9_8.ext hX;replace vbr9_9:=vbr9_9.ext hX;replace hE:=hE.trans hX;clear hX;rename World=>X7_;go_upto_region 14 with fail
     refine zN 5 [0,0,0,7,0,31] [4] (fun j f X=>match j with
      | 0=>f 0=.pointer (some ⟨g,0,none⟩)
      | 1=>∃ o,f 1=EV o∧FE M n o u9
      | 2=>∃ o,f 2=EV o∧FE M n o u9
      | 3=>∃ o,f 3=EV o∧FE M n o u11
      | 4=>∃ b,f 4=.pointer (some ⟨b,0,none⟩)∧X7_.heap.size≤b∧X.heap[b]?=some (.cells #[.int .u64 0,.int .u64 0,.int .u64 0,.int .u64 0,.int .u64 0,.int .u64 0] 109 (0,0))
      | _=>True) (by kernel_rfl) [(93,0),(94,1),(95,2),(96,3),(16,4)] (by kernel_rfl) ?_
     refine zJ 1 4 ?_;refine lX 2 3 (fun X hX=>let ⟨o,hbl,ho⟩:=vbr9_8.ext hX;⟨o,hbl.range,ho⟩) ?_;refine lX 3 2 (fun X hX=>let ⟨o,hbl,ho⟩:=vbr9_8.ext hX;⟨o,hbl.range,ho⟩) ?_;refine fc 4 1 0 1 2 (fun X hX _ _ h h'=>js X (hn.out.ext hP0' (hE.trans hX)).fr.ff h h') E_u11.out ?_;refine kK 5 0 ?_;refine yF ⟨fun f X hX hR hal hap=>?_⟩;obtain⟨o1,(e1:f 1=_),h1⟩:=hR 1 (by decide);obtain⟨o2,(e2:f 2=_),h2⟩:=hR 2 (by decide);obtain⟨o3,(e3:f 3=_),h3⟩:=hR 3 (by decide);obtain⟨br14_4,(e4:f 4=_),lr14_4,hr14_4⟩:=hR 4 (by decide);simp only[yZ,e1,e2,e3,e4];clear hR hal hap e1 e2 e3 e4;refine zP (fun K hK=>⟨zU (by kernel_rfl) (qe (.tmp 16) (.tmp 96) rfl rfl rfl rfl (hr14_4) ke h3.elt.six (fun Y8_5 hl8_5=>hK.out _ _ ?_))⟩);refine zH ?_;have d_br6_12_br14_4:br6_12≠br14_4:=by have:=(let ⟨_,h,_⟩:=vbr6_12;h.lt:br6_12<X7_.heap.size);omega
     replace vbr6_12:=(hl8_5.ve d_br6_12_br14_4 (vbr6_12.ext hX))
     have d_br6_13_br14_4:br6_13≠br14_4:=by have:=(let ⟨_,h,_⟩:=vbr6_13;h.lt:br6_13<X7_.heap.size);omega
     replace vbr6_13:=(hl8_5.ve d_br6_13_br14_4 (vbr6_13.ext hX))
     have d_br7_10_br14_4:br7_10≠br14_4:=by have:=(let ⟨_,h,_⟩:=vbr7_10;h.lt:br7_10<X7_.heap.size);omega
     replace vbr7_10:=(hl8_5.ve d_br7_10_br14_4 (vbr7_10.ext hX))
     have d_br7_11_br14_4:br7_11≠br14_4:=by have:=(let ⟨_,h,_⟩:=vbr7_11;h.lt:br7_11<X7_.heap.size);omega
     replace vbr7_11:=(hl8_5.ve d_br7_11_br14_4 (vbr7_11.ext hX))
     have d_br8_18_br14_4:br8_18≠br14_4:=by have:=(let ⟨_,h,_⟩:=vbr8_18;h.lt:br8_18<X7_.heap.size);omega
     replace vbr8_18:=(hl8_5.ve d_br8_18_br14_4 (vbr8_18.ext hX))
     have d_br8_19_br14_4:br8_19≠br14_4:=by have:=(let ⟨_,h,_⟩:=vbr8_19;h.lt:br8_19<X7_.heap.size);omega
     replace vbr8_19:=(hl8_5.ve d_br8_19_br14_4 (vbr8_19.ext hX))
     have d_br9_8_br14_4:br9_8≠br14_4:=by have:=(let ⟨_,h,_⟩:=vbr9_8;h.lt:br9_8<X7_.heap.size);omega
     replace vbr9_8:=(hl8_5.ve d_br9_8_br14_4 (vbr9_8.ext hX))
     have d_br9_9_br14_4:br9_9≠br14_4:=by have:=(let ⟨_,h,_⟩:=vbr9_9;h.lt:br9_9<X7_.heap.size);omega
     replace vbr9_9:=(hl8_5.ve d_br9_9_br14_4 (vbr9_9.ext hX))
     have vbr14_4:VE Y8_5 M n br14_4 u11:=(hl8_5.mk' h3)
     have lb_vbr14_4:=zK hE.bsize lr14_4;have hE':Ext W0 Y8_5:=(hl8_5.ext (hE.trans hX) (zK hE.bsize lr14_4))
     clear hE hX hl8_5 h1 h2 h3;have hE:=hE';clear hE';go_upto_region 15 with fail
     refine zh (by kernel_rfl) 10 [0,0,0,7,0,0,0,127,0,0,1023,2047] [8,9] (fun j f X=>match j with
      | 0=>f 0=.pointer (some ⟨g,0,none⟩)
      | 1=>∃ o,f 1=EV o∧FE M n o u11
      | 2=>∃ o,f 2=EV o∧FE M n o u9
      | 3=>∃ o,f 3=EV o∧FE M n o u12
      | 4=>f 4=.pointer (some ⟨g,0,none⟩)
      | 5=>∃ o,f 5=EV o∧FE M n o u3
      | 6=>∃ o,f 6=EV o∧FE M n o u11
      | 7=>∃ o,f 7=EV o∧FE M n o u13
      | 8=>∃ b,f 8=.pointer (some ⟨b,0,none⟩)∧Y8_5.heap.size≤b∧X.heap[b]?=some (.cells #[.int .u64 0,.int .u64 0,.int .u64 0,.int .u64 0,.int .u64 0,.int .u64 0] 109 (0,0))
      | 9=>∃ b,f 9=.pointer (some ⟨b,0,none⟩)∧Y8_5.heap.size≤b∧X.heap[b]?=some (.cells #[.int .u64 0,.int .u64 0,.int .u64 0,.int .u64 0,.int .u64 0,.int .u64 0] 109 (0,0))
      | _=>True) (by kernel_rfl) [(97,0),(98,1),(99,2),(100,3),(101,4),(102,5),(103,6),(104,7),(17,8),(18,9)] (by kernel_rfl) ?_
     refine zJ 1 9 ?_;refine lX 2 8 (fun X hX=>let ⟨o,hbl,ho⟩:=vbr14_4.ext hX;⟨o,hbl.range,ho⟩) ?_;refine lX 3 7 (fun X hX=>let ⟨o,hbl,ho⟩:=vbr9_8.ext hX;⟨o,hbl.range,ho⟩) ?_;refine fc 4 6 0 1 2 (fun X hX _ _ h h'=>js X (hn.out.ext hP0' (hE.trans hX)).fr.ff h h') E_u12.out ?_;refine zJ 5 5 ?_;refine lX 6 4 (fun X hX=>let ⟨o,hbl,ho⟩:=vbr7_10.ext hX;⟨o,hbl.range,ho⟩) ?_;refine lX 7 3 (fun X hX=>let ⟨o,hbl,ho⟩:=vbr14_4.ext hX;⟨o,hbl.range,ho⟩) ?_;refine fc 8 2 4 5 6 (fun X hX _ _ h h'=>js X (hn.out.ext hP0' (hE.trans hX)).fr.ff h h') E_u13.out ?_;refine kK 9 1 ?_;refine kK 10 0 ?_;refine yF ⟨fun f X hX hR hal hap=>?_⟩;obtain⟨o1,(e1:f 1=_),h1⟩:=hR 1 (by decide);obtain⟨o2,(e2:f 2=_),h2⟩:=hR 2 (by decide);obtain⟨o3,(e3:f 3=_),h3⟩:=hR 3 (by decide);obtain⟨o5,(e5:f 5=_),h5⟩:=hR 5 (by decide);obtain⟨o6,(e6:f 6=_),h6⟩:=hR 6 (by decide);obtain⟨o7,(e7:f 7=_),h7⟩:=hR 7 (by decide);obtain⟨br15_8,(e8:f 8=_),lr15_8,hr15_8⟩:=hR 8 (by decide);obtain⟨br15_9,(e9:f 9=_),lr15_9,hr15_9⟩:=hR 9 (by decide);have nr15_9_8:br15_9≠br15_8:=fun e=>hap 9 8 (by decide) (by decide) rfl rfl (by decide) (by rw[e9,e8,e]);simp only[yZ,e1,e2,e3,e5,e6,e7,e8,e9];clear hR hal hap e1 e2 e3 e5 e6 e7 e8 e9;refine zP (fun K hK=>⟨zU (by kernel_rfl) (qe (.tmp 17) (.tmp 100) rfl rfl rfl rfl (hr15_8) ke h3.elt.six (fun Y9_10 hl9_10=>hK.out _ _ ?_))⟩);refine zP (fun K hK=>⟨zU (by kernel_rfl) (qe (.tmp 18) (.tmp 104) rfl rfl rfl rfl (hl9_10.other nr15_9_8 (hr15_9)) ke h7.elt.six (fun Y9_11 hl9_11=>hK.out _ _ ?_))⟩);refine zH ?_;have d_br6_12_br15_8:br6_12≠br15_8:=by have:=(let ⟨_,h,_⟩:=vbr6_12;h.lt:br6_12<Y8_5.heap.size);omega
     have d_br6_12_br15_9:br6_12≠br15_9:=by have:=(let ⟨_,h,_⟩:=vbr6_12;h.lt:br6_12<Y8_5.heap.size);omega
     replace vbr6_12:=(hl9_11.ve d_br6_12_br15_9 (hl9_10.ve d_br6_12_br15_8 (vbr6_12.ext hX)))
     have d_br6_13_br15_8:br6_13≠br15_8:=by have:=(let ⟨_,h,_⟩:=vbr6_13;h.lt:br6_13<Y8_5.heap.size);omega
     have d_br6_13_br15_9:br6_13≠br15_9:=by have:=(let ⟨_,h,_⟩:=vbr6_13;h.lt:br6_13<Y8_5.heap.size);omega
     replace vbr6_13:=(hl9_11.ve d_br6_13_br15_9 (hl9_10.ve d_br6_13_br15_8 (vbr6_13.ext hX)))
     have d_br7_10_br15_8:br7_10≠br15_8:=by have:=(let ⟨_,h,_⟩:=vbr7_10;h.lt:br7_10<Y8_5.heap.size);omega
     have d_br7_10_br15_9:br7_10≠br15_9:=by have:=(let ⟨_,h,_⟩:=vbr7_10;h.lt:br7_10<Y8_5.heap.size);omega
     replace vbr7_10:=(hl9_11.ve d_br7_10_br15_9 (hl9_10.ve d_br7_10_br15_8 (vbr7_10.ext hX)))
     have d_br7_11_br15_8:br7_11≠br15_8:=by have:=(let ⟨_,h,_⟩:=vbr7_11;h.lt:br7_11<Y8_5.heap.size);omega
     have d_br7_11_br15_9:br7_11≠br15_9:=by have:=(let ⟨_,h,_⟩:=vbr7_11;h.lt:br7_11<Y8_5.heap.size);omega
     replace vbr7_11:=(hl9_11.ve d_br7_11_br15_9 (hl9_10.ve d_br7_11_br15_8 (vbr7_11.ext hX)))
     have d_br8_18_br15_8:br8_18≠br15_8:=by have:=(let ⟨_,h,_⟩:=vbr8_18;h.lt:br8_18<Y8_5.heap.size);omega
     have d_br8_18_br15_9:br8_18≠br15_9:=by have:=(let ⟨_,h,_⟩:=vbr8_18;h.lt:br8_18<Y8_5.heap.size);omega
     replace vbr8_18:=(hl9_11.ve d_br8_18_br15_9 (hl9_10.ve d_br8_18_br15_8 (vbr8_18.ext hX)))
     have d_br8_19_br15_8:br8_19≠br15_8:=by have:=(let ⟨_,h,_⟩:=vbr8_19;h.lt:br8_19<Y8_5.heap.size);omega
     have d_br8_19_br15_9:br8_19≠br15_9:=by have:=(let ⟨_,h,_⟩:=vbr8_19;h.lt:br8_19<Y8_5.heap.size);omega
     replace vbr8_19:=(hl9_11.ve d_br8_19_br15_9 (hl9_10.ve d_br8_19_br15_8 (vbr8_19.ext hX)))
     have d_br9_8_br15_8:br9_8≠br15_8:=by have:=(let ⟨_,h,_⟩:=vbr9_8;h.lt:br9_8<Y8_5.heap.size);omega
     have d_br9_8_br15_9:br9_8≠br15_9:=by have:=(let ⟨_,h,_⟩:=vbr9_8;h.lt:br9_8<Y8_5.heap.size);omega
     replace vbr9_8:=(hl9_11.ve d_br9_8_br15_9 (hl9_10.ve d_br9_8_br15_8 (vbr9_8.ext hX)))
     have d_br9_9_br15_8:br9_9≠br15_8:=by have:=(let ⟨_,h,_⟩:=vbr9_9;h.lt:br9_9<Y8_5.heap.size);omega
     have d_br9_9_br15_9:br9_9≠br15_9:=by have:=(let ⟨_,h,_⟩:=vbr9_9;h.lt:br9_9<Y8_5.heap.size);omega
     replace vbr9_9:=(hl9_11.ve d_br9_9_br15_9 (hl9_10.ve d_br9_9_br15_8 (vbr9_9.ext hX)))
     have d_br14_4_br15_8:br14_4≠br15_8:=by have:=(let ⟨_,h,_⟩:=vbr14_4;h.lt:br14_4<Y8_5.heap.size);omega
     have d_br14_4_br15_9:br14_4≠br15_9:=by have:=(let ⟨_,h,_⟩:=vbr14_4;h.lt:br14_4<Y8_5.heap.size);omega
     replace vbr14_4:=(hl9_11.ve d_br14_4_br15_9 (hl9_10.ve d_br14_4_br15_8 (vbr14_4.ext hX)))
     have vbr15_8:VE Y9_11 M n br15_8 u12:=(hl9_11.ve (xO nr15_9_8) (hl9_10.mk' h3))
     have lb_vbr15_8:=zK hE.bsize lr15_8;have vbr15_9:VE Y9_11 M n br15_9 u13:=(hl9_11.mk' h7)
     have lb_vbr15_9:=zK hE.bsize lr15_9;have d_br15_8_br15_9:br15_8≠br15_9:=(xO nr15_9_8)
     have hE':Ext W0 Y9_11:=(hl9_11.ext (hl9_10.ext (hE.trans hX) (zK hE.bsize lr15_8)) (zK hE.bsize lr15_9))
     clear hE hX hl9_10 hl9_11 h1 h2 h3 h5 h6 h7;have hE:=hE';clear hE';go_upto_region 16 with fail
     refine zh (by kernel_rfl) 14 [0,0,0,0,0,28,0,126,0,0,0,2046,4095,0,16383] [13] (fun j f X=>match j with
      | 0=>f 0=.pointer (some ⟨g,0,none⟩)
      | 1=>f 1=.pointer (some ⟨g,0,none⟩)
      | 2=>f 2=.pointer (some ⟨g,0,none⟩)
      | 3=>∃ o,f 3=EV o∧FE M n o u10
      | 4=>∃ o,f 4=EV o∧FE M n o u10
      | 5=>∃ o,f 5=EV o∧FE M n o u14
      | 6=>∃ o,f 6=EV o∧FE M n o u12
      | 7=>∃ o,f 7=EV o∧FE M n o u15
      | 8=>f 8=.pointer (some ⟨g,0,none⟩)
      | 9=>∃ o,f 9=EV o∧FE M n o u13
      | 10=>∃ o,f 10=EV o∧FE M n o u13
      | 11=>∃ o,f 11=EV o∧FE M n o u16
      | 12=>∃ o,f 12=EV o∧FE M n o u17
      | 13=>∃ b,f 13=.pointer (some ⟨b,0,none⟩)∧Y9_11.heap.size≤b∧X.heap[b]?=some (.cells #[.int .u64 0,.int .u64 0,.int .u64 0,.int .u64 0,.int .u64 0,.int .u64 0] 109 (0,0))
      | _=>True) (by kernel_rfl) [(105,0),(106,1),(107,2),(108,3),(109,4),(110,5),(111,6),(112,7),(113,8),(114,9),(115,10),(116,11),(117,12),(19,13)] (by kernel_rfl) ?_
     refine zJ 1 13 ?_;refine zJ 2 12 ?_;refine zJ 3 11 ?_;refine lX 4 10 (fun X hX=>let ⟨o,hbl,ho⟩:=vbr9_9.ext hX;⟨o,hbl.range,ho⟩) ?_;refine lX 5 9 (fun X hX=>let ⟨o,hbl,ho⟩:=vbr9_9.ext hX;⟨o,hbl.range,ho⟩) ?_;refine fc 6 8 2 3 4 (fun X hX _ _ h h'=>js X (hn.out.ext hP0' (hE.trans hX)).fr.ff h h') E_u14.out ?_;refine lX 7 7 (fun X hX=>let ⟨o,hbl,ho⟩:=vbr15_8.ext hX;⟨o,hbl.range,ho⟩) ?_;refine fc 8 6 1 5 6 (fun X hX _ _ h h'=>xr X (hn.out.ext hP0' (hE.trans hX)).fr.ff h h') E_u15.out ?_;refine zJ 9 5 ?_;refine lX 10 4 (fun X hX=>let ⟨o,hbl,ho⟩:=vbr15_9.ext hX;⟨o,hbl.range,ho⟩) ?_;refine lX 11 3 (fun X hX=>let ⟨o,hbl,ho⟩:=vbr15_9.ext hX;⟨o,hbl.range,ho⟩) ?_;refine fc 12 2 8 9 10 (fun X hX _ _ h h'=>uE X (hn.out.ext hP0' (hE.trans hX)).fr.ff h h') E_u16.out ?_;refine fc 13 1 0 7 11 (fun X hX _ _ h h'=>xr X (hn.out.ext hP0' (hE.trans hX)).fr.ff h h') E_u17.out ?_;refine kK 14 0 ?_;refine yF ⟨fun f X hX hR hal hap=>?_⟩;obtain⟨o3,(e3:f 3=_),h3⟩:=hR 3 (by decide);obtain⟨o4,(e4:f 4=_),h4⟩:=hR 4 (by decide);obtain⟨o5,(e5:f 5=_),h5⟩:=hR 5 (by decide);obtain⟨o6,(e6:f 6=_),h6⟩:=hR 6 (by decide);obtain⟨o7,(e7:f 7=_),h7⟩:=hR 7 (by decide);obtain⟨o9,(e9:f 9=_),h9⟩:=hR 9 (by decide);obtain⟨o10,(e10:f 10=_),h10⟩:=hR 10 (by decide);obtain⟨o11,(e11:f 11=_),h11⟩:=hR 11 (by decide);obtain⟨o12,(e12:f 12=_),h12⟩:=hR 12 (by decide);obtain⟨br16_13,(e13:f 13=_),lr16_13,hr16_13⟩:=hR 13 (by decide);simp only[yZ,e3,e4,e5,e6,e7,e9,e10,e11,e12,e13];clear hR hal hap e3 e4 e5 e6 e7 e9 e10 e11 e12 e13;refine zP (fun K hK=>⟨zU (by kernel_rfl) (qe (.tmp 19) (.tmp 117) rfl rfl rfl rfl (hr16_13) ke h12.elt.six (fun Y10_14 hl10_14=>hK.out _ _ ?_))⟩);refine zH ?_;have d_br6_12_br16_13:br6_12≠br16_13:=by have:=(let ⟨_,h,_⟩:=vbr6_12;h.lt:br6_12<Y9_11.heap.size);omega
     replace vbr6_12:=(hl10_14.ve d_br6_12_br16_13 (vbr6_12.ext hX))
     have d_br6_13_br16_13:br6_13≠br16_13:=by have:=(let ⟨_,h,_⟩:=vbr6_13;h.lt:br6_13<Y9_11.heap.size);omega
     replace vbr6_13:=(hl10_14.ve d_br6_13_br16_13 (vbr6_13.ext hX))
     have d_br7_10_br16_13:br7_10≠br16_13:=by have:=(let ⟨_,h,_⟩:=vbr7_10;h.lt:br7_10<Y9_11.heap.size);omega
     replace vbr7_10:=(hl10_14.ve d_br7_10_br16_13 (vbr7_10.ext hX))
     have d_br7_11_br16_13:br7_11≠br16_13:=by have:=(let ⟨_,h,_⟩:=vbr7_11;h.lt:br7_11<Y9_11.heap.size);omega
     replace vbr7_11:=(hl10_14.ve d_br7_11_br16_13 (vbr7_11.ext hX))
     have d_br8_18_br16_13:br8_18≠br16_13:=by have:=(let ⟨_,h,_⟩:=vbr8_18;h.lt:br8_18<Y9_11.heap.size);omega
     replace vbr8_18:=(hl10_14.ve d_br8_18_br16_13 (vbr8_18.ext hX))
     have d_br8_19_br16_13:br8_19≠br16_13:=by have:=(let ⟨_,h,_⟩:=vbr8_19;h.lt:br8_19<Y9_11.heap.size);omega
     replace vbr8_19:=(hl10_14.ve d_br8_19_br16_13 (vbr8_19.ext hX))
     have d_br9_8_br16_13:br9_8≠br16_13:=by have:=(let ⟨_,h,_⟩:=vbr9_8;h.lt:br9_8<Y9_11.heap.size);omega
     replace vbr9_8:=(hl10_14.ve d_br9_8_br16_13 (vbr9_8.ext hX))
     have d_br9_9_br16_13:br9_9≠br16_13:=by have:=(let ⟨_,h,_⟩:=vbr9_9;h.lt:br9_9<Y9_11.heap.size);omega
     replace vbr9_9:=(hl10_14.ve d_br9_9_br16_13 (vbr9_9.ext hX))
     have d_br14_4_br16_13:br14_4≠br16_13:=by have:=(let ⟨_,h,_⟩:=vbr14_4;h.lt:br14_4<Y9_11.heap.size);omega
     replace vbr14_4:=(hl10_14.ve d_br14_4_br16_13 (vbr14_4.ext hX))
     have d_br15_8_br16_13:br15_8≠br16_13:=by have:=(let ⟨_,h,_⟩:=vbr15_8;h.lt:br15_8<Y9_11.heap.size);omega
     replace vbr15_8:=(hl10_14.ve d_br15_8_br16_13 (vbr15_8.ext hX))
     have d_br15_9_br16_13:br15_9≠br16_13:=by have:=(let ⟨_,h,_⟩:=vbr15_9;h.lt:br15_9<Y9_11.heap.size);omega
     replace vbr15_9:=(hl10_14.ve d_br15_9_br16_13 (vbr15_9.ext hX))
     have vbr16_13:VE Y10_14 M n br16_13 u17:=(hl10_14.mk' h12)
     have lb_vbr16_13:=zK hE.bsize lr16_13;have hE':Ext W0 Y10_14:=(hl10_14.ext (hE.trans hX) (zK hE.bsize lr16_13))
     clear hE hX hl10_14 h3 h4 h5 h6 h7 h9 h10 h11 h12;have hE:=hE';clear hE';go_upto_region 17 with fail
     refine zh (by kernel_rfl) 14 [0,0,0,0,0,0,56,126,0,0,0,2046,4095,0,16383] [13] (fun j f X=>match j with
      | 0=>f 0=.pointer (some ⟨g,0,none⟩)
      | 1=>f 1=.pointer (some ⟨g,0,none⟩)
      | 2=>∃ o,f 2=EV o∧FE M n o u10
      | 3=>f 3=.pointer (some ⟨g,0,none⟩)
      | 4=>∃ o,f 4=EV o∧FE M n o u13
      | 5=>∃ o,f 5=EV o∧FE M n o u17
      | 6=>∃ o,f 6=EV o∧FE M n o u18
      | 7=>∃ o,f 7=EV o∧FE M n o u19
      | 8=>f 8=.pointer (some ⟨g,0,none⟩)
      | 9=>∃ o,f 9=EV o∧FE M n o u6
      | 10=>∃ o,f 10=EV o∧FE M n o u12
      | 11=>∃ o,f 11=EV o∧FE M n o u20
      | 12=>∃ o,f 12=EV o∧FE M n o u21
      | 13=>∃ b,f 13=.pointer (some ⟨b,0,none⟩)∧Y10_14.heap.size≤b∧X.heap[b]?=some (.cells #[.int .u64 0,.int .u64 0,.int .u64 0,.int .u64 0,.int .u64 0,.int .u64 0] 109 (0,0))
      | _=>True) (by kernel_rfl) [(118,0),(119,1),(120,2),(121,3),(122,4),(123,5),(124,6),(125,7),(126,8),(127,9),(128,10),(129,11),(130,12),(20,13)] (by kernel_rfl) ?_
     refine zJ 1 13 ?_;refine zJ 2 12 ?_;refine lX 3 11 (fun X hX=>let ⟨o,hbl,ho⟩:=vbr9_9.ext hX;⟨o,hbl.range,ho⟩) ?_;refine zJ 4 10 ?_;refine lX 5 9 (fun X hX=>let ⟨o,hbl,ho⟩:=vbr15_9.ext hX;⟨o,hbl.range,ho⟩) ?_;refine lX 6 8 (fun X hX=>let ⟨o,hbl,ho⟩:=vbr16_13.ext hX;⟨o,hbl.range,ho⟩) ?_;refine fc 7 7 3 4 5 (fun X hX _ _ h h'=>xr X (hn.out.ext hP0' (hE.trans hX)).fr.ff h h') E_u18.out ?_;refine fc 8 6 1 2 6 (fun X hX _ _ h h'=>js X (hn.out.ext hP0' (hE.trans hX)).fr.ff h h') E_u19.out ?_;refine zJ 9 5 ?_;refine lX 10 4 (fun X hX=>let ⟨o,hbl,ho⟩:=vbr8_18.ext hX;⟨o,hbl.range,ho⟩) ?_;refine lX 11 3 (fun X hX=>let ⟨o,hbl,ho⟩:=vbr15_8.ext hX;⟨o,hbl.range,ho⟩) ?_;refine fc 12 2 8 9 10 (fun X hX _ _ h h'=>js X (hn.out.ext hP0' (hE.trans hX)).fr.ff h h') E_u20.out ?_;refine fc 13 1 0 7 11 (fun X hX _ _ h h'=>xr X (hn.out.ext hP0' (hE.trans hX)).fr.ff h h') E_u21.out ?_;refine kK 14 0 ?_;refine yF ⟨fun f X hX hR hal hap=>?_⟩;obtain⟨o2,(e2:f 2=_),h2⟩:=hR 2 (by decide);obtain⟨o4,(e4:f 4=_),h4⟩:=hR 4 (by decide);obtain⟨o5,(e5:f 5=_),h5⟩:=hR 5 (by decide);obtain⟨o6,(e6:f 6=_),h6⟩:=hR 6 (by decide);obtain⟨o7,(e7:f 7=_),h7⟩:=hR 7 (by decide);obtain⟨o9,(e9:f 9=_),h9⟩:=hR 9 (by decide);obtain⟨o10,(e10:f 10=_),h10⟩:=hR 10 (by decide);obtain⟨o11,(e11:f 11=_),h11⟩:=hR 11 (by decide);obtain⟨o12,(e12:f 12=_),h12⟩:=hR 12 (by decide);obtain⟨br17_13,(e13:f 13=_),lr17_13,hr17_13⟩:=hR 13 (by decide);simp only[yZ,e2,e4,e5,e6,e7,e9,e10,e11,e12,e13];clear hR hal hap e2 e4 e5 e6 e7 e9 e10 e11 e12 e13;refine zP (fun K hK=>⟨zU (by kernel_rfl) (qe (.tmp 20) (.tmp 130) rfl rfl rfl rfl (hr17_13) ke h12.elt.six (fun Y11_14 hl11_14=>hK.out _ _ ?_))⟩);refine zH ?_;have d_br6_12_br17_13:br6_12≠br17_13:=by have:=(let ⟨_,h,_⟩:=vbr6_12;h.lt:br6_12<Y10_14.heap.size);omega
     replace vbr6_12:=(hl11_14.ve d_br6_12_br17_13 (vbr6_12.ext hX))
     have d_br6_13_br17_13:br6_13≠br17_13:=by have:=(let ⟨_,h,_⟩:=vbr6_13;h.lt:br6_13<Y10_14.heap.size);omega
     replace vbr6_13:=(hl11_14.ve d_br6_13_br17_13 (vbr6_13.ext hX))
     have d_br7_10_br17_13:br7_10≠br17_13:=by have:=(let ⟨_,h,_⟩:=vbr7_10;h.lt:br7_10<Y10_14.heap.size);omega
     replace vbr7_10:=(hl11_14.ve d_br7_10_br17_13 (vbr7_10.ext hX))
     have d_br7_11_br17_13:br7_11≠br17_13:=by have:=(let ⟨_,h,_⟩:=vbr7_11;h.lt:br7_11<Y10_14.heap.size);omega
     replace vbr7_11:=(hl11_14.ve d_br7_11_br17_13 (vbr7_11.ext hX))
     have d_br8_18_br17_13:br8_18≠br17_13:=by have:=(let ⟨_,h,_⟩:=vbr8_18;h.lt:br8_18<Y10_14.heap.size);omega
     replace vbr8_18:=(hl11_14.ve d_br8_18_br17_13 (vbr8_18.ext hX))
     have d_br8_19_br17_13:br8_19≠br17_13:=by have:=(let ⟨_,h,_⟩:=vbr8_19;h.lt:br8_19<Y10_14.heap.size);omega
     replace vbr8_19:=(hl11_14.ve d_br8_19_br17_13 (vbr8_19.ext hX))
     have d_br9_8_br17_13:br9_8≠br17_13:=by have:=(let ⟨_,h,_⟩:=vbr9_8;h.lt:br9_8<Y10_14.heap.size);omega
     replace vbr9_8:=(hl11_14.ve d_br9_8_br17_13 (vbr9_8.ext hX))
     have d_br9_9_br17_13:br9_9≠br17_13:=by have:=(let ⟨_,h,_⟩:=vbr9_9;h.lt:br9_9<Y10_14.heap.size);omega
     replace vbr9_9:=(hl11_14.ve d_br9_9_br17_13 (vbr9_9.ext hX))
     have d_br14_4_br17_13:br14_4≠br17_13:=by have:=(let ⟨_,h,_⟩:=vbr14_4;h.lt:br14_4<Y10_14.heap.size);omega
     replace vbr14_4:=(hl11_14.ve d_br14_4_br17_13 (vbr14_4.ext hX))
     have d_br15_8_br17_13:br15_8≠br17_13:=by have:=(let ⟨_,h,_⟩:=vbr15_8;h.lt:br15_8<Y10_14.heap.size);omega
     replace vbr15_8:=(hl11_14.ve d_br15_8_br17_13 (vbr15_8.ext hX))
     have d_br15_9_br17_13:br15_9≠br17_13:=by have:=(let ⟨_,h,_⟩:=vbr15_9;h.lt:br15_9<Y10_14.heap.size);omega
     replace vbr15_9:=(hl11_14.ve d_br15_9_br17_13 (vbr15_9.ext hX))
     have d_br16_13_br17_13:br16_13≠br17_13:=by have:=(let ⟨_,h,_⟩:=vbr16_13;h.lt:br16_13<Y10_14.heap.size);omega
     replace vbr16_13:=(hl11_14.ve d_br16_13_br17_13 (vbr16_13.ext hX))
     have vbr17_13:VE Y11_14 M n br17_13 u21:=(hl11_14.mk' h12)
     have lb_vbr17_13:=zK hE.bsize lr17_13;have hE':Ext W0 Y11_14:=(hl11_14.ext (hE.trans hX) (zK hE.bsize lr17_13))
     clear hE hX hl11_14 h2 h4 h5 h6 h7 h9 h10 h11 h12;have hE:=hE';clear hE';have hb1:=hE.at_ hrb;go_upto_region 18 with fail
     refine zh (by kernel_rfl) 12 [0,0,0,0,0,0,32,0,128,496,1020,2047,4095] [] (fun j f X=>match j with
      | 0=>∃ o,f 0=EV o∧FE M n o u17
      | 1=>∃ o,f 1=EV o∧FE M n o u21
      | 2=>f 2=.pointer (some ⟨g,0,none⟩)
      | 3=>∃ o,f 3=EV o∧FE M n o u9
      | 4=>f 4=.pointer (some ⟨g,0,none⟩)
      | 5=>f 5=.pointer (some ⟨q,12,none⟩)
      | 6=>∃ o,f 6=EV o∧FE M n o z1
      | 7=>f 7=.pointer (some ⟨q+1,12,none⟩)
      | 8=>∃ o,f 8=EV o∧FE M n o z2
      | 9=>∃ o,f 9=EV o∧FE M n o u22
      | 10=>∃ o,f 10=EV o∧FE M n o u23
      | 11=>∃ ox oy oz,f 11=JV ox oy oz∧FJ M n ox oy oz u17 u21 u23
      | _=>True) (by kernel_rfl) [(131,0),(132,1),(133,2),(134,3),(135,4),(136,5),(137,6),(138,7),(139,8),(140,9),(141,10),(142,11)] (by kernel_rfl) ?_
     refine lX 1 11 (fun X hX=>let ⟨o,hbl,ho⟩:=vbr16_13.ext hX;⟨o,hbl.range,ho⟩) ?_;refine lX 2 10 (fun X hX=>let ⟨o,hbl,ho⟩:=vbr17_13.ext hX;⟨o,hbl.range,ho⟩) ?_;refine zJ 3 9 ?_;refine lX 4 8 (fun X hX=>let ⟨o,hbl,ho⟩:=vbr9_8.ext hX;⟨o,hbl.range,ho⟩) ?_;refine zJ 5 7 ?_;refine zJ 6 6 ?_;refine lE 7 5 5 (fun _ hX=>xK ((hE.trans hX).at_ hp1) hJ1.out.x.elt.six hJ1.out.y.elt.six) hJ1.out.z ?_;refine zJ 8 4 ?_;refine lE 9 3 7 (fun _ hX=>xK ((hE.trans hX).at_ hp2) hJ2.out.x.elt.six hJ2.out.y.elt.six) hJ2.out.z ?_;refine fc 10 2 4 6 8 (fun X hX _ _ h h'=>js X (hn.out.ext hP0' (hE.trans hX)).fr.ff h h') E_u22.out ?_;refine fc 11 1 2 3 9 (fun X hX _ _ h h'=>js X (hn.out.ext hP0' (hE.trans hX)).fr.ff h h') E_u23.out ?_;refine zt 12 0 [(131,0),(132,1),(133,2),(134,3),(135,4),(136,5),(137,6),(138,7),(139,8),(140,9),(141,10)] (fun f X hX hR K hK=>?_) ?_
     · obtain⟨o0,(e0:f 0=_),h0⟩:=hR.out 0 rfl;obtain⟨o1,(e1:f 1=_),h1⟩:=hR.out 1 rfl;obtain⟨o10,(e10:f 10=_),h10⟩:=hR.out 10 rfl;simp only[yZ,e0,e1,e10];refine⟨zU (by kernel_rfl) (gR (x:=o0) (y:=o1) (z:=o10) (.tmp 131) (.tmp 132) (.tmp 141) rfl rfl rfl rfl h0.elt.six h1.elt.six h10.elt.six ?_)⟩;exact hK.out _ (JV o0 o1 o10) _ (by simp only[yZ,e0,e1,e10]) (zX _) trivial (fun _ _=>⟨o0,o1,o10,rfl,⟨h0,h1,h10⟩⟩)
     refine yF ⟨fun f X hX hR hal hap=>?_⟩;obtain⟨o0,(e0:f 0=_),h0⟩:=hR 0 (by decide);obtain⟨o1,(e1:f 1=_),h1⟩:=hR 1 (by decide);obtain⟨o3,(e3:f 3=_),h3⟩:=hR 3 (by decide);obtain⟨o6,(e6:f 6=_),h6⟩:=hR 6 (by decide);obtain⟨o8,(e8:f 8=_),h8⟩:=hR 8 (by decide);obtain⟨o9,(e9:f 9=_),h9⟩:=hR 9 (by decide);obtain⟨o10,(e10:f 10=_),h10⟩:=hR 10 (by decide);obtain⟨ox,oy,oz,(e11:f 11=_),f11⟩:=hR 11 (by decide);simp only[yZ,e0,e1,e3,e6,e8,e9,e10,e11];clear hR hal hap e0 e1 e3 e6 e8 e9 e10 e11;refine zP (fun K hK=>⟨zU (by kernel_rfl) (vG (x:=ox) (y:=oy) (z:=oz) (.tmp 6) (.tmp 142) rfl rfl rfl rfl (hX.at_ hb1) rfl f11.x.elt.six f11.y.elt.six f11.z.elt.six (fun Y hY1 hY2 hY3=>hK.out _ _ ?_))⟩);refine zH ?_;go_wp2;exact dX rfl rfl rfl hY1 f11.x.elt.six f11.y.elt.six f11.z.elt.six ⟨_,_,_,rfl,f11,hY2.ext (HE0.out.trans (hE.trans hX)) (by have:=Hq.out;omega)⟩
theorem gn:(Tryz.prog.info? 5).map (fun i=>(i.zero,i.size,i.bytes))=some (some (.int .u8 0),1,1):=by kernel_rfl
def vQ (w:World) (g:Nat) (l:List Nat):Prop:=w.heap[g]?=some (.cells (bys l).toArray 5 (0,0))
section
variable {w w':World} {g:Nat} {l:List Nat}
theorem zCh {l:List Nat}{i:Nat}(h:i<l.length):(bys l)[i]?=some (.int .u8 (dg l i:Int)):=by
 rw[dg,jU h];simp[bys,qO h]
theorem vQ.cell (h:vQ w g l){i:Nat}(hi:i<l.length):w.cell? ⟨g,i,none⟩=some (.int .u8 (dg l i:Int)):=by
 rw[zQ h i,zR,zCh hi]
theorem vQ.free (h:vQ w g l)(i:Nat):w.frozen? ⟨g,i,none⟩=false:=qu h i
theorem vQ.set (h:vQ w g l)(i:Nat)(x:Nat):vQ (w.setCell ⟨g,i,none⟩ (.int .u8 (x:Int))) g (l.set i x):=by
 unfold vQ at *;simp[World.setCell,vD,h,bys]
theorem vQ.made (w:World)(n:Nat):vQ (w.alloc (.cells (madeCells #[.int .u8 0] n) 5)) w.heap.size (List.replicate n 0):=by
 unfold vQ;rw[zS];congr 1;congr 1;apply Array.ext_getElem?;intro i;by_cases hi:i<n
 · have hs:i<(madeCells #[Value.int .u8 0] n).size:=by rw[size_madeCells];simpa using hi
   rw[qG hs];simp[madeCells,bys,hi,Nat.mod_one]
 · rw[x6 (by rw[size_madeCells];omega),x6 (by simp[bys];omega)]
theorem vQ.rb {P:Nat→Prop}(h:vQ w g l)(hP:P g)(hl:∀ b∈l,b<256)(hn:l.length≤1000000):RB w P (some ⟨g,0,none⟩) l.length l:=by
 refine⟨⟨zG _,by unfold maxLen;omega,by simp[bys],fun _=>⟨_,rfl,hP,fun j u hu=>?_⟩⟩,hl,by omega⟩;rw[yx,zQ h j,zR];exact hu
end
def wQ (x n:Nat) (o:List Nat) (k:Nat):Prop:=o.length=n∧(∀ j,j<k→dg o j=x/2 ^(8*(n-1-j))%256)∧(∀ j,k≤j→dg o j=0)∧∀ b∈o,b<256
theorem wQ.zero (x n:Nat):wQ x n (List.replicate n 0) 0:=by
 refine⟨by simp,fun j hj=>by omega,fun j _=>?_,fun b hb=>by simp at hb;omega⟩;rw[dg,qA,List.getElem?_replicate];split<;>rfl
theorem wQ.step {x n:Nat}{o:List Nat}{k b:Nat}(h:wQ x n o k)(hk:k<n)(hb:x/2 ^(8*(n-1-k))%256=b):wQ x n (o.set k b) (k+1):=by
 obtain⟨h1,h2,h3,h4⟩:=h;refine⟨by simpa using h1,fun j hj=>?_,fun j hj=>by rw[getD_set_ne (by omega)];exact h3 j (by omega),wy h4 (by omega)⟩;rcases qF j k with h|h
 · rw[getD_set_ne (by omega)];exact h2 j h
 · obtain rfl:j=k:=by omega
   rw[vm (by omega)];exact hb.symm
theorem wQ.skip {x n:Nat}{o:List Nat}{k:Nat}(h:wQ x n o k)(hb:x/2 ^(8*(n-1-k))%256=0):wQ x n o (k+1):=by
 obtain⟨h1,h2,h3,h4⟩:=h;refine⟨h1,fun j hj=>?_,fun j hj=>h3 j (by omega),h4⟩;rcases qF j k with h|h
 · exact h2 j h
 · obtain rfl:j=k:=by omega
   rw[hb];exact h3 j h
theorem wQ.fin {x n:Nat}{o:List Nat}(h:wQ x n o n):o=bytesOf x n:=by
 obtain⟨h1,h2,_⟩:=h;apply List.ext_getElem (by rw[h1,kV]);intro i h3 h4;have:=h2 i (by omega);rw[dg,jU h3]at this;rw[this];simp[bytesOf]
theorem aj (d j:Nat):IntKind.u8.wrap ((d:Int)/2^j)=((d/2^j%256:Nat):Int):=by
 rw[show(d:Int)/2^j=((d/2^j:Nat):Int) by simp];generalize d/2^j=z;simp[IntKind.wrap,IntKind.bits,IntKind.signed]
theorem tW (P:Nat→Prop)(A:Option Addr)(c:Nat)(a:List Nat)(n:Nat)(w:World)(h:RN w P A c a)(hP:∀ b,P b→b<w.heap.size)(hn:n≤65536)(hn':zu (val 18446744073709551616 a)≤8*n) :
 Calls Tryz.prog 60 #[.slice A a.length c,.int .i64 (n:Int)] w fun e w'=>∃ A1,e=.returned (.tuple #[.slice A1 n n,.bool true]) ∧
  RB w' (In w.heap.size w'.heap.size) A1 n (bytesOf (val 18446744073709551616 a) n)∧Below w.heap.size w w':=by
 obtain⟨h1,h2,h3⟩:=h.cap
 have hb:=zF (vK P A c a w h)
 have hby:=fun k j hj=>mq (m:=64) a h.2.1 k j hj
 rw[show(2:Nat)^64=18446744073709551616 by decide]at hby
 generalize hX:val 18446744073709551616 a=x at *
 generalize zu x=k0 at *
 have hk0:(k0:Int)≤8*(n:Int):=by omega
 have Hby:=zF hby
 clear hby hX hn'
 have hmk:=jD (P:=Tryz.prog) 22 5 (.int .u8 0) 1 Tryz.underlying22 gn rfl .i64 .i64 n (by omega) (by omega)
 go_enter Tryz.func60,Tryz.ntmps60
 go_wp2_with fail
 refine hb.out.mono ?_
 rintro e w1 ⟨rfl,rfl⟩
 clear hb
 go_wp2
 go_loopw [26] (fun iv wr=>∃(k:Nat) (o:List Nat),iv=.int .i64 (k:Int)∧k≤n∧wQ x n o k∧vQ wr w.heap.size o∧Below w.heap.size w wr) (fun iv _=>n-(intOf iv).toNat)
 case atStart=>exact⟨0,List.replicate n 0,rfl,by omega,wQ.zero x n,vQ.made w n,(zl _ w).alloc (zG _) _⟩
 case round =>
  obtain⟨k,o,rfl,hk,hA,hblk,hB⟩:=hrel;by_cases hlt:k<n
  · obtain⟨m,q,r,hm,hr,hmq⟩:∃ m q r,m=n-1-k∧r<8∧m=8*q+r:=⟨n-1-k,(n-1-k)/8,(n-1-k)%8,rfl,by omega,by omega⟩
    have hbv:=Hby.out q (r*8) (by omega);rw[show 64*q+r*8=8*m by omega,hm]at hbv;have e1:(n:Int)-1-(k:Int)=(m:Int):=by omega
    have e2:(m:Int)/8=(q:Int):=by omega
    have e3:(m:Int)%8=(r:Int):=by omega
    have k1:(m:Int)<(n:Int):=by omega
    by_cases hq:q<a.length
    · obtain⟨ad,rfl,had,q1⟩:=(h.below hB hP).at_ hq;obtain⟨b,hbb⟩:=eV (dg a q/2 ^(r*8)%256);rw[hbb]at hbv;have e4:=aj (dg a q) (r*8);rw[hbb]at e4;have hA':=hA.step hlt hbv;have q3:=hblk.cell (i:=k) (by rw[hA.1];exact hlt);have q4:=hblk.free k;have hblk':=hblk.set k b;have hB':=hB.setCell (p:=⟨w.heap.size,k,none⟩) (zG _) (.int .u8 (b:Int));have k2:(q:Int)<(a.length:Int):=by omega
      have k3:(r:Int)<8:=by omega
      clear hbb hbv hA hblk hB hmq hm;go_wp2;go_roundw;case rel=>exact⟨k+1,o.set k b,by go_num,by omega,hA',hblk',hB'⟩
      case measure=>simp[intOf];omega
    · rw[km (by omega:a.length≤q),Nat.zero_div,kL]at hbv;have hA':=hA.skip hbv;have k2:¬(q:Int)<(a.length:Int):=by omega
      clear hbv hA hmq hm;go_wp2;go_roundw;case rel=>exact⟨k+1,o,by go_num,by omega,hA',hblk,hB⟩
      case measure=>simp[intOf];omega
  · obtain rfl:k=n:=by omega
    have he:=hA.fin;have hl4:=hA.2.2.2;have hlen:=hA.1;have hrb:=hblk.rb (P:=In w.heap.size wr.heap.size) ⟨zG _,qr hblk⟩ hl4 (by omega);rw[hlen]at hrb;rw[he]at hrb;clear hA he hl4 hlen hblk;go_wp2;go_ret2;exact⟨_,rfl,hrb,hB⟩
end Go.Proofs.YtaemogcomplhiaaGreatDoor
namespace Go.Proofs.YtaemogcomplhiaaGreatDoor
open Go.RowKit Go.Shelf
attribute [local go_sem] Oper.semAt_some
def jn (x:Nat) (j:Nat):Nat×Nat:=(zu x-1-j,x/2 ^(zu x-1-j)%2)
theorem oL (P:Nat→Prop)(A:Option Addr)(c:Nat)(a:List Nat)(w:World)(h:RN w P A c a)(hP:∀ b,P b→b<w.heap.size) :
 Calls Tryz.prog 76 #[.slice A a.length c] w fun e w'=>∃ A1 c1,e=.returned (.func (.func 106) #[] #[.pointer (some ⟨w.heap.size,0,none⟩)]) ∧
  w'.heap[w.heap.size]?=some (.cells #[.slice A1 (digs 18446744073709551616 (val 18446744073709551616 a)).length c1] 24 (0,0))∧OB w' w.heap.size A1 c1 (digs 18446744073709551616 (val 18446744073709551616 a))∧Below w.heap.size w w':=by
 have hm:=zF (fun w h=>fU P A c a w h)
 have hR:RN (w.alloc (.cells #[.slice A a.length c] 24)) P A c a:=h.below ((zl _ w).alloc (zG _) _) hP
 generalize digs 18446744073709551616 (val 18446744073709551616 a)=l at *
 go_enter Tryz.func76,Tryz.ntmps76
 go_wp2_with fail
 refine(hm.out _ hR).mono ?_
 rintro e w1 ⟨A1,c1,rfl,hO,hB⟩
 have hb:=(hB.block w.heap.size (by simp)).trans (zS w _)
 have f0:=qu hb 0
 have c0:=zQ hb 0
 simp at c0
 go_wp2
 go_ret
 refine⟨A1,c1,rfl,?_,?_,(((zl _ w).alloc (zG _) _).trans (hB.mono (by simp))).setCell (p:=⟨w.heap.size,0,none⟩) (zG _) _⟩
 · simp[World.setCell,vD,hb]
 · obtain⟨h1,h2,h3,h4⟩:=hO;refine⟨h1,h2,h3,fun hn=>?_⟩;obtain⟨g,cur,e,hg,hh,hc⟩:=h4 hn;simp at hg;exact⟨g,cur,e,by omega,(je _ _ _ _ (by show g≠w.heap.size;omega)).trans hh,hc⟩
end Go.Proofs.YtaemogcomplhiaaGreatDoor
namespace Go.Proofs.YtaemogcomplhiaaGreatDoor
open Go.RowKit
structure jN (B C m:Nat) (W W':World):Prop where
 size:W.heap.size≤W'.heap.size
 others:∀(k:Nat) (o:Obj),B≤k→W.heap[k]?=some o→o.isCells=false→W'.heap[k]?=some o
 cells:∀ k,C≤k→k<C+m→k<W.heap.size→W'.heap[k]?=W.heap[k]?
theorem jN.refl (B C m:Nat)(W:World):jN B C m W W:=⟨zG _,fun _ _ _ h _=>h,fun _ _ _ _=>rfl⟩
theorem jN.trans {B C m:Nat}{W W' W'':World}(h:jN B C m W W')(k:jN B C m W' W''):jN B C m W W'' :=
 ⟨zK h.size k.size,fun i o hb hi ho=>k.others i o hb (h.others i o hb hi ho) ho,fun i hc hm hi=>(k.cells i hc hm (zI hi h.size)).trans (h.cells i hc hm hi)⟩
theorem jN.mono {B B' C C' m m':Nat}{W W':World}(h:jN B C m W W')(hB:B≤B')(hC:C≤C')(hm:C'+m'≤C+m):jN B' C' m' W W' :=
 ⟨h.size,fun k o hb=>h.others k o (zK hB hb),fun k hc hk=>h.cells k (zK hC hc) (zI hk hm)⟩
theorem jN.none {B C C' m:Nat}{W W':World}(h:jN B C m W W'):jN B C' 0 W W':=⟨h.size,h.others,fun k h1 h2=>absurd h2 (by omega)⟩
theorem jN.setCell (B C m:Nat)(W:World){a:Addr}(ha:a.block<C∨C+m≤a.block)(v:Value):jN B C m W (W.setCell a v) :=
 ⟨(KeepsOthers.setCell W a v).size,fun k o _=>(KeepsOthers.setCell W a v).same k o,fun k h1 h2 _=>je W a v k (by omega)⟩
theorem jN.alloc (B C m:Nat)(W:World)(o:Obj):jN B C m W (W.alloc o):=⟨by simp,fun k o' _=>(KeepsOthers.alloc W o).same k o',fun k _ _ hk=>kE W o k hk⟩
theorem jN.drew (B C m:Nat)(W:World):jN B C m W W.drew:=⟨zG _,fun _ _ _ h _=>h,fun _ _ _ _=>rfl⟩
theorem jN.drewN (B C m:Nat)(W:World)(n:Nat):jN B C m W (W.drewN n):=⟨zG _,fun _ _ _ h _=>h,fun _ _ _ _=>rfl⟩
theorem jN.below {B C m D:Nat}{W W':World}(h:Below D W W')(hD:W.heap.size≤D):jN B C m W W' :=
 ⟨h.size,fun k _ _ hk _=>(h.block k (zI (Array.getElem?_eq_some_iff.1 hk).1 hD)).trans hk,fun k _ _ hk=>h.block k (zI hk hD)⟩
theorem jN.putObj {B C m:Nat}{W:World}{l:Nat}{o:Obj}(hl:l<B)(hC:l<C):jN B C m W (W.putObj l o) :=
 ⟨by simp,fun k _ hb hk _=>(qJ (by omega)).trans hk,fun k hc _ _=>qJ (by omega)⟩
def zDC (P:Program) (g:Nat) (lb:Array Value) (xs:Nat→Array Value) (Nd:Nat→World→Prop) (T:Nat→Nat→World→World→Prop) (Kp:World→World→Prop) (m N:Nat) (fin:Bool) (w:World):Prop :=
  ∀ (n l : Nat) (J J' Jx : Nat → World → Prop) (W : World), 1 ≤ n → Below w.heap.size w W → l < W.heap.size → OwnFrom W.heap.size J → OwnFrom W.heap.size J' → OwnFrom W.heap.size Jx →
    (∀ k W1,k≤N→J k W1→Nd k W1)→(∀ k W1 W2,k≤N→J k W1→T W.heap.size k W1 W2→J' k W2)→(fin=false→∀ W',¬ J' N W') →
    (∀ k W1,J' k W1→k<N→W.heap.size+m≤W1.heap.size→YieldAt Fence.wide (n-1) P l (xs k) W1 fun e W' =>
      (e=.returned (.bool true)∧J (k+1) W'∧Kp W1 W'∧jN W.heap.size W.heap.size m W1 W')∨(e=.returned (.bool false)∧Jx (k+1) W'∧jN W.heap.size W.heap.size m W1 W')) →
    J 0 W →
    CallsIn Fence.wide n P g (#[.func (.yield l) #[] #[]]++lb) W fun e W'=>(∃ v,e=.returned v)∧(J' N W'∨∃ k,0<k∧k≤N∧Jx k W')
def zEC (_:Nat) (_:World):Prop:=True
def rA (_B _k:Nat) (W W':World):Prop:=W.grownBy W' none
def oE (B m:Nat) (Kp:World→World→Prop) (I:Nat→World→Prop) (Ix:Code→Nat→World→Prop) (k:Nat) (W:World):Exit→Act→World→Prop
 | .normal,_,W'=>jN B (B+2) m W W'∧Kp W W'∧I k W'
 | .ret,_,W'=>jN B (B+2) m W W'∧Ix .ret k W'
 | .exit id,_,W'=>jN B (B+2) m W W'∧Ix (.exit id) k W'
 | .goto t,_,W'=>jN B (B+2) m W W'∧Ix (.goto t) k W'
 | .panic _,_,_=>False
 | .outgrown,_,_=>False
theorem vz {β:Type}{B C:Nat}{I:β→World→Prop}(h:OwnFrom B I)(hc:B≤C):OwnFrom C I :=
 fun s W W' row hs hg hr=>h s W W' row hs hg fun r e=>⟨zK hc (hr r e).1,(hr r e).2⟩
theorem xe {β:Type}{B g:Nat}(o:Obj)(hg:g<B):OwnFrom B (fun(_:β) W=>g<W.heap.size∧W.heap[g]?=some o):=fun _ W W' row hs hw hr =>
 ⟨zI hs.1 hw.size,(hw.block g hs.1 fun e=>by have:=(hr g e.symm).1;omega).trans hs.2⟩
theorem aC {n:Nat}{P:Program}{g:Operand}{ps:Array Tmp}{assign body:Code}{Q:Exit→Act→World→Prop}{a:Act}{w:World}
   (h2:2≤n) {gf:Nat} {lb:Array Value} (hg:a.eval g=.func (.func gf) #[] lb) (eg:∀ args w,(callFunc gf args).run P w=.ok (.enter gf args) w)
   {xs:Nat→Array Value} {Nd:Nat→World→Prop} {T:Nat→Nat→World→World→Prop} {Kp:World→World→Prop} {m N:Nat} {fin:Bool} {w0:World} (hseq:zDC P gf lb xs Nd T Kp m N fin w0)
   (hKt:∀ {A B C:World},Kp A B→Kp B C→Kp A C) (hKb:∀(W:World) (l:Nat) (o o':Obj),w.heap.size≤l→W.heap[l]?=some o→o.isCells=false→o.isWalk=false→Kp W (W.putObj l o'))
   (hT:∀ B k W1 W2,T B k W1 W2→W1.heap.size≤W2.heap.size∧∀ b o,b<B→W1.heap[b]?=some o→o.isCells=false→W2.heap[b]?=some o)
   (hb0:Below w0.heap.size w0 w) (hps:∀ k,(xs k).size=ps.size)
   (I I':Nat→World→Prop) (Ix:Code→Nat→World→Prop) (hI:OwnFrom w.heap.size I) (hI':OwnFrom w.heap.size I') (hIx:∀ c,OwnFrom w.heap.size (Ix c))
   (hNd:∀ k W,k≤N→I k W→Nd k W) (hIT:∀ B k W1 W2,w.heap.size≤B→k≤N→I k W1→T B k W1 W2→I' k W2) (hfin:fin=false→∀ W',¬ I' N W') (h0:I 0 w) (a₁:Nat→Act)
   (hassign:∀(l k:Nat) (W:World) (K:Act→World→Prop),K (a₁ k) W →
     assign.wpIn (Fence.wide.inRound l) (n-1-1) P (Exit.then K (fun _ _ _=>False)) { tmps:=(ps.zip (xs k)).foldl (fun t (p,v)=>t.setIfInBounds p v) a.tmps,defers:=[] } W)
   (hbody:∀(l k:Nat) (W:World),I' k W→k<N→w.heap.size+2+m≤W.heap.size→body.wpIn (Fence.wide.inRound l) (n-1-1) P (oE w.heap.size m Kp I Ix (k+1) W) (a₁ k) W)
   (hdone:∀(D:Nat) (W:World),w.heap.size≤D→I' N W→W.heap[D]?=some (.deferred (some []))→Q .normal { a with defers:={ target:=.collected D,args:=#[] }::a.defers } W)
   (hstop:∀(D:Nat) (c:Code) (k:Nat) (W:World),w.heap.size≤D→0<k→k≤N→Ix c k W→W.heap[D]?=some (.deferred (some []))→c.wpIn Fence.wide n P Q { a with defers:={ target:=.collected D,args:=#[] }::a.defers } W) :
   (Code.rangeFunc g ps assign body).wpIn Fence.wide n P Q a w:=by
 refine wpIn_rangeFunc ?_;intro fn hfn;obtain⟨rc,hrc⟩:∃ rc:LoopState→Option Code→Loop,rc=fun st pe=>{ state:=st,pending:=pe,fn,tmps:=a.tmps,params:=ps,assign,body,defers:=w.heap.size }:=⟨_,rfl⟩
 obtain⟨L,hL⟩:=eV (w.heap.size+1);obtain⟨D,hD⟩:=eV w.heap.size;obtain⟨W1,hW1⟩:=eV ((w.alloc (.deferred (some []))).alloc (.loop (rc .ready none)));have hz1:W1.heap.size=D+2:=by rw[←hW1,←hD];simp
 have hl1:W1.heap[L]?=some (.loop (rc .ready none)):=by
   rw[←hW1,←hL];have:=World.alloc_heap_new (w.alloc (.deferred (some []))) (.loop (rc .ready none));rwa [qB]at this
 have hd1:W1.heap[D]?=some (.deferred (some [])):=by
   rw[←hW1,←hD];exact(kE _ _ _ (by simp)).trans (World.alloc_heap_new w _)
 have hi1:I 0 W1:=by rw[←hW1];exact hI.alloc _ (hI.alloc _ h0)
 have hb1:Below w0.heap.size w0 W1:=by rw[←hW1];exact hb0.trans ((((zl _ w).alloc (zG _) _).alloc (by simp) _).mono hb0.size)
 have hlD:L=D+1:=by omega
 refine⟨L,[{ target:=.collected D,args:=#[] }],W1,{ target:=.fn (.func gf) lb,args:=#[.func (.yield L) #[] #[]] },W1,gf,
   #[.func (.yield L) #[] #[]]++lb,W1,?_,?_,?_,?_,fun _=>by omega,?_⟩
 · rw[←hW1,hrc,←hL,←hD];exact run_enterLoop_outer _ _ _ _ _
 · simp only[resolve,hg];simp[go_sem]
 · exact fun _ _=>trivial
 · simp[invoke,go_sem,eg]
 -- the record's two blocks,beside what the caller holds
 have recs:∀(st:LoopState) (pe:Option Code),OwnFrom W1.heap.size (fun(_:Nat) (W:World)=>(L<W.heap.size∧W.heap[L]?=some (.loop (rc st pe)))∧D<W.heap.size∧W.heap[D]?=some (.deferred (some []))):=fun st pe =>
   OwnFrom.and (xe _ (by omega)) (xe _ (by omega))
 have lt:∀ {W:World} {b:Nat} {o:Obj},W.heap[b]?=some o→b<W.heap.size:=fun h=>(Array.getElem?_eq_some_iff.1 h).1
 refine(hseq (n-1) L
   (fun k W=>I k W∧(L<W.heap.size∧W.heap[L]?=some (.loop (rc .ready none)))∧D<W.heap.size∧W.heap[D]?=some (.deferred (some [])))
   (fun k W=>I' k W∧(L<W.heap.size∧W.heap[L]?=some (.loop (rc .ready none)))∧D<W.heap.size∧W.heap[D]?=some (.deferred (some [])))
   (fun k W=>∃ c,Ix c k W∧(L<W.heap.size∧W.heap[L]?=some (.loop (rc .done (some c))))∧D<W.heap.size∧W.heap[D]?=some (.deferred (some [])))
   W1 (by omega) hb1 (by omega) (OwnFrom.and (vz hI (by omega)) (recs _ _)) (OwnFrom.and (vz hI' (by omega)) (recs _ _))
   (fun k A B row hs hg' hr=>by obtain⟨c,hc,hr2⟩:=hs;exact⟨c,vz (hIx c) (by omega) k A B row hc hg' hr,recs _ _ k A B row hr2 hg' hr⟩)
   (fun k A hk hs=>hNd k A hk hs.1) ?_ (fun hf W' hs=>hfin hf W' hs.1) ?_ ⟨hi1,⟨lt hl1,hl1⟩,lt hd1,hd1⟩).mono ?_
 · rintro k A B hk ⟨hi,⟨_,hl⟩,_,hd⟩ ht;have hl':=(hT _ _ _ _ ht).2 L _ (by omega) hl rfl;have hd':=(hT _ _ _ _ ht).2 D _ (by omega) hd rfl;exact⟨hIT _ k A B (by omega) hk hi ht,⟨lt hl',hl'⟩,lt hd',hd'⟩
 · -- one round
   rintro k W ⟨hi,⟨_,hl⟩,_,hd⟩ hlen hm;have hlt:L<W.heap.size:=lt hl;have hy:=run_yield (P:=P) (args:=xs k) hl (by rw[hrc];exact hps k);rw[hrc]at hy;refine⟨fn,_,assign,body,hy,roundIn_of_wpIn hfn (hassign _ k W _ ⟨_,run_beginRound hl (by rw[hrc]),?_⟩)⟩;have hl2:(W.putObj L (.loop { rc .ready none with state:=.busy })).heap[L]?=some (.loop { rc .ready none with state:=.busy }):=World.putObj_heap_same hlt;have hd2:(W.putObj L (.loop { rc .ready none with state:=.busy })).heap[D]?=some (.deferred (some [])):=(qJ (by omega)).trans hd;have hw2:Kp W (W.putObj L (.loop { rc .ready none with state:=.busy })):=hKb _ _ _ _ (by omega) hl rfl rfl;have hk2:jN W1.heap.size W1.heap.size m W (W.putObj L (.loop { rc .ready none with state:=.busy })):=jN.putObj (by omega) (by omega);refine wpIn_mono (hbody _ k _ (hI'.putObj _ hi (by omega) hl rfl) hlen (by simp;omega)) ?_
   have fin:∀(jump:Option Code) (W3:World),jN w.heap.size (w.heap.size+2) m (W.putObj L (.loop { rc .ready none with state:=.busy })) W3 →
       (Instr.endRound L jump).run P W3=.ok (.bool jump.isNone) (W3.putObj L (.loop (rc (if jump.isNone then .ready else .done) jump))) ∧
       W3.heap[L]?=some (.loop { rc .ready none with state:=.busy }) ∧
       (W3.putObj L (.loop (rc (if jump.isNone then .ready else .done) jump))).heap[L]?=some (.loop (rc (if jump.isNone then .ready else .done) jump)) ∧
       (W3.putObj L (.loop (rc (if jump.isNone then .ready else .done) jump))).heap[D]?=some (.deferred (some [])) ∧
       jN W1.heap.size W1.heap.size m W (W3.putObj L (.loop (rc (if jump.isNone then .ready else .done) jump))):=fun jump W3 hk3=>by
     have hl3:=hk3.others L _ (by omega) hl2 rfl;have hd3:=hk3.others D _ (by omega) hd2 rfl;have:=run_endRound (P:=P) jump hl3;rw[hrc]at this ⊢;exact⟨this,by rw[hrc]at hl3;exact hl3,World.putObj_heap_same (lt hl3),(qJ (by omega)).trans hd3,by rw[hrc]at hk2 hk3;exact hk2.trans ((hk3.mono (by omega) (by omega) (by omega)).trans (jN.putObj (by omega) (by omega)))⟩
   rintro e a3 W3 hp;cases e with
   | normal =>
     obtain⟨hk3,hkp3,hi3⟩:=hp;obtain⟨hr,hl3,hl4,hd4,hk4⟩:=fin none W3 hk3;exact⟨_,_,hr,.inl ⟨rfl,⟨hI.putObj _ hi3 (by omega) hl3 rfl,⟨lt hl4,hl4⟩,lt hd4,hd4⟩,hKt (hKt hw2 hkp3) (hKb _ _ _ _ (by omega) hl3 rfl rfl),hk4⟩⟩
   | ret =>
     obtain⟨hk3,hi3⟩:=hp;obtain⟨hr,hl3,hl4,hd4,hk4⟩:=fin (some .ret) W3 hk3;exact⟨_,_,hr,.inr ⟨rfl,⟨.ret,(hIx _).putObj _ hi3 (by omega) hl3 rfl,⟨lt hl4,hl4⟩,lt hd4,hd4⟩,hk4⟩⟩
   | exit id =>
     obtain⟨hk3,hi3⟩:=hp;obtain⟨hr,hl3,hl4,hd4,hk4⟩:=fin (some (.exit id)) W3 hk3;exact⟨_,_,hr,.inr ⟨rfl,⟨.exit id,(hIx _).putObj _ hi3 (by omega) hl3 rfl,⟨lt hl4,hl4⟩,lt hd4,hd4⟩,hk4⟩⟩
   | goto t =>
     obtain⟨hk3,hi3⟩:=hp;obtain⟨hr,hl3,hl4,hd4,hk4⟩:=fin (some (.goto t)) W3 hk3;exact⟨_,_,hr,.inr ⟨rfl,⟨.goto t,(hIx _).putObj _ hi3 (by omega) hl3 rfl,⟨lt hl4,hl4⟩,lt hd4,hd4⟩,hk4⟩⟩
   | panic ch=>exact hp.elim
   | outgrown=>exact hp.elim
 · -- behind the iterator
   rintro e W2 ⟨⟨v,rfl⟩,(⟨hi,⟨_,hl⟩,_,hd⟩|⟨k,hk0,hk,c,hi,⟨_,hl⟩,_,hd⟩)⟩
   · exact⟨none,_,by have:=run_endLoop (P:=P) hl (by rw[hrc];simp);rw[hrc]at this;exact this,hdone _ _ (by omega) (hI'.putObj _ hi (by omega) hl rfl) ((qJ (by omega)).trans hd)⟩
   · exact⟨some c,_,by have:=run_endLoop (P:=P) hl (by rw[hrc];simp);rw[hrc]at this;exact this,hstop _ c k _ (by omega) hk0 hk ((hIx c).putObj _ hi (by omega) hl rfl) ((qJ (by omega)).trans hd)⟩
theorem fB:∀ B k W1 W2,rA B k W1 W2→W1.heap.size≤W2.heap.size∧∀ b o,b<B→W1.heap[b]?=some o→o.isCells=false→W2.heap[b]?=some o:=fun _ _ _ _ h =>
 ⟨h.size,fun b o _ hb _=>(h.block b (Array.getElem?_eq_some_iff.1 hb).1 (by simp)).trans hb⟩
theorem gm {B:Nat}{I:Nat→World→Prop}(h:OwnFrom B I){C k:Nat}{W1 W2:World}(hi:I k W1)(ht:rA C k W1 W2):I k W2:=h k W1 W2 none hi ht (fun r e=>by cases e)
end Go.Proofs.YtaemogcomplhiaaGreatDoor
namespace Go.Proofs.YtaemogcomplhiaaGreatDoor
open Go.RowKit Go.Shelf
attribute [local go_sem] Oper.semAt_some
def yk (lo hi:Nat) (W W':World):Prop:=W.heap.size≤W'.heap.size∧∀ k,lo≤k→k<hi→W'.heap[k]?=W.heap[k]?
theorem yk.trans {lo hi:Nat}{a b c:World}(h:yk lo hi a b)(k:yk lo hi b c):yk lo hi a c:=⟨zK h.1 k.1,fun i h1 h2=>(k.2 i h1 h2).trans (h.2 i h1 h2)⟩
theorem yk.refl (lo hi:Nat)(w:World):yk lo hi w w:=⟨zG _,fun _ _ _=>rfl⟩
theorem oK (Bs lo n₀:Nat)(P:Nat→Prop)(A:Option Addr)(c:Nat)(a:List Nat)(w:World)(hP:∀ b,P b→lo≤b∧b<n₀)(hlo:lo≤Bs)(hBs:Bs<n₀)(hn₀:n₀≤w.heap.size)(hc0:w.cell? ⟨Bs,0,none⟩=some (.slice A a.length c))(hR0:RN w P A c a) :
 zDC Tryz.prog 106 #[.pointer (some ⟨Bs,0,none⟩)] (fun k=>#[.int .i64 ((jn (val 18446744073709551616 a) k).1:Int),.int .u64 ((jn (val 18446744073709551616 a) k).2:Int)]) zEC rA (yk lo n₀) 0 (zu (val 18446744073709551616 a)) true w:=by
 intro n l' J J' Jx W hn hW _ _ _ _ _ hT _ hY h0
 have hc:=(hW.cell (p:=⟨Bs,0,none⟩) (zI hBs hn₀)).trans hc0
 have hR:=hR0.below hW fun b hb=>zI (hP b hb).2 hn₀
 have zW:=hW.size
 clear hc0 hR0
 have hbits:=zF (fun W (h:RN W P A c a)=>(callsIn_wide (n:=n-1)).2 (vK P A c a W h))
 have hbit:=zF (fun i W (h:RN W P A c a) (hi:i≤9223372036854775807)=>(callsIn_wide (n:=n-1)).2 (zCj P A c a i W h hi))
 have hcap:=hR.cap
 have hnb:zu (val 18446744073709551616 a)≤64*a.length:=by
  apply fT;have:=jt hR.2.1;rwa [show(18446744073709551616:Nat)=2^64 by decide,←kr]at this
 have hbv:=fun k=>(show yw (val 18446744073709551616 a) ((k:Nat):Int)=val 18446744073709551616 a/2^k%2 by simp[yw,show ¬(k:Int)<0 by omega])
 have Hbv:=zF hbv
 clear hbv
 generalize hx:val 18446744073709551616 a=x at *
 have hba:=zF (fun k=>(show jn x k=(zu x-1-k,x/2 ^(zu x-1-k)%2) by rfl))
 obtain⟨nb,hnb'⟩:=eV (zu x)
 rw[hnb']at hbits hba hnb hY hT ⊢
 have HT:=zF hT
 have HY:=zF hY
 clear hT hY
 clear hx hnb'
 have hnb1:nb≤64000000:=by have:=hcap.2.2;omega
 clear hnb
 refine callsIn_of_wp Tryz.func106 rfl trivial ?_ rfl
 simp only[Tryz.ntmps106,qX,jZ,kA,Nat.reduceAdd,Nat.reduceSub,Array.replicate_succ,Array.replicate_zero,List.push_toArray,List.append_toArray,wm,uS]
 gi_wp2
 refine⟨trivial,(hbits.out _ hR).mono ?_⟩
 rintro e w' ⟨rfl,rfl⟩
 have Hst:=zF (xL nb)
 gi_wp2
 gi_loopw [3] (fun i wr=>∃(k:Nat) (z:Int),k≤nb∧vn (nb-k) z∧i=.int .i64 z∧J k wr∧yk lo n₀ W wr)
  (fun i _=>(intOf i+1).toNat)
 case atStart=>exact⟨0,_,vr _,Hst.out,rfl,h0,yk.refl _ _ _⟩
 case round =>
  obtain⟨k,z,hk,hz,rfl,hJs,hnx⟩:=hrel;have hcx:=(qH (w':=wr) (a:=⟨Bs,0,none⟩) (hnx.2 Bs hlo hBs)).trans hc;have hRx:=hR.keep (w':=wr) fun p hp=>qH (hnx.2 _ (hP _ hp).1 (hP _ hp).2);rcases hz with⟨hk0,rfl⟩|⟨j,hj,rfl⟩
  · obtain rfl:k=nb:=by omega
    have hjn:=HT.out k _ _ (zG _) hJs (World.grownBy.refl wr none);gi_wp2;go_end0;exact⟨⟨_,rfl⟩,.inl hjn⟩
  · obtain⟨fn,tmps,assign,body,hy,hRo⟩:=HY.out k wr (HT.out k _ _ hk hJs (World.grownBy.refl wr none)) (by omega) (by have:=hnx.1;omega);have hb1:=hba.out k;rw[show nb-1-k=j by omega]at hb1;have hbj:=hbit.out (j:Int) wr hRx (by omega);rw[Hbv.out j]at hbj;rw[hb1]at hy;obtain⟨bb,hbb⟩:=eV (x/2^j%2);rw[hbb]at hy hb1 hbj;dsimp only at hy;have Hbj:=zF hbj;have Hb1:=zF hb1;clear hb1 hbj hbb;gi_wp2;refine⟨trivial,Hbj.out.mono ?_⟩;rintro e w' ⟨rfl,rfl⟩;gi_wp2;refine hRo.mono ?_;rintro e W3 (⟨rfl,hJ3,hk3,_⟩|⟨rfl,hJx3,_⟩)
    · gi_wp2;go_roundw;case rel=>exact⟨k+1,_,by omega,by rw[show nb-(k+1)=j by omega];exact xL j,rfl,hJ3,hnx.trans hk3⟩
      case measure=>simp[intOf]
    · gi_wp2;refine wI (results_none rfl _ _ _) rfl ?_;exact⟨⟨_,rfl⟩,.inr ⟨k+1,by omega,by omega,hJx3⟩⟩
end Go.Proofs.YtaemogcomplhiaaGreatDoor
namespace Go.Proofs.YtaemogcomplhiaaGreatDoor
open Go
namespace Par
def wM (o:Oper):Bool:=match o.op with | .defer _=>false|_=>true
theorem fS {o:Oper}(h:wM o=true)(c:Call):o.op≠.defer c:=fun e=>by simp[wM,e]at h
def aP (Q:Exit→Act→World→Prop):Exit→Act→World→Prop:=fun e a w=>e≠.outgrown∧Q e a w
section
variable {P:Program} {ops:Array Oper} {Q:Exit→Act→World→Prop} {md:Region.Mode} {l n:Nat}
theorem ny:¬ LetsOut (aP Q):=fun⟨_,_,h,_⟩=>h rfl
theorem pG {o:Oper}{a:Act}{w:World}{K:Act→World→Prop}(hd:wM o=true)(hh:o.wp P a w K Q):o.wpIn (Fence.wide.inRound l) n P a w K Q:=by
 refine⟨fun _ _=>trivial,?_⟩;rw[Oper.semAt_eq _ _ _ (fS hd)];unfold Oper.wp at hh;generalize(execOp a.eval o).run P w=r at *;cases r with
 | ok x w' =>
   cases x<;>simp only[Oper.upon,Oper.uponIn]at hh ⊢;case enter f args=>exact⟨(fun h=>by cases h),(callsIn_wide (n:=n-1)).2 hh⟩
   case row r args=>exact⟨(fun h=>by cases h),fun c cs _=>let ⟨v,w'',r,s⟩:=hh c cs;⟨v,w'',r,stepsIn_wide.2 s⟩⟩
   all_goals first|exact hh|exact hh.elim
 | halt x w'=>cases x<;>simp only[Oper.upon,Oper.uponIn]at hh ⊢ <;> exact hh
theorem nX (hd:∀(i:Nat) o,ops[i]?=some o→wM o=true)(hq:¬ LetsOut Q){i:Nat}{K K':Act→World→Prop}(hK:∀ a w,K a w→K' a w){a:Act}{w:World}(hh:wpOp P ops Q i K a w) :
 wpOpIn (Fence.wide.inRound l) n P ops Q i K' a w:=by
 unfold wpOp at hh
 unfold wpOpIn
 split
 · rename_i h;simp only[h]at hh;exact hK _ _ hh
 · rename_i o h;simp only[h]at hh;split
   · rename_i hw;simp only[hw,if_true]at hh;rcases hh with hh|hh
     · exact Oper.wpIn_mono hK (pG (hd _ _ h) hh)
     · exact absurd hh.2 hq
   · rename_i hw;simp only[hw]at hh;exact⟨fun _ _=>trivial,hK _ _ hh⟩
theorem ap (hd:∀(i:Nat) o,ops[i]?=some o→wM o=true)(hq:¬ LetsOut Q):∀(fuel:Nat) (listed:Array Bool) (a:Act) (w:World),wpAny P md ops Q fuel listed a w→wpAnyIn (Fence.wide.inRound l) n P md ops Q fuel listed a w
 | 0,_,_,_,h=>h
 | fuel+1,_,_,_,h=>⟨h.1,fun i hi=>nX hd hq (fun a' w' h'=>ap hd hq fuel _ a' w' h') (h.2 i hi)⟩
theorem aN (hd:∀(i:Nat) o,ops[i]?=some o→wM o=true)(hq:¬ LetsOut Q):∀(k:List Nat) (a:Act) (w:World),wpOps P ops Q k a w→wpOpsIn (Fence.wide.inRound l) n P ops Q k a w
 | [],_,_,h=>h
 | i :: k, a, w, h => by
   rw[wpOpsIn_cons];refine nX (K:=wpOps P ops Q k) hd hq (fun a' w' h'=>aN hd hq k a' w' h') ?_;unfold wpOps at h;unfold wpOp;exact h
theorem dZ {ol:List Oper}(h:ol.all wM=true)(i:Nat)(o:Oper)(ho:ol.toArray[i]?=some o):wM o=true:=by
 rw[zR]at ho;exact List.all_eq_true.1 h o (List.mem_of_getElem? ho)
theorem oM {c:Code}{a:Act}{w:World}(h:c.wpIn (Fence.wide.inRound l) n P (aP Q) a w):c.wpIn (Fence.wide.inRound l) n P Q a w:=wpIn_mono h fun _ _ _ h=>h.2
theorem bh {ol:List Oper}{id:Nat}{a:Act}{w:World}(hm:P.follows .mixedOrders=true)(m:Nat)(L AL:List Nat)(R:Nat→(Nat→Value)→World→Prop)(hok:ok ol.toArray (fun i=>L.getD i 0) m=true)(pl:List (Nat×Nat))(hpl:sel ol.toArray (fun _=>true) (List.range m)=pl)(hd:ol.all wM=true)
 (hstep:qT (jP P ol (aP Q) Ext m L AL R a w) (Fin P ol (aP Q) Ext m L AL R pl a w) 0 m ol):(Code.region id ol.toArray true).wpIn (Fence.wide.inRound l) n P Q a w :=
 oM (wpIn_region_any hm (ap (dZ hd) ny _ _ _ _ (cH zX (fun _ _ _=>jb) (fun _ _=>Ext.bsize) (Ext.drew w) m L AL R hok pl hpl hstep)))
theorem wH {ol:List Oper}{id:Nat}{a:Act}{w:World}(m:Nat)(L AL:List Nat)(R:Nat→(Nat→Value)→World→Prop)(hok:ok ol.toArray (fun i=>L.getD i 0) m=true)(pl:List (Nat×Nat))(hpl:sel ol.toArray (fun _=>true) (List.range m)=pl)(hd:ol.all wM=true)
 (hstep:qT (jP P ol (aP Q) Ext m L AL R a w) (Fin P ol (aP Q) Ext m L AL R pl a w) 0 m ol):(Code.region id ol.toArray false).wpIn (Fence.wide.inRound l) n P Q a w:=by
 refine oM (wpIn_region (aN (dZ hd) ny _ _ _ ?_))
 have h:=cH zX (fun _ _ _=>jb) (fun _ _=>Ext.bsize) (zX w) m L AL R hok pl hpl hstep
 rw[aG]at h
 rw[List.range_eq_range']
 exact oQ (ok.form hok) _ 0 a w (by omega) h
end
end Par
end Go.Proofs.YtaemogcomplhiaaGreatDoor
