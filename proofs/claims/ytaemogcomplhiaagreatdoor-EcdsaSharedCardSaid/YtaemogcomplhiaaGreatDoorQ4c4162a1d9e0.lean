/- Laws that the proof rests on. -/
import Derived.Test.YtaemogcomplhiaaGreatDoorQ0939006e0563
set_option maxRecDepth 100000
set_option maxHeartbeats 16000000
namespace Go.Proofs.YtaemogcomplhiaaGreatDoor
open Go.RowKit
def onB (M bb x y:Nat):Bool:=decide (x<M)&&decide (y<M)&&decide (y*y%M=((x*x%M*x%M+M-3*x%M)%M+bb)%M)
theorem zDg {P0:Nat→Prop}{k g size n inv M bb:Nat}{pl nl bl xl yl ml ol rl tl fl:List Nat}{Ap An Ab Ax Ay:Option Addr}{cp cn cb cx cy:Nat}(Pa Pb:Nat→Prop)(A A':Option Addr)(c c':Nat)(a b:List Nat)(inf:Bool)(w:World)
 (hk:Num w P0 k g size n inv M bb pl nl bl xl yl ml ol rl tl fl Ap An Ab Ax Ay cp cn cb cx cy) (hP0:∀ b,P0 b→b<w.heap.size) (h:RN w Pa A c a) (h':RN w Pb A' c' b) (hPa:∀ b,Pa b→b<w.heap.size) (hPb:∀ b,Pb b→b<w.heap.size) (hM3:3<M) (_hbM:bb<M) :
 Calls Tryz.prog 72 #[.pointer (some ⟨k,0,none⟩),.agg #[.bool inf,.slice A a.length c,.slice A' b.length c']] w fun e w'=>e=.returned (.bool (inf||onB M bb (val 18446744073709551616 a) (val 18446744073709551616 b)))∧Below w.heap.size w w':=by
 cases inf
 case true =>
  go_enter Tryz.func72,Tryz.ntmps72;go_wp2;go_ret;exact⟨rfl,(zl _ w).alloc (zG _) _⟩
 case false =>
  rw[Bool.false_or];have hkl:=qr hk.blk;have hgl:=hk.fr.ff.fld.lt;obtain⟨W0,hW0⟩:=eW (w.alloc (.cells #[.bool false,.slice A a.length c,.slice A' b.length c'] 33));have hB0:Ext w W0:=by rw[hW0];exact zO _ _
  have hz0:W0.heap.size=w.heap.size+1:=by rw[hW0];simp
  obtain⟨q,hq⟩:=eV w.heap.size;have hbx:W0.heap[q]?=some (.cells #[.bool false,.slice A a.length c,.slice A' b.length c'] 33 (0,0)):=by rw[hW0,←hq];exact zS w _
  have b0:W0.cell? ⟨q,0,none⟩=some (.bool false):=zQ hbx 0;have b1:W0.cell? ⟨q,1,none⟩=some (.slice A a.length c):=zQ hbx 1;have b2:W0.cell? ⟨q,2,none⟩=some (.slice A' b.length c'):=zQ hbx 2;have hn:=zF (hk.ext hP0 hB0);have hP0':∀ b,P0 b→b<W0.heap.size:=fun b hb=>by have:=hP0 b hb;omega
  have hPa':∀ b,Pa b→b<W0.heap.size:=fun b hb=>by have:=hPa b hb;omega
  have hPb':∀ b,Pb b→b<W0.heap.size:=fun b hb=>by have:=hPb b hb;omega
  have ha:=h.below hB0 hPa;have hb:=h'.below hB0 hPb;have Hqs:=zF (show q≤W0.heap.size by omega);have k1:=hn.out.c_p;have k6:=hn.out.c_f;have hpv:=zF hk.pv;obtain⟨x,hx⟩:=eV (val 18446744073709551616 a);obtain⟨y,hy⟩:=eV (val 18446744073709551616 b);rw[hx,hy];obtain⟨r,hr⟩:=eV (onB M bb x y);rw[hr];have Hr:=zF hr;have Hx:=zF hx;have Hy:=zF hy;have HB0:=zF hB0;have Hz0:=zF hz0;clear hx hy hz0 hB0 hk hr;go_enter Tryz.func72,Tryz.ntmps72;go_upto_region 3 with fail;rw[←hW0];have HW0:=zF hW0;have Hq:=zF hq;clear hW0 hq;by_cases hxM:x<M
  · by_cases hyM:y<M
    · have HxM:=wO hxM;have HyM:=wO hyM;have tx:=zF HxM;have ty:=zF HyM;clear HxM HyM
      refine zh (by kernel_rfl) 18 [0,1,0,4,12,28,63,127,255,511,1023,511,2559,6655,14847,32767,65535,131071] [] (fun j f X=>match j with
       | 0=>f 0=.pointer (some ⟨q,1,none⟩)
       | 1=>f 1=.slice A a.length c
       | 2=>f 2=.pointer (some ⟨k,0,none⟩)
       | 3=>f 3=.pointer (some ⟨k,0,none⟩)
       | 4=>f 4=.pointer (some ⟨k,1,none⟩)
       | 5=>f 5=.slice Ap pl.length cp
       | 6=>f 6=.int .i64 (-1)
       | 7=>f 7=.bool false
       | 8=>f 8=.bool false
       | 9=>f 9=.pointer (some ⟨q,2,none⟩)
       | 10=>f 10=.slice A' b.length c'
       | 11=>f 11=.pointer (some ⟨k,0,none⟩)
       | 12=>f 12=.pointer (some ⟨k,0,none⟩)
       | 13=>f 13=.pointer (some ⟨k,1,none⟩)
       | 14=>f 14=.slice Ap pl.length cp
       | 15=>f 15=.int .i64 (-1)
       | 16=>f 16=.bool false
       | 17=>f 17=.bool false
       | _=>True) (by kernel_rfl) [(17,0),(18,1),(19,2),(20,3),(21,4),(22,5),(23,6),(24,7),(25,8),(26,9),(27,10),(28,11),(29,12),(30,13),(31,14),(32,15),(33,16),(34,17)] (by kernel_rfl) ?_
      refine zJ 1 17 ?_;refine qK 2 16 0 b1 ?_;refine zJ 3 15 ?_;refine qN 4 14 2 ?_;refine qN 5 13 3 ?_;refine qK 6 12 4 k1 ?_;refine qI 7 11 (fun f=>#[f 1,f 5]) (F':=58) (fun f X hX hR=>?_) ?_
      · have e1:f 1=_:=hR.out 1 rfl;have e5:f 5=_:=hR.out 5 rfl;simp only[e1,e5];refine(xH Pa P0 A Ap c cp a pl X (ha.below hX hPa') (hn.out.p.below hX hP0')).mono ?_;rintro e w2 ⟨rfl,nq,rfl⟩;rw[Hx.out,hpv.out,tx.out];exact⟨_,rfl,(kW _ _),fun _ _=>rfl⟩
      refine zt 8 10 [(17,0),(18,1),(19,2),(20,3),(21,4),(22,5),(23,6)] (fun f X hX hR K hK=>?_) ?_
      · have e6:f 6=_:=hR.out 6 rfl;simp only[yZ,e6];refine⟨?_⟩;go_simp;exact qd hK (s:=by simp only[yZ,e6])
      refine qN 9 9 7 ?_;refine qN 10 8 8 ?_;refine zt 11 7 [(17,0),(18,1),(19,2),(20,3),(21,4),(22,5),(23,6),(24,7),(25,8),(26,9),(28,11),(29,12),(30,13),(31,14)] (fun f X hX hR K hK=>?_) ?_
      · have e8:f 8=_:=hR.out 8 rfl;have e9:f 9=_:=hR.out 9 rfl;have x0:=hX.cell b2;simp only[yZ,e8,e9];refine⟨zU (by kernel_rfl) ?_⟩;go_simp;exact qd hK (s:=by simp only[yZ,e8,e9])
      refine qN 12 6 8 ?_;refine jm 13 5 8 11 ?_;refine jm 14 4 8 12 ?_;refine zt 15 3 [(17,0),(18,1),(19,2),(20,3),(21,4),(22,5),(23,6),(24,7),(25,8),(26,9),(27,10),(28,11),(29,12),(30,13)] (fun f X hX hR K hK=>?_) ?_
      · have e8:f 8=_:=hR.out 8 rfl;have e13:f 13=_:=hR.out 13 rfl;have x0:=hX.cell k1;simp only[yZ,e8,e13];refine⟨zU (by kernel_rfl) ?_⟩;go_simp;exact qd hK (s:=by simp only[yZ,e8,e13])
      refine Par.c1 16 2 8 (fun f=>#[f 10,f 14]) (F':=58) (fun f X hX hR=>?_) ?_
      · have e10:f 10=_:=hR.out 10 rfl;have e14:f 14=_:=hR.out 14 rfl;simp only[e10,e14];refine(xH Pb P0 A' Ap c' cp b pl X (hb.below hX hPb') (hn.out.p.below hX hP0')).mono ?_;rintro e w2 ⟨rfl,nq,rfl⟩;rw[Hy.out,hpv.out,ty.out];exact⟨_,rfl,(kW _ _),fun _ _=>rfl⟩
      refine zt 17 1 [(17,0),(18,1),(19,2),(20,3),(21,4),(22,5),(23,6),(24,7),(25,8),(26,9),(27,10),(28,11),(29,12),(30,13),(31,14),(32,15)] (fun f X hX hR K hK=>?_) ?_
      · have e8:f 8=_:=hR.out 8 rfl;have e15:f 15=_:=hR.out 15 rfl;simp only[yZ,e8,e15];refine⟨zU (by kernel_rfl) ?_⟩;go_simp;exact qd hK (s:=by simp only[yZ,e8,e15])
      refine jm 18 0 8 16 ?_;refine yF ⟨fun f X hX hR hal hap=>?_⟩;have e17:f 17=_:=hR 17 (by decide);simp only[yZ,e17];clear hR hal hap e17;refine zH ?_;have hE:Ext W0 X:=hX;clear hX;have k6':=hE.cell k6;go_upto_region 6 with fail;clear k6';rename World=>X3;have d1:=hE.cell b1;have d2:=hE.cell b2
      refine zh (by kernel_rfl) 12 [0,0,2,6,15,0,0,64,223,511,0,0,4095,8191] [10,11] (fun j f X=>match j with
       | 0=>f 0=.pointer (some ⟨g,0,none⟩)
       | 1=>f 1=.pointer (some ⟨q,1,none⟩)
       | 2=>f 2=.slice A a.length c
       | 3=>∃ A1 c1,f 3=.slice A1 (digs 18446744073709551616 x).length c1∧OB X q A1 c1 (digs 18446744073709551616 x)
       | 4=>∃ o,f 4=EV o∧FE M n o x
       | 5=>f 5=.pointer (some ⟨g,0,none⟩)
       | 6=>f 6=.pointer (some ⟨q,2,none⟩)
       | 7=>f 7=.slice A' b.length c'
       | 8=>∃ A1 c1,f 8=.slice A1 (digs 18446744073709551616 y).length c1∧OB X q A1 c1 (digs 18446744073709551616 y)
       | 9=>∃ o,f 9=EV o∧FE M n o y
       | 10=>∃ b,f 10=.pointer (some ⟨b,0,none⟩)∧X3.heap.size≤b∧X.heap[b]?=some (.cells #[.int .u64 0,.int .u64 0,.int .u64 0,.int .u64 0,.int .u64 0,.int .u64 0] 109 (0,0))
       | 11=>∃ b,f 11=.pointer (some ⟨b,0,none⟩)∧X3.heap.size≤b∧X.heap[b]?=some (.cells #[.int .u64 0,.int .u64 0,.int .u64 0,.int .u64 0,.int .u64 0,.int .u64 0] 109 (0,0))
       | _=>True) (by kernel_rfl) [(39,0),(40,1),(41,2),(42,3),(43,4),(44,5),(45,6),(46,7),(47,8),(48,9),(6,10),(7,11)] (by kernel_rfl) ?_
      refine zJ 1 11 ?_;refine zJ 2 10 ?_;refine qK 3 9 1 d1 ?_;refine qI 4 8 (fun f=>#[f 2]) (F':=100) (fun f X hX hR=>?_) ?_
      · have e2:f 2=_:=hR.out 2 rfl;simp only[e2];refine(yW Pa A c a X (ha.below (hE.trans hX) hPa')).mono ?_;rw[Hx.out];rintro e w2 ⟨A1,c1,rfl,hO,hB⟩;exact⟨_,rfl,hB,fun Y hY=>⟨A1,c1,rfl,(hO.mono (zK Hqs.out (hE.trans hX).bsize)).below hY (zG _)⟩⟩
      refine qI 5 7 (fun f=>#[f 0,f 3]) (F':=92) (fun f X hX hR=>?_) ?_
      · have e0:f 0=_:=hR.out 0 rfl;obtain⟨A3,c3,(e3:f 3=_),o3⟩:=hR.out 3 rfl;simp only[e0,e3];refine(yn _ A3 c3 _ X (hn.out.ext hP0' (hE.trans hX)).fr o3.rn (fun b hb=>hb.2) (hn.out.six hxM) (by rw[zd (by omega)];exact hxM)).mono ?_;rintro e w2 ⟨o,rfl,ho,hB⟩;rw[zd (by omega)]at ho;exact⟨(EV o),rfl,hB,fun Y hY=>⟨o,rfl,ho⟩⟩
      refine zJ 6 6 ?_;refine zJ 7 5 ?_;refine qK 8 4 6 d2 ?_;refine qI 9 3 (fun f=>#[f 7]) (F':=100) (fun f X hX hR=>?_) ?_
      · have e7:f 7=_:=hR.out 7 rfl;simp only[e7];refine(yW Pb A' c' b X (hb.below (hE.trans hX) hPb')).mono ?_;rw[Hy.out];rintro e w2 ⟨A1,c1,rfl,hO,hB⟩;exact⟨_,rfl,hB,fun Y hY=>⟨A1,c1,rfl,(hO.mono (zK Hqs.out (hE.trans hX).bsize)).below hY (zG _)⟩⟩
      refine qI 10 2 (fun f=>#[f 5,f 8]) (F':=92) (fun f X hX hR=>?_) ?_
      · have e5:f 5=_:=hR.out 5 rfl;obtain⟨A8,c8,(e8:f 8=_),o8⟩:=hR.out 8 rfl;simp only[e5,e8];refine(yn _ A8 c8 _ X (hn.out.ext hP0' (hE.trans hX)).fr o8.rn (fun b hb=>hb.2) (hn.out.six hyM) (by rw[zd (by omega)];exact hyM)).mono ?_;rintro e w2 ⟨o,rfl,ho,hB⟩;rw[zd (by omega)]at ho;exact⟨(EV o),rfl,hB,fun Y hY=>⟨o,rfl,ho⟩⟩
      refine kK 11 1 ?_;refine kK 12 0 ?_;refine yF ⟨fun f X hX hR hal hap=>?_⟩;obtain⟨A3,c3,(e3:f 3=_),o3⟩:=hR 3 (by decide);obtain⟨o4,(e4:f 4=_),h4⟩:=hR 4 (by decide);obtain⟨A8,c8,(e8:f 8=_),o8⟩:=hR 8 (by decide);obtain⟨o9,(e9:f 9=_),h9⟩:=hR 9 (by decide);obtain⟨b10,(e10:f 10=_),l10,h10⟩:=hR 10 (by decide);obtain⟨b11,(e11:f 11=_),l11,h11⟩:=hR 11 (by decide);have n11_10:b11≠b10:=fun e=>hap 11 10 (by decide) (by decide) rfl rfl (by decide) (by rw[e11,e10,e]);simp only[yZ,e3,e4,e8,e9,e10,e11];clear hR hal hap e3 e4 e8 e9 e10 e11;refine zP (fun K hK=>⟨zU (by kernel_rfl) (qe (.tmp 6) (.tmp 43) rfl rfl rfl rfl h10 rfl h4.elt.six (fun Y1 hl1=>hK.out _ _ ?_))⟩);refine zP (fun K hK=>⟨zU (by kernel_rfl) (qe (.tmp 7) (.tmp 48) rfl rfl rfl rfl (hl1.other n11_10 h11) rfl h9.elt.six (fun Y2 hl2=>hK.out _ _ ?_))⟩);refine zH ?_;have v1:VE Y2 M n b10 x:=hl2.ve (xO n11_10) (hl1.mk' h4);have v2:VE Y2 M n b11 y:=hl2.mk' h9;have hE7:Ext W0 Y2:=hl2.ext (hl1.ext (hE.trans hX) (zK hE.bsize l10)) (zK hE.bsize l11);clear hl1 hl2 o3 h4 o8 h9 h10 h11 l10 l11 hX hE d1 d2;have hE:=hE7;clear hE7;go_upto_region 7 with fail
      refine zh (by kernel_rfl) 20 [0,0,0,0,0,0,56,0,128,384,896,2044,0,8190,0,16384,49152,114688,262143,0,1048575] [19] (fun j f X=>match j with
       | 0=>f 0=.pointer (some ⟨g,0,none⟩)
       | 1=>f 1=.pointer (some ⟨g,0,none⟩)
       | 2=>f 2=.pointer (some ⟨g,0,none⟩)
       | 3=>f 3=.pointer (some ⟨g,0,none⟩)
       | 4=>∃ o,f 4=EV o∧FE M n o x
       | 5=>∃ o,f 5=EV o∧FE M n o x
       | 6=>∃ o,f 6=EV o∧FE M n o (x*x)
       | 7=>f 7=.pointer (some ⟨k,0,none⟩)
       | 8=>f 8=.pointer (some ⟨k,0,none⟩)
       | 9=>f 9=.pointer (some ⟨k,7,none⟩)
       | 10=>f 10=EV tl
       | 11=>∃ o,f 11=EV o∧FE M n o (x*x+M-3)
       | 12=>∃ o,f 12=EV o∧FE M n o x
       | 13=>∃ o,f 13=EV o∧FE M n o ((x*x+M-3)*x)
       | 14=>f 14=.pointer (some ⟨k,0,none⟩)
       | 15=>f 15=.pointer (some ⟨k,0,none⟩)
       | 16=>f 16=.pointer (some ⟨k,13,none⟩)
       | 17=>f 17=EV fl
       | 18=>∃ o,f 18=EV o∧FE M n o ((x*x+M-3)*x+bb)
       | 19=>∃ b,f 19=.pointer (some ⟨b,0,none⟩)∧Y2.heap.size≤b∧X.heap[b]?=some (.cells #[.int .u64 0,.int .u64 0,.int .u64 0,.int .u64 0,.int .u64 0,.int .u64 0] 109 (0,0))
       | _=>True) (by kernel_rfl) [(49,0),(50,1),(51,2),(52,3),(53,4),(54,5),(55,6),(56,7),(57,8),(58,9),(59,10),(60,11),(61,12),(62,13),(63,14),(64,15),(65,16),(66,17),(67,18),(8,19)] (by kernel_rfl) ?_
      refine zJ 1 19 ?_;refine zJ 2 18 ?_;refine zJ 3 17 ?_;refine zJ 4 16 ?_;refine lX 5 15 (fun X hX=>let ⟨o,hbl,ho⟩:=v1.ext hX;⟨o,hbl.range,ho⟩) ?_;refine lX 6 14 (fun X hX=>let ⟨o,hbl,ho⟩:=v1.ext hX;⟨o,hbl.range,ho⟩) ?_;refine qI 7 13 (fun f=>#[f 3,f 4,f 5]) (F':=102) (fun f X hX hR=>?_) ?_
      · have e3:f 3=_:=hR.out 3 rfl;obtain⟨o4,(e4:f 4=_),h4⟩:=hR.out 4 rfl;obtain⟨o5,(e5:f 5=_),h5⟩:=hR.out 5 rfl;simp only[e3,e4,e5];refine(uM X (hn.out.ext hP0' (hE.trans hX)).fr.ff h4 h5).mono ?_;rintro e w2 ⟨o,rfl,ho,hB⟩;exact⟨(EV o),rfl,hB,fun Y hY=>⟨o,rfl,ho⟩⟩
      refine zJ 8 12 ?_;refine qN 9 11 7 ?_;refine qN 10 10 8 ?_;refine zt 11 9 [(49,0),(50,1),(51,2),(52,3),(53,4),(54,5),(55,6),(56,7),(57,8),(58,9),(61,12),(63,14),(64,15),(65,16),(66,17),(8,19)] (fun f X hX hR K hK=>?_) ?_
      · have e9:f 9=_:=hR.out 9 rfl;simp only[yZ,e9];refine⟨zU (by kernel_rfl) (kg (.tmp 58) rfl rfl (hn.out.ext hP0' (hE.trans hX)).r_three hn.out.three.elt.six ?_)⟩;exact hK.out _ (EV tl) _ (by simp only[yZ,e9]) (zX _) trivial (fun _ _=>rfl)
      refine qI 12 8 (fun f=>#[f 2,f 6,f 10]) (F':=103) (fun f X hX hR=>?_) ?_
      · have e2:f 2=_:=hR.out 2 rfl;obtain⟨o6,(e6:f 6=_),h6⟩:=hR.out 6 rfl;have e10:f 10=_:=hR.out 10 rfl;simp only[e2,e6,e10];refine(bO X (hn.out.ext hP0' (hE.trans hX)).fr.ff h6 hn.out.three (by omega)).mono ?_;rintro e w2 ⟨o,rfl,ho,hB⟩;exact⟨(EV o),rfl,hB,fun Y hY=>⟨o,rfl,ho⟩⟩
      refine lX 13 7 (fun X hX=>let ⟨o,hbl,ho⟩:=v1.ext hX;⟨o,hbl.range,ho⟩) ?_;refine qI 14 6 (fun f=>#[f 1,f 11,f 12]) (F':=102) (fun f X hX hR=>?_) ?_
      · have e1:f 1=_:=hR.out 1 rfl;obtain⟨o11,(e11:f 11=_),h11⟩:=hR.out 11 rfl;obtain⟨o12,(e12:f 12=_),h12⟩:=hR.out 12 rfl;simp only[e1,e11,e12];refine(uM X (hn.out.ext hP0' (hE.trans hX)).fr.ff h11 h12).mono ?_;rintro e w2 ⟨o,rfl,ho,hB⟩;exact⟨(EV o),rfl,hB,fun Y hY=>⟨o,rfl,ho⟩⟩
      refine zJ 15 5 ?_;refine qN 16 4 14 ?_;refine qN 17 3 15 ?_;refine zt 18 2 [(49,0),(50,1),(51,2),(52,3),(53,4),(54,5),(55,6),(56,7),(57,8),(58,9),(59,10),(60,11),(61,12),(62,13),(63,14),(64,15),(65,16),(8,19)] (fun f X hX hR K hK=>?_) ?_
      · have e16:f 16=_:=hR.out 16 rfl;simp only[yZ,e16];refine⟨zU (by kernel_rfl) (kg (.tmp 65) rfl rfl (hn.out.ext hP0' (hE.trans hX)).r_fb hn.out.fb.elt.six ?_)⟩;exact hK.out _ (EV fl) _ (by simp only[yZ,e16]) (zX _) trivial (fun _ _=>rfl)
      refine qI 19 1 (fun f=>#[f 0,f 13,f 17]) (F':=101) (fun f X hX hR=>?_) ?_
      · have e0:f 0=_:=hR.out 0 rfl;obtain⟨o13,(e13:f 13=_),h13⟩:=hR.out 13 rfl;have e17:f 17=_:=hR.out 17 rfl;simp only[e0,e13,e17];refine(oJ X (hn.out.ext hP0' (hE.trans hX)).fr.ff h13 hn.out.fb).mono ?_;rintro e w2 ⟨o,rfl,ho,hB⟩;exact⟨(EV o),rfl,hB,fun Y hY=>⟨o,rfl,ho⟩⟩
      refine kK 20 0 ?_;refine yF ⟨fun f X hX hR hal hap=>?_⟩;obtain⟨o4,(e4:f 4=_),h4⟩:=hR 4 (by decide);obtain⟨o5,(e5:f 5=_),h5⟩:=hR 5 (by decide);obtain⟨o6,(e6:f 6=_),h6⟩:=hR 6 (by decide);obtain⟨o11,(e11:f 11=_),h11⟩:=hR 11 (by decide);obtain⟨o12,(e12:f 12=_),h12⟩:=hR 12 (by decide);obtain⟨o13,(e13:f 13=_),h13⟩:=hR 13 (by decide);obtain⟨o18,(e18:f 18=_),h18⟩:=hR 18 (by decide);obtain⟨b19,(e19:f 19=_),l19,h19⟩:=hR 19 (by decide);simp only[yZ,e4,e5,e6,e11,e12,e13,e18,e19];clear hR hal hap e4 e5 e6 e11 e12 e13 e18 e19;refine zP (fun K hK=>⟨zU (by kernel_rfl) (qe (.tmp 8) (.tmp 67) rfl rfl rfl rfl h19 rfl h18.elt.six (fun Y3 hl1=>hK.out _ _ ?_))⟩);refine zH ?_;have v3:VE Y3 M n b19 ((x*x+M-3)*x+bb):=hl1.mk' h18;have nb:b11≠b19:=by have:=(let ⟨_,h,_⟩:=v2;h.lt:b11<Y2.heap.size);omega
      have v4:VE Y3 M n b11 y:=hl1.ve nb (v2.ext hX);have hE8:Ext W0 Y3:=hl1.ext (hE.trans hX) (zK hE.bsize l19);clear hl1 h4 h5 h6 h11 h12 h13 h18 h19 l19 hX hE v1 v2;have hE:=hE8;clear hE8;go_upto_region 8 with fail
      refine zh (by kernel_rfl) 9 [0,0,0,0,14,0,63,127,255] [] (fun j f X=>match j with
       | 0=>f 0=.pointer (some ⟨g,0,none⟩)
       | 1=>f 1=.pointer (some ⟨g,0,none⟩)
       | 2=>∃ o,f 2=EV o∧FE M n o y
       | 3=>∃ o,f 3=EV o∧FE M n o y
       | 4=>∃ o,f 4=EV o∧FE M n o (y*y)
       | 5=>∃ o,f 5=EV o∧FE M n o ((x*x+M-3)*x+bb)
       | 6=>∃ o,f 6=EV o∧FE M n o (y*y+M-((x*x+M-3)*x+bb)%M)
       | 7=>f 7=.bool r
       | 8=>f 8=.bool r
       | _=>True) (by kernel_rfl) [(68,0),(69,1),(70,2),(71,3),(72,4),(73,5),(74,6),(75,7),(4,8)] (by kernel_rfl) ?_
      refine zJ 1 8 ?_;refine zJ 2 7 ?_;refine lX 3 6 (fun X hX=>let ⟨o,hbl,ho⟩:=v4.ext hX;⟨o,hbl.range,ho⟩) ?_;refine lX 4 5 (fun X hX=>let ⟨o,hbl,ho⟩:=v4.ext hX;⟨o,hbl.range,ho⟩) ?_;refine qI 5 4 (fun f=>#[f 1,f 2,f 3]) (F':=102) (fun f X hX hR=>?_) ?_
      · have e1:f 1=_:=hR.out 1 rfl;obtain⟨o2,(e2:f 2=_),h2⟩:=hR.out 2 rfl;obtain⟨o3,(e3:f 3=_),h3⟩:=hR.out 3 rfl;simp only[e1,e2,e3];refine(uM X (hn.out.ext hP0' (hE.trans hX)).fr.ff h2 h3).mono ?_;rintro e w2 ⟨o,rfl,ho,hB⟩;exact⟨(EV o),rfl,hB,fun Y hY=>⟨o,rfl,ho⟩⟩
      refine lX 6 3 (fun X hX=>let ⟨o,hbl,ho⟩:=v3.ext hX;⟨o,hbl.range,ho⟩) ?_;refine qI 7 2 (fun f=>#[f 0,f 4,f 5]) (F':=103) (fun f X hX hR=>?_) ?_
      · have e0:f 0=_:=hR.out 0 rfl;obtain⟨o4,(e4:f 4=_),h4⟩:=hR.out 4 rfl;obtain⟨o5,(e5:f 5=_),h5⟩:=hR.out 5 rfl;simp only[e0,e4,e5];refine(bO X (hn.out.ext hP0' (hE.trans hX)).fr.ff h4 h5.mod (jV (qL _ (by omega)))).mono ?_;rintro e w2 ⟨o,rfl,ho,hB⟩;exact⟨(EV o),rfl,hB,fun Y hY=>⟨o,rfl,ho⟩⟩
      refine qI 8 1 (fun f=>#[f 6]) (F':=104) (fun f X hX hR=>?_) ?_
      · obtain⟨o6,(e6:f 6=_),h6⟩:=hR.out 6 rfl;simp only[e6];refine(vF o6 X h6.elt.six).mono ?_;rintro e w2 ⟨rfl,hB⟩;have hd:decide (o6=[0,0,0,0,0,0])=r:=by rw[←Hr.out,onB,qZ hxM,qZ hyM,Bool.true_and,Bool.true_and];exact decide_eq_decide.2 ((h6.zero_iff (hn.out.ext hP0' (hE.trans hX)).fr.ff).trans (zBM hM3))
        rw[hd];exact⟨_,rfl,hB,fun _ _=>rfl⟩
      refine qN 9 0 7 ?_;refine yF ⟨fun f X hX hR hal hap=>?_⟩;obtain⟨o2,(e2:f 2=_),h2⟩:=hR 2 (by decide);obtain⟨o3,(e3:f 3=_),h3⟩:=hR 3 (by decide);obtain⟨o4,(e4:f 4=_),h4⟩:=hR 4 (by decide);obtain⟨o5,(e5:f 5=_),h5⟩:=hR 5 (by decide);obtain⟨o6,(e6:f 6=_),h6⟩:=hR 6 (by decide);have e8:f 8=_:=hR 8 (by decide);simp only[yZ,e2,e3,e4,e5,e6,e8];clear hR hal hap e2 e3 e4 e5 e6 e8;refine zH ?_;go_wp2;go_ret;exact⟨rfl,HB0.out.trans (hE.trans hX)⟩
    · have tx:=zF (wO hxM);obtain⟨v,hv⟩:=eV (vJ y M);have hv0:0≤v:=by rw[←hv];rcases ku y M with h|h|h<;>omega
      have Hv:=zF hv;have HH:=zF hyM;clear hv hyM
      refine zh (by kernel_rfl) 18 [0,1,0,4,12,28,63,127,255,511,1023,511,2559,6655,14847,32767,65535,131071] [] (fun j f X=>match j with
       | 0=>f 0=.pointer (some ⟨q,1,none⟩)
       | 1=>f 1=.slice A a.length c
       | 2=>f 2=.pointer (some ⟨k,0,none⟩)
       | 3=>f 3=.pointer (some ⟨k,0,none⟩)
       | 4=>f 4=.pointer (some ⟨k,1,none⟩)
       | 5=>f 5=.slice Ap pl.length cp
       | 6=>f 6=.int .i64 (-1)
       | 7=>f 7=.bool false
       | 8=>f 8=.bool false
       | 9=>f 9=.pointer (some ⟨q,2,none⟩)
       | 10=>f 10=.slice A' b.length c'
       | 11=>f 11=.pointer (some ⟨k,0,none⟩)
       | 12=>f 12=.pointer (some ⟨k,0,none⟩)
       | 13=>f 13=.pointer (some ⟨k,1,none⟩)
       | 14=>f 14=.slice Ap pl.length cp
       | 15=>f 15=.int .i64 v
       | 16=>f 16=.bool true
       | 17=>f 17=.bool true
       | _=>True) (by kernel_rfl) [(17,0),(18,1),(19,2),(20,3),(21,4),(22,5),(23,6),(24,7),(25,8),(26,9),(27,10),(28,11),(29,12),(30,13),(31,14),(32,15),(33,16),(34,17)] (by kernel_rfl) ?_
      refine zJ 1 17 ?_;refine qK 2 16 0 b1 ?_;refine zJ 3 15 ?_;refine qN 4 14 2 ?_;refine qN 5 13 3 ?_;refine qK 6 12 4 k1 ?_;refine qI 7 11 (fun f=>#[f 1,f 5]) (F':=58) (fun f X hX hR=>?_) ?_
      · have e1:f 1=_:=hR.out 1 rfl;have e5:f 5=_:=hR.out 5 rfl;simp only[e1,e5];refine(xH Pa P0 A Ap c cp a pl X (ha.below hX hPa') (hn.out.p.below hX hP0')).mono ?_;rintro e w2 ⟨rfl,nq,rfl⟩;rw[Hx.out,hpv.out,tx.out];exact⟨_,rfl,(kW _ _),fun _ _=>rfl⟩
      refine zt 8 10 [(17,0),(18,1),(19,2),(20,3),(21,4),(22,5),(23,6)] (fun f X hX hR K hK=>?_) ?_
      · have e6:f 6=_:=hR.out 6 rfl;simp only[yZ,e6];refine⟨?_⟩;go_simp;exact qd hK (s:=by simp only[yZ,e6])
      refine qN 9 9 7 ?_;refine qN 10 8 8 ?_;refine zt 11 7 [(17,0),(18,1),(19,2),(20,3),(21,4),(22,5),(23,6),(24,7),(25,8),(26,9),(28,11),(29,12),(30,13),(31,14)] (fun f X hX hR K hK=>?_) ?_
      · have e8:f 8=_:=hR.out 8 rfl;have e9:f 9=_:=hR.out 9 rfl;have x0:=hX.cell b2;simp only[yZ,e8,e9];refine⟨zU (by kernel_rfl) ?_⟩;go_simp;exact qd hK (s:=by simp only[yZ,e8,e9])
      refine qN 12 6 8 ?_;refine jm 13 5 8 11 ?_;refine jm 14 4 8 12 ?_;refine zt 15 3 [(17,0),(18,1),(19,2),(20,3),(21,4),(22,5),(23,6),(24,7),(25,8),(26,9),(27,10),(28,11),(29,12),(30,13)] (fun f X hX hR K hK=>?_) ?_
      · have e8:f 8=_:=hR.out 8 rfl;have e13:f 13=_:=hR.out 13 rfl;have x0:=hX.cell k1;simp only[yZ,e8,e13];refine⟨zU (by kernel_rfl) ?_⟩;go_simp;exact qd hK (s:=by simp only[yZ,e8,e13])
      refine Par.c1 16 2 8 (fun f=>#[f 10,f 14]) (F':=58) (fun f X hX hR=>?_) ?_
      · have e10:f 10=_:=hR.out 10 rfl;have e14:f 14=_:=hR.out 14 rfl;simp only[e10,e14];refine(xH Pb P0 A' Ap c' cp b pl X (hb.below hX hPb') (hn.out.p.below hX hP0')).mono ?_;rintro e w2 ⟨rfl,nq,rfl⟩;rw[Hy.out,hpv.out,Hv.out];exact⟨_,rfl,(kW _ _),fun _ _=>rfl⟩
      refine zt 17 1 [(17,0),(18,1),(19,2),(20,3),(21,4),(22,5),(23,6),(24,7),(25,8),(26,9),(27,10),(28,11),(29,12),(30,13),(31,14),(32,15)] (fun f X hX hR K hK=>?_) ?_
      · have e8:f 8=_:=hR.out 8 rfl;have e15:f 15=_:=hR.out 15 rfl;simp only[yZ,e8,e15];refine⟨zU (by kernel_rfl) ?_⟩;go_simp;exact qd hK (s:=by simp only[yZ,e8,e15])
      refine jm 18 0 8 16 ?_;refine yF ⟨fun f X hX hR hal hap=>?_⟩;have e17:f 17=_:=hR 17 (by decide);simp only[yZ,e17];clear hR hal hap e17;refine zH ?_;go_wp2;go_ret;exact⟨by rw[show r=false by rw[←Hr.out];simp[onB,HH.out]];rfl,HB0.out.trans hX⟩
  · obtain⟨v,hv⟩:=eV (vJ x M);have hv0:0≤v:=by rw[←hv];rcases ku x M with h|h|h<;>omega
    have Hv:=zF hv;have HH:=zF hxM;clear hv hxM
    refine zh (by kernel_rfl) 18 [0,1,0,4,12,28,63,127,255,511,1023,511,2559,6655,14847,32767,65535,131071] [] (fun j f X=>match j with
     | 0=>f 0=.pointer (some ⟨q,1,none⟩)
     | 1=>f 1=.slice A a.length c
     | 2=>f 2=.pointer (some ⟨k,0,none⟩)
     | 3=>f 3=.pointer (some ⟨k,0,none⟩)
     | 4=>f 4=.pointer (some ⟨k,1,none⟩)
     | 5=>f 5=.slice Ap pl.length cp
     | 6=>f 6=.int .i64 v
     | 7=>f 7=.bool true
     | 8=>f 8=.bool true
     | 9=>f 9=undef
     | 10=>f 10=undef
     | 11=>f 11=undef
     | 12=>f 12=undef
     | 13=>f 13=undef
     | 14=>f 14=undef
     | 15=>f 15=undef
     | 16=>f 16=undef
     | 17=>f 17=.bool true
     | _=>True) (by kernel_rfl) [(17,0),(18,1),(19,2),(20,3),(21,4),(22,5),(23,6),(24,7),(25,8),(26,9),(27,10),(28,11),(29,12),(30,13),(31,14),(32,15),(33,16),(34,17)] (by kernel_rfl) ?_
    refine zJ 1 17 ?_;refine qK 2 16 0 b1 ?_;refine zJ 3 15 ?_;refine qN 4 14 2 ?_;refine qN 5 13 3 ?_;refine qK 6 12 4 k1 ?_;refine qI 7 11 (fun f=>#[f 1,f 5]) (F':=58) (fun f X hX hR=>?_) ?_
    · have e1:f 1=_:=hR.out 1 rfl;have e5:f 5=_:=hR.out 5 rfl;simp only[e1,e5];refine(xH Pa P0 A Ap c cp a pl X (ha.below hX hPa') (hn.out.p.below hX hP0')).mono ?_;rintro e w2 ⟨rfl,nq,rfl⟩;rw[Hx.out,hpv.out,Hv.out];exact⟨_,rfl,(kW _ _),fun _ _=>rfl⟩
    refine zt 8 10 [(17,0),(18,1),(19,2),(20,3),(21,4),(22,5),(23,6)] (fun f X hX hR K hK=>?_) ?_
    · have e6:f 6=_:=hR.out 6 rfl;simp only[yZ,e6];refine⟨?_⟩;go_simp;exact qd hK (s:=by simp only[yZ,e6])
    refine qN 9 9 7 ?_;refine wu 10 8 8 ?_;refine wu 11 7 8 ?_;refine wu 12 6 8 ?_;refine wu 13 5 8 ?_;refine wu 14 4 8 ?_;refine wu 15 3 8 ?_;refine wu 16 2 8 ?_;refine wu 17 1 8 ?_;refine jm 18 0 8 16 ?_;refine yF ⟨fun f X hX hR hal hap=>?_⟩;have e17:f 17=_:=hR 17 (by decide);simp only[yZ,e17];clear hR hal hap e17;refine zH ?_;go_wp2;go_ret;exact⟨by rw[show r=false by rw[←Hr.out];simp[onB,HH.out]];rfl,HB0.out.trans hX⟩
end Go.Proofs.YtaemogcomplhiaaGreatDoor
namespace Go.Proofs.YtaemogcomplhiaaGreatDoor
open Go.ChangeShapes Go.WideShapes Go.ChangeAt Go.RowKit Go.Deep Go.Joins
section
variable {H:Type} {enc:TypeId×Value→H} {w:World}
theorem zCe:Tryz.prog.cellsOf 65=1:=by kernel_rfl
theorem zCf:Tryz.prog.bytesOf 65=8:=by kernel_rfl
def Fits (t:TypeId) (d:DataW H):Prop:=∀ k∈DataW.weights Tryz.prog t d,k≤reachBytes
theorem aO {fuel:Nat}{v:Value}{x:DataW H×List MemPlace}(h:DataW.trod enc Tryz.prog w 0 (fun _=>true) true fuel 24 [v]=some x)(hw:Fits 24 x.1) :
 ∃ A c l,v=.slice A l.length c∧RL w (fun b=>b<w.heap.size) A c l:=by
 rcases open_ints Tryz.underlying24 Tryz.underlying65 zCe h with⟨hcs,_⟩|⟨a,len,cap,zs,hcs,_,hl,hm,hz,hx,hcell,hwz⟩
 · simp at hcs;exact⟨none,0,[],by simpa using hcs,RS.nil_ _ _ _,by simp,by simp⟩
 · simp at hcs hz;have hb:zs.length*8≤reachBytes:=by
    subst hx;have:=hw (((lits (H:=H) .u64 (zs.take len)).length+(lits (H:=H) .u64 (zs.drop len)).length)*8) (by simp[DataW.weights,Tryz.underlying24,zCf]);simp[lits]at this;omega
   unfold reachBytes at hb;have hwf:∀ i (hi:i<zs.length),0≤zs[i]∧zs[i]<18446744073709551616:=fun i hi=>by
    have:=bounds_u64 (hwz _ (xa hi));omega
   refine⟨some a,cap,(zs.take len).map Int.toNat,?_,⟨by simp;omega,hm,by simp[nts],fun hn=>⟨a,rfl,?_,fun j u hu=>?_⟩⟩,?_,by simp;omega⟩
   · rw[hcs];simp;omega
   · have h0:=hcell 0 (by simp at hn;omega);have:=World.block_lt_of_cell? w _ h0;rwa [yI]at this
   · have hj:j<len:=by
      have:=(List.getElem?_eq_some_iff.1 hu).1;simp[nts]at this;omega
     have hjz:j<zs.length:=by omega
     rw[hcell j hjz];have:=hwf j hjz;simp[nts,hj,qO hjz]at hu;rw[←hu];simp[List.getD,qO hjz];omega
   · intro b hb;obtain⟨z,hz,rfl⟩:=List.mem_map.1 hb;obtain⟨i,hi,rfl⟩:=List.getElem_of_mem (qM hz);have:=hwf i hi;omega
end
end Go.Proofs.YtaemogcomplhiaaGreatDoor
namespace Go.Proofs.YtaemogcomplhiaaGreatDoor
def vR (bs:List Nat):Nat:=val 256 bs.reverse
theorem pK (bs:List Nat)(c:Nat):vR (bs++[c])=c+256*vR bs:=by
 simp[vR]
theorem zAa (k:Nat):256^k=2 ^(8*k):=by rw[kr]
theorem zAm {bs:List Nat}(h:∀ b∈bs,b<256):vR bs<256^bs.length:=by
 have:=jt (B:=256) (l:=bs.reverse) (by simpa using h);rwa [List.length_reverse]at this
theorem tM {m j q k c:Nat}{o:List Nat}{V:Nat}(ho:∀ x∈o,x<2^m)(hq:q<o.length)(hk:m*q+j=8*k)(hj:j+8≤m)(hc:c<256)(hv:val (2^m) o=256 ^(k+1)*V) :
 c*2^j<2^m∧dg o q+c*2^j<2^m∧(dg o q ||| c*2^j)=dg o q+c*2^j∧val (2^m) (o.set q (dg o q+c*2^j))=256^k*(c+256*V):=by
 obtain⟨r,hr⟩:=gS o ho q 0 (by omega)
 have hlt:dg o q<2^m:=jS (qS (by omega)) ho q
 rw[q9,Nat.pow_zero,Nat.div_one,Nat.sub_zero,hv,zAa,show 8*(k+1)=m*q+(j+8) by omega,qP,za,Nat.mul_div_cancel_left _ (qS (by omega))]at hr
 have hcj:c*2^j<2 ^(j+8):=by
  rw[qP,zj];exact kZ hc (qS (by omega))
 have em:2^m=2 ^(j+8)*2 ^(m-(j+8)):=by rw[←qP,show j+8+(m-(j+8))=m by omega]
 obtain⟨t,ht⟩:∃ t,dg o q=t*2 ^(j+8):=by
  refine⟨V-2 ^(m-(j+8))*r,?_⟩;rw[em,za]at hr;rw[zj,Nat.mul_sub,hr];omega
 have htlt:t<2 ^(m-(j+8)):=by
  rw[ht,em,zj]at hlt;exact Nat.lt_of_mul_lt_mul_left hlt
 have hsum:dg o q+c*2^j<2^m:=by
  have h1:(t+1)*2 ^(j+8)≤2 ^(m-(j+8))*2 ^(j+8):=qk _ htlt;rw[zj (2 ^(m-(j+8))),←em,qY,←ht]at h1;omega
 refine⟨by omega,hsum,?_,?_⟩
 · rw[ht,zj t,Nat.two_pow_add_eq_or_of_lt hcj]
 · have h2:=ww (2^m) hq (dg o q+c*2^j);have h3:(2^m)^q*(c*2^j)=256^k*c:=by
    rw[zAa,←hk,qP,kr,za,zj c]
   rw[zf,h3,hv]at h2;rw[zf,←za,←zp];generalize 256 ^(k+1)*V=E at *;generalize 256^k*c=F at *;generalize(2^m)^q*dg o q=G at *;generalize val (2^m) (o.set q (dg o q+c*2^j))=H at *;clear hr hlt hcj em ht htlt hsum hv h3;omega
end Go.Proofs.YtaemogcomplhiaaGreatDoor
namespace Go.Proofs.YtaemogcomplhiaaGreatDoor
open Go.RowKit
theorem RB.cells {w:World}{P:Nat→Prop}{ad:Addr}{c:Nat}{bs:List Nat}(h:RB w P (some ad) c bs):∀ i,i<bs.length→w.cell? (ad.add i)=some (.int .u8 (dg bs i:Int)):=by
 intro i hi;obtain⟨ad',e,_,hc,_⟩:=h.at_ hi;cases e;rw[dg,jU hi];exact hc
theorem RB.dg {w:World}{P:Nat→Prop}{A:Option Addr}{c:Nat}{bs:List Nat}(h:RB w P A c bs){i:Nat}(hi:i<bs.length):∃ ad,A=some ad∧w.cell? (ad.add i)=some (.int .u8 (Go.Proofs.YtaemogcomplhiaaGreatDoor.dg bs i:Int))∧Go.Proofs.YtaemogcomplhiaaGreatDoor.dg bs i<256:=by
 obtain⟨ad,rfl,_,hc,hb⟩:=h.at_ hi;refine⟨ad,rfl,h.cells i hi,?_⟩;rw[Go.Proofs.YtaemogcomplhiaaGreatDoor.dg,jU hi];omega
theorem xf (P:Nat→Prop)(A:Option Addr)(c:Nat)(bs:List Nat)(w:World)(h:RB w P A c bs)(hP:∀ b,P b→b<w.heap.size)(hl:bs.length≤100000) :
 Calls Tryz.prog 53 #[.slice A bs.length c] w fun e w'=>∃ A1 c1,e=.returned (.slice A1 (digs 18446744073709551616 (vR bs)).length c1) ∧
  OB w' w.heap.size A1 c1 (digs 18446744073709551616 (vR bs))∧Below w.heap.size w w':=by
 obtain⟨h1,h2,h3⟩:=h.cap
 obtain⟨n,hn⟩:=eV bs.length
 rw[hn]at h1 h3 hl ⊢
 obtain⟨N,hN,hN1,hN2⟩:∃ N:Nat,((n:Int)+7)/8=(N:Int)∧N≤100000∧n≤8*N:=⟨(n+7)/8,by omega,by omega,by omega⟩
 have hmk:=jD (P:=Tryz.prog) 24 65 (.int .u64 0) 8 Tryz.underlying24 kS rfl .i64 .i64 N (by omega) (by omega)
 have Hn:=zF hn
 clear hn
 go_enter Tryz.func53,Tryz.ntmps53
 go_wp2
 go_loopw [14] (fun iv wr=>∃(i:Nat) (o:List Nat),iv=.int .i64 (i:Int)∧i≤n∧Hid (o.length=N)∧Lim o∧val 18446744073709551616 o=256 ^(n-i)*vR (bs.take i)∧Blk wr w.heap.size o∧Below w.heap.size w wr) (fun iv _=>n-(intOf iv).toNat)
 case atStart=>exact⟨0,List.replicate N 0,rfl,by omega,zF (by simp),⟨by simp,by simp;omega⟩,by rw[kt];simp[vR],wK w _,(zl _ w).alloc (zG _) _⟩
 case round =>
  obtain⟨i,o,rfl,hi,Ho,hLo,hv,hblk,hB⟩:=hrel;by_cases hlt:i<n
  · obtain⟨ad,rfl,q1,hc⟩:=(h.below hB hP).dg (i:=i) (by rw[Hn.out];exact hlt);obtain⟨k,q,r,hk,hr,hkq⟩:∃ k q r,k=n-1-i∧r<8∧k=8*q+r:=⟨n-1-i,(n-1-i)/8,(n-1-i)%8,rfl,by omega,by omega⟩
    have hqo:q<o.length:=by have:=Ho.out;omega
    obtain⟨s1,s2,s3,s4⟩:=tM (m:=64) (j:=r*8) (q:=q) (k:=k) hLo.1 hqo (by omega) (by omega) hc (by rw[show n-i=k+1 by omega]at hv;exact hv);rw[←pK,←uU (by rw[Hn.out];exact hlt),show k=n-(i+1) by omega]at s4;obtain⟨z,hz⟩:=eV (dg bs i*2 ^(r*8));rw[hz]at s1 s2 s3 s4;obtain⟨y,hy⟩:=eV (dg o q+z);rw[hy]at s2 s3 s4;have e1:(n:Int)-1-(i:Int)=(k:Int):=by omega
    have e2:(k:Int)/8=(q:Int):=by omega
    have e3:(k:Int)%8=(r:Int):=by omega
    have e4:IntKind.u64.wrap ((dg bs i:Int)*2 ^(r*8))=(z:Int):=by
     rw[show(dg bs i:Int)*2 ^(r*8)=(z:Int) by rw[←hz];simp];exact qt _ (by omega)
    have e5:bits .or .u64 (dg o q:Int) (z:Int)=(y:Int):=by
     rw[bits_or_u64_nat _ _ (hLo.dgLt q) s1,s3]
    have q3:=hblk.cell hqo;have q4:=hblk.free q;have hblk':=hblk.set q y;have hLo':=hLo.set q y s2;have hB':=hB.setCell (p:=⟨w.heap.size,q,none⟩) (zG _) (.int .u64 (y:Int));have Ho':Hid ((o.set q y).length=N):=zF (by rw[jw];exact Ho.out);have k1:(q:Int)<(N:Int):=by have:=Ho.out;omega
    have k2:(r:Int)<8:=by omega
    have k3:(dg bs i:Int)<256:=by omega
    have S4:=zF s4;clear s4 s3 s2 s1 hz hy hk hkq hqo hblk hLo hB hv hc;go_wp2_with fail;go_region;go_wp2;go_roundw;case rel=>exact⟨i+1,o.set q y,by go_num,by omega,Ho',hLo',S4.out,hblk',jC hB' 1⟩
    case measure=>simp[intOf];omega
  · obtain rfl:i=n:=by omega
    rw[Nat.sub_self,Nat.pow_zero,kN,zx (by rw[Hn.out];omega)]at hv;have hOB:OB wr w.heap.size (some ⟨w.heap.size,0,none⟩) N o:=kq hblk (zG _) hLo (by have:=Ho.out;omega) (by unfold maxLen;omega);have ht:=jT _ _ _ _ _ hOB.rn;have hOB':=hOB.trim;rw[hv,Ho.out]at ht;rw[hv]at hOB';have Ht:=zF ht;clear hblk hLo ht hv hOB;go_wp2_with fail;refine Ht.out.mono ?_;rintro e w1 ⟨rfl,rfl⟩;go_wp2;go_ret;exact⟨_,_,rfl,hOB',hB⟩
structure Crv where
 size:Nat
 n:Nat
 M:Nat
 bb:Nat
 pl:List Nat
 nl:List Nat
 bl:List Nat
 xl:List Nat
 yl:List Nat
def kU:Crv:=⟨32,4,val 18446744073709551616 vk,val 18446744073709551616 xm,vk,gG,xm,gF,gE⟩
def bT:Crv:=⟨48,6,val 18446744073709551616 vj,val 18446744073709551616 xk,vj,gD,xk,gC,gB⟩
def IsC (c:Int) (C:Crv):Prop:=(c=1∧C=kU)∨(c=2∧C=bT)
structure Crv.Fine (C:Crv):Prop where
 three:3<C.M
 bb:C.bb<C.M
 room:C.M<256^C.size
 small:C.size≤48
 pos:32≤C.size
 pv:val 18446744073709551616 C.pl=C.M
theorem IsC.fine {c:Int}{C:Crv}(h:IsC c C):C.Fine:=by
 rcases h with⟨_,rfl⟩|⟨_,rfl⟩
 · exact⟨by decide +kernel,by decide +kernel,by decide +kernel,by decide,by decide,rfl⟩
 · exact⟨by decide +kernel,by decide +kernel,by decide +kernel,by decide,by decide,rfl⟩
def OfC (C:Crv) (w:World) (k:Nat):Prop:=∃(P0:Nat→Prop) (g inv:Nat) (ml ol rl tl fl:List Nat) (Ap An Ab Ax Ay:Option Addr) (cp cn cb cx cy:Nat),Num w P0 k g C.size C.n inv C.M C.bb C.pl C.nl C.bl C.xl C.yl ml ol rl tl fl Ap An Ab Ax Ay cp cn cb cx cy∧∀ b,P0 b→b<w.heap.size
theorem OfC.ext {C:Crv}{w X:World}{k:Nat}(h:OfC C w k)(hE:Ext w X):OfC C X k:=by
 obtain⟨P0,g,inv,ml,ol,rl,tl,fl,Ap,An,Ab,Ax,Ay,cp,cn,cb,cx,cy,hn,hP⟩:=h;exact⟨P0,g,inv,ml,ol,rl,tl,fl,Ap,An,Ab,Ax,Ay,cp,cn,cb,cx,cy,hn.ext hP hE,fun b hb=>zI (hP b hb) hE.bsize⟩
theorem OfC.size {C:Crv}{w:World}{k:Nat}(h:OfC C w k):w.cell? ⟨k,0,none⟩=some (.int .i64 (C.size:Int)):=by
 obtain⟨P0,g,inv,ml,ol,rl,tl,fl,Ap,An,Ab,Ax,Ay,cp,cn,cb,cx,cy,hn,hP⟩:=h;exact hn.c_size
theorem pH {c:Int}{C:Crv}(h:IsC c C)(w:World):Calls Tryz.prog 64 #[.int .i64 c] w fun e w'=>∃ k,e=.returned (.pointer (some ⟨k,0,none⟩))∧OfC C w' k∧Ext w w':=by
 rcases h with⟨rfl,rfl⟩|⟨rfl,rfl⟩
 · refine(rU w).mono ?_;rintro e w' ⟨k,g,inv,ml,ol,rl,tl,fl,rfl,_,hn,hB⟩;exact⟨k,rfl,⟨_,g,inv,ml,ol,rl,tl,fl,_,_,_,_,_,_,_,_,_,_,hn,fun b hb=>hb.2⟩,hB⟩
 · refine(rT w).mono ?_;rintro e w' ⟨k,g,inv,ml,ol,rl,tl,fl,rfl,_,hn,hB⟩;exact⟨k,rfl,⟨_,g,inv,ml,ol,rl,tl,fl,_,_,_,_,_,_,_,_,_,_,hn,fun b hb=>hb.2⟩,hB⟩
theorem zDi {c:Int}(h1:c≠1)(h2:c≠2)(w:World):Calls Tryz.prog 64 #[.int .i64 c] w fun e w'=>e=.returned (.pointer none)∧Ext w w':=by
 have e1:(c==1)=false:=by simpa using h1
 have e2:(c==2)=false:=by simpa using h2
 go_enter Tryz.func64,Tryz.ntmps64;go_wp2;go_ret;exact⟨rfl,zX _⟩
theorem on_c {C:Crv}{w:World}{k:Nat}(h:OfC C w k)(hC:C.Fine)(Pa Pb:Nat→Prop)(A A':Option Addr)(c c':Nat)(a b:List Nat)(inf:Bool)(ha:RN w Pa A c a)(hb:RN w Pb A' c' b)(hPa:∀ b,Pa b→b<w.heap.size)(hPb:∀ b,Pb b→b<w.heap.size) :
 Calls Tryz.prog 72 #[.pointer (some ⟨k,0,none⟩),.agg #[.bool inf,.slice A a.length c,.slice A' b.length c']] w fun e w'=>e=.returned (.bool (inf||onB C.M C.bb (val 18446744073709551616 a) (val 18446744073709551616 b)))∧Ext w w':=by
 obtain⟨P0,g,inv,ml,ol,rl,tl,fl,Ap,An,Ab,Ax,Ay,cp,cn,cb,cx,cy,hn,hP⟩:=h
 exact zDg Pa Pb A A' c c' a b inf w hn hP ha hb hPa hPb hC.three hC.bb
abbrev gL:Value:=.agg #[.bool true,.slice none 0 0,.slice none 0 0]
theorem va:(Tryz.prog.info? 33).map (·.size)=some 3:=by kernel_rfl
theorem gM {fn:Func}{R:Ending→World→Prop}{a:Act}{W:World}{p u:Tmp}{g:Nat}{ty:TypeId}{fr:Nat×Nat}{x0 x1 x2 v:Value}(hr:fn.results=#[.cell p 33,.tmp u])(hp:a.tmps.getD p undef=.pointer (some ⟨g,0,none⟩))(hu:a.tmps.getD u undef=v)(hd:a.defers=[])
 (hg:W.heap[g]?=some (.cells #[x0,x1,x2] ty fr)) (hR:R (.returned (.tuple #[.agg #[x0,x1,x2],v])) W):bodyPost Tryz.prog fn R .ret a W:=by
 refine wI (v:=.tuple #[.agg #[x0,x1,x2],v]) ?_ hd hR
 rw[results_cell_tmp hr,hp]
 have h1:(asAddr (.pointer (some ⟨g,0,none⟩)):Sem Addr).run Tryz.prog W=.ok ⟨g,0,none⟩ W:=rfl
 rw[h1,qw,run_loadVar_row W g ty 33 #[x0,x1,x2] fr _ hg Tryz.underlying33 rfl va,qw,hu]
theorem aW {fn:Func}{R:Ending→World→Prop}{a:Act}{W:World}{p:Tmp}{g:Nat}{ty:TypeId}{fr:Nat×Nat}{x0 x1 x2:Value}(hr:fn.results=#[.cell p 33])(hp:a.tmps.getD p undef=.pointer (some ⟨g,0,none⟩))(hd:a.defers=[])
 (hg:W.heap[g]?=some (.cells #[x0,x1,x2] ty fr)) (hR:R (.returned (.agg #[x0,x1,x2])) W):bodyPost Tryz.prog fn R .ret a W :=
 wI (wY hr a.tmps W g _ _ _ _ hp hg Tryz.underlying33 rfl va) hd hR
theorem jG {W:World}{g:Nat}{ty:TypeId}{x0 x1 x2:Value}(h:W.heap[g]?=some (.cells #[x0,x1,x2] ty (0,0))) :
 W.cell? ⟨g,0,none⟩=some x0∧W.cell? ⟨g,1,none⟩=some x1∧W.cell? ⟨g,2,none⟩=some x2∧W.frozen? ⟨g,0,none⟩=false∧W.frozen? ⟨g,1,none⟩=false∧W.frozen? ⟨g,2,none⟩=false :=
 ⟨zQ h 0,zQ h 1,zQ h 2,qu h 0,qu h 1,qu h 2⟩
theorem yT (b:Bool)(A A':Option Addr)(n n' c c':Nat):(#[Value.bool b,.slice A n c,.slice A' n' c']:Array Value).all (·.oneCell')=true:=by simp[Value.oneCell']
theorem xW {W:World}{g:Nat}{ty:TypeId}{x0 x1 x2:Value}(h:W.heap[g]?=some (.cells #[x0,x1,x2] ty (0,0)))(y0 y1 y2:Value):(((W.setCell ⟨g,0,none⟩ y0).setCell ⟨g,1,none⟩ y1).setCell ⟨g,2,none⟩ y2).heap[g]?=some (.cells #[y0,y1,y2] ty (0,0)) :=
 jM (jM (jM h 0 y0) 1 y1) 2 y2
theorem mF (W:World)(g:Nat)(y0 y1 y2:Value):jQ g W (((W.setCell ⟨g,0,none⟩ y0).setCell ⟨g,1,none⟩ y1).setCell ⟨g,2,none⟩ y2):=(((jk g W).set 0 y0).set 1 y1).set 2 y2
theorem xq {w W:World}{g:Nat}(hE:Ext w W)(hg:w.heap.size≤g)(y0 y1 y2:Value):Ext w (((W.setCell ⟨g,0,none⟩ y0).setCell ⟨g,1,none⟩ y1).setCell ⟨g,2,none⟩ y2) :=
 ((Below.setCell hE (p:=⟨g,0,none⟩) hg y0).setCell (p:=⟨g,1,none⟩) hg y1).setCell (p:=⟨g,2,none⟩) hg y2
theorem yX (w:World):Calls Tryz.prog 73 #[] w fun e w'=>e=.returned gL∧Ext w w':=by
 go_enter Tryz.func73,Tryz.ntmps73;go_wp2;exact aW rfl rfl rfl (zS w _) ⟨rfl,zO _ _⟩
theorem OB.just {X Y:World}{base b:Nat}{A:Option Addr}{c:Nat}{l:List Nat}(h:OB X base A c l)(hj:jQ b X Y){cs:Array Value}{t:TypeId}(hb:X.heap[b]?=some (.cells cs t (0,0)))(ht:t≠65):OB Y base A c l:=by
 obtain⟨h1,h2,h3,h4⟩:=h;refine⟨h1,h2,h3,fun hl=>?_⟩;obtain⟨g,cur,e,hg,hgc,hr⟩:=h4 hl;refine⟨g,cur,e,hg,hj.at_ (fun e=>?_) hgc,hr⟩;subst e;rw[hb]at hgc;injection hgc with hgc
 injection hgc with _ hgc _
 exact ht hgc
theorem RB.mid {w:World}{P:Nat→Prop}{A:Option Addr}{c:Nat}{bs:List Nat}(h:RB w P A c bs){k m c':Nat}(hkm:k≤m)(hm:m≤bs.length)(hc:m-k≤c')(hc':c'≤maxLen){A':Option Addr}(hA:k<m→A'=A.map (·.add k)):RB w P A' c' ((bs.drop k).take (m-k)):=by
 have h1:=h.1.sub hkm hm hc hc' (A':=A') (by simpa using hA);have e:((bys bs).drop (k*1)).take ((m-k)*1)=bys ((bs.drop k).take (m-k)):=by simp[bys,List.map_take,List.map_drop]
 rw[e]at h1;have hl:((bs.drop k).take (m-k)).length=m-k:=by rw[zo,qn];omega
 refine⟨by rw[hl];exact h1,fun b hb=>h.2.1 b (List.mem_of_mem_drop (qM hb)),by rw[hl];have:=h.2.2;omega⟩
theorem RN.ru {w:World}{P:Nat→Prop}{A:Option Addr}{c:Nat}{l:List Nat}(h:RN w P A c l)(hP:∀ b,P b→b<w.heap.size):RU w A c l:=h.mono fun b hb=>hP b hb
theorem of_b {c:Int}{C:Crv}(h:IsC c C)(w:World):Calls Tryz.prog 64 #[.int .i64 c] w fun e w'=>∃ k,e=.returned (.pointer (some ⟨k,0,none⟩))∧(∃(P0:Nat→Prop) (g inv:Nat) (ml ol rl tl fl:List Nat) (Ap An Ab Ax Ay:Option Addr) (cp cn cb cx cy:Nat),Num w' P0 k g C.size C.n inv C.M C.bb C.pl C.nl C.bl C.xl C.yl ml ol rl tl fl Ap An Ab Ax Ay cp cn cb cx cy∧∀ b,P0 b→w.heap.size≤b∧b<w'.heap.size)∧Ext w w':=by
 rcases h with⟨rfl,rfl⟩|⟨rfl,rfl⟩
 · refine(rU w).mono ?_;rintro e w' ⟨k,g,inv,ml,ol,rl,tl,fl,rfl,_,hn,hB⟩;exact⟨k,rfl,⟨_,g,inv,ml,ol,rl,tl,fl,_,_,_,_,_,_,_,_,_,_,hn,fun b hb=>hb⟩,hB⟩
 · refine(rT w).mono ?_;rintro e w' ⟨k,g,inv,ml,ol,rl,tl,fl,rfl,_,hn,hB⟩;exact⟨k,rfl,⟨_,g,inv,ml,ol,rl,tl,fl,_,_,_,_,_,_,_,_,_,_,hn,fun b hb=>hb⟩,hB⟩
set_option maxHeartbeats 2000000
theorem fQ {c:Int}{C:Crv}(hC:IsC c C)(w:World):Calls Tryz.prog 66 #[.int .i64 c] w fun e w'=>∃ A cc,e=.returned (.slice A C.nl.length cc)∧RU w' A cc C.nl∧Ext w w':=by
 go_enter Tryz.func66,Tryz.ntmps66;go_wp2_with (go_at_call 64;refine(pH hC _).mono ?_;rintro e wa ⟨k,rfl,⟨P0,g,inv,ml,ol,rl,tl,fl,Ap,An,Ab,Ax,Ay,cp,cn,cb,cx,cy,hn,hP0⟩,hE1⟩;have k1:=hn.c_p;have k2:=hn.c_n;have k0:=hn.c_size;have Hn:=zF hn;have HP:=zF hP0;clear hn hP0);go_ret;exact⟨_,_,rfl,Hn.out.nn.ru HP.out,hE1⟩
theorem fv {c:Int}{C:Crv}(hC:IsC c C)(w:World):Calls Tryz.prog 29 #[.int .i64 c] w fun e w'=>e=.returned (.int .i64 (C.size:Int))∧Ext w w':=by
 go_enter Tryz.func29,Tryz.ntmps29;go_wp2_with (go_at_call 64;refine(pH hC _).mono ?_;rintro e wa ⟨k,rfl,hk,hE1⟩;have k0:=hk.size);go_ret;exact⟨rfl,hE1⟩
theorem ss {c:Int}(h1:c≠1)(h2:c≠2)(w:World):Calls Tryz.prog 66 #[.int .i64 c] w fun e w'=>e=.returned (.slice none 0 0)∧Ext w w':=by
 go_enter Tryz.func66,Tryz.ntmps66;go_wp2_with (go_at_call 64;refine(zDi h1 h2 _).mono ?_;rintro e wa ⟨rfl,hE1⟩);go_ret;exact⟨rfl,hE1⟩
theorem pm {c:Int}{C:Crv}(hC:IsC c C)(w:World):Calls Tryz.prog 36 #[.int .i64 c] w fun e w'=>∃ A cc A' cc',e=.returned (.agg #[.bool false,.slice A C.xl.length cc,.slice A' C.yl.length cc'])∧RU w' A cc C.xl∧RU w' A' cc' C.yl∧Ext w w':=by
 have hr:=zS w (.cells #[.bool false,.slice none 0 0,.slice none 0 0] 33);go_enter Tryz.func36,Tryz.ntmps36;go_wp2_with (go_at_call 64;refine(of_b hC _).mono ?_;rintro e wa ⟨k,rfl,⟨P0,g,inv,ml,ol,rl,tl,fl,Ap,An,Ab,Ax,Ay,cp,cn,cb,cx,cy,hn,hP0⟩,hE1⟩;have k1:=hn.c_x;have k2:=hn.c_y;have k0:=hn.c_size;have Hn:=zF hn;have HP:=zF hP0;have hra:=hE1.at_ hr;obtain⟨z0,z1,z2,f0,f1,f2⟩:=jG hra;clear hn hP0);obtain⟨q,hq⟩:=eV w.heap.size;rw[hq]at hra;clear z0 z1 z2 f0 f1 f2;rw[hq]
 refine zh (by kernel_rfl) 9 [0,1,3,7,0,16,48,112,255,511] [] (fun j f X=>match j with
  | 0=>f 0=.pointer (some ⟨k,0,none⟩)
  | 1=>f 1=.pointer (some ⟨k,0,none⟩)
  | 2=>f 2=.pointer (some ⟨k,4,none⟩)
  | 3=>f 3=.slice Ax C.xl.length cx
  | 4=>f 4=.pointer (some ⟨k,0,none⟩)
  | 5=>f 5=.pointer (some ⟨k,0,none⟩)
  | 6=>f 6=.pointer (some ⟨k,5,none⟩)
  | 7=>f 7=.slice Ay C.yl.length cy
  | 8=>f 8=.agg #[.bool false,.slice Ax C.xl.length cx,.slice Ay C.yl.length cy]
  | _=>True) (by kernel_rfl) [(8,0),(9,1),(10,2),(11,3),(12,4),(13,5),(14,6),(15,7),(16,8)] (by kernel_rfl) ?_
 refine zJ 1 8 ?_;refine qN 2 7 0 ?_;refine qN 3 6 1 ?_;refine qK 4 5 2 k1 ?_;refine zJ 5 4 ?_;refine qN 6 3 4 ?_;refine qN 7 2 5 ?_;refine qK 8 1 6 k2 ?_;refine jm 9 0 3 7 ?_;refine yF ⟨fun f X hX hR hal hap=>?_⟩;have e8:f 8=.agg #[.bool false,.slice Ax C.xl.length cx,.slice Ay C.yl.length cy]:=hR 8 (by decide);simp only[Par.vH,Act.put,ka,List.set_cons_succ,xw,e8];clear hR hal hap e8;refine zP (fun K hK=>⟨zU (by kernel_rfl) (jJ (cs':=#[.bool false,.slice Ax C.xl.length cx,.slice Ay C.yl.length cy]) (t:=33) 33 (.tmp 2) (.tmp 16) rfl rfl rfl rfl (hX.at_ hra) va rfl (yT _ _ _ _ _ _ _) (fun Y hY1 hY2 hY3=>hK.out _ _ ?_))⟩);refine zH ?_;go_wp2;have zA:q+1≤wa.heap.size:=by have:=hE1.bsize;simp only[qB]at this;omega
 have hP1:∀ b,P0 b→q<b∧b<wa.heap.size:=fun b hb=>by have:=HP.out b hb;simp only[qB]at this;omega
 have hx:RN Y P0 Ax cx C.xl:=(Hn.out.x.below hX (fun b hb=>(hP1 b hb).2)).just hY2 (fun b hb=>⟨by have:=hP1 b hb;have:=hX.bsize;omega,by have:=hP1 b hb;omega⟩);have hy:RN Y P0 Ay cy C.yl:=(Hn.out.y.below hX (fun b hb=>(hP1 b hb).2)).just hY2 (fun b hb=>⟨by have:=hP1 b hb;have:=hX.bsize;omega,by have:=hP1 b hb;omega⟩);have hb:∀ b,P0 b→b<Y.heap.size:=fun b hb=>by have:=hP1 b hb;have:=hX.bsize;omega
 exact aW rfl rfl rfl hY1 ⟨_,_,_,_,rfl,hx.ru hb,hy.ru hb,hY2.ext (((zO w _).trans hE1).trans hX) (by omega)⟩
def fs (B V k D G:Nat):Prop:=G<B∧V /(B^k*D)≤G
theorem zAW {B k D g V x:Nat}(hB:0<B)(hD:0<D)(hq:V /(B^k*D)≤g)(he:x+B^k*(g*D)=V):x<B^k*D:=by
 have h5:=Nat.lt_mul_div_succ V (show 0<B^k*D from Nat.mul_pos (qS hB) hD);have h6:B^k*D*(V /(B^k*D)+1)≤B^k*D*(g+1):=qD _ (by omega);have e:B^k*D*(g+1)=B^k*(g*D)+B^k*D:=by rw[zf,jO,za,zj D]
 omega
theorem nA {y n1:Nat}(hn:(digs 4294967296 y).length=n1+1):∃ top sc,dg (digs 4294967296 y) n1=top∧0<top∧top<4294967296∧4294967296 /(top+1)=sc∧0<sc∧sc<4294967296∧(digs 4294967296 (sc*y)).length=n1+1∧0<dg (digs 4294967296 (sc*y)) n1∧4294967296^n1≤y:=by
 have hB:(2:Nat)≤4294967296:=by omega
 have hlt:=kF hB y;have hy0:0<y:=by
  rcases zT y with h|h
  · subst h;rw[qV]at hn;simp at hn
  · exact h
 have hlow:=gA hB hy0;rw[hn,ju]at hlow;obtain⟨top,ht⟩:=eV (dg (digs 4294967296 y) n1);have htl:top<4294967296:=by rw[←ht];exact jS (by omega) hlt _
 have ey:y=val 4294967296 ((digs 4294967296 y).take n1)+4294967296^n1*top:=by
  rw[←ht,←qC,←hn,jE,zd hB]
 have hr:val 4294967296 ((digs 4294967296 y).take n1)<4294967296^n1:=by
  have:=jt (B:=4294967296) (l:=(digs 4294967296 y).take n1) fun x hx=>hlt x (qM hx);rwa [zo,qU (by omega)]at this
 have h0:0<top:=by
  rcases zT top with h|h
  · subst h;omega
  · exact h
 obtain⟨sc,hsc⟩:=eV (4294967296 /(top+1));have hs1:sc*(top+1)≤4294967296:=by rw[←hsc];exact Nat.div_mul_le_self _ _
 have hs0:0<sc:=by rw[←hsc];exact Nat.div_pos (by omega) (by omega)
 have hsl:sc<4294967296:=by rw[←hsc];exact Nat.div_lt_self (by omega) (by omega)
 have hup:sc*y<4294967296 ^(n1+1):=by
  have k1:y<4294967296^n1*(top+1):=by rw[zf,jO];omega
  have k2:sc*y<sc*(4294967296^n1*(top+1)):=kZ k1 hs0;have k3:sc*(4294967296^n1*(top+1))=4294967296^n1*(sc*(top+1)):=jR _ _ _;have k4:4294967296^n1*(sc*(top+1))≤4294967296^n1*4294967296:=qD _ hs1;rw[zp];omega
 have hlo2:4294967296^n1≤sc*y:=zK hlow (Nat.le_mul_of_pos_left _ hs0);have hlen:(digs 4294967296 (sc*y)).length=n1+1:=by
  refine Nat.le_antisymm (qR hB hup) ?_;have:=jK hB (show y≤sc*y from Nat.le_mul_of_pos_left _ hs0);omega
 refine⟨top,sc,ht,h0,htl,hsc,hs0,hsl,hlen,?_,hlow⟩;have ed:sc*y=val 4294967296 ((digs 4294967296 (sc*y)).take n1)+4294967296^n1*dg (digs 4294967296 (sc*y)) n1:=by
  rw[←qC,←hlen,jE,zd hB]
 have hr2:val 4294967296 ((digs 4294967296 (sc*y)).take n1)<4294967296^n1:=by
  have:=jt (B:=4294967296) (l:=(digs 4294967296 (sc*y)).take n1) fun x hx=>kF hB (sc*y) x (qM hx);rwa [zo,qU (by omega)]at this
 rcases zT (dg (digs 4294967296 (sc*y)) n1)with h|h
 · rw[h,ja]at ed;omega
 · exact h
def Tu (w:World) (b:Nat):Prop:=∃ cur,w.heap[b]?=some (.cells cur 65 (0,0))
theorem OB.tt {w:World}{base:Nat}{A:Option Addr}{c:Nat}{l:List Nat}(h:OB w base A c l):RN w (fun b=>b<w.heap.size∧Tu w b) A c l:=by
 have hr:=h.rn;obtain⟨h1,h2,h3,h4⟩:=h;obtain⟨⟨r1,r2,r3,r4⟩,r5⟩:=hr;refine⟨⟨r1,r2,r3,fun hl=>?_⟩,r5⟩;obtain⟨g,cur,rfl,hb,hg,hc⟩:=h4 hl;obtain⟨ad,e,hin,hcell⟩:=r4 hl;cases e;exact⟨_,rfl,⟨hin.2,cur,hg⟩,hcell⟩
theorem OB.rt {w:World}{base:Nat}{P:Nat→Prop}{A:Option Addr}{c:Nat}{l:List Nat}(h:OB w base A c l):RN w (fun b=>b<w.heap.size∧(P b∨Tu w b)) A c l:=RN.mono h.tt fun _ hb=>⟨hb.1,.inr hb.2⟩
theorem bk (P P':Nat→Prop)(A A':Option Addr)(c c':Nat)(x y:Nat)(w:World)(h:RN w P A c (digs 4294967296 x))(h':RN w P' A' c' (digs 4294967296 y))(hP:∀ b,P b→b<w.heap.size)(hl:(digs 4294967296 x).length<100000)(h0:0<y)(hs:x<y∨(digs 4294967296 y).length=1) :
 Calls Tryz.prog 79 #[.slice A (digs 4294967296 x).length c,.slice A' (digs 4294967296 y).length c'] w fun e w'=>∃ A1 c1 A2 c2,e=.returned (.tuple #[.slice A1 (digs 4294967296 (x/y)).length c1,.slice A2 (digs 4294967296 (x%y)).length c2])∧OB w' w.heap.size A1 c1 (digs 4294967296 (x/y))∧RN w' (fun b=>b<w'.heap.size∧(P b∨Tu w' b)) A2 c2 (digs 4294967296 (x%y))∧Below w.heap.size w w':=by
 have tc:=wV P P' A A' c c' x y w h h'
 by_cases hlt:x<y
 · rw[wO hlt]at tc;have Tc:=zF tc;have hd:x/y=0:=qh hlt;have hm:x%y=x:=zy hlt;rw[hd,hm,qV];clear tc hlt hs hd hm;go_enter Tryz.func79,Tryz.ntmps79;go_wp2_with fail;refine Tc.out.mono ?_;rintro e w1 ⟨rfl,nd,rfl⟩;go_wp2;go_ret2;exact⟨none,0,A,c,rfl,OB.nil_ _ _,RN.drewN (h.mono fun b hb=>⟨hP b hb,.inl hb⟩) nd,jC (zl _ _) _⟩
 · have hn:(digs 4294967296 y).length=1:=by omega
   have hyB:y<4294967296:=by
    have:=jB (B:=4294967296) (by omega) y;rw[hn]at this;omega
   have hd1:digs 4294967296 y=[y]:=by
    rw[jj (by omega) h0,zy hyB,qh hyB,qV]
   have hcv:0≤vJ x y:=by rcases ku x y with h|h|h<;>omega
   generalize vJ x y=v at tc hcv;have hcv':¬ v<0:=by omega
   have Tc:=zF tc;obtain⟨ad,rfl,_,q1⟩:=h'.at_ (i:=0) (by omega);rw[hd1]at q1 Tc;rw[hd1];have q1':w.cell? (ad.add 0)=some (.int .u64 (y:Int)):=q1;have q2:ad.add 0=ad:=rfl;rw[q2]at q1';have tS:=fun n=>fK P A c _ y (w.drewN n) (h.drewN n) hP (wJ x) hl h0 (by omega);rw[zd (by omega)]at tS;have TS:=zF tS;have hrB:x%y<4294967296:=Nat.lt_trans (qL _ h0) hyB;obtain⟨r,hr⟩:=eV (x%y);rw[hr]at TS hrB;have Hr:=zF hrB;have Hrr:=zF hr;clear tc tS hlt hs hn hcv h' hr hrB hd1 q1 q2 hyB;go_enter Tryz.func79,Tryz.ntmps79;go_wp2_with fail;refine Tc.out.mono ?_;rintro e w1 ⟨rfl,nd,rfl⟩;go_wp2_with fail;refine(TS.out nd).mono ?_;rintro e w2 ⟨A1,c1,rfl,hO,hB⟩;have hdr:Dig [r]:=by intro x hx;rw[List.mem_singleton.1 hx];exact Hr.out
   have ht:=kh _ _ _ [r] _ (RN.one w2 r (by have:=Hr.out;omega)) hdr;have hO2:=(kq (c:=1) (w:=w2.alloc (.cells #[.int .u64 (r:Int)] 65)) (g:=w2.heap.size) (l:=[r]) (show Blk (w2.alloc (.cells #[.int .u64 (r:Int)] 65)) w2.heap.size [r]from zS w2 _) (base:=0) (vr _) ⟨fun x hx=>by have:=hdr x hx;omega,by simp⟩ (by simp) (by unfold maxLen;omega)).trim32 hdr;have hvr:val 4294967296 [r]=r:=by simp
   rw[hvr]at ht hO2;have Ht:=zF ht;clear ht hdr hvr;go_wp2_with fail;refine Ht.out.mono ?_;rintro e w3 ⟨rfl,rfl⟩;go_wp2;go_ret2;exact⟨A1,c1,some ⟨w2.heap.size,0,none⟩,(digs 4294967296 r).length,by rw[Hrr.out];rfl,hO.below ((zl w2.heap.size w2).alloc (zG _) _) (zG _),by rw[Hrr.out];exact hO2.rt,(Below.mk hB.os hB.tape hB.output hB.size hB.block:Below w.heap.size w w2).alloc hB.size _⟩
theorem nD (P P':Nat→Prop)(A A':Option Addr)(c c':Nat)(x y:Nat)(w:World)(h:RN w P A c (digs 4294967296 x))(h':RN w P' A' c' (digs 4294967296 y))(hP:∀ b,P b→b<w.heap.size)(hP':∀ b,P' b→b<w.heap.size)(hl:(digs 4294967296 x).length<90000)(hge:y≤x)(hbig:1<(digs 4294967296 y).length) :
 Calls Tryz.prog 79 #[.slice A (digs 4294967296 x).length c,.slice A' (digs 4294967296 y).length c'] w fun e w'=>∃ A1 c1 A2 c2,e=.returned (.tuple #[.slice A1 (digs 4294967296 (x/y)).length c1,.slice A2 (digs 4294967296 (x%y)).length c2])∧OB w' w.heap.size A1 c1 (digs 4294967296 (x/y))∧RN w' (fun b=>b<w'.heap.size∧(P b∨Tu w' b)) A2 c2 (digs 4294967296 (x%y))∧Below w.heap.size w w':=by
 have tc:=wV P P' A A' c c' x y w h h'
 have hcv:0≤vJ x y:=by rcases ku x y with h|h|h<;>omega
 generalize vJ x y=v at tc hcv
 have hcv':¬ v<0:=by omega
 obtain⟨n1,hn⟩:∃ n1,(digs 4294967296 y).length=n1+1:=⟨(digs 4294967296 y).length-1,by omega⟩
 obtain⟨top,sc,htop,ht0,htl,hsc,hs0,hsl,hDn,hDt,hlow⟩:=nA hn
 have hy0:0<y:=by have:=qS (n:=n1) (show 0<4294967296 by omega);omega
 have hmono:=jK (B:=4294967296) (by omega) hge
 have hxl:=jB (B:=4294967296) (by omega) x
 have hxv:=zd (B:=4294967296) (by omega) x
 have hyv:=zd (B:=4294967296) (by omega) y
 have dx:=wJ x
 have dy:=wJ y
 generalize digs 4294967296 x=l at *
 generalize digs 4294967296 y=m at *
 obtain⟨n,hn'⟩:=eV (n1+1)
 rw[hn']at hn hDn
 obtain⟨t,htt⟩:=eV (l.length+1-n)
 have hXD:sc*x<4294967296^t*(sc*y):=by
  have k1:4294967296^l.length≤4294967296^t*y:=by
   have:4294967296^t*4294967296^n1≤4294967296^t*y:=qD _ hlow;rwa [←qP,show t+n1=l.length by omega]at this
  rw[jR];exact kZ (zI hxl k1) hs0
 have T1:=zF fun W (hW:RN W P A c l) (hp:∀ b,P b→b<W.heap.size)=>fJ P A c l sc W hW hp dx (by omega) hsl
 have T2:=zF fun W (hW:RN W P' A' c' m) (hp:∀ b,P' b→b<W.heap.size)=>fJ P' A' c' m sc W hW hp dy (by omega) hsl
 rw[hxv]at T1
 rw[hyv,hn]at T2
 rw[hn]at tc
 rw[hn]
 have hqx:(sc*x) /(sc*y)=x/y:=Nat.mul_div_mul_left _ _ hs0
 have hrx:(sc*x)%(sc*y)/sc=x%y:=by rw[Nat.mul_mod_mul_left,Nat.mul_div_cancel_left _ hs0]
 generalize x%y=rr at *
 have hD0:0<sc*y:=Nat.mul_pos hs0 hy0
 have dD:=wJ (sc*y)
 have hDv:=zd (B:=4294967296) (by omega) (sc*y)
 obtain⟨D,hD⟩:=eV (sc*y)
 obtain⟨X,hX⟩:=eV (sc*x)
 rw[hD]at hqx hrx hD0 dD hDv hDn hDt hXD T2
 rw[hX]at hqx hrx hXD T1
 have hnb:n<90000:=by omega
 have hlb:l.length<90000:=by omega
 have i1:(n:Int)-1=(n1:Int):=by omega
 have i2:n1<n:=by omega
 have i3:((n:Int)==1)=false:=eqB (by omega)
 have i4:(l.length:Int)+1-(n:Int)=(t:Int):=by omega
 have i5:(4294967296:Int) /((top:Int)+1)=(sc:Int):=by rw[←hsc];simp
 have i5':(4294967296:Int).tdiv ((top:Int)+1)=(sc:Int):=by rw[uG (by omega)];exact i5
 have i6:((top:Int)+1==0)=false:=eqB (by omega)
 have i7:IntKind.u64.wrap ((top:Int)+1)=(top:Int)+1:=qt _ (by omega)
 have i8:IntKind.u64.wrap (sc:Int)=(sc:Int):=qt _ (by omega)
 have i9:¬(top:Int)+1=0:=by omega
 obtain⟨ad',rfl,hPad,q1⟩:=h'.at_ (i:=n1) (by omega)
 rw[htop]at q1
 have Htc:=zF tc
 have Hn1:=zF hn'
 have HXD:=zF hXD
 have Htt:=zF htt
 have Hqx:=zF hqx
 have Hrx:=zF hrx
 have HDv:=zF hDv
 have HDn:=zF hDn
 have HDt:=zF hDt
 have Hs0:=zF hs0
 have Hsl:=zF (show sc<4294967297 by omega)
 have HdD:=zF dD
 clear tc hn' hXD htt hqx hrx hDv hDn hDt hX hD hlow hxl hxv hyv hsc htop ht0 hbig hge hy0 hmono dx dy hs0 hsl htl hcv dD
 go_enter Tryz.func79,Tryz.ntmps79
 go_wp2_with fail
 refine Htc.out.mono ?_
 rintro e w1 ⟨rfl,nd,rfl⟩
 obtain⟨W,hW⟩:=eW (w.drewN nd)
 have q2:W.cell? (ad'.add n1)=some (.int .u64 (top:Int)):=by rw[hW];exact q1
 have Hsz:=zF (show W.heap.size=w.heap.size by rw[hW];rfl)
 have hB0:Below w.heap.size w W:=by rw[hW];exact jC (zl _ _) _
 have hRa:RN W P A c l:=by rw[hW];exact h.drewN _
 have hRb:RN W P' (some ad') c' m:=by rw[hW];exact h'.drewN _
 rw[←hW]
 have T1':=zF (T1.out W hRa (by rw[Hsz.out];exact hP))
 clear hW q1 T1 hRa h h'
 go_wp2_with fail
 refine T1'.out.mono ?_
 rintro e w1 ⟨u0,rfl,hbu,hul,hDu,hvu,hB1⟩
 have hB1s:=hB1.size
 have hgu:=hbu.lt
 have T2':=zF (T2.out w1 (hRb.below hB1 (by rw[Hsz.out];exact hP')) (by have:=Hsz.out;intro b hb;have:=hP' b hb;omega))
 clear T2 hRb q2
 go_wp2_with fail
 refine T2'.out.mono ?_
 rintro e w2 ⟨v0,rfl,hbv,hvl,hDv0,hvv,hB2⟩
 have hB2s:=hB2.size
 have hOv:OB w2 w1.heap.size (some ⟨w1.heap.size,0,none⟩) (n+1) v0:=kq hbv (zG _) ⟨fun x hx=>by have:=hDv0 x hx;omega,by omega⟩ (by omega) (by unfold maxLen;omega)
 have htv:=kh _ _ _ _ _ hOv.rn hDv0
 have hRv:=(hOv.trim32 hDv0).rn
 rw[hvv,HDn.out,hvl]at htv
 rw[hvv,HDn.out]at hRv
 have Htv:=zF htv
 clear htv hOv hbv hvl hDv0 hvv T2' T1'
 go_wp2_with fail
 refine Htv.out.mono ?_
 rintro e w3 ⟨rfl,hw3⟩
 obtain rfl:w2=w3:=hw3
 have hmk1:=jD (P:=Tryz.prog) 28 65 (.int .u64 0) 8 Tryz.underlying28 kS rfl .i64 .i64 t (by have:=Htt.out;omega) (by have:=Htt.out;omega)
 have hmk2:=jD (P:=Tryz.prog) 28 65 (.int .u64 0) 8 Tryz.underlying28 kS rfl .i64 .i64 (n+1) (by omega) (by omega)
 simp only[vX,qW]at hmk2
 have htb:t≤90001:=by have:=Htt.out;omega
 go_wp2_with fail
 have hWw:=Hsz.out
 have hbu4:=((hbu.below hB2 hgu).alloc (.cells (madeCells #[.int .u64 0] t) 65)).alloc (.cells (madeCells #[.int .u64 0] (n+1)) 65)
 have hbq4:=(wK w2 t).alloc (.cells (madeCells #[.int .u64 0] (n+1)) 65)
 have hbw4:Blk ((w2.alloc (.cells (madeCells #[.int .u64 0] t) 65)).alloc (.cells (madeCells #[.int .u64 0] (n+1)) 65)) (w2.heap.size+1) (List.replicate (n+1) 0):=by
  have:=wK (w2.alloc (.cells (madeCells #[.int .u64 0] t) 65)) (n+1);simpa using this
 have hRv4:=(hRv.alloc_ (fun b hb=>hb.2) (.cells (madeCells #[.int .u64 0] t) 65)).alloc_ (fun b hb=>by have:=hb.2;simp;omega) (.cells (madeCells #[.int .u64 0] (n+1)) 65)
 have hB4:=((hB0.trans (hB1.mono (by omega))).trans (hB2.mono (by omega))).alloc (by omega) (.cells (madeCells #[.int .u64 0] t) 65)|>.alloc (by simp;omega) (.cells (madeCells #[.int .u64 0] (n+1)) 65)
 have Hs:=zF (xL t)
 clear hbu hRv hB0 hB1 hB2 hWw
 go_loopw [14] (fun iv wr=>∃(k:Nat) (z:Int) (L qs Wl:List Nat),iv=.int .i64 z∧vn k z∧k≤t∧gQ 4294967296 X D L qs k∧Hid (L.length=l.length+1)∧Hid (qs.length=t)∧Hid (Wl.length=n+1)∧Dig L∧Dig qs∧Blk wr W.heap.size L∧Blk wr w2.heap.size qs∧Blk wr (w2.heap.size+1) Wl∧RN wr (In w1.heap.size w2.heap.size) (some ⟨w1.heap.size,0,none⟩) n (digs 4294967296 D)∧Below w.heap.size w wr) (fun iv _=>(intOf iv+1).toNat)
 case atStart=>exact⟨t,_,u0,List.replicate t 0,_,rfl,Hs.out,by omega,by rw[←hvu];exact gQ.start (by simp) (by rw[hvu];exact HXD.out),zF hul,zF (by simp),zF (by simp),hDu,by intro x hx;simp at hx;omega,hbu4,hbq4,hbw4,hRv4,hB4⟩
 case round =>
  obtain⟨k,z,L,qs,Wl,rfl,hz,hk,hQ,HL,Hqs,HW,hDL,hDq,hbu,hbq,hbw,hRD,hB⟩:=hrel;clear hbu4 hbq4 hbw4 hRv4 hB4 hvu hul hDu;rcases hz with⟨rfl,rfl⟩|⟨j,rfl,rfl⟩
  · obtain⟨v1,v2⟩:=hQ.fin;rw[Hqx.out]at v1;have hws:=hB.size;have hWw:=Hsz.out;have hOu:=kq (c:=l.length+1) hbu (base:=w.heap.size) (by omega) ⟨fun x hx=>by have:=hDL x hx;omega,by have:=HL.out;omega⟩ (by have:=HL.out;omega) (by unfold maxLen;omega);have hOq:=kq (c:=t) hbq (base:=w.heap.size) (by omega) ⟨fun x hx=>by have:=hDq x hx;omega,by have:=Hqs.out;omega⟩ (by have:=Hqs.out;omega) (by unfold maxLen;omega);have tu:=kh _ _ _ _ _ hOu.rn hDL;have hOu':=hOu.trim32 hDL;have tq:=fun w h=>kh (fun b=>b<w.heap.size) (some ⟨w2.heap.size,0,none⟩) t qs w h hDq;have hOq':=hOq.trim32 hDq;rw[HL.out]at tu;have hlu:(digs 4294967296 (val 4294967296 L)).length<100000:=by have:=qz (B:=4294967296) (by omega) hDL;have:=HL.out;omega
    have ts:=fK _ _ _ _ sc _ hOu'.rn (fun b hb=>hb.2) (wJ _) hlu Hs0.out Hsl.out;rw[v1]at hOq' tq;rw[Hqs.out]at tq;have Hv6:=zF (show val 4294967296 (digs 4294967296 (val 4294967296 L))/sc=rr by rw[v2,zd (B:=4294967296) (by omega),Hrx.out]);have Tu:=zF tu;have Ts:=zF ts;have Tq:=zF tq;have hqu:RN _ (fun b=>b<_) (some ⟨w2.heap.size,0,none⟩) t qs:=hOq.rn.mono fun b hb=>hb.2;clear hQ hDL hDq hbu hbq hbw hRD hOu hOu' tu ts tq hlu v1 v2 hOq hWw;go_wp2_with fail;refine Tu.out.mono ?_;rintro e w5 ⟨rfl,rfl⟩;go_wp2_with fail;refine Ts.out.mono ?_;rintro e w6 ⟨A6,c6,rfl,hO6,hB6⟩;go_wp2_with fail;refine(Tq.out w6 ((hqu.below hB6 fun b hb=>hb).mono fun b hb=>zI hb hB6.size)).mono ?_;rintro e w7 ⟨rfl,rfl⟩;go_wp2;go_ret2;exact⟨_,_,A6,c6,by rw[Hv6.out];rfl,hOq'.below hB6 (zG _),by rw[←Hv6.out];exact hO6.rt,hB.trans (hB6.mono hws)⟩
  · have hLl:=HL.out;have hDl:=HDn.out;have e1:=Hn1.out;have hjt:=Htt.out;have hDd:=HdD.out;obtain⟨hz0,hQB,hge⟩:=tH (k:=j) e1 hDL hDd hDl (by omega) HDt.out (by rw[HDv.out];exact hQ.2);rw[HDv.out]at hQB hge;have d1:=hRD.cells n1 (by omega);obtain⟨y0,hy0⟩:=eV (j+n);obtain⟨y1,hy1⟩:=eV (j+n1);rw[hy0,hy1]at hge;have r0:=hbu.cell (i:=y0) (by omega);have r1:=hbu.cell (i:=y1) (by omega);rw[yx]at d1;obtain⟨a0,ha0⟩:=eV (dg L y0);obtain⟨a1,ha1⟩:=eV (dg L y1);obtain⟨vt,hvt⟩:=eV (dg (digs 4294967296 D) n1);have hvp:=HDt.out;have la0:=hDL.dgLt y0;have la1:=hDL.dgLt y1;rw[ha0]at r0 hge la0;rw[ha1]at r1 hge la1;rw[hvt]at d1 hge hvp;obtain⟨tt,htt⟩:=eV (a0*4294967296+a1);rw[htt]at hge;obtain⟨G0,hG0⟩:=eV (tt/vt);rw[hG0]at hge;have hG0t:G0≤tt:=by rw[←hG0];exact vV _ _
    have f0:(a0:Int)*4294967296+(a1:Int)=(tt:Int):=by omega
    have f1:(tt:Int) /(vt:Int)=(G0:Int):=by rw[←uT,hG0]
    have f1':(tt:Int).tdiv (vt:Int)=(G0:Int):=by rw[uG (by omega)];exact f1
    have f2:IntKind.u64.wrap ((a0:Int)*4294967296)=(a0:Int)*4294967296:=qt _ (by omega);have f3:IntKind.u64.wrap (tt:Int)=(tt:Int):=qt _ (by omega);have f4:IntKind.u64.wrap (G0:Int)=(G0:Int):=qt _ (by omega);have f5:((vt:Int)==0)=false:=eqB (by omega);have f6:¬ vt=0:=by omega
    have c0:(j:Int)+(n:Int)=(y0:Int):=by omega
    have c1':(y0:Int)-1=(y1:Int):=by omega
    have b0:(y0:Int)<(l.length:Int)+1:=by omega
    have b1:(y1:Int)<(l.length:Int)+1:=by omega
    have Hz0:=zF hz0;have Hjk:Hid (j+n+1≤l.length+1):=zF (by omega);have hQf:=zF hQB;have hgf:=zF hge;have Hy0:=zF hy0;have hjb:j<90001:=by omega
    have hy0b:y0<200000:=by omega
    clear hLl hDl e1 hjt hDd hz0 hQB hge hy1 ha0 ha1 hvt hvp la0 la1 htt hG0 hG0t hy0;go_wp2_with fail;go_quiet (fail);obtain⟨bb,hb1,hb2,hb3⟩:∃ bb:Bool,decide ((4294967296:Int)≤(G0:Int))=bb∧decide (4294967296≤G0)=bb∧Hid (bb=true↔4294967296≤G0):=⟨decide (4294967296≤G0),by simp only[decide_eq_decide];omega,rfl,zF (by simp)⟩
    go_upto_if 94 with fail;go_cut [15] (fun s15 wx=>∃ G:Nat,s15=.int .u64 (G:Int)∧fs 4294967296 (val 4294967296 L) j D G∧wx=World.drewN wr nq);case first =>
     rcases bb with _|_
     · have hGl:fs 4294967296 (val 4294967296 L) j D G0:=⟨(qF G0 4294967296).elim id (fun h1=>absurd (hb3.out.2 h1) (by simp)),hgf.out⟩
       clear hb1 hb2 hb3 f0 f1 f1' f2 f3 f4 f5 f6 hgf;go_wp2_with fail;go_meet;case rel=>exact⟨G0,rfl,hGl,rfl⟩
     · have hgg:fs 4294967296 (val 4294967296 L) j D 4294967295:=⟨by omega,by have:=hQf.out;exact Nat.le_of_lt_succ this⟩
       clear hb1 hb2 hb3 f0 f1 f1' f2 f3 f4 f5 f6 hgf;go_wp2_with fail;go_meet;case rel=>exact⟨4294967295,rfl,hgg,rfl⟩
    case rest =>
     obtain⟨G,rfl,hGd,rfl⟩:=hcut;clear hb1 hb2 hb3 hQf hgf f0 f1 f1' f2 f3 f4 f5 f6 r0 r1 d1 c1' b0 b1;have hbu':=hbu.drewN nq;have hbq':=hbq.drewN nq;have hbw':=hbw.drewN nq;have hRD':=hRD.drewN nq;have hB':=jC hB nq;clear hbu hbq hbw hRD hB;go_wp2_with fail;go_loopw [15] (fun gv wr=>∃(G:Nat) (Wl:List Nat),gv=.int .u64 (G:Int)∧fs 4294967296 (val 4294967296 L) j D G∧Hid (Wl.length=n+1)∧Blk wr W.heap.size L∧Blk wr w2.heap.size qs∧Blk wr (w2.heap.size+1) Wl∧RN wr (In w1.heap.size w2.heap.size) (some ⟨w1.heap.size,0,none⟩) n (digs 4294967296 D)∧Below w.heap.size w wr) (fun gv _=>(intOf gv).toNat);case atStart=>exact⟨G,Wl,rfl,hGd,HW,hbu',hbq',hbw',hRD',hB'⟩
     case round =>
      clear hGd HW hbu' hbq' hbw' hRD' hB';obtain⟨G,Wl,rfl,hGd,HW,hbu,hbq,hbw,hRD,hB⟩:=hrel;have hwW:=Hsz.out;have hless:=zAz W.heap.size (w2.heap.size+1) j n (l.length+1) G _ _ _ L _ Wl wr hbu hbw hRD (by omega) (fun b hb=>by have:=hb.2;omega) hDL (wJ D) HL.out HDn.out HW.out Hjk.out (by omega) hGd.1 Hz0.out;rw[HDv.out]at hless;have Hless:=zF hless;clear hwW hless;go_wp2_with fail;refine Hless.out.mono ?_;rintro e w5 ⟨L5,W5,hbu5,hDL5,hl5,hbw5,hw5,htwo,⟨rfl,hv5⟩|⟨rfl,rfl,hv5⟩⟩
      · have hlt5:=zAW (by omega) hD0 hGd.2 hv5;have hjq:j<qs.length:=by have:=Hqs.out;have:=Hjk.out;omega
        have hQ':=hQ.step hjq hv5 hlt5;have hneq:w2.heap.size≠W.heap.size:=by omega
        have hwW:=Hsz.out;have hbq5:Blk w5 w2.heap.size qs:=(htwo.block _ hneq (by omega)).trans hbq;have hRD5:=hRD.two htwo (fun b hb=>by have:=hb.1;have:=hb.2;omega);have hB5:=hB.trans (htwo.below (B:=w.heap.size) (by omega) (by omega));have q3:=hbq5.cell hjq;have q4:=hbq5.free j;have hbq':=hbq5.set j G;have hDq':=hDq.set j G hGd.1;have hB':=hB5.setCell (p:=⟨w2.heap.size,j,none⟩) (by show w.heap.size≤w2.heap.size;omega) (.int .u64 (G:Int));have hRD':RN (World.setCell w5 ⟨w2.heap.size,j,none⟩ (.int .u64 (G:Int))) (In w1.heap.size w2.heap.size) (some ⟨w1.heap.size,0,none⟩) n (digs 4294967296 D):=hRD5.keep fun q hq=>qH (w:=w5) (je _ _ _ q.block (by have:=hq.2;show q.block≠w2.heap.size;omega));have hbu':=hbu5.other (p:=⟨w2.heap.size,j,none⟩) (by show W.heap.size≠w2.heap.size;omega) (.int .u64 (G:Int));have hbw':=hbw5.other (p:=⟨w2.heap.size,j,none⟩) (by show w2.heap.size+1≠w2.heap.size;omega) (.int .u64 (G:Int));have Hqs':Hid ((qs.set j G).length=t):=zF (by simpa using Hqs.out);have k1:j<t:=by omega
        have Hs':=zF (xL j);have HL5:=zF hl5;have HW5:=zF hw5;clear hQ hDq hB hRD hbu hbq hbw hbu5 hbq5 hbw5 hRD5 hB5 htwo hv5 hlt5 hl5 hw5 hneq hwW hjq Hless hGd;go_wp2;go_roundw;case rel=>exact⟨j,_,L5,qs.set j G,W5,rfl,Hs'.out,by omega,hQ',HL5,Hqs',HW5,hDL5,hDq',hbu',hbq',hbw',hRD',hB'⟩
        case measure=>simp[intOf]
      · have hpos:=jl (vr _) hv5;obtain⟨G,rfl⟩:∃ k,G=k+1:=⟨G-1,by omega⟩
        have hGd':fs 4294967296 (val 4294967296 L5) j D G:=⟨by have:=hGd.1;omega,Nat.le_of_lt_succ hv5⟩
        have hGi:IntKind.u64.wrap (G:Int)=(G:Int):=qt _ (by have:=hGd'.1;omega);have hwW:=Hsz.out;have hbq5:Blk w5 w2.heap.size qs:=(htwo.block _ (by omega) (by omega)).trans hbq;have hRD5:=hRD.two htwo (fun b hb=>by have:=hb.1;have:=hb.2;omega);have hB5:=hB.trans (htwo.below (B:=w.heap.size) (by omega) (by omega));have HW5:=zF hw5;clear hQ hB hRD hbu hbq hbw htwo hv5 hl5 hw5 hwW Hless hGd hpos;go_wp2;go_roundw;case rel=>exact⟨G,W5,by go_num,hGd',HW5,hbu5,hbq5,hbw5,hRD5,hB5⟩
        case measure=>simp[intOf]
theorem nC (P P':Nat→Prop)(A A':Option Addr)(c c':Nat)(x y:Nat)(w:World)(h:RN w P A c (digs 4294967296 x))(h':RN w P' A' c' (digs 4294967296 y))(hP:∀ b,P b→b<w.heap.size)(hP':∀ b,P' b→b<w.heap.size)(hl:(digs 4294967296 x).length<90000)(h0:0<y) :
 Calls Tryz.prog 79 #[.slice A (digs 4294967296 x).length c,.slice A' (digs 4294967296 y).length c'] w fun e w'=>∃ A1 c1 A2 c2,e=.returned (.tuple #[.slice A1 (digs 4294967296 (x/y)).length c1,.slice A2 (digs 4294967296 (x%y)).length c2])∧OB w' w.heap.size A1 c1 (digs 4294967296 (x/y))∧RN w' (fun b=>b<w'.heap.size∧(P b∨Tu w' b)) A2 c2 (digs 4294967296 (x%y))∧Below w.heap.size w w':=by
 have hpos:0<(digs 4294967296 y).length:=by
  rw[jj (by omega) h0];simp
 by_cases hs:x<y∨(digs 4294967296 y).length=1
 · exact bk P P' A A' c c' x y w h h' hP (by omega) h0 hs
 · exact nD P P' A A' c c' x y w h h' hP hP' hl (by omega) (by omega)
theorem cU (P P':Nat→Prop)(A A':Option Addr)(c c':Nat)(x y:Nat)(w:World)(h:RN w P A c (digs 4294967296 x))(h':RN w P' A' c' (digs 4294967296 y))(hP:∀ b,P b→b<w.heap.size)(hP':∀ b,P' b→b<w.heap.size)(hl:(digs 4294967296 x).length<90000)(h0:0<y) :
 Calls Tryz.prog 79 #[.slice A (digs 4294967296 x).length c,.slice A' (digs 4294967296 y).length c'] w fun e w'=>∃ A1 c1 A2 c2,e=.returned (.tuple #[.slice A1 (digs 4294967296 (x/y)).length c1,.slice A2 (digs 4294967296 (x%y)).length c2])∧OB w' w.heap.size A1 c1 (digs 4294967296 (x/y))∧RN w' (fun b=>b<w'.heap.size) A2 c2 (digs 4294967296 (x%y))∧Below w.heap.size w w' :=
 (nC P P' A A' c c' x y w h h' hP hP' hl h0).mono fun _ _ ⟨A1,c1,A2,c2,he,hO,hR,hB⟩=>⟨A1,c1,A2,c2,he,hO,RN.mono hR fun _ hb=>hb.1,hB⟩
def fL (w:World) (v:Value):Nat:=match v with
 | .slice (some a) n _=>val 4294967296 ((List.range n).map fun i=>match w.cell? (a.add i)with|some (.int _ z)=>z.toNat|_=>0)
 | _=>0
theorem RN.readD {w:World}{P:Nat→Prop}{A:Option Addr}{c x:Nat}(h:RN w P A c (digs 4294967296 x)):fL w (.slice A (digs 4294967296 x).length c)=x:=by
 have hx:=zd (B:=4294967296) (by omega) x;rcases zT (digs 4294967296 x).length with h0|h0
 · have hn:=qQ h0;rw[hn]at hx ⊢;cases A<;>simp[fL]<;>simpa using hx
 · obtain⟨ad,rfl,_,_⟩:=h.at_ h0;simp only[fL];refine Eq.trans (congrArg _ ?_) hx;apply List.ext_getElem?;intro i;rw[List.getElem?_map];by_cases hi:i<(digs 4294967296 x).length
   · rw[List.getElem?_range hi,qO hi,yM,h.cells i hi,yt hi];simp
   · rw[jL (by simp;omega),jL (by omega)];rfl
theorem tV {x y:Nat}(h:vJ x y=0):x=y:=by rcases ku x y with h1|h1|h1<;>omega
theorem xY {v M k:Nat}(h:v≤M)(hM:(digs 4294967296 M).length≤k):(digs 4294967296 v).length≤k:=zK (jK (by omega) h) hM
theorem aa {x y j k:Nat}(hx:(digs 4294967296 x).length≤j)(hy:(digs 4294967296 y).length≤k):(digs 4294967296 (x*y)).length≤j+k:=by
 have h1:=jB (B:=4294967296) (by omega) x;have h2:=jB (B:=4294967296) (by omega) y;have h3:4294967296 ^(digs 4294967296 x).length≤4294967296^j:=zv (by omega) hx;have h4:4294967296 ^(digs 4294967296 y).length≤4294967296^k:=zv (by omega) hy;refine qR (by omega) ?_;rw[qP];exact Nat.mul_lt_mul'' (by omega) (by omega)
theorem ab {x y M k:Nat}(hx:x≤M)(hy:y≤M)(hM:(digs 4294967296 M).length≤k):(digs 4294967296 (x+y)).length≤k+1:=by
 have h1:=jB (B:=4294967296) (by omega) M;have h2:4294967296 ^(digs 4294967296 M).length≤4294967296^k:=zv (by omega) hM;refine qR (by omega) ?_;rw[zp];omega
def RT (w:World) (A:Option Addr) (c:Nat) (l:List Nat):Prop:=RN w (fun b=>b<w.heap.size∧Tu w b) A c l
theorem zAQ (A A':Option Addr)(c c' x y:Nat)(w:World)(h:RT w A c (digs 4294967296 x))(h':RU w A' c' (digs 4294967296 y))(hl:(digs 4294967296 x).length<90000)(h0:0<y) :
 Calls Tryz.prog 49 #[.slice A (digs 4294967296 x).length c,.slice A' (digs 4294967296 y).length c'] w fun e w'=>∃ A1 c1,e=.returned (.slice A1 (digs 4294967296 (x%y)).length c1)∧RT w' A1 c1 (digs 4294967296 (x%y))∧Below w.heap.size w w':=by
 have hq:=zF (nC _ _ A A' c c' x y w h h' (fun _ hb=>hb.1) (fun _ hb=>hb) hl h0)
 go_enter Tryz.func49,Tryz.ntmps49
 go_wp2_with fail
 refine hq.out.mono ?_
 rintro e w1 ⟨A1,c1,A2,c2,rfl,hO,hR,hB⟩
 go_wp2
 go_ret
 exact⟨A2,c2,rfl,RN.mono hR fun b hb=>⟨hb.1,hb.2.elim (fun g=>⟨g.2.choose,(hB.block b g.1).trans g.2.choose_spec⟩) id⟩,hB⟩
theorem xU (A A':Option Addr)(c c' x y:Nat)(w:World)(h:RU w A c (digs 4294967296 x))(h':RU w A' c' (digs 4294967296 y))(hl:(digs 4294967296 x).length<90000)(h0:0<y) :
 Calls Tryz.prog 49 #[.slice A (digs 4294967296 x).length c,.slice A' (digs 4294967296 y).length c'] w fun e w'=>∃ A1 c1,e=.returned (.slice A1 (digs 4294967296 (x%y)).length c1)∧RU w' A1 c1 (digs 4294967296 (x%y))∧Below w.heap.size w w':=by
 have hq:=zF (cU _ _ A A' c c' x y w h h' (fun _ hb=>hb) (fun _ hb=>hb) hl h0)
 go_enter Tryz.func49,Tryz.ntmps49
 go_wp2_with fail
 refine hq.out.mono ?_
 rintro e w1 ⟨A1,c1,A2,c2,rfl,hO,hR,hB⟩
 go_wp2
 go_ret
 exact⟨A2,c2,rfl,hR,hB⟩
theorem bm (A A' Am:Option Addr)(c c' cm x y m:Nat)(w:World)(h:RU w A c (digs 4294967296 x))(h':RU w A' c' (digs 4294967296 y))(hm:RU w Am cm (digs 4294967296 m))(hl:(digs 4294967296 x).length<40000)(hl':(digs 4294967296 y).length<40000)(h0:0<m) :
 Calls Tryz.prog 82 #[.slice A (digs 4294967296 x).length c,.slice A' (digs 4294967296 y).length c',.slice Am (digs 4294967296 m).length cm] w fun e w'=>∃ A1 c1,e=.returned (.slice A1 (digs 4294967296 (x*y%m)).length c1)∧RU w' A1 c1 (digs 4294967296 (x*y%m))∧Below w.heap.size w w':=by
 have hq:=zF (cW _ _ A A' c c' x y w h h' (fun _ hb=>hb) (fun _ hb=>hb) (by omega) (by omega))
 go_enter Tryz.func82,Tryz.ntmps82
 go_wp2_with fail
 refine hq.out.mono ?_
 rintro e w1 ⟨A1,c1,rfl,hO,hB⟩
 have hr:=zF (xU A1 Am c1 cm (x*y) m w1 hO.ru (hm.up hB) (by have:=aa (zG (digs 4294967296 x).length) (zG (digs 4294967296 y).length);omega) h0)
 go_wp2_with fail
 refine hr.out.mono ?_
 rintro e w2 ⟨A2,c2,rfl,hR,hB2⟩
 go_wp2
 go_ret
 exact⟨A2,c2,rfl,hR,hB.trans (hB2.mono hB.size)⟩
def RC (w:World) (C:Crv) (v:Value):Prop:=∃(Ap An Ab Ax Ay:Option Addr) (cp cn cb cx cy:Nat),
 v=.agg #[.slice Ap (digs 4294967296 C.M).length cp,.slice An (digs 4294967296 (val 18446744073709551616 C.nl)).length cn,.slice Ab (digs 4294967296 C.bb).length cb,.slice Ax (digs 4294967296 (val 18446744073709551616 C.xl)).length cx,.slice Ay (digs 4294967296 (val 18446744073709551616 C.yl)).length cy,.int .i64 (C.size:Int)] ∧
 RU w Ap cp (digs 4294967296 C.M)∧RU w An cn (digs 4294967296 (val 18446744073709551616 C.nl))∧RU w Ab cb (digs 4294967296 C.bb)∧RU w Ax cx (digs 4294967296 (val 18446744073709551616 C.xl))∧RU w Ay cy (digs 4294967296 (val 18446744073709551616 C.yl))
theorem RC.ext {w X:World}{C:Crv}{v:Value}(h:RC w C v)(hE:Ext w X):RC X C v:=by
 obtain⟨Ap,An,Ab,Ax,Ay,cp,cn,cb,cx,cy,e,h1,h2,h3,h4,h5⟩:=h;exact⟨Ap,An,Ab,Ax,Ay,cp,cn,cb,cx,cy,e,h1.up hE,h2.up hE,h3.up hE,h4.up hE,h5.up hE⟩
theorem qp:(Tryz.prog.info? 30).map (·.size)=some 6:=by kernel_rfl
theorem dI:(Tryz.prog.info? 45).map (·.size)=some 3:=by kernel_rfl
theorem xS {C:Crv}{v:Value}(A A':Option Addr)(c c' x y:Nat)(w:World)(hc:RC w C v)(h:RU w A c (digs 4294967296 x))(h':RU w A' c' (digs 4294967296 y))(hl:(digs 4294967296 x).length<40000)(hl':(digs 4294967296 y).length<40000)(h0:0<C.M) :
 Calls Tryz.prog 44 #[v,.slice A (digs 4294967296 x).length c,.slice A' (digs 4294967296 y).length c'] w fun e w'=>∃ A1 c1,e=.returned (.slice A1 (digs 4294967296 (x*y%C.M)).length c1)∧RU w' A1 c1 (digs 4294967296 (x*y%C.M))∧Ext w w':=by
 obtain⟨Ap,An,Ab,Ax,Ay,cp,cn,cb,cx,cy,rfl,h1,h2,h3,h4,h5⟩:=hc
 have hE:=fun o=>zO w o
 have hm:=fun o=>bm A A' Ap c c' cp x y C.M (w.alloc o) (h.up (hE o)) (h'.up (hE o)) (h1.up (hE o)) hl hl' h0
 have Hm:=zF hm
 clear hm hE
 go_enter Tryz.func44,Tryz.ntmps44
 go_wp2_with (go_at_call 82;refine(Hm.out _).mono ?_;rintro e w2 ⟨A1,c1,rfl,hO,hB⟩)
 go_ret
 exact⟨A1,c1,rfl,hO,(zO w _).trans hB⟩
theorem Tu.ext {w X:World}{b:Nat}(h:Tu w b)(hE:Ext w X):Tu X b:=let ⟨cur,hc⟩:=h;⟨cur,hE.at_ hc⟩
theorem OB.rt1 {w:World}{base:Nat}{A:Option Addr}{c:Nat}{l:List Nat}(h:OB w base A c l):RT w A c l:=h.tt
theorem RT.ru {w:World}{A:Option Addr}{c:Nat}{l:List Nat}(h:RT w A c l):RU w A c l:=RN.mono h fun _ hb=>hb.1
theorem RT.up {w X:World}{A:Option Addr}{c:Nat}{l:List Nat}(h:RT w A c l)(hE:Ext w X):RT X A c l:=(RN.below h hE fun _ hb=>hb.1).mono fun _ hb=>⟨zI hb.1 hE.bsize,hb.2.ext hE⟩
theorem zCN {C:Crv}{v:Value}(A A':Option Addr)(c c' x y:Nat)(w:World)(hc:RC w C v)(h:RU w A c (digs 4294967296 x))(h':RU w A' c' (digs 4294967296 y))(hl:(digs 4294967296 x).length<40000)(hlM:(digs 4294967296 C.M).length<40000)(hxy:y≤x+C.M)(h0:0<C.M) :
 Calls Tryz.prog 51 #[v,.slice A (digs 4294967296 x).length c,.slice A' (digs 4294967296 y).length c'] w fun e w'=>∃ A1 c1,e=.returned (.slice A1 (digs 4294967296 ((x+C.M-y)%C.M)).length c1)∧RT w' A1 c1 (digs 4294967296 ((x+C.M-y)%C.M))∧Ext w w':=by
 obtain⟨Ap,An,Ab,Ax,Ay,cp,cn,cb,cx,cy,rfl,h1,h2,h3,h4,h5⟩:=hc
 have hls:(digs 4294967296 (x+C.M)).length<50000:=by
  have a1:=zI (jB (B:=4294967296) (by omega) x) (zv (by omega) (jV hl));have a2:=zI (jB (B:=4294967296) (by omega) C.M) (zv (by omega) (jV hlM));obtain⟨k,hk⟩:=eW 40000;rw[←hk]at a1 a2;have:=qR (B:=4294967296) (n:=k+1) (by omega) (show x+C.M<4294967296 ^(k+1) by rw[zp];generalize 4294967296^k=R at *;omega);omega
 have hle:(digs 4294967296 (x+C.M-y)).length≤50000:=by
  obtain⟨k,hk⟩:=eW 50000;rw[←hk]at hls ⊢;exact qR (by omega) (jl (Nat.sub_le (x+C.M) y) (zI (jB (B:=4294967296) (by omega) (x+C.M)) (zv (by omega) (jV hls))))
 obtain⟨q,hq⟩:=eV w.heap.size
 obtain⟨W0,hW0⟩:=eW (w.alloc (.cells #[.slice Ap (digs 4294967296 C.M).length cp,.slice An (digs 4294967296 (val 18446744073709551616 C.nl)).length cn,.slice Ab (digs 4294967296 C.bb).length cb,.slice Ax (digs 4294967296 (val 18446744073709551616 C.xl)).length cx,.slice Ay (digs 4294967296 (val 18446744073709551616 C.yl)).length cy,.int .i64 (C.size:Int)] 30))
 have hE0:Ext w W0:=by rw[hW0];exact zO _ _
 have b0:W0.cell? ⟨q,0,none⟩=some (.slice Ap (digs 4294967296 C.M).length cp):=by rw[hW0,←hq];exact zQ (zS w _) 0
 have HE0:=zF hE0
 clear hE0
 go_enter Tryz.func51,Tryz.ntmps51
 go_upto_region 1 with fail
 rw[←hW0]
 have HW0:=zF hW0
 have Hq:=zF hq
 clear hW0 hq
 refine zh (by kernel_rfl) 10 [0,0,2,7,0,31,0,64,255,511] [] (fun j f X=>match j with
  | 0=>f 0=.slice A (digs 4294967296 x).length c
  | 1=>f 1=.pointer (some ⟨q,0,none⟩)
  | 2=>f 2=.slice Ap (digs 4294967296 C.M).length cp
  | 3=>∃ A1 c1,f 3=.slice A1 (digs 4294967296 (x+C.M)).length c1∧RU X A1 c1 (digs 4294967296 (x+C.M))
  | 4=>f 4=.slice A' (digs 4294967296 y).length c'
  | 5=>∃ A1 c1,f 5=.slice A1 (digs 4294967296 (x+C.M-y)).length c1∧RT X A1 c1 (digs 4294967296 (x+C.M-y))
  | 6=>f 6=.pointer (some ⟨q,0,none⟩)
  | 7=>f 7=.slice Ap (digs 4294967296 C.M).length cp
  | 8=>∃ A1 c1,f 8=.slice A1 (digs 4294967296 ((x+C.M-y)%C.M)).length c1∧RT X A1 c1 (digs 4294967296 ((x+C.M-y)%C.M))
  | 9=>f 9=(f 8)
  | _=>True) (by kernel_rfl) [(7,0),(8,1),(9,2),(10,3),(11,4),(12,5),(13,6),(14,7),(15,8),(6,9)] (by kernel_rfl) ?_
 refine zJ 1 9 ?_
 refine zJ 2 8 ?_
 refine qK 3 7 1 b0 ?_
 refine qI 4 6 (fun f=>#[f 0,f 2]) (F':=50) (fun f X hX hR=>?_) ?_
 · have e0:f 0=_:=hR.out 0 rfl;have e2:f 2=_:=hR.out 2 rfl;simp only[e0,e2];refine(uY _ _ A Ap c cp x C.M X (h.up (HE0.out.trans hX)) (h1.up (HE0.out.trans hX)) (fun _ hb=>hb) (fun _ hb=>hb) (by omega) (by omega)).mono ?_;rintro e w2 ⟨A1,c1,rfl,hO,hB⟩;exact⟨(.slice A1 (digs 4294967296 (x+C.M)).length c1),rfl,hB,fun Y hY=>⟨A1,c1,rfl,hO.ru.up hY⟩⟩
 refine zJ 5 5 ?_
 refine qI 6 4 (fun f=>#[f 3,f 4]) (F':=81) (fun f X hX hR=>?_) ?_
 · obtain⟨A3,c3,(e3:f 3=_),o3⟩:=hR.out 3 rfl;have e4:f 4=_:=hR.out 4 rfl;simp only[e3,e4];refine(cT _ _ A3 A' c3 c' (x+C.M) y X o3 (h'.up (HE0.out.trans hX)) (fun _ hb=>hb) (fun _ hb=>hb) (by omega) hxy).mono ?_;rintro e w2 ⟨A1,c1,rfl,hO,hB⟩;exact⟨(.slice A1 (digs 4294967296 (x+C.M-y)).length c1),rfl,hB,fun Y hY=>⟨A1,c1,rfl,(OB.rt1 hO).up hY⟩⟩
 refine zJ 7 3 ?_
 refine qK 8 2 6 b0 ?_
 refine qI 9 1 (fun f=>#[f 5,f 7]) (F':=49) (fun f X hX hR=>?_) ?_
 · obtain⟨A5,c5,(e5:f 5=_),o5⟩:=hR.out 5 rfl;have e7:f 7=_:=hR.out 7 rfl;simp only[e5,e7];refine(zAQ A5 Ap c5 cp (x+C.M-y) C.M X o5 (h1.up (HE0.out.trans hX)) (by omega) h0).mono ?_;rintro e w2 ⟨A1,c1,rfl,hO,hB⟩;exact⟨(.slice A1 (digs 4294967296 ((x+C.M-y)%C.M)).length c1),rfl,hB,fun Y hY=>⟨A1,c1,rfl,hO.up hY⟩⟩
 refine zt 10 0 [(7,0),(8,1),(9,2),(10,3),(11,4),(12,5),(13,6),(14,7),(15,8)] (fun f X hX hR K hK=>?_) ?_
 · obtain⟨A8,c8,(e8:f 8=_),o8⟩:=hR.out 8 rfl;simp only[yZ,e8];refine⟨?_⟩;go_simp;exact hK.out _ ((f 8)) _ (by simp only[yZ,e8]) (zX _) trivial (fun _ _=>rfl)
 refine yF ⟨fun f X hX hR hal hap=>?_⟩
 obtain⟨A3,c3,(e3:f 3=_),o3⟩:=hR 3 (by decide)
 obtain⟨A5,c5,(e5:f 5=_),o5⟩:=hR 5 (by decide)
 obtain⟨A8,c8,(e8:f 8=_),o8⟩:=hR 8 (by decide)
 have e9:f 9=(f 8):=hR 9 (by decide)
 simp only[yZ,e3,e5,e8,e9]
 clear hR hal hap e3 e5 e8 e9
 refine zH ?_
 go_wp2
 go_ret
 exact⟨A8,c8,rfl,o8,HE0.out.trans hX⟩
theorem aS {C:Crv}{v:Value}(A A':Option Addr)(c c' x y:Nat)(w:World)(hc:RC w C v)(h:RU w A c (digs 4294967296 x))(h':RU w A' c' (digs 4294967296 y))(hl:(digs 4294967296 x).length<40000)(hlM:(digs 4294967296 C.M).length<40000)(hxy:y≤x+C.M)(h0:0<C.M) :
 Calls Tryz.prog 51 #[v,.slice A (digs 4294967296 x).length c,.slice A' (digs 4294967296 y).length c'] w fun e w'=>∃ A1 c1,e=.returned (.slice A1 (digs 4294967296 ((x+C.M-y)%C.M)).length c1)∧RU w' A1 c1 (digs 4294967296 ((x+C.M-y)%C.M))∧Ext w w' :=
 (zCN A A' c c' x y w hc h h' hl hlM hxy h0).mono fun _ _ ⟨A1,c1,he,hO,hB⟩=>⟨A1,c1,he,hO.ru,hB⟩
theorem xF {x M k:Nat}(hM:0<M)(hl:(digs 4294967296 M).length≤k):(digs 4294967296 (x%M)).length≤k :=
 qR (by omega) (zI (Nat.lt_trans (qL x hM) (jB (B:=4294967296) (by omega) M)) (zv (by omega) hl))
theorem xo {x M k:Nat}(hM:x≤M)(hl:(digs 4294967296 M).length≤k):(digs 4294967296 x).length≤k :=
 qR (by omega) (zI (jl hM (jB (B:=4294967296) (by omega) M)) (zv (by omega) hl))
theorem Crv.Fine.len {C:Crv}(h:C.Fine):(digs 4294967296 C.M).length≤96:=by
 have h1:=h.room;have h2:(256:Nat)^C.size≤256^48:=zv (by omega) h.small;have h3:(256:Nat)^48≤4294967296^96:=by decide +kernel
 exact qR (by omega) (zI h1 (zK h2 h3))
theorem zBO (a b:Nat):(vJ a b==0)=decide (a=b):=by
 unfold vJ;split
 · rw[jF (by omega)];rfl
 · split
   · rw[qZ (by omega)];rfl
   · rw[jF (by omega)];rfl
theorem sh {C:Crv}{v:Value}(hF:C.Fine)(A A':Option Addr)(c c' x y:Nat)(inf:Bool)(w:World)(hc:RC w C v)(h:RU w A c (digs 4294967296 x))(h':RU w A' c' (digs 4294967296 y)) :
 Calls Tryz.prog 22 #[v,.agg #[.bool inf,.slice A (digs 4294967296 x).length c,.slice A' (digs 4294967296 y).length c']] w fun e w'=>e=.returned (.bool (inf||onB C.M C.bb x y))∧Ext w w':=by
 have hcv:=hc
 obtain⟨Ap,An,Ab,Ax,Ay,cp,cn,cb,cx,cy,rfl,h1,h2,h3,h4,h5⟩:=hc
 obtain⟨s,hs⟩:=eV C.size
 have s1:32≤s:=by rw[←hs];exact hF.pos
 have hs0:((s:Int)==0)=false:=by simp;omega
 obtain⟨r,hr⟩:=eV ((inf||onB C.M C.bb x y))
 rw[hr,hs]
 rw[hs]at hcv
 have Hr:=zF hr
 have HF:=zF hF
 have L:=zF hF.len
 have Hcv:=zF hcv
 have hM0:0<C.M:=by have:=hF.three;omega
 have HM0:=zF hM0
 clear hr hF hs hcv
 obtain⟨q,hq⟩:=eV w.heap.size
 obtain⟨W0,hW0⟩:=eW ((w.alloc (.cells #[.slice Ap (digs 4294967296 C.M).length cp,.slice An (digs 4294967296 (val 18446744073709551616 C.nl)).length cn,.slice Ab (digs 4294967296 C.bb).length cb,.slice Ax (digs 4294967296 (val 18446744073709551616 C.xl)).length cx,.slice Ay (digs 4294967296 (val 18446744073709551616 C.yl)).length cy,.int .i64 (s:Int)] 30)).alloc (.cells #[.bool inf,.slice A (digs 4294967296 x).length c,.slice A' (digs 4294967296 y).length c'] 45))
 have hE0:Ext w W0:=by rw[hW0];exact(zO _ _).trans (zO _ _)
 have hcb:W0.heap[q]?=some (.cells #[.slice Ap (digs 4294967296 C.M).length cp,.slice An (digs 4294967296 (val 18446744073709551616 C.nl)).length cn,.slice Ab (digs 4294967296 C.bb).length cb,.slice Ax (digs 4294967296 (val 18446744073709551616 C.xl)).length cx,.slice Ay (digs 4294967296 (val 18446744073709551616 C.yl)).length cy,.int .i64 (s:Int)] 30 (0,0)):=by rw[hW0,←hq];exact(zO _ _).at_ (zS w _)
 have hpb:W0.heap[q+1]?=some (.cells #[.bool inf,.slice A (digs 4294967296 x).length c,.slice A' (digs 4294967296 y).length c'] 45 (0,0)):=by rw[hW0,←hq];have:=zS (w.alloc (.cells #[.slice Ap (digs 4294967296 C.M).length cp,.slice An (digs 4294967296 (val 18446744073709551616 C.nl)).length cn,.slice Ab (digs 4294967296 C.bb).length cb,.slice Ax (digs 4294967296 (val 18446744073709551616 C.xl)).length cx,.slice Ay (digs 4294967296 (val 18446744073709551616 C.yl)).length cy,.int .i64 (s:Int)] 30)) (.cells #[.bool inf,.slice A (digs 4294967296 x).length c,.slice A' (digs 4294967296 y).length c'] 45);rwa [qB]at this
 have b0:W0.cell? ⟨q,0,none⟩=some (.slice Ap (digs 4294967296 C.M).length cp):=zQ hcb 0
 have b2:W0.cell? ⟨q,2,none⟩=some (.slice Ab (digs 4294967296 C.bb).length cb):=zQ hcb 2
 have p1:W0.cell? ⟨q+1,1,none⟩=some (.slice A (digs 4294967296 x).length c):=zQ hpb 1
 have p2:W0.cell? ⟨q+1,2,none⟩=some (.slice A' (digs 4294967296 y).length c'):=zQ hpb 2
 have HE0:=zF hE0
 have HW0:=zF hW0
 clear hE0
 cases inf
 case true =>
  obtain rfl:r=true:=by rw[←Hr.out];rfl
  clear hW0 hq;have hW0:=HW0.out;go_enter Tryz.func22,Tryz.ntmps22;go_wp2;go_ret;exact⟨rfl,by have:=HE0.out;rw[hW0]at this;exact this⟩
 case false =>
  rw[Bool.false_or]at Hr;have arm1:=zF (fun X (hX:Ext W0 X)=>wV _ _ A Ap c cp x C.M X (h.up (HE0.out.trans hX)) (h1.up (HE0.out.trans hX)));have arm2:=zF (fun X (hX:Ext W0 X)=>wV _ _ A' Ap c' cp y C.M X (h'.up (HE0.out.trans hX)) (h1.up (HE0.out.trans hX)));by_cases hxM:x<C.M
  · have tx:=zF (wO hxM);by_cases hyM:y<C.M
    · have ty:=zF (wO hyM);obtain⟨cvv,hcvv⟩:=eW (Value.agg #[.slice Ap (digs 4294967296 C.M).length cp,.slice An (digs 4294967296 (val 18446744073709551616 C.nl)).length cn,.slice Ab (digs 4294967296 C.bb).length cb,.slice Ax (digs 4294967296 (val 18446744073709551616 C.xl)).length cx,.slice Ay (digs 4294967296 (val 18446744073709551616 C.yl)).length cy,.int .i64 (s:Int)]);rw[←hcvv]at Hcv;have HV:=zF hcvv;obtain⟨m2,hm2⟩:=eV (x*x%C.M);obtain⟨m3,hm3⟩:=eV (m2*x%C.M);obtain⟨t3,ht3⟩:=eV (3*x%C.M);obtain⟨mi,hmi⟩:=eV ((m3+C.M-t3)%C.M);obtain⟨rt,hrt⟩:=eV ((mi+C.bb)%C.M);obtain⟨yy,hyy⟩:=eV (y*y%C.M);have K2:=zF (hm2▸xF (x:=x*x) HM0.out L.out);have K3:=zF (hm3▸xF (x:=m2*x) HM0.out L.out);have Kt:=zF (ht3▸xF (x:=3*x) HM0.out L.out);have Ki:=zF (hmi▸xF (x:=m3+C.M-t3) HM0.out L.out);have Ky:=zF (hyy▸xF (x:=y*y) HM0.out L.out);have Kx:=zF (xo (jV hxM) L.out);have KY:=zF (xo (jV hyM) L.out);have K0:=zF (xo (jV HF.out.three) L.out);have Kb:=zF (xo (jV HF.out.bb) L.out)
      have Ks:=zF (show(digs 4294967296 (mi+C.bb)).length≤97 by
       have a1:=zI (jB (B:=4294967296) (by omega) C.M) (zv (by omega) L.out)
       have a2:=qL (m3+C.M-t3) HM0.out
       have a3:=HF.out.bb
       refine qR (by omega) ?_
       rw[zp];generalize 4294967296^96=R at *;omega)
      have Htm:=zF (show t3≤m3+C.M by have:=qL (3*x) HM0.out;omega);have Hmb:=zF (show mi<C.M by have:=qL (m3+C.M-t3) HM0.out;omega);have Hres:=zF (show r=decide (yy=rt) by rw[←Hr.out,onB,qZ hxM,qZ hyM,hm2,hm3,ht3,hmi,hrt,hyy];rfl);have E2:=zF hm2;have E3:=zF hm3;have Et:=zF ht3;have Ei:=zF hmi;have Er:=zF hrt;have Ey:=zF hyy;clear hcvv hm2 hm3 ht3 hmi hrt hyy hxM hyM;go_enter Tryz.func22,Tryz.ntmps22;go_upto_region 5 with fail;rw[←hW0];clear hW0 hq
      refine zN 14 [0,1,0,4,15,31,63,127,255,127,639,2047,4095,8191] [] (fun j f X=>match j with
       | 0=>f 0=.pointer (some ⟨q+1,1,none⟩)
       | 1=>f 1=.slice A (digs 4294967296 x).length c
       | 2=>f 2=.pointer (some ⟨q,0,none⟩)
       | 3=>f 3=.slice Ap (digs 4294967296 C.M).length cp
       | 4=>f 4=.int .i64 (-1)
       | 5=>f 5=.bool false
       | 6=>f 6=.bool false
       | 7=>f 7=.pointer (some ⟨q+1,2,none⟩)
       | 8=>f 8=.slice A' (digs 4294967296 y).length c'
       | 9=>f 9=.pointer (some ⟨q,0,none⟩)
       | 10=>f 10=.slice Ap (digs 4294967296 C.M).length cp
       | 11=>f 11=.int .i64 (-1)
       | 12=>f 12=.bool false
       | 13=>f 13=.bool false
       | _=>True) (by kernel_rfl) [(13,0),(14,1),(15,2),(16,3),(17,4),(18,5),(19,6),(20,7),(21,8),(22,9),(23,10),(24,11),(25,12),(26,13)] (by kernel_rfl) ?_
      refine zJ 1 13 ?_;refine qK 2 12 0 p1 ?_;refine zJ 3 11 ?_;refine qK 4 10 2 b0 ?_;refine qI 5 9 (fun f=>#[f 1,f 3]) (F':=38) (fun f X hX hR=>?_) ?_
      · have e1:f 1=_:=hR.out 1 rfl;have e3:f 3=_:=hR.out 3 rfl;simp only[e1,e3];refine(arm1.out X hX).mono ?_;rintro e w2 ⟨rfl,nq,rfl⟩;rw[tx.out];exact⟨(.int .i64 (-1)),rfl,(kW _ _),fun _ _=>rfl⟩
      refine zt 6 8 [(13,0),(14,1),(15,2),(16,3),(17,4)] (fun f X hX hR K hK=>?_) ?_
      · have e4:f 4=_:=hR.out 4 rfl;simp only[yZ,e4];refine⟨?_⟩;go_simp;exact qd hK (s:=by simp only[yZ,e4])
      refine qN 7 7 5 ?_;refine qN 8 6 6 ?_;refine zt 9 5 [(13,0),(14,1),(15,2),(16,3),(17,4),(18,5),(19,6),(20,7),(22,9),(23,10)] (fun f X hX hR K hK=>?_) ?_
      · have e6:f 6=_:=hR.out 6 rfl;have e7:f 7=_:=hR.out 7 rfl;have x0:=hX.cell p2;simp only[yZ,e6,e7];refine⟨zU (by kernel_rfl) ?_⟩;go_simp;exact qd hK (s:=by simp only[yZ,e6,e7])
      refine qN 10 4 6 ?_;refine zt 11 3 [(13,0),(14,1),(15,2),(16,3),(17,4),(18,5),(19,6),(20,7),(21,8),(22,9)] (fun f X hX hR K hK=>?_) ?_
      · have e6:f 6=_:=hR.out 6 rfl;have e9:f 9=_:=hR.out 9 rfl;have x0:=hX.cell b0;simp only[yZ,e6,e9];refine⟨zU (by kernel_rfl) ?_⟩;go_simp;exact qd hK (s:=by simp only[yZ,e6,e9])
      refine Par.c1 12 2 6 (fun f=>#[f 8,f 10]) (F':=38) (fun f X hX hR=>?_) ?_
      · have e8:f 8=_:=hR.out 8 rfl;have e10:f 10=_:=hR.out 10 rfl;simp only[e8,e10];refine(arm2.out X hX).mono ?_;rintro e w2 ⟨rfl,nq,rfl⟩;rw[ty.out];exact⟨(.int .i64 (-1)),rfl,(kW _ _),fun _ _=>rfl⟩
      refine zt 13 1 [(13,0),(14,1),(15,2),(16,3),(17,4),(18,5),(19,6),(20,7),(21,8),(22,9),(23,10),(24,11)] (fun f X hX hR K hK=>?_) ?_
      · have e6:f 6=_:=hR.out 6 rfl;have e11:f 11=_:=hR.out 11 rfl;simp only[yZ,e6,e11];refine⟨zU (by kernel_rfl) ?_⟩;go_simp;exact qd hK (s:=by simp only[yZ,e6,e11])
      refine jm 14 0 6 12 ?_;refine yF ⟨fun f X hX hR hal hap=>?_⟩;have e13:f 13=_:=hR 13 (by decide);simp only[yZ,e13];clear hR hal hap e13;refine zH ?_;have hE:Ext W0 X:=hX;clear hX;go_upto_region 7 with fail;have d1:=hE.cell p1
      refine zh (by kernel_rfl) 11 [0,0,0,4,0,16,62,0,128,511,1023] [] (fun j f X=>match j with
       | 0=>f 0=cvv
       | 1=>f 1=cvv
       | 2=>f 2=.pointer (some ⟨q+1,1,none⟩)
       | 3=>f 3=.slice A (digs 4294967296 x).length c
       | 4=>f 4=.pointer (some ⟨q+1,1,none⟩)
       | 5=>f 5=.slice A (digs 4294967296 x).length c
       | 6=>∃ A1 c1,f 6=.slice A1 (digs 4294967296 m2).length c1∧RU X A1 c1 (digs 4294967296 m2)
       | 7=>f 7=.pointer (some ⟨q+1,1,none⟩)
       | 8=>f 8=.slice A (digs 4294967296 x).length c
       | 9=>∃ A1 c1,f 9=.slice A1 (digs 4294967296 m3).length c1∧RU X A1 c1 (digs 4294967296 m3)
       | 10=>∃ A1 c1,f 10=.slice A1 (digs 4294967296 m3).length c1∧RU X A1 c1 (digs 4294967296 m3)
       | _=>True) (by kernel_rfl) [(27,0),(28,1),(29,2),(30,3),(31,4),(32,5),(33,6),(34,7),(35,8),(36,9),(5,10)] (by kernel_rfl) ?_
      refine zt 1 10 [(28,1),(29,2),(30,3),(31,4),(32,5),(33,6),(34,7),(35,8)] (fun f X hX hR K hK=>?_) ?_
      · simp only[yZ];refine⟨zU (by kernel_rfl) (kB 30 (.tmp 2) rfl rfl (hE.trans hX|>.at_ hcb) Tryz.underlying30 rfl qp HV.out ?_)⟩;exact hK.out _ (cvv) _ (by simp only[yZ]) (zX _) trivial (fun _ _=>rfl)
      refine zt 2 9 [(27,0),(29,2),(30,3),(31,4),(32,5),(34,7),(35,8)] (fun f X hX hR K hK=>?_) ?_
      · simp only[yZ];refine⟨zU (by kernel_rfl) (kB 30 (.tmp 2) rfl rfl (hE.trans hX|>.at_ hcb) Tryz.underlying30 rfl qp HV.out ?_)⟩;exact hK.out _ (cvv) _ (by simp only[yZ]) (zX _) trivial (fun _ _=>rfl)
      refine zJ 3 8 ?_;refine qK 4 7 2 d1 ?_;refine zJ 5 6 ?_;refine qK 6 5 4 d1 ?_;refine qI 7 4 (fun f=>#[f 1,f 3,f 5]) (F':=44) (fun f X hX hR=>?_) ?_
      · have e1:f 1=_:=hR.out 1 rfl;have e3:f 3=_:=hR.out 3 rfl;have e5:f 5=_:=hR.out 5 rfl;simp only[e1,e3,e5];refine(xS A A c c x x X (Hcv.out.ext (HE0.out.trans (hE.trans hX))) (h.up (HE0.out.trans (hE.trans hX))) (h.up (HE0.out.trans (hE.trans hX))) (by have:=Kx.out;omega) (by have:=Kx.out;omega) HM0.out).mono ?_;rw[E2.out];rintro e w2 ⟨A1,c1,rfl,hO,hB⟩;exact⟨(.slice A1 (digs 4294967296 m2).length c1),rfl,hB,fun Y hY=>⟨A1,c1,rfl,hO.up hY⟩⟩
      refine zJ 8 3 ?_;refine qK 9 2 7 d1 ?_;refine qI 10 1 (fun f=>#[f 0,f 6,f 8]) (F':=44) (fun f X hX hR=>?_) ?_
      · have e0:f 0=_:=hR.out 0 rfl;obtain⟨A6,c6,(e6:f 6=_),o6⟩:=hR.out 6 rfl;have e8:f 8=_:=hR.out 8 rfl;simp only[e0,e6,e8];refine(xS A6 A c6 c m2 x X (Hcv.out.ext (HE0.out.trans (hE.trans hX))) o6 (h.up (HE0.out.trans (hE.trans hX))) (by have:=K2.out;omega) (by have:=Kx.out;omega) HM0.out).mono ?_;rw[E3.out];rintro e w2 ⟨A1,c1,rfl,hO,hB⟩;exact⟨(.slice A1 (digs 4294967296 m3).length c1),rfl,hB,fun Y hY=>⟨A1,c1,rfl,hO.up hY⟩⟩
      refine zt 11 0 [(27,0),(28,1),(29,2),(30,3),(31,4),(32,5),(33,6),(34,7),(35,8),(36,9)] (fun f X hX hR K hK=>?_) ?_
      · obtain⟨A9,c9,(e9:f 9=_),o9⟩:=hR.out 9 rfl;simp only[yZ,e9];refine⟨?_⟩;go_simp;exact hK.out _ (.slice A9 (digs 4294967296 m3).length c9) _ (by simp only[yZ,e9]) (zX _) trivial (fun Y hY=>⟨A9,c9,rfl,o9.up hY⟩)
      refine yF ⟨fun f X hX hR hal hap=>?_⟩;obtain⟨A6,c6,(e6:f 6=_),o6⟩:=hR 6 (by decide);obtain⟨A9,c9,(e9:f 9=_),o9⟩:=hR 9 (by decide);obtain⟨A10,c10,(e10:f 10=_),o10⟩:=hR 10 (by decide);simp only[yZ,e6,e9,e10];clear hR hal hap e6 e9 e10;refine zH ?_;replace hE:=hE.trans hX;clear hX d1 o6 o9;go_upto_region 8 with fail;have d1:=hE.cell p1
      refine zh (by kernel_rfl) 6 [0,0,0,4,15,31] [] (fun j f X=>match j with
       | 0=>f 0=cvv
       | 1=>∃ A1 c1,f 1=.slice A1 (digs 4294967296 3).length c1∧RU X A1 c1 (digs 4294967296 3)
       | 2=>f 2=.pointer (some ⟨q+1,1,none⟩)
       | 3=>f 3=.slice A (digs 4294967296 x).length c
       | 4=>∃ A1 c1,f 4=.slice A1 (digs 4294967296 t3).length c1∧RU X A1 c1 (digs 4294967296 t3)
       | 5=>∃ A1 c1,f 5=.slice A1 (digs 4294967296 t3).length c1∧RU X A1 c1 (digs 4294967296 t3)
       | _=>True) (by kernel_rfl) [(37,0),(38,1),(39,2),(40,3),(41,4),(6,5)] (by kernel_rfl) ?_
      refine zt 1 5 [(38,1),(39,2),(40,3)] (fun f X hX hR K hK=>?_) ?_
      · simp only[yZ];refine⟨zU (by kernel_rfl) (kB 30 (.tmp 2) rfl rfl (hE.trans hX|>.at_ hcb) Tryz.underlying30 rfl qp HV.out ?_)⟩;exact hK.out _ (cvv) _ (by simp only[yZ]) (zX _) trivial (fun _ _=>rfl)
      refine qI 2 4 (fun _=>#[Value.int IntKind.u64 3]) (F':=48) (fun f X hX hR=>?_) ?_
      · refine(gT 3 X (by omega)).mono ?_;rintro e w2 ⟨A1,c1,rfl,hO,hB⟩;exact⟨(.slice A1 (digs 4294967296 3).length c1),rfl,hB,fun Y hY=>⟨A1,c1,rfl,hO.ru.up hY⟩⟩
      refine zJ 3 3 ?_;refine qK 4 2 2 d1 ?_;refine qI 5 1 (fun f=>#[f 0,f 1,f 3]) (F':=44) (fun f X hX hR=>?_) ?_
      · have e0:f 0=_:=hR.out 0 rfl;obtain⟨A1,c1,(e1:f 1=_),o1⟩:=hR.out 1 rfl;have e3:f 3=_:=hR.out 3 rfl;simp only[e0,e1,e3];refine(xS A1 A c1 c 3 x X (Hcv.out.ext (HE0.out.trans (hE.trans hX))) o1 (h.up (HE0.out.trans (hE.trans hX))) (by have:=K0.out;omega) (by have:=Kx.out;omega) HM0.out).mono ?_;rw[Et.out];rintro e w2 ⟨A1,c1,rfl,hO,hB⟩;exact⟨(.slice A1 (digs 4294967296 t3).length c1),rfl,hB,fun Y hY=>⟨A1,c1,rfl,hO.up hY⟩⟩
      refine zt 6 0 [(37,0),(38,1),(39,2),(40,3),(41,4)] (fun f X hX hR K hK=>?_) ?_
      · obtain⟨A4,c4,(e4:f 4=_),o4⟩:=hR.out 4 rfl;simp only[yZ,e4];refine⟨?_⟩;go_simp;exact hK.out _ (.slice A4 (digs 4294967296 t3).length c4) _ (by simp only[yZ,e4]) (zX _) trivial (fun Y hY=>⟨A4,c4,rfl,o4.up hY⟩)
      refine yF ⟨fun f X hX hR hal hap=>?_⟩;obtain⟨A1,c1,(e1:f 1=_),o1⟩:=hR 1 (by decide);obtain⟨A4,c4,(e4:f 4=_),o4⟩:=hR 4 (by decide);obtain⟨A5,c5,(e5:f 5=_),o5⟩:=hR 5 (by decide);simp only[yZ,e1,e4,e5];clear hR hal hap e1 e4 e5;refine zH ?_;have g10:=o10.up hX;replace hE:=hE.trans hX;clear hX d1 o1 o4 o10;go_upto_region 9 with fail;have d0:=hE.cell b0;have d2:=hE.cell b2
      refine zh (by kernel_rfl) 11 [0,0,0,7,0,16,63,0,128,511,1023] [] (fun j f X=>match j with
       | 0=>f 0=cvv
       | 1=>f 1=.slice A10 (digs 4294967296 m3).length c10
       | 2=>f 2=.slice A5 (digs 4294967296 t3).length c5
       | 3=>∃ A1 c1,f 3=.slice A1 (digs 4294967296 mi).length c1∧RU X A1 c1 (digs 4294967296 mi)
       | 4=>f 4=.pointer (some ⟨q,2,none⟩)
       | 5=>f 5=.slice Ab (digs 4294967296 C.bb).length cb
       | 6=>∃ A1 c1,f 6=.slice A1 (digs 4294967296 (mi+C.bb)).length c1∧RU X A1 c1 (digs 4294967296 (mi+C.bb))
       | 7=>f 7=.pointer (some ⟨q,0,none⟩)
       | 8=>f 8=.slice Ap (digs 4294967296 C.M).length cp
       | 9=>∃ A1 c1,f 9=.slice A1 (digs 4294967296 rt).length c1∧RU X A1 c1 (digs 4294967296 rt)
       | 10=>∃ A1 c1,f 10=.slice A1 (digs 4294967296 rt).length c1∧RU X A1 c1 (digs 4294967296 rt)
       | _=>True) (by kernel_rfl) [(42,0),(43,1),(44,2),(45,3),(46,4),(47,5),(48,6),(49,7),(50,8),(51,9),(7,10)] (by kernel_rfl) ?_
      refine zt 1 10 [(43,1),(44,2),(46,4),(47,5),(49,7),(50,8)] (fun f X hX hR K hK=>?_) ?_
      · simp only[yZ];refine⟨zU (by kernel_rfl) (kB 30 (.tmp 2) rfl rfl (hE.trans hX|>.at_ hcb) Tryz.underlying30 rfl qp HV.out ?_)⟩;exact hK.out _ (cvv) _ (by simp only[yZ]) (zX _) trivial (fun _ _=>rfl)
      refine zJ 2 9 ?_;refine zJ 3 8 ?_;refine qI 4 7 (fun f=>#[f 0,f 1,f 2]) (F':=51) (fun f X hX hR=>?_) ?_
      · have e0:f 0=_:=hR.out 0 rfl;have e1:f 1=_:=hR.out 1 rfl;have e2:f 2=_:=hR.out 2 rfl;simp only[e0,e1,e2];refine(aS A10 A5 c10 c5 m3 t3 X (Hcv.out.ext (HE0.out.trans (hE.trans hX))) (g10.up hX) (o5.up hX) (by have:=K3.out;omega) (by have:=L.out;omega) Htm.out HM0.out).mono ?_;rw[Ei.out];rintro e w2 ⟨A1,c1,rfl,hO,hB⟩;exact⟨(.slice A1 (digs 4294967296 mi).length c1),rfl,hB,fun Y hY=>⟨A1,c1,rfl,hO.up hY⟩⟩
      refine zJ 5 6 ?_;refine qK 6 5 4 d2 ?_;refine qI 7 4 (fun f=>#[f 3,f 5]) (F':=50) (fun f X hX hR=>?_) ?_
      · obtain⟨A3,c3,(e3:f 3=_),o3⟩:=hR.out 3 rfl;have e5:f 5=_:=hR.out 5 rfl;simp only[e3,e5];refine(uY _ _ A3 Ab c3 cb mi C.bb X o3 (h3.up (HE0.out.trans (hE.trans hX))) (fun _ hb=>hb) (fun _ hb=>hb) (by have:=Ki.out;omega) (by have:=Kb.out;omega)).mono ?_;rintro e w2 ⟨A1,c1,rfl,hO,hB⟩;exact⟨(.slice A1 (digs 4294967296 (mi+C.bb)).length c1),rfl,hB,fun Y hY=>⟨A1,c1,rfl,hO.ru.up hY⟩⟩
      refine zJ 8 3 ?_;refine qK 9 2 7 d0 ?_;refine qI 10 1 (fun f=>#[f 6,f 8]) (F':=49) (fun f X hX hR=>?_) ?_
      · obtain⟨A6,c6,(e6:f 6=_),o6⟩:=hR.out 6 rfl;have e8:f 8=_:=hR.out 8 rfl;simp only[e6,e8];refine(xU A6 Ap c6 cp (mi+C.bb) C.M X o6 (h1.up (HE0.out.trans (hE.trans hX))) (by have:=Ks.out;omega) HM0.out).mono ?_;rw[Er.out];rintro e w2 ⟨A1,c1,rfl,hO,hB⟩;exact⟨(.slice A1 (digs 4294967296 rt).length c1),rfl,hB,fun Y hY=>⟨A1,c1,rfl,hO.up hY⟩⟩
      refine zt 11 0 [(42,0),(43,1),(44,2),(45,3),(46,4),(47,5),(48,6),(49,7),(50,8),(51,9)] (fun f X hX hR K hK=>?_) ?_
      · obtain⟨A9,c9,(e9:f 9=_),o9⟩:=hR.out 9 rfl;simp only[yZ,e9];refine⟨?_⟩;go_simp;exact hK.out _ (.slice A9 (digs 4294967296 rt).length c9) _ (by simp only[yZ,e9]) (zX _) trivial (fun Y hY=>⟨A9,c9,rfl,o9.up hY⟩)
      refine yF ⟨fun f X hX hR hal hap=>?_⟩;obtain⟨A3,c3,(e3:f 3=_),o3⟩:=hR 3 (by decide);obtain⟨A6,c6,(e6:f 6=_),o6⟩:=hR 6 (by decide);obtain⟨A9,c9,(e9:f 9=_),o9⟩:=hR 9 (by decide);obtain⟨A11,c11,(e10:f 10=_),o11⟩:=hR 10 (by decide);simp only[yZ,e3,e6,e9,e10];clear hR hal hap e3 e6 e9 e10;refine zH ?_;replace hE:=hE.trans hX;clear hX d0 d2 o3 o6 o9 g10 o5;go_upto_region 10 with fail;have d2:=hE.cell p2
      refine zN 10 [0,0,2,0,8,31,0,127,255,511] [] (fun j f X=>match j with
       | 0=>f 0=cvv
       | 1=>f 1=.pointer (some ⟨q+1,2,none⟩)
       | 2=>f 2=.slice A' (digs 4294967296 y).length c'
       | 3=>f 3=.pointer (some ⟨q+1,2,none⟩)
       | 4=>f 4=.slice A' (digs 4294967296 y).length c'
       | 5=>∃ A1 c1,f 5=.slice A1 (digs 4294967296 yy).length c1∧RU X A1 c1 (digs 4294967296 yy)
       | 6=>f 6=.slice A11 (digs 4294967296 rt).length c11
       | 7=>f 7=.int .i64 (vJ yy rt)
       | 8=>f 8=.bool r
       | 9=>f 9=.bool r
       | _=>True) (by kernel_rfl) [(52,0),(53,1),(54,2),(55,3),(56,4),(57,5),(58,6),(59,7),(60,8),(4,9)] (by kernel_rfl) ?_
      refine zt 1 9 [(53,1),(54,2),(55,3),(56,4),(58,6)] (fun f X hX hR K hK=>?_) ?_
      · simp only[yZ];refine⟨zU (by kernel_rfl) (kB 30 (.tmp 2) rfl rfl (hE.trans hX|>.at_ hcb) Tryz.underlying30 rfl qp HV.out ?_)⟩;exact hK.out _ (cvv) _ (by simp only[yZ]) (zX _) trivial (fun _ _=>rfl)
      refine zJ 2 8 ?_;refine qK 3 7 1 d2 ?_;refine zJ 4 6 ?_;refine qK 5 5 3 d2 ?_;refine qI 6 4 (fun f=>#[f 0,f 2,f 4]) (F':=44) (fun f X hX hR=>?_) ?_
      · have e0:f 0=_:=hR.out 0 rfl;have e2:f 2=_:=hR.out 2 rfl;have e4:f 4=_:=hR.out 4 rfl;simp only[e0,e2,e4];refine(xS A' A' c' c' y y X (Hcv.out.ext (HE0.out.trans (hE.trans hX))) (h'.up (HE0.out.trans (hE.trans hX))) (h'.up (HE0.out.trans (hE.trans hX))) (by have:=KY.out;omega) (by have:=KY.out;omega) HM0.out).mono ?_;rw[Ey.out];rintro e w2 ⟨A1,c1,rfl,hO,hB⟩;exact⟨(.slice A1 (digs 4294967296 yy).length c1),rfl,hB,fun Y hY=>⟨A1,c1,rfl,hO.up hY⟩⟩
      refine zJ 7 3 ?_;refine qI 8 2 (fun f=>#[f 5,f 6]) (F':=38) (fun f X hX hR=>?_) ?_
      · obtain⟨A5,c5,(e5:f 5=_),o5⟩:=hR.out 5 rfl;have e6:f 6=_:=hR.out 6 rfl;simp only[e5,e6];refine(wV _ _ A5 A11 c5 c11 yy rt X o5 (o11.up hX)).mono ?_;rintro e w2 ⟨rfl,nq,rfl⟩;exact⟨(.int .i64 (vJ yy rt)),rfl,(kW _ _),fun _ _=>rfl⟩
      refine zt 9 1 [(52,0),(53,1),(54,2),(55,3),(56,4),(57,5),(58,6),(59,7)] (fun f X hX hR K hK=>?_) ?_
      · have e7:f 7=_:=hR.out 7 rfl;simp only[yZ,e7];refine⟨?_⟩;go_simp;have hd:(vJ yy rt==0)=r:=by rw[Hres.out];exact zBO yy rt
        rw[hd];exact qd hK (s:=by simp only[yZ,e7])
      refine qN 10 0 8 ?_;refine yF ⟨fun f X hX hR hal hap=>?_⟩;obtain⟨A5,c5,(e5:f 5=_),o5⟩:=hR 5 (by decide);have e9:f 9=_:=hR 9 (by decide);simp only[yZ,e5,e9];clear hR hal hap e5 e9;refine zH ?_;go_wp2;go_ret;exact⟨rfl,HE0.out.trans (hE.trans hX)⟩
    · obtain⟨v,hv⟩:=eV (vJ y C.M);have hv0:0≤v:=by rw[←hv];rcases ku y C.M with h|h|h<;>omega
      have Hv:=zF hv;have HH:=zF hyM;clear hv hyM;go_enter Tryz.func22,Tryz.ntmps22;go_upto_region 5 with fail;rw[←hW0];clear hW0 hq
      refine zN 14 [0,1,0,4,15,31,63,127,255,127,639,2047,4095,8191] [] (fun j f X=>match j with
       | 0=>f 0=.pointer (some ⟨q+1,1,none⟩)
       | 1=>f 1=.slice A (digs 4294967296 x).length c
       | 2=>f 2=.pointer (some ⟨q,0,none⟩)
       | 3=>f 3=.slice Ap (digs 4294967296 C.M).length cp
       | 4=>f 4=.int .i64 (-1)
       | 5=>f 5=.bool false
       | 6=>f 6=.bool false
       | 7=>f 7=.pointer (some ⟨q+1,2,none⟩)
       | 8=>f 8=.slice A' (digs 4294967296 y).length c'
       | 9=>f 9=.pointer (some ⟨q,0,none⟩)
       | 10=>f 10=.slice Ap (digs 4294967296 C.M).length cp
       | 11=>f 11=.int .i64 v
       | 12=>f 12=.bool true
       | 13=>f 13=.bool true
       | _=>True) (by kernel_rfl) [(13,0),(14,1),(15,2),(16,3),(17,4),(18,5),(19,6),(20,7),(21,8),(22,9),(23,10),(24,11),(25,12),(26,13)] (by kernel_rfl) ?_
      refine zJ 1 13 ?_;refine qK 2 12 0 p1 ?_;refine zJ 3 11 ?_;refine qK 4 10 2 b0 ?_;refine qI 5 9 (fun f=>#[f 1,f 3]) (F':=38) (fun f X hX hR=>?_) ?_
      · have e1:f 1=_:=hR.out 1 rfl;have e3:f 3=_:=hR.out 3 rfl;simp only[e1,e3];refine(arm1.out X hX).mono ?_;rintro e w2 ⟨rfl,nq,rfl⟩;rw[tx.out];exact⟨(.int .i64 (-1)),rfl,(kW _ _),fun _ _=>rfl⟩
      refine zt 6 8 [(13,0),(14,1),(15,2),(16,3),(17,4)] (fun f X hX hR K hK=>?_) ?_
      · have e4:f 4=_:=hR.out 4 rfl;simp only[yZ,e4];refine⟨?_⟩;go_simp;exact qd hK (s:=by simp only[yZ,e4])
      refine qN 7 7 5 ?_;refine qN 8 6 6 ?_;refine zt 9 5 [(13,0),(14,1),(15,2),(16,3),(17,4),(18,5),(19,6),(20,7),(22,9),(23,10)] (fun f X hX hR K hK=>?_) ?_
      · have e6:f 6=_:=hR.out 6 rfl;have e7:f 7=_:=hR.out 7 rfl;have x0:=hX.cell p2;simp only[yZ,e6,e7];refine⟨zU (by kernel_rfl) ?_⟩;go_simp;exact qd hK (s:=by simp only[yZ,e6,e7])
      refine qN 10 4 6 ?_;refine zt 11 3 [(13,0),(14,1),(15,2),(16,3),(17,4),(18,5),(19,6),(20,7),(21,8),(22,9)] (fun f X hX hR K hK=>?_) ?_
      · have e6:f 6=_:=hR.out 6 rfl;have e9:f 9=_:=hR.out 9 rfl;have x0:=hX.cell b0;simp only[yZ,e6,e9];refine⟨zU (by kernel_rfl) ?_⟩;go_simp;exact qd hK (s:=by simp only[yZ,e6,e9])
      refine Par.c1 12 2 6 (fun f=>#[f 8,f 10]) (F':=38) (fun f X hX hR=>?_) ?_
      · have e8:f 8=_:=hR.out 8 rfl;have e10:f 10=_:=hR.out 10 rfl;simp only[e8,e10];refine(arm2.out X hX).mono ?_;rintro e w2 ⟨rfl,nq,rfl⟩;rw[Hv.out];exact⟨(.int .i64 v),rfl,(kW _ _),fun _ _=>rfl⟩
      refine zt 13 1 [(13,0),(14,1),(15,2),(16,3),(17,4),(18,5),(19,6),(20,7),(21,8),(22,9),(23,10),(24,11)] (fun f X hX hR K hK=>?_) ?_
      · have e6:f 6=_:=hR.out 6 rfl;have e11:f 11=_:=hR.out 11 rfl;simp only[yZ,e6,e11];refine⟨zU (by kernel_rfl) ?_⟩;go_simp;exact qd hK (s:=by simp only[yZ,e6,e11])
      refine jm 14 0 6 12 ?_;refine yF ⟨fun f X hX hR hal hap=>?_⟩;have e13:f 13=_:=hR 13 (by decide);simp only[yZ,e13];clear hR hal hap e13;refine zH ?_;go_wp2;go_ret;exact⟨by rw[show r=false by rw[←Hr.out];simp[onB,HH.out]];rfl,HE0.out.trans hX⟩
  · obtain⟨v,hv⟩:=eV (vJ x C.M);have hv0:0≤v:=by rw[←hv];rcases ku x C.M with h|h|h<;>omega
    have Hv:=zF hv;have HH:=zF hxM;clear hv hxM;go_enter Tryz.func22,Tryz.ntmps22;go_upto_region 5 with fail;rw[←hW0];clear hW0 hq
    refine zN 14 [0,1,0,4,15,31,63,127,255,127,639,2047,4095,8191] [] (fun j f X=>match j with
     | 0=>f 0=.pointer (some ⟨q+1,1,none⟩)
     | 1=>f 1=.slice A (digs 4294967296 x).length c
     | 2=>f 2=.pointer (some ⟨q,0,none⟩)
     | 3=>f 3=.slice Ap (digs 4294967296 C.M).length cp
     | 4=>f 4=.int .i64 v
     | 5=>f 5=.bool true
     | 6=>f 6=.bool true
     | 7=>f 7=undef
     | 8=>f 8=undef
     | 9=>f 9=undef
     | 10=>f 10=undef
     | 11=>f 11=undef
     | 12=>f 12=undef
     | 13=>f 13=.bool true
     | _=>True) (by kernel_rfl) [(13,0),(14,1),(15,2),(16,3),(17,4),(18,5),(19,6),(20,7),(21,8),(22,9),(23,10),(24,11),(25,12),(26,13)] (by kernel_rfl) ?_
    refine zJ 1 13 ?_;refine qK 2 12 0 p1 ?_;refine zJ 3 11 ?_;refine qK 4 10 2 b0 ?_;refine qI 5 9 (fun f=>#[f 1,f 3]) (F':=38) (fun f X hX hR=>?_) ?_
    · have e1:f 1=_:=hR.out 1 rfl;have e3:f 3=_:=hR.out 3 rfl;simp only[e1,e3];refine(arm1.out X hX).mono ?_;rintro e w2 ⟨rfl,nq,rfl⟩;rw[Hv.out];exact⟨(.int .i64 v),rfl,(kW _ _),fun _ _=>rfl⟩
    refine zt 6 8 [(13,0),(14,1),(15,2),(16,3),(17,4)] (fun f X hX hR K hK=>?_) ?_
    · have e4:f 4=_:=hR.out 4 rfl;simp only[yZ,e4];refine⟨?_⟩;go_simp;exact qd hK (s:=by simp only[yZ,e4])
    refine qN 7 7 5 ?_;refine wu 8 6 6 ?_;refine wu 9 5 6 ?_;refine wu 10 4 6 ?_;refine wu 11 3 6 ?_;refine wu 12 2 6 ?_;refine wu 13 1 6 ?_;refine jm 14 0 6 12 ?_;refine yF ⟨fun f X hX hR hal hap=>?_⟩;have e13:f 13=_:=hR 13 (by decide);simp only[yZ,e13];clear hR hal hap e13;refine zH ?_;go_wp2;go_ret;exact⟨by rw[show r=false by rw[←Hr.out];simp[onB,HH.out]];rfl,HE0.out.trans hX⟩
def c0:Crv:=⟨0,0,0,0,[],[],[],[],[]⟩
theorem pT {fn:Func}{R:Ending→World→Prop}{a:Act}{W:World}{p:Tmp}{g:Nat}{ty:TypeId}{fr:Nat×Nat}{x0 x1 x2 x3 x4 x5:Value}(hr:fn.results=#[.cell p 30])(hp:a.tmps.getD p undef=.pointer (some ⟨g,0,none⟩))(hd:a.defers=[])
 (hg:W.heap[g]?=some (.cells #[x0,x1,x2,x3,x4,x5] ty fr)) (hR:R (.returned (.agg #[x0,x1,x2,x3,x4,x5])) W):bodyPost Tryz.prog fn R .ret a W :=
 wI (wY hr a.tmps W g _ _ _ _ hp hg Tryz.underlying30 rfl qp) hd hR
theorem zAS (A1 A2 A3 A4 A5:Option Addr)(n1 n2 n3 n4 n5 c1 c2 c3 c4 c5:Nat)(s:Int):(#[Value.slice A1 n1 c1,.slice A2 n2 c2,.slice A3 n3 c3,.slice A4 n4 c4,.slice A5 n5 c5,.int .i64 s]:Array Value).all (·.oneCell')=true:=by simp[Value.oneCell']
theorem rO {c:Int}{C:Crv}(hC:IsC c C)(w:World):Calls Tryz.prog 9 #[.int .i64 c] w fun e w'=>∃ v,e=.returned v∧RC w' C v∧Ext w w':=by
 have hz:(w.alloc (.cells #[.slice none 0 0,.slice none 0 0,.slice none 0 0,.slice none 0 0,.slice none 0 0,.int .i64 0] 30)).heap[w.heap.size]?=some (.cells #[.slice none 0 0,.slice none 0 0,.slice none 0 0,.slice none 0 0,.slice none 0 0,.int .i64 0] 30 (0,0)):=zS w _;rcases hC with⟨rfl,rfl⟩|⟨rfl,rfl⟩
 · go_enter Tryz.func9,Tryz.ntmps9;go_upto_region 3 with fail
   refine zN 11 [0,1,0,7,0,31,0,127,0,511,1023,2047] [] (fun j f X=>match j with
    | 0=>∃ b,f 0=.slice (some ⟨b,0,none⟩) 4 4∧RU X (some ⟨b,0,none⟩) 4 vk
    | 1=>∃ A1 c1,f 1=.slice A1 (digs 4294967296 (val 18446744073709551616 vk)).length c1∧OB X w.heap.size A1 c1 (digs 4294967296 (val 18446744073709551616 vk))
    | 2=>∃ b,f 2=.slice (some ⟨b,0,none⟩) 4 4∧RU X (some ⟨b,0,none⟩) 4 gG
    | 3=>∃ A1 c1,f 3=.slice A1 (digs 4294967296 (val 18446744073709551616 gG)).length c1∧OB X w.heap.size A1 c1 (digs 4294967296 (val 18446744073709551616 gG))
    | 4=>∃ b,f 4=.slice (some ⟨b,0,none⟩) 4 4∧RU X (some ⟨b,0,none⟩) 4 xm
    | 5=>∃ A1 c1,f 5=.slice A1 (digs 4294967296 (val 18446744073709551616 xm)).length c1∧OB X w.heap.size A1 c1 (digs 4294967296 (val 18446744073709551616 xm))
    | 6=>∃ b,f 6=.slice (some ⟨b,0,none⟩) 4 4∧RU X (some ⟨b,0,none⟩) 4 gF
    | 7=>∃ A1 c1,f 7=.slice A1 (digs 4294967296 (val 18446744073709551616 gF)).length c1∧OB X w.heap.size A1 c1 (digs 4294967296 (val 18446744073709551616 gF))
    | 8=>∃ b,f 8=.slice (some ⟨b,0,none⟩) 4 4∧RU X (some ⟨b,0,none⟩) 4 gE
    | 9=>∃ A1 c1,f 9=.slice A1 (digs 4294967296 (val 18446744073709551616 gE)).length c1∧OB X w.heap.size A1 c1 (digs 4294967296 (val 18446744073709551616 gE))
    | 10=>f 10=.agg #[f 1,f 3,f 5,f 7,f 9,.int .i64 32]
    | _=>True) (by kernel_rfl) [(6,0),(7,1),(8,2),(9,3),(10,4),(11,5),(12,6),(13,7),(14,8),(15,9),(16,10)] (by kernel_rfl) ?_
   refine zt 1 10 [(8,2),(10,4),(12,6),(14,8)] (fun f X hX hR K hK=>?_) ?_
   · simp only[yZ];refine⟨?_⟩;go_simp;exact hK.out _ (.slice (some ⟨X.heap.size,0,none⟩) 4 4) _ (by simp only[yZ]) (zO _ _) trivial (fun Y hY=>⟨X.heap.size,rfl,((RN.lits X vk ⟨by decide,by decide⟩).mono (fun b hb=>by rw[qB];exact hb.2)).up hY⟩)
   refine qI 2 9 (fun f=>#[f 0]) (F':=13) (fun f X hX hR=>?_) ?_
   · obtain⟨b0,(e0:f 0=_),h0⟩:=hR.out 0 rfl;simp only[e0];refine(vS _ (some ⟨b0,0,none⟩) 4 vk X h0 (fun _ hb=>hb) (by decide)).mono ?_;rintro e w2 ⟨A1,c1,rfl,hO,hB⟩;exact⟨(.slice A1 (digs 4294967296 (val 18446744073709551616 vk)).length c1),rfl,hB,fun Y hY=>⟨A1,c1,rfl,(hO.mono (zK (zO w _).bsize hX.bsize)).below hY (zG _)⟩⟩
   refine zt 3 8 [(6,0),(7,1),(10,4),(12,6),(14,8)] (fun f X hX hR K hK=>?_) ?_
   · simp only[yZ];refine⟨?_⟩;go_simp;exact hK.out _ (.slice (some ⟨X.heap.size,0,none⟩) 4 4) _ (by simp only[yZ]) (zO _ _) trivial (fun Y hY=>⟨X.heap.size,rfl,((RN.lits X gG ⟨by decide,by decide⟩).mono (fun b hb=>by rw[qB];exact hb.2)).up hY⟩)
   refine qI 4 7 (fun f=>#[f 2]) (F':=13) (fun f X hX hR=>?_) ?_
   · obtain⟨b2,(e2:f 2=_),h2⟩:=hR.out 2 rfl;simp only[e2];refine(vS _ (some ⟨b2,0,none⟩) 4 gG X h2 (fun _ hb=>hb) (by decide)).mono ?_;rintro e w2 ⟨A1,c1,rfl,hO,hB⟩;exact⟨(.slice A1 (digs 4294967296 (val 18446744073709551616 gG)).length c1),rfl,hB,fun Y hY=>⟨A1,c1,rfl,(hO.mono (zK (zO w _).bsize hX.bsize)).below hY (zG _)⟩⟩
   refine zt 5 6 [(6,0),(7,1),(8,2),(9,3),(12,6),(14,8)] (fun f X hX hR K hK=>?_) ?_
   · simp only[yZ];refine⟨?_⟩;go_simp;exact hK.out _ (.slice (some ⟨X.heap.size,0,none⟩) 4 4) _ (by simp only[yZ]) (zO _ _) trivial (fun Y hY=>⟨X.heap.size,rfl,((RN.lits X xm ⟨by decide,by decide⟩).mono (fun b hb=>by rw[qB];exact hb.2)).up hY⟩)
   refine qI 6 5 (fun f=>#[f 4]) (F':=13) (fun f X hX hR=>?_) ?_
   · obtain⟨b4,(e4:f 4=_),h4⟩:=hR.out 4 rfl;simp only[e4];refine(vS _ (some ⟨b4,0,none⟩) 4 xm X h4 (fun _ hb=>hb) (by decide)).mono ?_;rintro e w2 ⟨A1,c1,rfl,hO,hB⟩;exact⟨(.slice A1 (digs 4294967296 (val 18446744073709551616 xm)).length c1),rfl,hB,fun Y hY=>⟨A1,c1,rfl,(hO.mono (zK (zO w _).bsize hX.bsize)).below hY (zG _)⟩⟩
   refine zt 7 4 [(6,0),(7,1),(8,2),(9,3),(10,4),(11,5),(14,8)] (fun f X hX hR K hK=>?_) ?_
   · simp only[yZ];refine⟨?_⟩;go_simp;exact hK.out _ (.slice (some ⟨X.heap.size,0,none⟩) 4 4) _ (by simp only[yZ]) (zO _ _) trivial (fun Y hY=>⟨X.heap.size,rfl,((RN.lits X gF ⟨by decide,by decide⟩).mono (fun b hb=>by rw[qB];exact hb.2)).up hY⟩)
   refine qI 8 3 (fun f=>#[f 6]) (F':=13) (fun f X hX hR=>?_) ?_
   · obtain⟨b6,(e6:f 6=_),h6⟩:=hR.out 6 rfl;simp only[e6];refine(vS _ (some ⟨b6,0,none⟩) 4 gF X h6 (fun _ hb=>hb) (by decide)).mono ?_;rintro e w2 ⟨A1,c1,rfl,hO,hB⟩;exact⟨(.slice A1 (digs 4294967296 (val 18446744073709551616 gF)).length c1),rfl,hB,fun Y hY=>⟨A1,c1,rfl,(hO.mono (zK (zO w _).bsize hX.bsize)).below hY (zG _)⟩⟩
   refine zt 9 2 [(6,0),(7,1),(8,2),(9,3),(10,4),(11,5),(12,6),(13,7)] (fun f X hX hR K hK=>?_) ?_
   · simp only[yZ];refine⟨?_⟩;go_simp;exact hK.out _ (.slice (some ⟨X.heap.size,0,none⟩) 4 4) _ (by simp only[yZ]) (zO _ _) trivial (fun Y hY=>⟨X.heap.size,rfl,((RN.lits X gE ⟨by decide,by decide⟩).mono (fun b hb=>by rw[qB];exact hb.2)).up hY⟩)
   refine qI 10 1 (fun f=>#[f 8]) (F':=13) (fun f X hX hR=>?_) ?_
   · obtain⟨b8,(e8:f 8=_),h8⟩:=hR.out 8 rfl;simp only[e8];refine(vS _ (some ⟨b8,0,none⟩) 4 gE X h8 (fun _ hb=>hb) (by decide)).mono ?_;rintro e w2 ⟨A1,c1,rfl,hO,hB⟩;exact⟨(.slice A1 (digs 4294967296 (val 18446744073709551616 gE)).length c1),rfl,hB,fun Y hY=>⟨A1,c1,rfl,(hO.mono (zK (zO w _).bsize hX.bsize)).below hY (zG _)⟩⟩
   refine zt 11 0 [(6,0),(7,1),(8,2),(9,3),(10,4),(11,5),(12,6),(13,7),(14,8),(15,9)] (fun f X hX hR K hK=>?_) ?_
   · obtain⟨A1,c1,(e1:f 1=_),o1⟩:=hR.out 1 rfl;obtain⟨A3,c3,(e3:f 3=_),o3⟩:=hR.out 3 rfl;obtain⟨A5,c5,(e5:f 5=_),o5⟩:=hR.out 5 rfl;obtain⟨A7,c7,(e7:f 7=_),o7⟩:=hR.out 7 rfl;obtain⟨A9,c9,(e9:f 9=_),o9⟩:=hR.out 9 rfl;simp only[yZ,e1,e3,e5,e7,e9];refine⟨?_⟩;go_simp;exact hK.out _ (.agg #[f 1,f 3,f 5,f 7,f 9,.int .i64 32]) _ (by simp only[yZ,e1,e3,e5,e7,e9]) (zX _) trivial (fun _ _=>rfl)
   refine yF ⟨fun f X hX hR hal hap=>?_⟩;obtain⟨b0,(e0:f 0=_),h0⟩:=hR 0 (by decide);obtain⟨A1,c1,(e1:f 1=_),o1⟩:=hR 1 (by decide);obtain⟨b2,(e2:f 2=_),h2⟩:=hR 2 (by decide);obtain⟨A3,c3,(e3:f 3=_),o3⟩:=hR 3 (by decide);obtain⟨b4,(e4:f 4=_),h4⟩:=hR 4 (by decide);obtain⟨A5,c5,(e5:f 5=_),o5⟩:=hR 5 (by decide);obtain⟨b6,(e6:f 6=_),h6⟩:=hR 6 (by decide);obtain⟨A7,c7,(e7:f 7=_),o7⟩:=hR 7 (by decide);obtain⟨b8,(e8:f 8=_),h8⟩:=hR 8 (by decide);obtain⟨A9,c9,(e9:f 9=_),o9⟩:=hR 9 (by decide);have e10:f 10=.agg #[f 1,f 3,f 5,f 7,f 9,.int .i64 32]:=hR 10 (by decide);simp only[yZ,e0,e1,e2,e3,e4,e5,e6,e7,e8,e9,e10];clear hR hal hap e0 e1 e2 e3 e4 e5 e6 e7 e8 e9 e10;refine zP (fun K hK=>⟨zU (by kernel_rfl) (jJ 30 (.tmp 2) (.tmp 16) rfl rfl rfl rfl (hX.at_ hz) qp rfl (zAS _ _ _ _ _ _ _ _ _ _ _ _ _ _ _ _) (fun Y1 g1 g2 g3=>hK.out _ _ ?_))⟩);refine zH ?_;go_wp2;refine pT rfl rfl rfl g1 ⟨_,rfl,⟨A1,A3,A5,A7,A9,c1,c3,c5,c7,c9,rfl,(o1.just g2 (hX.at_ hz) (by decide)).ru,(o3.just g2 (hX.at_ hz) (by decide)).ru,(o5.just g2 (hX.at_ hz) (by decide)).ru,(o7.just g2 (hX.at_ hz) (by decide)).ru,(o9.just g2 (hX.at_ hz) (by decide)).ru⟩,g2.ext ((zO w _).trans hX) (zG _)⟩
 · go_enter Tryz.func9,Tryz.ntmps9;go_upto_region 5 with fail
   refine zN 11 [0,1,0,7,0,31,0,127,0,511,1023,2047] [] (fun j f X=>match j with
    | 0=>∃ b,f 0=.slice (some ⟨b,0,none⟩) 6 6∧RU X (some ⟨b,0,none⟩) 6 vj
    | 1=>∃ A1 c1,f 1=.slice A1 (digs 4294967296 (val 18446744073709551616 vj)).length c1∧OB X w.heap.size A1 c1 (digs 4294967296 (val 18446744073709551616 vj))
    | 2=>∃ b,f 2=.slice (some ⟨b,0,none⟩) 6 6∧RU X (some ⟨b,0,none⟩) 6 gD
    | 3=>∃ A1 c1,f 3=.slice A1 (digs 4294967296 (val 18446744073709551616 gD)).length c1∧OB X w.heap.size A1 c1 (digs 4294967296 (val 18446744073709551616 gD))
    | 4=>∃ b,f 4=.slice (some ⟨b,0,none⟩) 6 6∧RU X (some ⟨b,0,none⟩) 6 xk
    | 5=>∃ A1 c1,f 5=.slice A1 (digs 4294967296 (val 18446744073709551616 xk)).length c1∧OB X w.heap.size A1 c1 (digs 4294967296 (val 18446744073709551616 xk))
    | 6=>∃ b,f 6=.slice (some ⟨b,0,none⟩) 6 6∧RU X (some ⟨b,0,none⟩) 6 gC
    | 7=>∃ A1 c1,f 7=.slice A1 (digs 4294967296 (val 18446744073709551616 gC)).length c1∧OB X w.heap.size A1 c1 (digs 4294967296 (val 18446744073709551616 gC))
    | 8=>∃ b,f 8=.slice (some ⟨b,0,none⟩) 6 6∧RU X (some ⟨b,0,none⟩) 6 gB
    | 9=>∃ A1 c1,f 9=.slice A1 (digs 4294967296 (val 18446744073709551616 gB)).length c1∧OB X w.heap.size A1 c1 (digs 4294967296 (val 18446744073709551616 gB))
    | 10=>f 10=.agg #[f 1,f 3,f 5,f 7,f 9,.int .i64 48]
    | _=>True) (by kernel_rfl) [(19,0),(20,1),(21,2),(22,3),(23,4),(24,5),(25,6),(26,7),(27,8),(28,9),(29,10)] (by kernel_rfl) ?_
   refine zt 1 10 [(21,2),(23,4),(25,6),(27,8)] (fun f X hX hR K hK=>?_) ?_
   · simp only[yZ];refine⟨?_⟩;go_simp;exact hK.out _ (.slice (some ⟨X.heap.size,0,none⟩) 6 6) _ (by simp only[yZ]) (zO _ _) trivial (fun Y hY=>⟨X.heap.size,rfl,((RN.lits X vj ⟨by decide,by decide⟩).mono (fun b hb=>by rw[qB];exact hb.2)).up hY⟩)
   refine qI 2 9 (fun f=>#[f 0]) (F':=13) (fun f X hX hR=>?_) ?_
   · obtain⟨b0,(e0:f 0=_),h0⟩:=hR.out 0 rfl;simp only[e0];refine(vS _ (some ⟨b0,0,none⟩) 6 vj X h0 (fun _ hb=>hb) (by decide)).mono ?_;rintro e w2 ⟨A1,c1,rfl,hO,hB⟩;exact⟨(.slice A1 (digs 4294967296 (val 18446744073709551616 vj)).length c1),rfl,hB,fun Y hY=>⟨A1,c1,rfl,(hO.mono (zK (zO w _).bsize hX.bsize)).below hY (zG _)⟩⟩
   refine zt 3 8 [(19,0),(20,1),(23,4),(25,6),(27,8)] (fun f X hX hR K hK=>?_) ?_
   · simp only[yZ];refine⟨?_⟩;go_simp;exact hK.out _ (.slice (some ⟨X.heap.size,0,none⟩) 6 6) _ (by simp only[yZ]) (zO _ _) trivial (fun Y hY=>⟨X.heap.size,rfl,((RN.lits X gD ⟨by decide,by decide⟩).mono (fun b hb=>by rw[qB];exact hb.2)).up hY⟩)
   refine qI 4 7 (fun f=>#[f 2]) (F':=13) (fun f X hX hR=>?_) ?_
   · obtain⟨b2,(e2:f 2=_),h2⟩:=hR.out 2 rfl;simp only[e2];refine(vS _ (some ⟨b2,0,none⟩) 6 gD X h2 (fun _ hb=>hb) (by decide)).mono ?_;rintro e w2 ⟨A1,c1,rfl,hO,hB⟩;exact⟨(.slice A1 (digs 4294967296 (val 18446744073709551616 gD)).length c1),rfl,hB,fun Y hY=>⟨A1,c1,rfl,(hO.mono (zK (zO w _).bsize hX.bsize)).below hY (zG _)⟩⟩
   refine zt 5 6 [(19,0),(20,1),(21,2),(22,3),(25,6),(27,8)] (fun f X hX hR K hK=>?_) ?_
   · simp only[yZ];refine⟨?_⟩;go_simp;exact hK.out _ (.slice (some ⟨X.heap.size,0,none⟩) 6 6) _ (by simp only[yZ]) (zO _ _) trivial (fun Y hY=>⟨X.heap.size,rfl,((RN.lits X xk ⟨by decide,by decide⟩).mono (fun b hb=>by rw[qB];exact hb.2)).up hY⟩)
   refine qI 6 5 (fun f=>#[f 4]) (F':=13) (fun f X hX hR=>?_) ?_
   · obtain⟨b4,(e4:f 4=_),h4⟩:=hR.out 4 rfl;simp only[e4];refine(vS _ (some ⟨b4,0,none⟩) 6 xk X h4 (fun _ hb=>hb) (by decide)).mono ?_;rintro e w2 ⟨A1,c1,rfl,hO,hB⟩;exact⟨(.slice A1 (digs 4294967296 (val 18446744073709551616 xk)).length c1),rfl,hB,fun Y hY=>⟨A1,c1,rfl,(hO.mono (zK (zO w _).bsize hX.bsize)).below hY (zG _)⟩⟩
   refine zt 7 4 [(19,0),(20,1),(21,2),(22,3),(23,4),(24,5),(27,8)] (fun f X hX hR K hK=>?_) ?_
   · simp only[yZ];refine⟨?_⟩;go_simp;exact hK.out _ (.slice (some ⟨X.heap.size,0,none⟩) 6 6) _ (by simp only[yZ]) (zO _ _) trivial (fun Y hY=>⟨X.heap.size,rfl,((RN.lits X gC ⟨by decide,by decide⟩).mono (fun b hb=>by rw[qB];exact hb.2)).up hY⟩)
   refine qI 8 3 (fun f=>#[f 6]) (F':=13) (fun f X hX hR=>?_) ?_
   · obtain⟨b6,(e6:f 6=_),h6⟩:=hR.out 6 rfl;simp only[e6];refine(vS _ (some ⟨b6,0,none⟩) 6 gC X h6 (fun _ hb=>hb) (by decide)).mono ?_;rintro e w2 ⟨A1,c1,rfl,hO,hB⟩;exact⟨(.slice A1 (digs 4294967296 (val 18446744073709551616 gC)).length c1),rfl,hB,fun Y hY=>⟨A1,c1,rfl,(hO.mono (zK (zO w _).bsize hX.bsize)).below hY (zG _)⟩⟩
   refine zt 9 2 [(19,0),(20,1),(21,2),(22,3),(23,4),(24,5),(25,6),(26,7)] (fun f X hX hR K hK=>?_) ?_
   · simp only[yZ];refine⟨?_⟩;go_simp;exact hK.out _ (.slice (some ⟨X.heap.size,0,none⟩) 6 6) _ (by simp only[yZ]) (zO _ _) trivial (fun Y hY=>⟨X.heap.size,rfl,((RN.lits X gB ⟨by decide,by decide⟩).mono (fun b hb=>by rw[qB];exact hb.2)).up hY⟩)
   refine qI 10 1 (fun f=>#[f 8]) (F':=13) (fun f X hX hR=>?_) ?_
   · obtain⟨b8,(e8:f 8=_),h8⟩:=hR.out 8 rfl;simp only[e8];refine(vS _ (some ⟨b8,0,none⟩) 6 gB X h8 (fun _ hb=>hb) (by decide)).mono ?_;rintro e w2 ⟨A1,c1,rfl,hO,hB⟩;exact⟨(.slice A1 (digs 4294967296 (val 18446744073709551616 gB)).length c1),rfl,hB,fun Y hY=>⟨A1,c1,rfl,(hO.mono (zK (zO w _).bsize hX.bsize)).below hY (zG _)⟩⟩
   refine zt 11 0 [(19,0),(20,1),(21,2),(22,3),(23,4),(24,5),(25,6),(26,7),(27,8),(28,9)] (fun f X hX hR K hK=>?_) ?_
   · obtain⟨A1,c1,(e1:f 1=_),o1⟩:=hR.out 1 rfl;obtain⟨A3,c3,(e3:f 3=_),o3⟩:=hR.out 3 rfl;obtain⟨A5,c5,(e5:f 5=_),o5⟩:=hR.out 5 rfl;obtain⟨A7,c7,(e7:f 7=_),o7⟩:=hR.out 7 rfl;obtain⟨A9,c9,(e9:f 9=_),o9⟩:=hR.out 9 rfl;simp only[yZ,e1,e3,e5,e7,e9];refine⟨?_⟩;go_simp;exact hK.out _ (.agg #[f 1,f 3,f 5,f 7,f 9,.int .i64 48]) _ (by simp only[yZ,e1,e3,e5,e7,e9]) (zX _) trivial (fun _ _=>rfl)
   refine yF ⟨fun f X hX hR hal hap=>?_⟩;obtain⟨b0,(e0:f 0=_),h0⟩:=hR 0 (by decide);obtain⟨A1,c1,(e1:f 1=_),o1⟩:=hR 1 (by decide);obtain⟨b2,(e2:f 2=_),h2⟩:=hR 2 (by decide);obtain⟨A3,c3,(e3:f 3=_),o3⟩:=hR 3 (by decide);obtain⟨b4,(e4:f 4=_),h4⟩:=hR 4 (by decide);obtain⟨A5,c5,(e5:f 5=_),o5⟩:=hR 5 (by decide);obtain⟨b6,(e6:f 6=_),h6⟩:=hR 6 (by decide);obtain⟨A7,c7,(e7:f 7=_),o7⟩:=hR 7 (by decide);obtain⟨b8,(e8:f 8=_),h8⟩:=hR 8 (by decide);obtain⟨A9,c9,(e9:f 9=_),o9⟩:=hR 9 (by decide);have e10:f 10=.agg #[f 1,f 3,f 5,f 7,f 9,.int .i64 48]:=hR 10 (by decide);simp only[yZ,e0,e1,e2,e3,e4,e5,e6,e7,e8,e9,e10];clear hR hal hap e0 e1 e2 e3 e4 e5 e6 e7 e8 e9 e10;refine zP (fun K hK=>⟨zU (by kernel_rfl) (jJ 30 (.tmp 2) (.tmp 29) rfl rfl rfl rfl (hX.at_ hz) qp rfl (zAS _ _ _ _ _ _ _ _ _ _ _ _ _ _ _ _) (fun Y1 g1 g2 g3=>hK.out _ _ ?_))⟩);refine zH ?_;go_wp2;refine pT rfl rfl rfl g1 ⟨_,rfl,⟨A1,A3,A5,A7,A9,c1,c3,c5,c7,c9,rfl,(o1.just g2 (hX.at_ hz) (by decide)).ru,(o3.just g2 (hX.at_ hz) (by decide)).ru,(o5.just g2 (hX.at_ hz) (by decide)).ru,(o7.just g2 (hX.at_ hz) (by decide)).ru,(o9.just g2 (hX.at_ hz) (by decide)).ru⟩,g2.ext ((zO w _).trans hX) (zG _)⟩
theorem ou {c:Int}(h1:c≠1)(h2:c≠2)(w:World):Calls Tryz.prog 9 #[.int .i64 c] w fun e w'=>∃ v,e=.returned v∧RC w' c0 v∧Ext w w':=by
 have e1:(c==1)=false:=by simpa using h1
 have e2:(c==2)=false:=by simpa using h2
 have hn:∀ X:World,RU X none 0 (digs 4294967296 0):=fun X=>by rw[qV];exact RN.nil_ X _
 have hd:(digs 4294967296 0).length=0:=by rw[qV];rfl
 have hc:∀ X:World,RC X c0 (.agg #[.slice none 0 0,.slice none 0 0,.slice none 0 0,.slice none 0 0,.slice none 0 0,.int .i64 0]):=fun X=>by
  refine⟨none,none,none,none,none,0,0,0,0,0,?_,hn X,hn X,hn X,hn X,hn X⟩;show _=Value.agg #[.slice none (digs 4294967296 0).length 0,.slice none (digs 4294967296 0).length 0,.slice none (digs 4294967296 0).length 0,.slice none (digs 4294967296 0).length 0,.slice none (digs 4294967296 0).length 0,.int .i64 0];rw[hd]
 have Hc:=zF hc;clear hc hn hd;go_enter Tryz.func9,Tryz.ntmps9;go_wp2;refine pT rfl rfl rfl (zS w _) ⟨_,rfl,Hc.out _,zO _ _⟩
theorem end_e {fn:Func}{R:Ending→World→Prop}{a:Act}{W:World}{p:Tmp}{g:Nat}{l:List Nat}(hr:fn.results=#[.cell p 109])(hp:a.tmps.getD p undef=.pointer (some ⟨g,0,none⟩))(hd:a.defers=[])
 (hg:xJ W g l) (h6:l.length=6) (hR:R (.returned (EV l)) W):bodyPost Tryz.prog fn R .ret a W :=
 wI (wY hr a.tmps W g _ _ _ _ hp hg Tryz.underlying109 rfl (by rw[qX,qf,h6];exact bM)) hd hR
theorem ke:([.int .u64 0,.int .u64 0,.int .u64 0,.int .u64 0,.int .u64 0,.int .u64 0]:List Value).length=6:=rfl
theorem FR.r_one {w:World}{g n inv M:Nat}{ml ol rl:List Nat}(h:FR w g n inv M ml ol rl):w.rangeAt g 8 (nts ol):=fun j v hv=>by
 rw[zQ h.ff.fld.blk];obtain⟨a,b,c,d,e,f,rfl⟩:=six h.ff.fld.m6;obtain⟨a,b,c,d,e,f,rfl⟩:=six h.ff.fld.o6;match j,hv with
 | 0,hv|1,hv|2,hv|3,hv|4,hv|5,hv=>exact hv
 | j+6,hv=>simp[nts]at hv
theorem FR.fone {w:World}{g n inv M:Nat}{ml ol rl:List Nat}(h:FR w g n inv M ml ol rl):FE M n ol 1:=⟨h.oelt,by rw[h.oval,kN]⟩
theorem FR.ext {w X:World}{g n inv M:Nat}{ml ol rl:List Nat}(h:FR w g n inv M ml ol rl)(hE:Ext w X):FR X g n inv M ml ol rl:=h.below hE h.ff.fld.lt
theorem mK {g n inv M:Nat}{ml ol rl:List Nat}(w:World)(hF:FR w g n inv M ml ol rl):Calls Tryz.prog 105 #[.pointer (some ⟨g,0,none⟩)] w fun e w'=>e=.returned (EV ol)∧Ext w w':=by
 have hF':=zF hF;have hz:=zS w (.cells #[.int .u64 0,.int .u64 0,.int .u64 0,.int .u64 0,.int .u64 0,.int .u64 0] 109);go_enter Tryz.func105,Tryz.ntmps105;go_upto_region 1 with fail
 refine zN 4 [0,1,3,7,15] [] (fun j f X=>match j with
  | 0=>f 0=.pointer (some ⟨g,0,none⟩)
  | 1=>f 1=.pointer (some ⟨g,0,none⟩)
  | 2=>f 2=.pointer (some ⟨g,8,none⟩)
  | 3=>f 3=EV ol
  | _=>True) (by kernel_rfl) [(3,0),(4,1),(5,2),(6,3)] (by kernel_rfl) ?_
 refine zJ 1 3 ?_;refine qN 2 2 0 ?_;refine qN 3 1 1 ?_;refine zt 4 0 [(3,0),(4,1),(5,2)] (fun f X hX hR K hK=>?_) ?_
 · have e2:f 2=_:=hR.out 2 rfl;simp only[yZ,e2];refine⟨zU (by kernel_rfl) (kg (.tmp 5) rfl rfl (hF'.out.ext ((zO _ _).trans hX)).r_one hF'.out.oelt.six ?_)⟩;exact hK.out _ (EV ol) _ (by simp only[yZ,e2]) (zX _) trivial (fun _ _=>rfl)
 refine yF ⟨fun f X hX hR hal hap=>?_⟩;have e3:f 3=_:=hR 3 (by decide);simp only[yZ,e3];clear hR hal hap e3;refine zP (fun K hK=>⟨zU (by kernel_rfl) (qe (.tmp 2) (.tmp 6) rfl rfl rfl rfl (hX.at_ hz) ke hF'.out.oelt.six (fun Y1 hl1=>hK.out _ _ ?_))⟩);refine zH ?_;go_wp2;exact end_e rfl rfl rfl hl1.blk hF'.out.oelt.six ⟨rfl,hl1.ext ((zO _ _).trans hX) (zG _)⟩
theorem xJ.rn {w:World}{b:Nat}{l:List Nat}(h:xJ w b l)(h6:l.length=6)(hl:∀ x∈l,x<18446744073709551616):RN w (fun b=>b<w.heap.size) (some ⟨b,0,none⟩) 6 l:=by
 refine⟨⟨by omega,by unfold maxLen;omega,by rw[qf];omega,fun _=>⟨_,rfl,h.lt,fun j v hv=>?_⟩⟩,hl,by omega⟩;rw[yx,zQ h j];simpa using hv
theorem zA6 {g n inv M:Nat}{ml ol rl a:List Nat}{x:Nat}(w:World)(hF:FR w g n inv M ml ol rl)(ha:FE M n a x):Calls Tryz.prog 109 #[.pointer (some ⟨g,0,none⟩),EV a] w fun e w'=>∃ A1 c1,e=.returned (.slice A1 (digs 18446744073709551616 (x%M)).length c1)∧OB w' w.heap.size A1 c1 (digs 18446744073709551616 (x%M))∧Ext w w':=by
 have hF':=zF hF;have ha':=zF ha;have h1M:=hF.ff.big;have he1:Elt M [1,0,0,0,0,0]:=⟨rfl,by decide,by simpa using h1M⟩
 obtain⟨q,hq⟩:=eV w.heap.size;have hbx:(w.alloc (.cells (nts a).toArray 109)).heap[w.heap.size]?=some (.cells (nts a).toArray 109 (0,0)):=zS w _;obtain⟨y,hy⟩:=eV (x%M)
 have hmul:=zF (fun X (hX:Ext w X)=>(cI a [1,0,0,0,0,0] X (hF.ext hX).ff ha.elt he1).mono (R':=fun e w'=>∃ o,e=.returned (EV o)∧o.length=6∧(∀ x∈o,x<18446744073709551616)∧val 18446744073709551616 o=y∧Ext X w') (by
  rintro e w' ⟨o,rfl,ho,hv,hB⟩
  refine⟨o,rfl,ho.six,ho.lim,?_,hB⟩
  have hv1:val 18446744073709551616 [1,0,0,0,0,0]=1:=by simp
  rw[hv1,jO,ha.form,vu]at hv
  have:=cG hF.ff.invV hv
  rw[zy ho.lt]at this
  rw[this,hy]))
 rw[hy];have h6:=ha.elt.six;have e1:EV [1,0,0,0,0,0]=.agg #[.int .u64 1,.int .u64 0,.int .u64 0,.int .u64 0,.int .u64 0,.int .u64 0]:=rfl;rw[e1]at hmul;have hev:EV a=.agg (nts a).toArray:=rfl;obtain⟨W0,hW0⟩:=eW (w.alloc (.cells (nts a).toArray 109));rw[←hW0,hq]at hbx;have hE0:Ext w W0:=by rw[hW0];exact zO _ _
 have HE0:=zF hE0;have Hq:=zF hq;have Hz:=zF (show W0.heap.size=w.heap.size+1 by rw[hW0];simp);have H6:=zF h6;have HW0:=zF hW0;clear hF ha h1M he1 hy e1 hE0 hW0 h6;rw[hev];clear hev;go_enter Tryz.func109,Tryz.ntmps109;go_upto_region 1 with fail;rw[←HW0.out]
 refine zN 5 [0,0,0,7,0,31] [4] (fun j f X=>match j with
  | 0=>f 0=.pointer (some ⟨g,0,none⟩)
  | 1=>f 1=EV a
  | 2=>f 2=.agg #[.int .u64 1,.int .u64 0,.int .u64 0,.int .u64 0,.int .u64 0,.int .u64 0]
  | 3=>∃ o,f 3=EV o∧o.length=6∧(∀ x∈o,x<18446744073709551616)∧val 18446744073709551616 o=y
  | 4=>∃ b,f 4=.pointer (some ⟨b,0,none⟩)∧W0.heap.size≤b∧X.heap[b]?=some (.cells #[.int .u64 0,.int .u64 0,.int .u64 0,.int .u64 0,.int .u64 0,.int .u64 0] 109 (0,0))
  | _=>True) (by kernel_rfl) [(6,0),(7,1),(8,2),(9,3),(5,4)] (by kernel_rfl) ?_
 refine zJ 1 4 ?_;refine zt 2 3 [(6,0),(8,2),(5,4)] (fun f X hX hR K hK=>?_) ?_
 · simp only[yZ];refine⟨zU (by kernel_rfl) (kg (.tmp 3) rfl rfl (xJ.range (hX.at_ hbx)) H6.out ?_)⟩;exact hK.out _ (EV a) _ (by simp only[yZ]) (zX _) trivial (fun _ _=>rfl)
 refine zJ 3 2 ?_;refine qI 4 1 (fun f=>#[f 0,f 1,f 2]) (F':=102) (fun f X hX hR=>?_) ?_
 · have e0:f 0=_:=hR.out 0 rfl;have e1:f 1=_:=hR.out 1 rfl;have e2:f 2=_:=hR.out 2 rfl;simp only[e0,e1,e2];refine(hmul.out X (HE0.out.trans hX)).mono ?_;rintro e w2 ⟨o,rfl,h6,hb,hv,hB⟩;exact⟨(EV o),rfl,hB,fun Y hY=>⟨o,rfl,h6,hb,hv⟩⟩
 refine kK 5 0 ?_;refine yF ⟨fun f X hX hR hal hap=>?_⟩;obtain⟨o3,(e3:f 3=_),l3,b3,v3⟩:=hR 3 (by decide);obtain⟨b4,(e4:f 4=_),l4,h4⟩:=hR 4 (by decide);simp only[yZ,e3,e4];clear hR hal hap e3 e4;refine zP (fun K hK=>⟨zU (by kernel_rfl) (qe (.tmp 5) (.tmp 9) rfl rfl rfl rfl h4 ke l3 (fun Y1 hl1=>hK.out _ _ ?_))⟩);refine zH ?_;have hE1:Ext w Y1:=hl1.ext (HE0.out.trans hX) (by have:=Hz.out;omega);have hno:=yW _ (some ⟨b4,0,none⟩) 6 o3 Y1 (hl1.blk.rn l3 b3);rw[v3,l3]at hno;have Hno:=zF hno;have HE1:=zF hE1;clear hno hl1 b3 v3 h4 l4 hX l3 hE1;go_wp2_with (go_at_call 100;refine Hno.out.mono ?_;rintro e w2 ⟨A1,c1,rfl,hO,hB⟩);go_ret;exact⟨A1,c1,rfl,hO.mono (by have:=HE1.out.bsize;have:=Hq.out;omega),HE1.out.trans hB⟩
def JV (x y z:List Nat):Value:=.agg (nts (x++y++z)).toArray
def kD (X:World) (b:Nat) (x y z:List Nat):Prop:=X.heap[b]?=some (.cells (nts (x++y++z)).toArray 123 (0,0))
theorem gJ:(Tryz.prog.info? 123).map (·.size)=some 18:=by kernel_rfl
theorem uc (a b:List Nat):nts (a++b)=nts a++nts b:=by simp[nts]
section
variable {X:World} {b:Nat} {x y z:List Nat}
theorem kD.range (h:kD X b x y z)(pre l post:List Nat)(e:x++y++z=pre++l++post):X.rangeAt b pre.length (nts l):=fun j v hv=>by
 rw[zQ h,e,zR,uc,uc,List.append_assoc,uF (by rw[qf];omega),qf,Nat.add_sub_cancel_left,wZ,hv];exact(List.getElem?_eq_some_iff.1 hv).1
theorem kD.rx (h:kD X b x y z):X.rangeAt b 0 (nts x):=by have:=h.range [] x (y++z) (by simp);simpa using this
theorem kD.ry (h:kD X b x y z)(hx:x.length=6):X.rangeAt b 6 (nts y):=by have:=h.range x y z rfl;rwa [hx]at this
theorem kD.rz (h:kD X b x y z)(hx:x.length=6)(hy:y.length=6):X.rangeAt b 12 (nts z):=by have:=h.range (x++y) z [] (by simp);rwa [zz,hx,hy]at this
end
theorem zBS {x y z:List Nat}(hx:x.length=6)(hy:y.length=6)(hz:z.length=6):Tryz.prog.built 123 [(0,EV x),(1,EV y),(2,EV z)]=some (nts (x++y++z)).toArray:=by
 obtain⟨x0,x1,x2,x3,x4,x5,rfl⟩:=six hx;obtain⟨y0,y1,y2,y3,y4,y5,rfl⟩:=six hy;obtain⟨z0,z1,z2,z3,z4,z5,rfl⟩:=six hz;kernel_rfl
theorem gR {op:Oper}{a:Act}{X:World}{K:Act→World→Prop}{Q:Exit→Act→World→Prop}(p q r:Operand)(ho:op.op=.build 123 #[(0,p),(1,q),(2,r)]){x y z:List Nat}(hp:a.eval p=EV x)(hq:a.eval q=EV y)(hr:a.eval r=EV z)
 (hx:x.length=6) (hy:y.length=6) (hz:z.length=6) (hK:K (a.put op.dst (JV x y z)) X):op.wp Tryz.prog a X K Q:=by
 have hb:(#[(0,p),(1,q),(2,r)].map fun(i,x)=>(i,a.eval x)).toList=[(0,EV x),(1,EV y),(2,EV z)]:=by simp[hp,hq,hr]
 refine wp_build 123 #[(0,p),(1,q),(2,r)] ho (by rw[hb,zBS hx hy hz];rfl) ?_
 rw[hb,zBS hx hy hz]
 exact hK
theorem mf (l:List Nat):(nts l).toArray.all (·.oneCell')=true:=all_oneCell_toArray (kj l)
theorem dX {fn:Func}{R:Ending→World→Prop}{a:Act}{W:World}{p:Tmp}{g:Nat}{x y z:List Nat}(hr:fn.results=#[.cell p 123])(hp:a.tmps.getD p undef=.pointer (some ⟨g,0,none⟩))(hd:a.defers=[])
 (hg:kD W g x y z) (hx:x.length=6) (hy:y.length=6) (hz:z.length=6) (hR:R (.returned (JV x y z)) W):bodyPost Tryz.prog fn R .ret a W :=
 wI (wY hr a.tmps W g _ _ _ _ hp hg Tryz.underlying123 rfl (by rw[qX,qf,zz,zz,hx,hy,hz];exact gJ)) hd hR
theorem vG {op:Oper}{a:Act}{X:World}{K:Act→World→Prop}{Q:Exit→Act→World→Prop}(p q:Operand)(ho:op.op=.store 123 p q)(hd:op.dst=none){b:Nat}{x y z:List Nat}{cs:Array Value}
 (hp:a.eval p=.pointer (some ⟨b,0,none⟩)) (hq:a.eval q=JV x y z) (hg:X.heap[b]?=some (.cells cs 123 (0,0))) (hc:cs.size=18) (hx:x.length=6) (hy:y.length=6) (hz:z.length=6)
 (hK:∀ Y,kD Y b x y z→jQ b X Y→Y.heap.size=X.heap.size→K a Y):op.wp Tryz.prog a X K Q:=by
 have hs:(nts (x++y++z)).toArray.size=18:=by rw[qX,qf,zz,zz,hx,hy,hz]
 exact jJ 123 p q ho hd hp hq hg (by rw[hs];exact gJ) (by rw[hs,hc]) (mf _) hK
def mm (M a b:Nat):Nat:=a*b%M
def am (M a b:Nat):Nat:=(a+b)%M
def sm (M a b:Nat):Nat:=(a+M-b%M)%M
theorem js {g n inv M:Nat}{ml ol rl a b:List Nat}{x y:Nat}(w:World)(hF:FF w g n inv M ml ol rl)(ha:FE M n a x)(hb:FE M n b y) :
 Calls Tryz.prog 102 #[.pointer (some ⟨g,0,none⟩),EV a,EV b] w fun e w'=>∃ o,e=.returned (EV o)∧FE M n o (mm M x y)∧Ext w w' :=
 (uM w hF ha hb).mono fun _ _ ⟨o,h1,h2,h3⟩=>⟨o,h1,h2.mod,h3⟩
theorem uE {g n inv M:Nat}{ml ol rl a b:List Nat}{x y:Nat}(w:World)(hF:FF w g n inv M ml ol rl)(ha:FE M n a x)(hb:FE M n b y) :
 Calls Tryz.prog 101 #[.pointer (some ⟨g,0,none⟩),EV a,EV b] w fun e w'=>∃ o,e=.returned (EV o)∧FE M n o (am M x y)∧Ext w w' :=
 (oJ w hF ha hb).mono fun _ _ ⟨o,h1,h2,h3⟩=>⟨o,h1,h2.mod,h3⟩
theorem xr {g n inv M:Nat}{ml ol rl a b:List Nat}{x y:Nat}(w:World)(hF:FF w g n inv M ml ol rl)(ha:FE M n a x)(hb:FE M n b y) :
 Calls Tryz.prog 103 #[.pointer (some ⟨g,0,none⟩),EV a,EV b] w fun e w'=>∃ o,e=.returned (EV o)∧FE M n o (sm M x y)∧Ext w w' :=
 (bO w hF ha hb.mod (jV (qL _ (by have:=hF.big;omega)))).mono fun _ _ ⟨o,h1,h2,h3⟩=>⟨o,h1,h2.mod,h3⟩
theorem wL (w:World)(o1 o2:Obj):((w.alloc o1).alloc o2).heap[w.heap.size]?=some o1∧((w.alloc o1).alloc o2).heap[w.heap.size+1]?=some o2∧((w.alloc o1).alloc o2).heap.size=w.heap.size+2 :=
 ⟨(zO _ _).at_ (zS w _),by have:=zS (w.alloc o1) o2;rwa [qB]at this,by simp⟩
structure FJ (M n:Nat) (lx ly lz:List Nat) (x y z:Nat):Prop where
 x:FE M n lx x
 y:FE M n ly y
 z:FE M n lz z
end Go.Proofs.YtaemogcomplhiaaGreatDoor
namespace Go.Proofs.YtaemogcomplhiaaGreatDoor
theorem xK:type_of% @kD.rz:=@kD.rz
end Go.Proofs.YtaemogcomplhiaaGreatDoor
namespace Go.Proofs.YtaemogcomplhiaaGreatDoor
open Go.RowKit
def zC0 (v:Value):Bool:=match v with | .int _ _=>false|_=>true
theorem RN.offJ {X Y:World}{A:Option Addr}{c:Nat}{l:List Nat}{g:Nat}{cs:Array Value}{T:TypeId}{fr:Nat×Nat}(h:RU X A c l)(hj:jQ g X Y)(hg:X.heap[g]?=some (.cells cs T fr))(hc:cs.all zC0=true):RU Y A c l:=by
 obtain⟨⟨h1,h2,h3,h4⟩,h5⟩:=h;refine⟨⟨h1,h2,h3,fun hl=>?_⟩,h5⟩;obtain⟨ad,e,hb,hr⟩:=h4 hl;refine⟨ad,e,zI hb hj.size,fun j v hv=>?_⟩;have hcell:=hr j v hv;by_cases hne:(ad.add j).block=g
 · exfalso;have hn:zC0 v=false:=by
    rw[nts,List.getElem?_map]at hv;obtain⟨n,_,rfl⟩:=Option.map_eq_some_iff.1 hv;rfl
   unfold World.cell? at hcell;rw[hne,hg]at hcell;simp only at hcell;split at hcell
   · cases hcell
   · rw[Array.all_eq_true]at hc;obtain⟨hlt,he⟩:=Array.getElem?_eq_some_iff.1 hcell;have:=hc _ hlt;rw[he,hn]at this;cases this
 · exact(qH (hj.block _ (World.block_lt_of_cell? X _ hcell) hne)).trans hcell
theorem RN.nil0 (w:World):RU w none 0 (digs 4294967296 0):=by rw[qV];exact RN.nil_ _ _
def RPU (w:World) (v:Value):Option (Nat×Nat)→Prop
 | none=>v=gL
 | some p=>∃ A c A' c',v=.agg #[.bool false,.slice A (digs 4294967296 p.1).length c,.slice A' (digs 4294967296 p.2).length c']∧RU w A c (digs 4294967296 p.1)∧RU w A' c' (digs 4294967296 p.2)
theorem RPU.ext {w X:World}{v:Value}{o:Option (Nat×Nat)}(h:RPU w v o)(hE:Ext w X):RPU X v o:=by
 cases o with
 | none=>exact h
 | some p =>
   obtain⟨A,c,A',c',rfl,h1,h2⟩:=h;exact⟨A,c,A',c',rfl,zL h1 hE,zL h2 hE⟩
theorem cD {fn:Func}{R:Ending→World→Prop}{a:Act}{W:World}{p:Tmp}{g:Nat}{ty:TypeId}{fr:Nat×Nat}{x0 x1 x2:Value}(hr:fn.results=#[.cell p 45])(hp:a.tmps.getD p undef=.pointer (some ⟨g,0,none⟩))(hd:a.defers=[])
 (hg:W.heap[g]?=some (.cells #[x0,x1,x2] ty fr)) (hR:R (.returned (.agg #[x0,x1,x2])) W):bodyPost Tryz.prog fn R .ret a W :=
 wI (wY hr a.tmps W g _ _ _ _ hp hg Tryz.underlying45 rfl dI) hd hR
end Go.Proofs.YtaemogcomplhiaaGreatDoor
