/- Laws that the proof rests on. -/
import Derived.Test.YtmlbicgpehchhaaGreatQcb5562cf3bff
set_option maxRecDepth 100000
set_option maxHeartbeats 16000000
namespace Go.Proofs.YtmlbicgpehchhaaGreat
open Go.RowKit
theorem wM {x M k:Nat} (hM:0<M) (hl:(digs 4294967296 M).length≤k):(digs 4294967296 (x % M)).length≤k :=
 qV (by omega) (zP (xL (qS x hM) (qw (B:=4294967296) (by omega) M)) (zy (by omega) hl))
theorem wz {x M k:Nat} (hM:x≤M) (hl:(digs 4294967296 M).length≤k):(digs 4294967296 x).length≤k :=
 qV (by omega) (zP (jc hM (qw (B:=4294967296) (by omega) M)) (zy (by omega) hl))
theorem Crv.Fine.len {C:Crv} (h:C.Fine):(digs 4294967296 C.M).length≤96:=by
 have h1:=h.room
 have h2:(256:Nat) ^ C.size≤256 ^ 48:=zy (by omega) h.small
 have h3:(256:Nat) ^ 48≤4294967296 ^ 96:=by decide +kernel
 exact qV (by omega) (zP h1 (zU h2 h3))
theorem rh (a b:Nat):(kh a b==0)=decide (a=b):=by
 unfold kh
 split
 · rw [qp (by omega)];rfl
 · split
   · rw [qi (by omega)];rfl
   · rw [qp (by omega)];rfl
theorem n9 {C:Crv} {v:Value} (hF:C.Fine) (A A':Option Addr) (c c' x y:Nat) (inf:Bool) (w:World) (hc:RC w C v) (h:RU w A c (digs 4294967296 x)) (h':RU w A' c' (digs 4294967296 y)) :
 Calls Tryz.prog 59 #[v,.agg #[.bool inf,.slice A (digs 4294967296 x).length c,.slice A' (digs 4294967296 y).length c']] w fun e w'=>e=.returned (.bool (inf || onB C.M C.bb x y))∧Ext w w':=by
 have hcv:=hc
 obtain ⟨Ap,An,Ab,Ax,Ay,cp,cn,cb,cx,cy,rfl,h1,h2,h3,h4,h5⟩:=hc
 obtain ⟨s,hs⟩:=eV C.size
 have s1:32≤s:=by rw [←hs];exact hF.pos
 have hs0:((s:Int)==0)=false:=by simp;omega
 obtain ⟨r,hr⟩:=eV ((inf || onB C.M C.bb x y))
 rw [hr,hs]
 rw [hs] at hcv
 have Hr:=zF hr
 have HF:=zF hF
 have L:=zF hF.len
 have Hcv:=zF hcv
 have hM0:0<C.M:=by have:=hF.three;omega
 have HM0:=zF hM0
 clear hr hF hs hcv
 obtain ⟨q,hq⟩:=eV w.heap.size
 obtain ⟨W0,hW0⟩:=eW ((w.alloc (.cells #[.slice Ap (digs 4294967296 C.M).length cp,.slice An (digs 4294967296 (val 18446744073709551616 C.nl)).length cn,.slice Ab (digs 4294967296 C.bb).length cb,.slice Ax (digs 4294967296 (val 18446744073709551616 C.xl)).length cx,.slice Ay (digs 4294967296 (val 18446744073709551616 C.yl)).length cy,.int .i64 (s:Int)] 73)).alloc (.cells #[.bool inf,.slice A (digs 4294967296 x).length c,.slice A' (digs 4294967296 y).length c'] 32))
 have hE0:Ext w W0:=by rw [hW0];exact (zR _ _).trans (zR _ _)
 have hcb:W0.heap[q]?=some (.cells #[.slice Ap (digs 4294967296 C.M).length cp,.slice An (digs 4294967296 (val 18446744073709551616 C.nl)).length cn,.slice Ab (digs 4294967296 C.bb).length cb,.slice Ax (digs 4294967296 (val 18446744073709551616 C.xl)).length cx,.slice Ay (digs 4294967296 (val 18446744073709551616 C.yl)).length cy,.int .i64 (s:Int)] 73 (0,0)):=by rw [hW0,←hq];exact (zR _ _).at_ (zN w _)
 have hpb:W0.heap[q+1]?=some (.cells #[.bool inf,.slice A (digs 4294967296 x).length c,.slice A' (digs 4294967296 y).length c'] 32 (0,0)):=by rw [hW0,←hq];have:=zN (w.alloc (.cells #[.slice Ap (digs 4294967296 C.M).length cp,.slice An (digs 4294967296 (val 18446744073709551616 C.nl)).length cn,.slice Ab (digs 4294967296 C.bb).length cb,.slice Ax (digs 4294967296 (val 18446744073709551616 C.xl)).length cx,.slice Ay (digs 4294967296 (val 18446744073709551616 C.yl)).length cy,.int .i64 (s:Int)] 73)) (.cells #[.bool inf,.slice A (digs 4294967296 x).length c,.slice A' (digs 4294967296 y).length c'] 32);rwa [zu] at this
 have b0:W0.cell? ⟨q,0,none⟩=some (.slice Ap (digs 4294967296 C.M).length cp):=zH hcb 0
 have b2:W0.cell? ⟨q,2,none⟩=some (.slice Ab (digs 4294967296 C.bb).length cb):=zH hcb 2
 have p1:W0.cell? ⟨q+1,1,none⟩=some (.slice A (digs 4294967296 x).length c):=zH hpb 1
 have p2:W0.cell? ⟨q+1,2,none⟩=some (.slice A' (digs 4294967296 y).length c'):=zH hpb 2
 have HE0:=zF hE0
 have HW0:=zF hW0
 clear hE0
 cases inf
 case true =>
  obtain rfl:r=true:=by rw [←Hr.out];rfl
  clear hW0 hq
  have hW0:=HW0.out
  go_enter Tryz.func59,Tryz.ntmps59
  go_wp2
  go_ret
  exact ⟨rfl,by have:=HE0.out;rw [hW0] at this;exact this⟩
 case false =>
  rw [Bool.false_or] at Hr
  have arm1:=zF (fun X (hX:Ext W0 X)=>vf _ _ A Ap c cp x C.M X (h.up (HE0.out.trans hX)) (h1.up (HE0.out.trans hX)))
  have arm2:=zF (fun X (hX:Ext W0 X)=>vf _ _ A' Ap c' cp y C.M X (h'.up (HE0.out.trans hX)) (h1.up (HE0.out.trans hX)))
  by_cases hxM:x<C.M
  · have tx:=zF (vV hxM)
    by_cases hyM:y<C.M
    · have ty:=zF (vV hyM)
      obtain ⟨cvv,hcvv⟩:=eW (Value.agg #[.slice Ap (digs 4294967296 C.M).length cp,.slice An (digs 4294967296 (val 18446744073709551616 C.nl)).length cn,.slice Ab (digs 4294967296 C.bb).length cb,.slice Ax (digs 4294967296 (val 18446744073709551616 C.xl)).length cx,.slice Ay (digs 4294967296 (val 18446744073709551616 C.yl)).length cy,.int .i64 (s:Int)])
      rw [←hcvv] at Hcv
      have HV:=zF hcvv
      obtain ⟨m2,hm2⟩:=eV (x*x % C.M)
      obtain ⟨m3,hm3⟩:=eV (m2*x % C.M)
      obtain ⟨t3,ht3⟩:=eV (3*x % C.M)
      obtain ⟨mi,hmi⟩:=eV ((m3+C.M - t3) % C.M)
      obtain ⟨rt,hrt⟩:=eV ((mi+C.bb) % C.M)
      obtain ⟨yy,hyy⟩:=eV (y*y % C.M)
      have K2:=zF (hm2▸wM (x:=x*x) HM0.out L.out)
      have K3:=zF (hm3▸wM (x:=m2*x) HM0.out L.out)
      have Kt:=zF (ht3▸wM (x:=3*x) HM0.out L.out)
      have Ki:=zF (hmi▸wM (x:=m3+C.M - t3) HM0.out L.out)
      have Ky:=zF (hyy▸wM (x:=y*y) HM0.out L.out)
      have Kx:=zF (wz (qr hxM) L.out)
      have KY:=zF (wz (qr hyM) L.out)
      have K0:=zF (wz (qr HF.out.three) L.out)
      have Kb:=zF (wz (qr HF.out.bb) L.out)
      have Ks:=zF (show (digs 4294967296 (mi+C.bb)).length≤97 by
       have a1:=zP (qw (B:=4294967296) (by omega) C.M) (zy (by omega) L.out)
       have a2:=qS (m3+C.M - t3) HM0.out
       have a3:=HF.out.bb
       refine qV (by omega) ?_
       rw [zv];generalize 4294967296 ^ 96=R at *;omega)
      have Htm:=zF (show t3≤m3+C.M by have:=qS (3*x) HM0.out;omega)
      have Hmb:=zF (show mi<C.M by have:=qS (m3+C.M - t3) HM0.out;omega)
      have Hres:=zF (show r=decide (yy=rt) by rw [←Hr.out,onB,qi hxM,qi hyM,hm2,hm3,ht3,hmi,hrt,hyy];rfl)
      have E2:=zF hm2
      have E3:=zF hm3
      have Et:=zF ht3
      have Ei:=zF hmi
      have Er:=zF hrt
      have Ey:=zF hyy
      clear hcvv hm2 hm3 ht3 hmi hrt hyy hxM hyM
      go_enter Tryz.func59,Tryz.ntmps59
      go_upto_region 5 with fail
      rw [←hW0]
      clear hW0 hq
      refine zX 14 [0,1,0,4,15,31,63,127,255,127,639,2047,4095,8191] [] (fun j f X=>match j with
       | 0=>f 0=.pointer (some ⟨q+1,1,none⟩)
       | 1=>f 1=.slice A (digs 4294967296 x).length c
       | 2=>f 2=.pointer (some ⟨q,0,none⟩)
       | 3=>f 3=.slice Ap (digs 4294967296 C.M).length cp
       | 4=>f 4=.int .i64 (-1)
       | 5=>f 5=.bool false
       | 6=>f 6=.bool false
       | 7=>f 7=.pointer (some ⟨q+1,2,none⟩)
       | 8=>f 8=.slice A' (digs 4294967296 y).length c'
       | 9=>f 9=.pointer (some ⟨q,0,none⟩)
       | 10=>f 10=.slice Ap (digs 4294967296 C.M).length cp
       | 11=>f 11=.int .i64 (-1)
       | 12=>f 12=.bool false
       | 13=>f 13=.bool false
       | _=>True) (by kernel_rfl) [(13,0),(14,1),(15,2),(16,3),(17,4),(18,5),(19,6),(20,7),(21,8),(22,9),(23,10),(24,11),(25,12),(26,13)] (by kernel_rfl) ?_
      refine zT 1 13 ?_
      refine qG 2 12 0 p1 ?_
      refine zT 3 11 ?_
      refine qG 4 10 2 b0 ?_
      refine qC 5 9 (fun f=>#[f 1,f 3]) (F':=104) (fun f X hX hR=>?_) ?_
      · have e1:f 1=_:=hR.out 1 rfl
        have e3:f 3=_:=hR.out 3 rfl
        simp only [e1,e3]
        refine (arm1.out X hX).mono ?_
        rintro e w2 ⟨rfl,nq,rfl⟩
        rw [tx.out]
        exact ⟨(.int .i64 (-1)),rfl,(xC _ _),fun _ _=>rfl⟩
      refine zt 6 8 [(13,0),(14,1),(15,2),(16,3),(17,4)] (fun f X hX hR K hK=>?_) ?_
      · have e4:f 4=_:=hR.out 4 rfl
        simp only [yZ,e4]
        refine ⟨?_⟩
        go_simp
        exact qe hK (s:=by simp only [yZ,e4])
      refine qL 7 7 5 ?_
      refine qL 8 6 6 ?_
      refine zt 9 5 [(13,0),(14,1),(15,2),(16,3),(17,4),(18,5),(19,6),(20,7),(22,9),(23,10)] (fun f X hX hR K hK=>?_) ?_
      · have e6:f 6=_:=hR.out 6 rfl
        have e7:f 7=_:=hR.out 7 rfl
        have x0:=hX.cell p2
        simp only [yZ,e6,e7]
        refine ⟨zc (by kernel_rfl) ?_⟩
        go_simp
        exact qe hK (s:=by simp only [yZ,e6,e7])
      refine qL 10 4 6 ?_
      refine zt 11 3 [(13,0),(14,1),(15,2),(16,3),(17,4),(18,5),(19,6),(20,7),(21,8),(22,9)] (fun f X hX hR K hK=>?_) ?_
      · have e6:f 6=_:=hR.out 6 rfl
        have e9:f 9=_:=hR.out 9 rfl
        have x0:=hX.cell b0
        simp only [yZ,e6,e9]
        refine ⟨zc (by kernel_rfl) ?_⟩
        go_simp
        exact qe hK (s:=by simp only [yZ,e6,e9])
      refine Par.c1 12 2 6 (fun f=>#[f 8,f 10]) (F':=104) (fun f X hX hR=>?_) ?_
      · have e8:f 8=_:=hR.out 8 rfl
        have e10:f 10=_:=hR.out 10 rfl
        simp only [e8,e10]
        refine (arm2.out X hX).mono ?_
        rintro e w2 ⟨rfl,nq,rfl⟩
        rw [ty.out]
        exact ⟨(.int .i64 (-1)),rfl,(xC _ _),fun _ _=>rfl⟩
      refine zt 13 1 [(13,0),(14,1),(15,2),(16,3),(17,4),(18,5),(19,6),(20,7),(21,8),(22,9),(23,10),(24,11)] (fun f X hX hR K hK=>?_) ?_
      · have e6:f 6=_:=hR.out 6 rfl
        have e11:f 11=_:=hR.out 11 rfl
        simp only [yZ,e6,e11]
        refine ⟨zc (by kernel_rfl) ?_⟩
        go_simp
        exact qe hK (s:=by simp only [yZ,e6,e11])
      refine vv 14 0 6 12 ?_
      refine yF ⟨fun f X hX hR hal hap=>?_⟩
      have e13:f 13=_:=hR 13 (by decide)
      simp only [yZ,e13]
      clear hR hal hap e13
      refine zK ?_
      have hE:Ext W0 X:=hX
      clear hX
      go_upto_region 7 with fail
      have d1:=hE.cell p1
      refine zj (by kernel_rfl) 11 [0,0,0,4,0,16,62,0,128,511,1023] [] (fun j f X=>match j with
       | 0=>f 0=cvv
       | 1=>f 1=cvv
       | 2=>f 2=.pointer (some ⟨q+1,1,none⟩)
       | 3=>f 3=.slice A (digs 4294967296 x).length c
       | 4=>f 4=.pointer (some ⟨q+1,1,none⟩)
       | 5=>f 5=.slice A (digs 4294967296 x).length c
       | 6=>∃ A1 c1,f 6=.slice A1 (digs 4294967296 m2).length c1∧RU X A1 c1 (digs 4294967296 m2)
       | 7=>f 7=.pointer (some ⟨q+1,1,none⟩)
       | 8=>f 8=.slice A (digs 4294967296 x).length c
       | 9=>∃ A1 c1,f 9=.slice A1 (digs 4294967296 m3).length c1∧RU X A1 c1 (digs 4294967296 m3)
       | 10=>∃ A1 c1,f 10=.slice A1 (digs 4294967296 m3).length c1∧RU X A1 c1 (digs 4294967296 m3)
       | _=>True) (by kernel_rfl) [(27,0),(28,1),(29,2),(30,3),(31,4),(32,5),(33,6),(34,7),(35,8),(36,9),(5,10)] (by kernel_rfl) ?_
      refine zt 1 10 [(28,1),(29,2),(30,3),(31,4),(32,5),(33,6),(34,7),(35,8)] (fun f X hX hR K hK=>?_) ?_
      · simp only [yZ]
        refine ⟨zc (by kernel_rfl) (jg 73 (.tmp 2) rfl rfl (hE.trans hX |>.at_ hcb) Tryz.underlying73 rfl qh HV.out ?_)⟩
        exact hK.out _ (cvv) _ (by simp only [yZ]) (zd _) trivial (fun _ _=>rfl)
      refine zt 2 9 [(27,0),(29,2),(30,3),(31,4),(32,5),(34,7),(35,8)] (fun f X hX hR K hK=>?_) ?_
      · simp only [yZ]
        refine ⟨zc (by kernel_rfl) (jg 73 (.tmp 2) rfl rfl (hE.trans hX |>.at_ hcb) Tryz.underlying73 rfl qh HV.out ?_)⟩
        exact hK.out _ (cvv) _ (by simp only [yZ]) (zd _) trivial (fun _ _=>rfl)
      refine zT 3 8 ?_
      refine qG 4 7 2 d1 ?_
      refine zT 5 6 ?_
      refine qG 6 5 4 d1 ?_
      refine qC 7 4 (fun f=>#[f 1,f 3,f 5]) (F':=96) (fun f X hX hR=>?_) ?_
      · have e1:f 1=_:=hR.out 1 rfl
        have e3:f 3=_:=hR.out 3 rfl
        have e5:f 5=_:=hR.out 5 rfl
        simp only [e1,e3,e5]
        refine (yG A A c c x x X (Hcv.out.ext (HE0.out.trans (hE.trans hX))) (h.up (HE0.out.trans (hE.trans hX))) (h.up (HE0.out.trans (hE.trans hX))) (by have:=Kx.out;omega) (by have:=Kx.out;omega) HM0.out).mono ?_
        rw [E2.out]
        rintro e w2 ⟨A1,c1,rfl,hO,hB⟩
        exact ⟨(.slice A1 (digs 4294967296 m2).length c1),rfl,hB,fun Y hY=>⟨A1,c1,rfl,hO.up hY⟩⟩
      refine zT 8 3 ?_
      refine qG 9 2 7 d1 ?_
      refine qC 10 1 (fun f=>#[f 0,f 6,f 8]) (F':=96) (fun f X hX hR=>?_) ?_
      · have e0:f 0=_:=hR.out 0 rfl
        obtain ⟨A6,c6,(e6:f 6=_),o6⟩:=hR.out 6 rfl
        have e8:f 8=_:=hR.out 8 rfl
        simp only [e0,e6,e8]
        refine (yG A6 A c6 c m2 x X (Hcv.out.ext (HE0.out.trans (hE.trans hX))) o6 (h.up (HE0.out.trans (hE.trans hX))) (by have:=K2.out;omega) (by have:=Kx.out;omega) HM0.out).mono ?_
        rw [E3.out]
        rintro e w2 ⟨A1,c1,rfl,hO,hB⟩
        exact ⟨(.slice A1 (digs 4294967296 m3).length c1),rfl,hB,fun Y hY=>⟨A1,c1,rfl,hO.up hY⟩⟩
      refine zt 11 0 [(27,0),(28,1),(29,2),(30,3),(31,4),(32,5),(33,6),(34,7),(35,8),(36,9)] (fun f X hX hR K hK=>?_) ?_
      · obtain ⟨A9,c9,(e9:f 9=_),o9⟩:=hR.out 9 rfl
        simp only [yZ,e9]
        refine ⟨?_⟩
        go_simp
        exact hK.out _ (.slice A9 (digs 4294967296 m3).length c9) _ (by simp only [yZ,e9]) (zd _) trivial (fun Y hY=>⟨A9,c9,rfl,o9.up hY⟩)
      refine yF ⟨fun f X hX hR hal hap=>?_⟩
      obtain ⟨A6,c6,(e6:f 6=_),o6⟩:=hR 6 (by decide)
      obtain ⟨A9,c9,(e9:f 9=_),o9⟩:=hR 9 (by decide)
      obtain ⟨A10,c10,(e10:f 10=_),o10⟩:=hR 10 (by decide)
      simp only [yZ,e6,e9,e10]
      clear hR hal hap e6 e9 e10
      refine zK ?_
      replace hE:=hE.trans hX
      clear hX d1 o6 o9
      go_upto_region 8 with fail
      have d1:=hE.cell p1
      refine zj (by kernel_rfl) 6 [0,0,0,4,15,31] [] (fun j f X=>match j with
       | 0=>f 0=cvv
       | 1=>∃ A1 c1,f 1=.slice A1 (digs 4294967296 3).length c1∧RU X A1 c1 (digs 4294967296 3)
       | 2=>f 2=.pointer (some ⟨q+1,1,none⟩)
       | 3=>f 3=.slice A (digs 4294967296 x).length c
       | 4=>∃ A1 c1,f 4=.slice A1 (digs 4294967296 t3).length c1∧RU X A1 c1 (digs 4294967296 t3)
       | 5=>∃ A1 c1,f 5=.slice A1 (digs 4294967296 t3).length c1∧RU X A1 c1 (digs 4294967296 t3)
       | _=>True) (by kernel_rfl) [(37,0),(38,1),(39,2),(40,3),(41,4),(6,5)] (by kernel_rfl) ?_
      refine zt 1 5 [(38,1),(39,2),(40,3)] (fun f X hX hR K hK=>?_) ?_
      · simp only [yZ]
        refine ⟨zc (by kernel_rfl) (jg 73 (.tmp 2) rfl rfl (hE.trans hX |>.at_ hcb) Tryz.underlying73 rfl qh HV.out ?_)⟩
        exact hK.out _ (cvv) _ (by simp only [yZ]) (zd _) trivial (fun _ _=>rfl)
      refine qC 2 4 (fun _=>#[Value.int IntKind.u64 3]) (F':=78) (fun f X hX hR=>?_) ?_
      · refine (yI 3 X (by omega)).mono ?_
        rintro e w2 ⟨A1,c1,rfl,hO,hB⟩
        exact ⟨(.slice A1 (digs 4294967296 3).length c1),rfl,hB,fun Y hY=>⟨A1,c1,rfl,hO.ru.up hY⟩⟩
      refine zT 3 3 ?_
      refine qG 4 2 2 d1 ?_
      refine qC 5 1 (fun f=>#[f 0,f 1,f 3]) (F':=96) (fun f X hX hR=>?_) ?_
      · have e0:f 0=_:=hR.out 0 rfl
        obtain ⟨A1,c1,(e1:f 1=_),o1⟩:=hR.out 1 rfl
        have e3:f 3=_:=hR.out 3 rfl
        simp only [e0,e1,e3]
        refine (yG A1 A c1 c 3 x X (Hcv.out.ext (HE0.out.trans (hE.trans hX))) o1 (h.up (HE0.out.trans (hE.trans hX))) (by have:=K0.out;omega) (by have:=Kx.out;omega) HM0.out).mono ?_
        rw [Et.out]
        rintro e w2 ⟨A1,c1,rfl,hO,hB⟩
        exact ⟨(.slice A1 (digs 4294967296 t3).length c1),rfl,hB,fun Y hY=>⟨A1,c1,rfl,hO.up hY⟩⟩
      refine zt 6 0 [(37,0),(38,1),(39,2),(40,3),(41,4)] (fun f X hX hR K hK=>?_) ?_
      · obtain ⟨A4,c4,(e4:f 4=_),o4⟩:=hR.out 4 rfl
        simp only [yZ,e4]
        refine ⟨?_⟩
        go_simp
        exact hK.out _ (.slice A4 (digs 4294967296 t3).length c4) _ (by simp only [yZ,e4]) (zd _) trivial (fun Y hY=>⟨A4,c4,rfl,o4.up hY⟩)
      refine yF ⟨fun f X hX hR hal hap=>?_⟩
      obtain ⟨A1,c1,(e1:f 1=_),o1⟩:=hR 1 (by decide)
      obtain ⟨A4,c4,(e4:f 4=_),o4⟩:=hR 4 (by decide)
      obtain ⟨A5,c5,(e5:f 5=_),o5⟩:=hR 5 (by decide)
      simp only [yZ,e1,e4,e5]
      clear hR hal hap e1 e4 e5
      refine zK ?_
      have g10:=o10.up hX
      replace hE:=hE.trans hX
      clear hX d1 o1 o4 o10
      go_upto_region 9 with fail
      have d0:=hE.cell b0
      have d2:=hE.cell b2
      refine zj (by kernel_rfl) 11 [0,0,0,7,0,16,63,0,128,511,1023] [] (fun j f X=>match j with
       | 0=>f 0=cvv
       | 1=>f 1=.slice A10 (digs 4294967296 m3).length c10
       | 2=>f 2=.slice A5 (digs 4294967296 t3).length c5
       | 3=>∃ A1 c1,f 3=.slice A1 (digs 4294967296 mi).length c1∧RU X A1 c1 (digs 4294967296 mi)
       | 4=>f 4=.pointer (some ⟨q,2,none⟩)
       | 5=>f 5=.slice Ab (digs 4294967296 C.bb).length cb
       | 6=>∃ A1 c1,f 6=.slice A1 (digs 4294967296 (mi+C.bb)).length c1∧RU X A1 c1 (digs 4294967296 (mi+C.bb))
       | 7=>f 7=.pointer (some ⟨q,0,none⟩)
       | 8=>f 8=.slice Ap (digs 4294967296 C.M).length cp
       | 9=>∃ A1 c1,f 9=.slice A1 (digs 4294967296 rt).length c1∧RU X A1 c1 (digs 4294967296 rt)
       | 10=>∃ A1 c1,f 10=.slice A1 (digs 4294967296 rt).length c1∧RU X A1 c1 (digs 4294967296 rt)
       | _=>True) (by kernel_rfl) [(42,0),(43,1),(44,2),(45,3),(46,4),(47,5),(48,6),(49,7),(50,8),(51,9),(7,10)] (by kernel_rfl) ?_
      refine zt 1 10 [(43,1),(44,2),(46,4),(47,5),(49,7),(50,8)] (fun f X hX hR K hK=>?_) ?_
      · simp only [yZ]
        refine ⟨zc (by kernel_rfl) (jg 73 (.tmp 2) rfl rfl (hE.trans hX |>.at_ hcb) Tryz.underlying73 rfl qh HV.out ?_)⟩
        exact hK.out _ (cvv) _ (by simp only [yZ]) (zd _) trivial (fun _ _=>rfl)
      refine zT 2 9 ?_
      refine zT 3 8 ?_
      refine qC 4 7 (fun f=>#[f 0,f 1,f 2]) (F':=110) (fun f X hX hR=>?_) ?_
      · have e0:f 0=_:=hR.out 0 rfl
        have e1:f 1=_:=hR.out 1 rfl
        have e2:f 2=_:=hR.out 2 rfl
        simp only [e0,e1,e2]
        refine (cL A10 A5 c10 c5 m3 t3 X (Hcv.out.ext (HE0.out.trans (hE.trans hX))) (g10.up hX) (o5.up hX) (by have:=K3.out;omega) (by have:=L.out;omega) Htm.out HM0.out).mono ?_
        rw [Ei.out]
        rintro e w2 ⟨A1,c1,rfl,hO,hB⟩
        exact ⟨(.slice A1 (digs 4294967296 mi).length c1),rfl,hB,fun Y hY=>⟨A1,c1,rfl,hO.up hY⟩⟩
      refine zT 5 6 ?_
      refine qG 6 5 4 d2 ?_
      refine qC 7 4 (fun f=>#[f 3,f 5]) (F':=109) (fun f X hX hR=>?_) ?_
      · obtain ⟨A3,c3,(e3:f 3=_),o3⟩:=hR.out 3 rfl
        have e5:f 5=_:=hR.out 5 rfl
        simp only [e3,e5]
        refine (yd _ _ A3 Ab c3 cb mi C.bb X o3 (h3.up (HE0.out.trans (hE.trans hX))) (fun _ hb=>hb) (fun _ hb=>hb) (by have:=Ki.out;omega) (by have:=Kb.out;omega)).mono ?_
        rintro e w2 ⟨A1,c1,rfl,hO,hB⟩
        exact ⟨(.slice A1 (digs 4294967296 (mi+C.bb)).length c1),rfl,hB,fun Y hY=>⟨A1,c1,rfl,hO.ru.up hY⟩⟩
      refine zT 8 3 ?_
      refine qG 9 2 7 d0 ?_
      refine qC 10 1 (fun f=>#[f 6,f 8]) (F':=79) (fun f X hX hR=>?_) ?_
      · obtain ⟨A6,c6,(e6:f 6=_),o6⟩:=hR.out 6 rfl
        have e8:f 8=_:=hR.out 8 rfl
        simp only [e6,e8]
        refine (wd A6 Ap c6 cp (mi+C.bb) C.M X o6 (h1.up (HE0.out.trans (hE.trans hX))) (by have:=Ks.out;omega) HM0.out).mono ?_
        rw [Er.out]
        rintro e w2 ⟨A1,c1,rfl,hO,hB⟩
        exact ⟨(.slice A1 (digs 4294967296 rt).length c1),rfl,hB,fun Y hY=>⟨A1,c1,rfl,hO.up hY⟩⟩
      refine zt 11 0 [(42,0),(43,1),(44,2),(45,3),(46,4),(47,5),(48,6),(49,7),(50,8),(51,9)] (fun f X hX hR K hK=>?_) ?_
      · obtain ⟨A9,c9,(e9:f 9=_),o9⟩:=hR.out 9 rfl
        simp only [yZ,e9]
        refine ⟨?_⟩
        go_simp
        exact hK.out _ (.slice A9 (digs 4294967296 rt).length c9) _ (by simp only [yZ,e9]) (zd _) trivial (fun Y hY=>⟨A9,c9,rfl,o9.up hY⟩)
      refine yF ⟨fun f X hX hR hal hap=>?_⟩
      obtain ⟨A3,c3,(e3:f 3=_),o3⟩:=hR 3 (by decide)
      obtain ⟨A6,c6,(e6:f 6=_),o6⟩:=hR 6 (by decide)
      obtain ⟨A9,c9,(e9:f 9=_),o9⟩:=hR 9 (by decide)
      obtain ⟨A11,c11,(e10:f 10=_),o11⟩:=hR 10 (by decide)
      simp only [yZ,e3,e6,e9,e10]
      clear hR hal hap e3 e6 e9 e10
      refine zK ?_
      replace hE:=hE.trans hX
      clear hX d0 d2 o3 o6 o9 g10 o5
      go_upto_region 10 with fail
      have d2:=hE.cell p2
      refine zX 10 [0,0,2,0,8,31,0,127,255,511] [] (fun j f X=>match j with
       | 0=>f 0=cvv
       | 1=>f 1=.pointer (some ⟨q+1,2,none⟩)
       | 2=>f 2=.slice A' (digs 4294967296 y).length c'
       | 3=>f 3=.pointer (some ⟨q+1,2,none⟩)
       | 4=>f 4=.slice A' (digs 4294967296 y).length c'
       | 5=>∃ A1 c1,f 5=.slice A1 (digs 4294967296 yy).length c1∧RU X A1 c1 (digs 4294967296 yy)
       | 6=>f 6=.slice A11 (digs 4294967296 rt).length c11
       | 7=>f 7=.int .i64 (kh yy rt)
       | 8=>f 8=.bool r
       | 9=>f 9=.bool r
       | _=>True) (by kernel_rfl) [(52,0),(53,1),(54,2),(55,3),(56,4),(57,5),(58,6),(59,7),(60,8),(4,9)] (by kernel_rfl) ?_
      refine zt 1 9 [(53,1),(54,2),(55,3),(56,4),(58,6)] (fun f X hX hR K hK=>?_) ?_
      · simp only [yZ]
        refine ⟨zc (by kernel_rfl) (jg 73 (.tmp 2) rfl rfl (hE.trans hX |>.at_ hcb) Tryz.underlying73 rfl qh HV.out ?_)⟩
        exact hK.out _ (cvv) _ (by simp only [yZ]) (zd _) trivial (fun _ _=>rfl)
      refine zT 2 8 ?_
      refine qG 3 7 1 d2 ?_
      refine zT 4 6 ?_
      refine qG 5 5 3 d2 ?_
      refine qC 6 4 (fun f=>#[f 0,f 2,f 4]) (F':=96) (fun f X hX hR=>?_) ?_
      · have e0:f 0=_:=hR.out 0 rfl
        have e2:f 2=_:=hR.out 2 rfl
        have e4:f 4=_:=hR.out 4 rfl
        simp only [e0,e2,e4]
        refine (yG A' A' c' c' y y X (Hcv.out.ext (HE0.out.trans (hE.trans hX))) (h'.up (HE0.out.trans (hE.trans hX))) (h'.up (HE0.out.trans (hE.trans hX))) (by have:=KY.out;omega) (by have:=KY.out;omega) HM0.out).mono ?_
        rw [Ey.out]
        rintro e w2 ⟨A1,c1,rfl,hO,hB⟩
        exact ⟨(.slice A1 (digs 4294967296 yy).length c1),rfl,hB,fun Y hY=>⟨A1,c1,rfl,hO.up hY⟩⟩
      refine zT 7 3 ?_
      refine qC 8 2 (fun f=>#[f 5,f 6]) (F':=104) (fun f X hX hR=>?_) ?_
      · obtain ⟨A5,c5,(e5:f 5=_),o5⟩:=hR.out 5 rfl
        have e6:f 6=_:=hR.out 6 rfl
        simp only [e5,e6]
        refine (vf _ _ A5 A11 c5 c11 yy rt X o5 (o11.up hX)).mono ?_
        rintro e w2 ⟨rfl,nq,rfl⟩
        exact ⟨(.int .i64 (kh yy rt)),rfl,(xC _ _),fun _ _=>rfl⟩
      refine zt 9 1 [(52,0),(53,1),(54,2),(55,3),(56,4),(57,5),(58,6),(59,7)] (fun f X hX hR K hK=>?_) ?_
      · have e7:f 7=_:=hR.out 7 rfl
        simp only [yZ,e7]
        refine ⟨?_⟩
        go_simp
        have hd:(kh yy rt==0)=r:=by rw [Hres.out];exact rh yy rt
        rw [hd]
        exact qe hK (s:=by simp only [yZ,e7])
      refine qL 10 0 8 ?_
      refine yF ⟨fun f X hX hR hal hap=>?_⟩
      obtain ⟨A5,c5,(e5:f 5=_),o5⟩:=hR 5 (by decide)
      have e9:f 9=_:=hR 9 (by decide)
      simp only [yZ,e5,e9]
      clear hR hal hap e5 e9
      refine zK ?_
      go_wp2
      go_ret
      exact ⟨rfl,HE0.out.trans (hE.trans hX)⟩
    · obtain ⟨v,hv⟩:=eV (kh y C.M)
      have hv0:0≤v:=by rw [←hv];rcases kR y C.M with h | h | h <;> omega
      have Hv:=zF hv
      have HH:=zF hyM
      clear hv hyM
      go_enter Tryz.func59,Tryz.ntmps59
      go_upto_region 5 with fail
      rw [←hW0]
      clear hW0 hq
      refine zX 14 [0,1,0,4,15,31,63,127,255,127,639,2047,4095,8191] [] (fun j f X=>match j with
       | 0=>f 0=.pointer (some ⟨q+1,1,none⟩)
       | 1=>f 1=.slice A (digs 4294967296 x).length c
       | 2=>f 2=.pointer (some ⟨q,0,none⟩)
       | 3=>f 3=.slice Ap (digs 4294967296 C.M).length cp
       | 4=>f 4=.int .i64 (-1)
       | 5=>f 5=.bool false
       | 6=>f 6=.bool false
       | 7=>f 7=.pointer (some ⟨q+1,2,none⟩)
       | 8=>f 8=.slice A' (digs 4294967296 y).length c'
       | 9=>f 9=.pointer (some ⟨q,0,none⟩)
       | 10=>f 10=.slice Ap (digs 4294967296 C.M).length cp
       | 11=>f 11=.int .i64 v
       | 12=>f 12=.bool true
       | 13=>f 13=.bool true
       | _=>True) (by kernel_rfl) [(13,0),(14,1),(15,2),(16,3),(17,4),(18,5),(19,6),(20,7),(21,8),(22,9),(23,10),(24,11),(25,12),(26,13)] (by kernel_rfl) ?_
      refine zT 1 13 ?_
      refine qG 2 12 0 p1 ?_
      refine zT 3 11 ?_
      refine qG 4 10 2 b0 ?_
      refine qC 5 9 (fun f=>#[f 1,f 3]) (F':=104) (fun f X hX hR=>?_) ?_
      · have e1:f 1=_:=hR.out 1 rfl
        have e3:f 3=_:=hR.out 3 rfl
        simp only [e1,e3]
        refine (arm1.out X hX).mono ?_
        rintro e w2 ⟨rfl,nq,rfl⟩
        rw [tx.out]
        exact ⟨(.int .i64 (-1)),rfl,(xC _ _),fun _ _=>rfl⟩
      refine zt 6 8 [(13,0),(14,1),(15,2),(16,3),(17,4)] (fun f X hX hR K hK=>?_) ?_
      · have e4:f 4=_:=hR.out 4 rfl
        simp only [yZ,e4]
        refine ⟨?_⟩
        go_simp
        exact qe hK (s:=by simp only [yZ,e4])
      refine qL 7 7 5 ?_
      refine qL 8 6 6 ?_
      refine zt 9 5 [(13,0),(14,1),(15,2),(16,3),(17,4),(18,5),(19,6),(20,7),(22,9),(23,10)] (fun f X hX hR K hK=>?_) ?_
      · have e6:f 6=_:=hR.out 6 rfl
        have e7:f 7=_:=hR.out 7 rfl
        have x0:=hX.cell p2
        simp only [yZ,e6,e7]
        refine ⟨zc (by kernel_rfl) ?_⟩
        go_simp
        exact qe hK (s:=by simp only [yZ,e6,e7])
      refine qL 10 4 6 ?_
      refine zt 11 3 [(13,0),(14,1),(15,2),(16,3),(17,4),(18,5),(19,6),(20,7),(21,8),(22,9)] (fun f X hX hR K hK=>?_) ?_
      · have e6:f 6=_:=hR.out 6 rfl
        have e9:f 9=_:=hR.out 9 rfl
        have x0:=hX.cell b0
        simp only [yZ,e6,e9]
        refine ⟨zc (by kernel_rfl) ?_⟩
        go_simp
        exact qe hK (s:=by simp only [yZ,e6,e9])
      refine Par.c1 12 2 6 (fun f=>#[f 8,f 10]) (F':=104) (fun f X hX hR=>?_) ?_
      · have e8:f 8=_:=hR.out 8 rfl
        have e10:f 10=_:=hR.out 10 rfl
        simp only [e8,e10]
        refine (arm2.out X hX).mono ?_
        rintro e w2 ⟨rfl,nq,rfl⟩
        rw [Hv.out]
        exact ⟨(.int .i64 v),rfl,(xC _ _),fun _ _=>rfl⟩
      refine zt 13 1 [(13,0),(14,1),(15,2),(16,3),(17,4),(18,5),(19,6),(20,7),(21,8),(22,9),(23,10),(24,11)] (fun f X hX hR K hK=>?_) ?_
      · have e6:f 6=_:=hR.out 6 rfl
        have e11:f 11=_:=hR.out 11 rfl
        simp only [yZ,e6,e11]
        refine ⟨zc (by kernel_rfl) ?_⟩
        go_simp
        exact qe hK (s:=by simp only [yZ,e6,e11])
      refine vv 14 0 6 12 ?_
      refine yF ⟨fun f X hX hR hal hap=>?_⟩
      have e13:f 13=_:=hR 13 (by decide)
      simp only [yZ,e13]
      clear hR hal hap e13
      refine zK ?_
      go_wp2
      go_ret
      exact ⟨by rw [show r=false by rw [←Hr.out];simp [onB,HH.out]];rfl,HE0.out.trans hX⟩
  · obtain ⟨v,hv⟩:=eV (kh x C.M)
    have hv0:0≤v:=by rw [←hv];rcases kR x C.M with h | h | h <;> omega
    have Hv:=zF hv
    have HH:=zF hxM
    clear hv hxM
    go_enter Tryz.func59,Tryz.ntmps59
    go_upto_region 5 with fail
    rw [←hW0]
    clear hW0 hq
    refine zX 14 [0,1,0,4,15,31,63,127,255,127,639,2047,4095,8191] [] (fun j f X=>match j with
     | 0=>f 0=.pointer (some ⟨q+1,1,none⟩)
     | 1=>f 1=.slice A (digs 4294967296 x).length c
     | 2=>f 2=.pointer (some ⟨q,0,none⟩)
     | 3=>f 3=.slice Ap (digs 4294967296 C.M).length cp
     | 4=>f 4=.int .i64 v
     | 5=>f 5=.bool true
     | 6=>f 6=.bool true
     | 7=>f 7=undef
     | 8=>f 8=undef
     | 9=>f 9=undef
     | 10=>f 10=undef
     | 11=>f 11=undef
     | 12=>f 12=undef
     | 13=>f 13=.bool true
     | _=>True) (by kernel_rfl) [(13,0),(14,1),(15,2),(16,3),(17,4),(18,5),(19,6),(20,7),(21,8),(22,9),(23,10),(24,11),(25,12),(26,13)] (by kernel_rfl) ?_
    refine zT 1 13 ?_
    refine qG 2 12 0 p1 ?_
    refine zT 3 11 ?_
    refine qG 4 10 2 b0 ?_
    refine qC 5 9 (fun f=>#[f 1,f 3]) (F':=104) (fun f X hX hR=>?_) ?_
    · have e1:f 1=_:=hR.out 1 rfl
      have e3:f 3=_:=hR.out 3 rfl
      simp only [e1,e3]
      refine (arm1.out X hX).mono ?_
      rintro e w2 ⟨rfl,nq,rfl⟩
      rw [Hv.out]
      exact ⟨(.int .i64 v),rfl,(xC _ _),fun _ _=>rfl⟩
    refine zt 6 8 [(13,0),(14,1),(15,2),(16,3),(17,4)] (fun f X hX hR K hK=>?_) ?_
    · have e4:f 4=_:=hR.out 4 rfl
      simp only [yZ,e4]
      refine ⟨?_⟩
      go_simp
      exact qe hK (s:=by simp only [yZ,e4])
    refine qL 7 7 5 ?_
    refine jl 8 6 6 ?_
    refine jl 9 5 6 ?_
    refine jl 10 4 6 ?_
    refine jl 11 3 6 ?_
    refine jl 12 2 6 ?_
    refine jl 13 1 6 ?_
    refine vv 14 0 6 12 ?_
    refine yF ⟨fun f X hX hR hal hap=>?_⟩
    have e13:f 13=_:=hR 13 (by decide)
    simp only [yZ,e13]
    clear hR hal hap e13
    refine zK ?_
    go_wp2
    go_ret
    exact ⟨by rw [show r=false by rw [←Hr.out];simp [onB,HH.out]];rfl,HE0.out.trans hX⟩
def c0:Crv:=⟨0,0,0,0,[],[],[],[],[]⟩
theorem mn {fn:Func} {R:Ending→World→Prop} {a:Act} {W:World} {p:Tmp} {g:Nat} {ty:TypeId} {fr:Nat×Nat} {x0 x1 x2 x3 x4 x5:Value} (hr:fn.results=#[.cell p 73]) (hp:a.tmps.getD p undef=.pointer (some ⟨g,0,none⟩)) (hd:a.defers=[])
 (hg:W.heap[g]?=some (.cells #[x0,x1,x2,x3,x4,x5] ty fr)) (hR:R (.returned (.agg #[x0,x1,x2,x3,x4,x5])) W):bodyPost Tryz.prog fn R .ret a W :=
 qF (vi hr a.tmps W g _ _ _ _ hp hg Tryz.underlying73 rfl qh) hd hR
theorem pZ (A1 A2 A3 A4 A5:Option Addr) (n1 n2 n3 n4 n5 c1 c2 c3 c4 c5:Nat) (s:Int):(#[Value.slice A1 n1 c1,.slice A2 n2 c2,.slice A3 n3 c3,.slice A4 n4 c4,.slice A5 n5 c5,.int .i64 s]:Array Value).all (·.oneCell')=true:=by simp [Value.oneCell']
theorem bF {c:Int} {C:Crv} (hC:IsC c C) (w:World):Calls Tryz.prog 37 #[.int .i64 c] w fun e w'=>∃ v,e=.returned v∧RC w' C v∧Ext w w':=by
 have hz:(w.alloc (.cells #[.slice none 0 0,.slice none 0 0,.slice none 0 0,.slice none 0 0,.slice none 0 0,.int .i64 0] 73)).heap[w.heap.size]?=some (.cells #[.slice none 0 0,.slice none 0 0,.slice none 0 0,.slice none 0 0,.slice none 0 0,.int .i64 0] 73 (0,0)):=zN w _
 rcases hC with ⟨rfl,rfl⟩ | ⟨rfl,rfl⟩
 · go_enter Tryz.func37,Tryz.ntmps37
   go_upto_region 3 with fail
   refine zX 11 [0,1,0,7,0,31,0,127,0,511,1023,2047] [] (fun j f X=>match j with
    | 0=>∃ b,f 0=.slice (some ⟨b,0,none⟩) 4 4∧RU X (some ⟨b,0,none⟩) 4 vF
    | 1=>∃ A1 c1,f 1=.slice A1 (digs 4294967296 (val 18446744073709551616 vF)).length c1∧OB X w.heap.size A1 c1 (digs 4294967296 (val 18446744073709551616 vF))
    | 2=>∃ b,f 2=.slice (some ⟨b,0,none⟩) 4 4∧RU X (some ⟨b,0,none⟩) 4 uM
    | 3=>∃ A1 c1,f 3=.slice A1 (digs 4294967296 (val 18446744073709551616 uM)).length c1∧OB X w.heap.size A1 c1 (digs 4294967296 (val 18446744073709551616 uM))
    | 4=>∃ b,f 4=.slice (some ⟨b,0,none⟩) 4 4∧RU X (some ⟨b,0,none⟩) 4 wu
    | 5=>∃ A1 c1,f 5=.slice A1 (digs 4294967296 (val 18446744073709551616 wu)).length c1∧OB X w.heap.size A1 c1 (digs 4294967296 (val 18446744073709551616 wu))
    | 6=>∃ b,f 6=.slice (some ⟨b,0,none⟩) 4 4∧RU X (some ⟨b,0,none⟩) 4 uL
    | 7=>∃ A1 c1,f 7=.slice A1 (digs 4294967296 (val 18446744073709551616 uL)).length c1∧OB X w.heap.size A1 c1 (digs 4294967296 (val 18446744073709551616 uL))
    | 8=>∃ b,f 8=.slice (some ⟨b,0,none⟩) 4 4∧RU X (some ⟨b,0,none⟩) 4 uK
    | 9=>∃ A1 c1,f 9=.slice A1 (digs 4294967296 (val 18446744073709551616 uK)).length c1∧OB X w.heap.size A1 c1 (digs 4294967296 (val 18446744073709551616 uK))
    | 10=>f 10=.agg #[f 1,f 3,f 5,f 7,f 9,.int .i64 32]
    | _=>True) (by kernel_rfl) [(6,0),(7,1),(8,2),(9,3),(10,4),(11,5),(12,6),(13,7),(14,8),(15,9),(16,10)] (by kernel_rfl) ?_
   refine zt 1 10 [(8,2),(10,4),(12,6),(14,8)] (fun f X hX hR K hK=>?_) ?_
   · simp only [yZ]
     refine ⟨?_⟩
     go_simp
     exact hK.out _ (.slice (some ⟨X.heap.size,0,none⟩) 4 4) _ (by simp only [yZ]) (zR _ _) trivial (fun Y hY=>⟨X.heap.size,rfl,((RN.lits X vF ⟨by decide,by decide⟩).mono (fun b hb=>by rw [zu];exact hb.2)).up hY⟩)
   refine qC 2 9 (fun f=>#[f 0]) (F':=8) (fun f X hX hR=>?_) ?_
   · obtain ⟨b0,(e0:f 0=_),h0⟩:=hR.out 0 rfl
     simp only [e0]
     refine (kA _ (some ⟨b0,0,none⟩) 4 vF X h0 (fun _ hb=>hb) (by decide)).mono ?_
     rintro e w2 ⟨A1,c1,rfl,hO,hB⟩
     exact ⟨(.slice A1 (digs 4294967296 (val 18446744073709551616 vF)).length c1),rfl,hB,fun Y hY=>⟨A1,c1,rfl,(hO.mono (zU (zR w _).bsize hX.bsize)).below hY (zG _)⟩⟩
   refine zt 3 8 [(6,0),(7,1),(10,4),(12,6),(14,8)] (fun f X hX hR K hK=>?_) ?_
   · simp only [yZ]
     refine ⟨?_⟩
     go_simp
     exact hK.out _ (.slice (some ⟨X.heap.size,0,none⟩) 4 4) _ (by simp only [yZ]) (zR _ _) trivial (fun Y hY=>⟨X.heap.size,rfl,((RN.lits X uM ⟨by decide,by decide⟩).mono (fun b hb=>by rw [zu];exact hb.2)).up hY⟩)
   refine qC 4 7 (fun f=>#[f 2]) (F':=8) (fun f X hX hR=>?_) ?_
   · obtain ⟨b2,(e2:f 2=_),h2⟩:=hR.out 2 rfl
     simp only [e2]
     refine (kA _ (some ⟨b2,0,none⟩) 4 uM X h2 (fun _ hb=>hb) (by decide)).mono ?_
     rintro e w2 ⟨A1,c1,rfl,hO,hB⟩
     exact ⟨(.slice A1 (digs 4294967296 (val 18446744073709551616 uM)).length c1),rfl,hB,fun Y hY=>⟨A1,c1,rfl,(hO.mono (zU (zR w _).bsize hX.bsize)).below hY (zG _)⟩⟩
   refine zt 5 6 [(6,0),(7,1),(8,2),(9,3),(12,6),(14,8)] (fun f X hX hR K hK=>?_) ?_
   · simp only [yZ]
     refine ⟨?_⟩
     go_simp
     exact hK.out _ (.slice (some ⟨X.heap.size,0,none⟩) 4 4) _ (by simp only [yZ]) (zR _ _) trivial (fun Y hY=>⟨X.heap.size,rfl,((RN.lits X wu ⟨by decide,by decide⟩).mono (fun b hb=>by rw [zu];exact hb.2)).up hY⟩)
   refine qC 6 5 (fun f=>#[f 4]) (F':=8) (fun f X hX hR=>?_) ?_
   · obtain ⟨b4,(e4:f 4=_),h4⟩:=hR.out 4 rfl
     simp only [e4]
     refine (kA _ (some ⟨b4,0,none⟩) 4 wu X h4 (fun _ hb=>hb) (by decide)).mono ?_
     rintro e w2 ⟨A1,c1,rfl,hO,hB⟩
     exact ⟨(.slice A1 (digs 4294967296 (val 18446744073709551616 wu)).length c1),rfl,hB,fun Y hY=>⟨A1,c1,rfl,(hO.mono (zU (zR w _).bsize hX.bsize)).below hY (zG _)⟩⟩
   refine zt 7 4 [(6,0),(7,1),(8,2),(9,3),(10,4),(11,5),(14,8)] (fun f X hX hR K hK=>?_) ?_
   · simp only [yZ]
     refine ⟨?_⟩
     go_simp
     exact hK.out _ (.slice (some ⟨X.heap.size,0,none⟩) 4 4) _ (by simp only [yZ]) (zR _ _) trivial (fun Y hY=>⟨X.heap.size,rfl,((RN.lits X uL ⟨by decide,by decide⟩).mono (fun b hb=>by rw [zu];exact hb.2)).up hY⟩)
   refine qC 8 3 (fun f=>#[f 6]) (F':=8) (fun f X hX hR=>?_) ?_
   · obtain ⟨b6,(e6:f 6=_),h6⟩:=hR.out 6 rfl
     simp only [e6]
     refine (kA _ (some ⟨b6,0,none⟩) 4 uL X h6 (fun _ hb=>hb) (by decide)).mono ?_
     rintro e w2 ⟨A1,c1,rfl,hO,hB⟩
     exact ⟨(.slice A1 (digs 4294967296 (val 18446744073709551616 uL)).length c1),rfl,hB,fun Y hY=>⟨A1,c1,rfl,(hO.mono (zU (zR w _).bsize hX.bsize)).below hY (zG _)⟩⟩
   refine zt 9 2 [(6,0),(7,1),(8,2),(9,3),(10,4),(11,5),(12,6),(13,7)] (fun f X hX hR K hK=>?_) ?_
   · simp only [yZ]
     refine ⟨?_⟩
     go_simp
     exact hK.out _ (.slice (some ⟨X.heap.size,0,none⟩) 4 4) _ (by simp only [yZ]) (zR _ _) trivial (fun Y hY=>⟨X.heap.size,rfl,((RN.lits X uK ⟨by decide,by decide⟩).mono (fun b hb=>by rw [zu];exact hb.2)).up hY⟩)
   refine qC 10 1 (fun f=>#[f 8]) (F':=8) (fun f X hX hR=>?_) ?_
   · obtain ⟨b8,(e8:f 8=_),h8⟩:=hR.out 8 rfl
     simp only [e8]
     refine (kA _ (some ⟨b8,0,none⟩) 4 uK X h8 (fun _ hb=>hb) (by decide)).mono ?_
     rintro e w2 ⟨A1,c1,rfl,hO,hB⟩
     exact ⟨(.slice A1 (digs 4294967296 (val 18446744073709551616 uK)).length c1),rfl,hB,fun Y hY=>⟨A1,c1,rfl,(hO.mono (zU (zR w _).bsize hX.bsize)).below hY (zG _)⟩⟩
   refine zt 11 0 [(6,0),(7,1),(8,2),(9,3),(10,4),(11,5),(12,6),(13,7),(14,8),(15,9)] (fun f X hX hR K hK=>?_) ?_
   · obtain ⟨A1,c1,(e1:f 1=_),o1⟩:=hR.out 1 rfl
     obtain ⟨A3,c3,(e3:f 3=_),o3⟩:=hR.out 3 rfl
     obtain ⟨A5,c5,(e5:f 5=_),o5⟩:=hR.out 5 rfl
     obtain ⟨A7,c7,(e7:f 7=_),o7⟩:=hR.out 7 rfl
     obtain ⟨A9,c9,(e9:f 9=_),o9⟩:=hR.out 9 rfl
     simp only [yZ,e1,e3,e5,e7,e9]
     refine ⟨?_⟩
     go_simp
     exact hK.out _ (.agg #[f 1,f 3,f 5,f 7,f 9,.int .i64 32]) _ (by simp only [yZ,e1,e3,e5,e7,e9]) (zd _) trivial (fun _ _=>rfl)
   refine yF ⟨fun f X hX hR hal hap=>?_⟩
   obtain ⟨b0,(e0:f 0=_),h0⟩:=hR 0 (by decide)
   obtain ⟨A1,c1,(e1:f 1=_),o1⟩:=hR 1 (by decide)
   obtain ⟨b2,(e2:f 2=_),h2⟩:=hR 2 (by decide)
   obtain ⟨A3,c3,(e3:f 3=_),o3⟩:=hR 3 (by decide)
   obtain ⟨b4,(e4:f 4=_),h4⟩:=hR 4 (by decide)
   obtain ⟨A5,c5,(e5:f 5=_),o5⟩:=hR 5 (by decide)
   obtain ⟨b6,(e6:f 6=_),h6⟩:=hR 6 (by decide)
   obtain ⟨A7,c7,(e7:f 7=_),o7⟩:=hR 7 (by decide)
   obtain ⟨b8,(e8:f 8=_),h8⟩:=hR 8 (by decide)
   obtain ⟨A9,c9,(e9:f 9=_),o9⟩:=hR 9 (by decide)
   have e10:f 10=.agg #[f 1,f 3,f 5,f 7,f 9,.int .i64 32]:=hR 10 (by decide)
   simp only [yZ,e0,e1,e2,e3,e4,e5,e6,e7,e8,e9,e10]
   clear hR hal hap e0 e1 e2 e3 e4 e5 e6 e7 e8 e9 e10
   refine zZ (fun K hK=>⟨zc (by kernel_rfl) (qo 73 (.tmp 2) (.tmp 16) rfl rfl rfl rfl (hX.at_ hz) qh rfl (pZ _ _ _ _ _ _ _ _ _ _ _ _ _ _ _ _) (fun Y1 g1 g2 g3=>hK.out _ _ ?_))⟩)
   refine zK ?_
   go_wp2
   refine mn rfl rfl rfl g1 ⟨_,rfl,⟨A1,A3,A5,A7,A9,c1,c3,c5,c7,c9,rfl,(o1.just g2 (hX.at_ hz) (by decide)).ru,(o3.just g2 (hX.at_ hz) (by decide)).ru,(o5.just g2 (hX.at_ hz) (by decide)).ru,(o7.just g2 (hX.at_ hz) (by decide)).ru,(o9.just g2 (hX.at_ hz) (by decide)).ru⟩,g2.ext ((zR w _).trans hX) (zG _)⟩
 · go_enter Tryz.func37,Tryz.ntmps37
   go_upto_region 5 with fail
   refine zX 11 [0,1,0,7,0,31,0,127,0,511,1023,2047] [] (fun j f X=>match j with
    | 0=>∃ b,f 0=.slice (some ⟨b,0,none⟩) 6 6∧RU X (some ⟨b,0,none⟩) 6 vE
    | 1=>∃ A1 c1,f 1=.slice A1 (digs 4294967296 (val 18446744073709551616 vE)).length c1∧OB X w.heap.size A1 c1 (digs 4294967296 (val 18446744073709551616 vE))
    | 2=>∃ b,f 2=.slice (some ⟨b,0,none⟩) 6 6∧RU X (some ⟨b,0,none⟩) 6 uJ
    | 3=>∃ A1 c1,f 3=.slice A1 (digs 4294967296 (val 18446744073709551616 uJ)).length c1∧OB X w.heap.size A1 c1 (digs 4294967296 (val 18446744073709551616 uJ))
    | 4=>∃ b,f 4=.slice (some ⟨b,0,none⟩) 6 6∧RU X (some ⟨b,0,none⟩) 6 wt
    | 5=>∃ A1 c1,f 5=.slice A1 (digs 4294967296 (val 18446744073709551616 wt)).length c1∧OB X w.heap.size A1 c1 (digs 4294967296 (val 18446744073709551616 wt))
    | 6=>∃ b,f 6=.slice (some ⟨b,0,none⟩) 6 6∧RU X (some ⟨b,0,none⟩) 6 uI
    | 7=>∃ A1 c1,f 7=.slice A1 (digs 4294967296 (val 18446744073709551616 uI)).length c1∧OB X w.heap.size A1 c1 (digs 4294967296 (val 18446744073709551616 uI))
    | 8=>∃ b,f 8=.slice (some ⟨b,0,none⟩) 6 6∧RU X (some ⟨b,0,none⟩) 6 uH
    | 9=>∃ A1 c1,f 9=.slice A1 (digs 4294967296 (val 18446744073709551616 uH)).length c1∧OB X w.heap.size A1 c1 (digs 4294967296 (val 18446744073709551616 uH))
    | 10=>f 10=.agg #[f 1,f 3,f 5,f 7,f 9,.int .i64 48]
    | _=>True) (by kernel_rfl) [(19,0),(20,1),(21,2),(22,3),(23,4),(24,5),(25,6),(26,7),(27,8),(28,9),(29,10)] (by kernel_rfl) ?_
   refine zt 1 10 [(21,2),(23,4),(25,6),(27,8)] (fun f X hX hR K hK=>?_) ?_
   · simp only [yZ]
     refine ⟨?_⟩
     go_simp
     exact hK.out _ (.slice (some ⟨X.heap.size,0,none⟩) 6 6) _ (by simp only [yZ]) (zR _ _) trivial (fun Y hY=>⟨X.heap.size,rfl,((RN.lits X vE ⟨by decide,by decide⟩).mono (fun b hb=>by rw [zu];exact hb.2)).up hY⟩)
   refine qC 2 9 (fun f=>#[f 0]) (F':=8) (fun f X hX hR=>?_) ?_
   · obtain ⟨b0,(e0:f 0=_),h0⟩:=hR.out 0 rfl
     simp only [e0]
     refine (kA _ (some ⟨b0,0,none⟩) 6 vE X h0 (fun _ hb=>hb) (by decide)).mono ?_
     rintro e w2 ⟨A1,c1,rfl,hO,hB⟩
     exact ⟨(.slice A1 (digs 4294967296 (val 18446744073709551616 vE)).length c1),rfl,hB,fun Y hY=>⟨A1,c1,rfl,(hO.mono (zU (zR w _).bsize hX.bsize)).below hY (zG _)⟩⟩
   refine zt 3 8 [(19,0),(20,1),(23,4),(25,6),(27,8)] (fun f X hX hR K hK=>?_) ?_
   · simp only [yZ]
     refine ⟨?_⟩
     go_simp
     exact hK.out _ (.slice (some ⟨X.heap.size,0,none⟩) 6 6) _ (by simp only [yZ]) (zR _ _) trivial (fun Y hY=>⟨X.heap.size,rfl,((RN.lits X uJ ⟨by decide,by decide⟩).mono (fun b hb=>by rw [zu];exact hb.2)).up hY⟩)
   refine qC 4 7 (fun f=>#[f 2]) (F':=8) (fun f X hX hR=>?_) ?_
   · obtain ⟨b2,(e2:f 2=_),h2⟩:=hR.out 2 rfl
     simp only [e2]
     refine (kA _ (some ⟨b2,0,none⟩) 6 uJ X h2 (fun _ hb=>hb) (by decide)).mono ?_
     rintro e w2 ⟨A1,c1,rfl,hO,hB⟩
     exact ⟨(.slice A1 (digs 4294967296 (val 18446744073709551616 uJ)).length c1),rfl,hB,fun Y hY=>⟨A1,c1,rfl,(hO.mono (zU (zR w _).bsize hX.bsize)).below hY (zG _)⟩⟩
   refine zt 5 6 [(19,0),(20,1),(21,2),(22,3),(25,6),(27,8)] (fun f X hX hR K hK=>?_) ?_
   · simp only [yZ]
     refine ⟨?_⟩
     go_simp
     exact hK.out _ (.slice (some ⟨X.heap.size,0,none⟩) 6 6) _ (by simp only [yZ]) (zR _ _) trivial (fun Y hY=>⟨X.heap.size,rfl,((RN.lits X wt ⟨by decide,by decide⟩).mono (fun b hb=>by rw [zu];exact hb.2)).up hY⟩)
   refine qC 6 5 (fun f=>#[f 4]) (F':=8) (fun f X hX hR=>?_) ?_
   · obtain ⟨b4,(e4:f 4=_),h4⟩:=hR.out 4 rfl
     simp only [e4]
     refine (kA _ (some ⟨b4,0,none⟩) 6 wt X h4 (fun _ hb=>hb) (by decide)).mono ?_
     rintro e w2 ⟨A1,c1,rfl,hO,hB⟩
     exact ⟨(.slice A1 (digs 4294967296 (val 18446744073709551616 wt)).length c1),rfl,hB,fun Y hY=>⟨A1,c1,rfl,(hO.mono (zU (zR w _).bsize hX.bsize)).below hY (zG _)⟩⟩
   refine zt 7 4 [(19,0),(20,1),(21,2),(22,3),(23,4),(24,5),(27,8)] (fun f X hX hR K hK=>?_) ?_
   · simp only [yZ]
     refine ⟨?_⟩
     go_simp
     exact hK.out _ (.slice (some ⟨X.heap.size,0,none⟩) 6 6) _ (by simp only [yZ]) (zR _ _) trivial (fun Y hY=>⟨X.heap.size,rfl,((RN.lits X uI ⟨by decide,by decide⟩).mono (fun b hb=>by rw [zu];exact hb.2)).up hY⟩)
   refine qC 8 3 (fun f=>#[f 6]) (F':=8) (fun f X hX hR=>?_) ?_
   · obtain ⟨b6,(e6:f 6=_),h6⟩:=hR.out 6 rfl
     simp only [e6]
     refine (kA _ (some ⟨b6,0,none⟩) 6 uI X h6 (fun _ hb=>hb) (by decide)).mono ?_
     rintro e w2 ⟨A1,c1,rfl,hO,hB⟩
     exact ⟨(.slice A1 (digs 4294967296 (val 18446744073709551616 uI)).length c1),rfl,hB,fun Y hY=>⟨A1,c1,rfl,(hO.mono (zU (zR w _).bsize hX.bsize)).below hY (zG _)⟩⟩
   refine zt 9 2 [(19,0),(20,1),(21,2),(22,3),(23,4),(24,5),(25,6),(26,7)] (fun f X hX hR K hK=>?_) ?_
   · simp only [yZ]
     refine ⟨?_⟩
     go_simp
     exact hK.out _ (.slice (some ⟨X.heap.size,0,none⟩) 6 6) _ (by simp only [yZ]) (zR _ _) trivial (fun Y hY=>⟨X.heap.size,rfl,((RN.lits X uH ⟨by decide,by decide⟩).mono (fun b hb=>by rw [zu];exact hb.2)).up hY⟩)
   refine qC 10 1 (fun f=>#[f 8]) (F':=8) (fun f X hX hR=>?_) ?_
   · obtain ⟨b8,(e8:f 8=_),h8⟩:=hR.out 8 rfl
     simp only [e8]
     refine (kA _ (some ⟨b8,0,none⟩) 6 uH X h8 (fun _ hb=>hb) (by decide)).mono ?_
     rintro e w2 ⟨A1,c1,rfl,hO,hB⟩
     exact ⟨(.slice A1 (digs 4294967296 (val 18446744073709551616 uH)).length c1),rfl,hB,fun Y hY=>⟨A1,c1,rfl,(hO.mono (zU (zR w _).bsize hX.bsize)).below hY (zG _)⟩⟩
   refine zt 11 0 [(19,0),(20,1),(21,2),(22,3),(23,4),(24,5),(25,6),(26,7),(27,8),(28,9)] (fun f X hX hR K hK=>?_) ?_
   · obtain ⟨A1,c1,(e1:f 1=_),o1⟩:=hR.out 1 rfl
     obtain ⟨A3,c3,(e3:f 3=_),o3⟩:=hR.out 3 rfl
     obtain ⟨A5,c5,(e5:f 5=_),o5⟩:=hR.out 5 rfl
     obtain ⟨A7,c7,(e7:f 7=_),o7⟩:=hR.out 7 rfl
     obtain ⟨A9,c9,(e9:f 9=_),o9⟩:=hR.out 9 rfl
     simp only [yZ,e1,e3,e5,e7,e9]
     refine ⟨?_⟩
     go_simp
     exact hK.out _ (.agg #[f 1,f 3,f 5,f 7,f 9,.int .i64 48]) _ (by simp only [yZ,e1,e3,e5,e7,e9]) (zd _) trivial (fun _ _=>rfl)
   refine yF ⟨fun f X hX hR hal hap=>?_⟩
   obtain ⟨b0,(e0:f 0=_),h0⟩:=hR 0 (by decide)
   obtain ⟨A1,c1,(e1:f 1=_),o1⟩:=hR 1 (by decide)
   obtain ⟨b2,(e2:f 2=_),h2⟩:=hR 2 (by decide)
   obtain ⟨A3,c3,(e3:f 3=_),o3⟩:=hR 3 (by decide)
   obtain ⟨b4,(e4:f 4=_),h4⟩:=hR 4 (by decide)
   obtain ⟨A5,c5,(e5:f 5=_),o5⟩:=hR 5 (by decide)
   obtain ⟨b6,(e6:f 6=_),h6⟩:=hR 6 (by decide)
   obtain ⟨A7,c7,(e7:f 7=_),o7⟩:=hR 7 (by decide)
   obtain ⟨b8,(e8:f 8=_),h8⟩:=hR 8 (by decide)
   obtain ⟨A9,c9,(e9:f 9=_),o9⟩:=hR 9 (by decide)
   have e10:f 10=.agg #[f 1,f 3,f 5,f 7,f 9,.int .i64 48]:=hR 10 (by decide)
   simp only [yZ,e0,e1,e2,e3,e4,e5,e6,e7,e8,e9,e10]
   clear hR hal hap e0 e1 e2 e3 e4 e5 e6 e7 e8 e9 e10
   refine zZ (fun K hK=>⟨zc (by kernel_rfl) (qo 73 (.tmp 2) (.tmp 29) rfl rfl rfl rfl (hX.at_ hz) qh rfl (pZ _ _ _ _ _ _ _ _ _ _ _ _ _ _ _ _) (fun Y1 g1 g2 g3=>hK.out _ _ ?_))⟩)
   refine zK ?_
   go_wp2
   refine mn rfl rfl rfl g1 ⟨_,rfl,⟨A1,A3,A5,A7,A9,c1,c3,c5,c7,c9,rfl,(o1.just g2 (hX.at_ hz) (by decide)).ru,(o3.just g2 (hX.at_ hz) (by decide)).ru,(o5.just g2 (hX.at_ hz) (by decide)).ru,(o7.just g2 (hX.at_ hz) (by decide)).ru,(o9.just g2 (hX.at_ hz) (by decide)).ru⟩,g2.ext ((zR w _).trans hX) (zG _)⟩
theorem uo {c:Int} (h1:c≠1) (h2:c≠2) (w:World):Calls Tryz.prog 37 #[.int .i64 c] w fun e w'=>∃ v,e=.returned v∧RC w' c0 v∧Ext w w':=by
 have e1:(c==1)=false:=by simpa using h1
 have e2:(c==2)=false:=by simpa using h2
 have hn:∀ X:World,RU X none 0 (digs 4294967296 0):=fun X=>by rw [qY];exact RN.nil_ X _
 have hd:(digs 4294967296 0).length=0:=by rw [qY];rfl
 have hc:∀ X:World,RC X c0 (.agg #[.slice none 0 0,.slice none 0 0,.slice none 0 0,.slice none 0 0,.slice none 0 0,.int .i64 0]):=fun X=>by
  refine ⟨none,none,none,none,none,0,0,0,0,0,?_,hn X,hn X,hn X,hn X,hn X⟩
  show _=Value.agg #[.slice none (digs 4294967296 0).length 0,.slice none (digs 4294967296 0).length 0,.slice none (digs 4294967296 0).length 0,.slice none (digs 4294967296 0).length 0,.slice none (digs 4294967296 0).length 0,.int .i64 0]
  rw [hd]
 have Hc:=zF hc
 clear hc hn hd
 go_enter Tryz.func37,Tryz.ntmps37
 go_wp2
 refine mn rfl rfl rfl (zN w _) ⟨_,rfl,Hc.out _,zR _ _⟩
theorem end_e {fn:Func} {R:Ending→World→Prop} {a:Act} {W:World} {p:Tmp} {g:Nat} {l:List Nat} (hr:fn.results=#[.cell p 147]) (hp:a.tmps.getD p undef=.pointer (some ⟨g,0,none⟩)) (hd:a.defers=[])
 (hg:wQ W g l) (h6:l.length=6) (hR:R (.returned (EV l)) W):bodyPost Tryz.prog fn R .ret a W :=
 qF (vi hr a.tmps W g _ _ _ _ hp hg Tryz.underlying147 rfl (by rw [jL,qX,h6];exact dK)) hd hR
theorem kI:([.int .u64 0,.int .u64 0,.int .u64 0,.int .u64 0,.int .u64 0,.int .u64 0]:List Value).length=6:=rfl
theorem FR.r_one {w:World} {g n inv M:Nat} {ml ol rl:List Nat} (h:FR w g n inv M ml ol rl):w.rangeAt g 8 (nts ol):=fun j v hv=>by
 rw [zH h.ff.fld.blk]
 obtain ⟨a,b,c,d,e,f,rfl⟩:=six h.ff.fld.m6
 obtain ⟨a,b,c,d,e,f,rfl⟩:=six h.ff.fld.o6
 match j,hv with
 | 0,hv | 1,hv | 2,hv | 3,hv | 4,hv | 5,hv=>exact hv
 | j+6,hv=>simp [nts] at hv
theorem FR.fone {w:World} {g n inv M:Nat} {ml ol rl:List Nat} (h:FR w g n inv M ml ol rl):FE M n ol 1:=⟨h.oelt,by rw [h.oval,xE]⟩
theorem FR.ext {w X:World} {g n inv M:Nat} {ml ol rl:List Nat} (h:FR w g n inv M ml ol rl) (hE:Ext w X):FR X g n inv M ml ol rl:=h.below hE h.ff.fld.lt
theorem bL {g n inv M:Nat} {ml ol rl:List Nat} (w:World) (hF:FR w g n inv M ml ol rl):Calls Tryz.prog 178 #[.pointer (some ⟨g,0,none⟩)] w fun e w'=>e=.returned (EV ol)∧Ext w w':=by
 have hF':=zF hF
 have hz:=zN w (.cells #[.int .u64 0,.int .u64 0,.int .u64 0,.int .u64 0,.int .u64 0,.int .u64 0] 147)
 go_enter Tryz.func178,Tryz.ntmps178
 go_upto_region 1 with fail
 refine zX 4 [0,1,3,7,15] [] (fun j f X=>match j with
  | 0=>f 0=.pointer (some ⟨g,0,none⟩)
  | 1=>f 1=.pointer (some ⟨g,0,none⟩)
  | 2=>f 2=.pointer (some ⟨g,8,none⟩)
  | 3=>f 3=EV ol
  | _=>True) (by kernel_rfl) [(3,0),(4,1),(5,2),(6,3)] (by kernel_rfl) ?_
 refine zT 1 3 ?_
 refine qL 2 2 0 ?_
 refine qL 3 1 1 ?_
 refine zt 4 0 [(3,0),(4,1),(5,2)] (fun f X hX hR K hK=>?_) ?_
 · have e2:f 2=_:=hR.out 2 rfl
   simp only [yZ,e2]
   refine ⟨zc (by kernel_rfl) (kJ (.tmp 5) rfl rfl (hF'.out.ext ((zR _ _).trans hX)).r_one hF'.out.oelt.six ?_)⟩
   exact hK.out _ (EV ol) _ (by simp only [yZ,e2]) (zd _) trivial (fun _ _=>rfl)
 refine yF ⟨fun f X hX hR hal hap=>?_⟩
 have e3:f 3=_:=hR 3 (by decide)
 simp only [yZ,e3]
 clear hR hal hap e3
 refine zZ (fun K hK=>⟨zc (by kernel_rfl) (qW (.tmp 2) (.tmp 6) rfl rfl rfl rfl (hX.at_ hz) kI hF'.out.oelt.six (fun Y1 hl1=>hK.out _ _ ?_))⟩)
 refine zK ?_
 go_wp2
 exact end_e rfl rfl rfl hl1.blk hF'.out.oelt.six ⟨rfl,hl1.ext ((zR _ _).trans hX) (zG _)⟩
theorem wQ.rn {w:World} {b:Nat} {l:List Nat} (h:wQ w b l) (h6:l.length=6) (hl:∀ x∈l,x<18446744073709551616):RN w (fun b=>b<w.heap.size) (some ⟨b,0,none⟩) 6 l:=by
 refine ⟨⟨by omega,by unfold maxLen;omega,by rw [qX];omega,fun _=>⟨_,rfl,h.lt,fun j v hv=>?_⟩⟩,hl,by omega⟩
 rw [wl,zH h j]
 simpa using hv
theorem rM {g n inv M:Nat} {ml ol rl a:List Nat} {x:Nat} (w:World) (hF:FR w g n inv M ml ol rl) (ha:FE M n a x):Calls Tryz.prog 181 #[.pointer (some ⟨g,0,none⟩),EV a] w fun e w'=>∃ A1 c1,e=.returned (.slice A1 (digs 18446744073709551616 (x % M)).length c1)∧OB w' w.heap.size A1 c1 (digs 18446744073709551616 (x % M))∧Ext w w':=by
 have hF':=zF hF
 have ha':=zF ha
 have h1M:=hF.ff.big
 have he1:Elt M [1,0,0,0,0,0]:=⟨rfl,by decide,by simpa using h1M⟩
 obtain ⟨q,hq⟩:=eV w.heap.size
 have hbx:(w.alloc (.cells (nts a).toArray 147)).heap[w.heap.size]?=some (.cells (nts a).toArray 147 (0,0)):=zN w _
 obtain ⟨y,hy⟩:=eV (x % M)
 have hmul:=zF (fun X (hX:Ext w X)=>(fP a [1,0,0,0,0,0] X (hF.ext hX).ff ha.elt he1).mono (R':=fun e w'=>∃ o,e=.returned (EV o)∧o.length=6∧(∀ x∈o,x<18446744073709551616)∧val 18446744073709551616 o=y∧Ext X w') (by
  rintro e w' ⟨o,rfl,ho,hv,hB⟩
  refine ⟨o,rfl,ho.six,ho.lim,?_,hB⟩
  have hv1:val 18446744073709551616 [1,0,0,0,0,0]=1:=by simp
  rw [hv1,jS,ha.form,Nat.mod_mod] at hv
  have:=fN hF.ff.invV hv
  rw [qJ ho.lt] at this
  rw [this,hy]))
 rw [hy]
 have h6:=ha.elt.six
 have e1:EV [1,0,0,0,0,0]=.agg #[.int .u64 1,.int .u64 0,.int .u64 0,.int .u64 0,.int .u64 0,.int .u64 0]:=rfl
 rw [e1] at hmul
 have hev:EV a=.agg (nts a).toArray:=rfl
 obtain ⟨W0,hW0⟩:=eW (w.alloc (.cells (nts a).toArray 147))
 rw [←hW0,hq] at hbx
 have hE0:Ext w W0:=by rw [hW0];exact zR _ _
 have HE0:=zF hE0
 have Hq:=zF hq
 have Hz:=zF (show W0.heap.size=w.heap.size+1 by rw [hW0];simp)
 have H6:=zF h6
 have HW0:=zF hW0
 clear hF ha h1M he1 hy e1 hE0 hW0 h6
 rw [hev]
 clear hev
 go_enter Tryz.func181,Tryz.ntmps181
 go_upto_region 1 with fail
 rw [←HW0.out]
 refine zX 5 [0,0,0,7,0,31] [4] (fun j f X=>match j with
  | 0=>f 0=.pointer (some ⟨g,0,none⟩)
  | 1=>f 1=EV a
  | 2=>f 2=.agg #[.int .u64 1,.int .u64 0,.int .u64 0,.int .u64 0,.int .u64 0,.int .u64 0]
  | 3=>∃ o,f 3=EV o∧o.length=6∧(∀ x∈o,x<18446744073709551616)∧val 18446744073709551616 o=y
  | 4=>∃ b,f 4=.pointer (some ⟨b,0,none⟩)∧W0.heap.size≤b∧X.heap[b]?=some (.cells #[.int .u64 0,.int .u64 0,.int .u64 0,.int .u64 0,.int .u64 0,.int .u64 0] 147 (0,0))
  | _=>True) (by kernel_rfl) [(6,0),(7,1),(8,2),(9,3),(5,4)] (by kernel_rfl) ?_
 refine zT 1 4 ?_
 refine zt 2 3 [(6,0),(8,2),(5,4)] (fun f X hX hR K hK=>?_) ?_
 · simp only [yZ]
   refine ⟨zc (by kernel_rfl) (kJ (.tmp 3) rfl rfl (wQ.range (hX.at_ hbx)) H6.out ?_)⟩
   exact hK.out _ (EV a) _ (by simp only [yZ]) (zd _) trivial (fun _ _=>rfl)
 refine zT 3 2 ?_
 refine qC 4 1 (fun f=>#[f 0,f 1,f 2]) (F':=150) (fun f X hX hR=>?_) ?_
 · have e0:f 0=_:=hR.out 0 rfl
   have e1:f 1=_:=hR.out 1 rfl
   have e2:f 2=_:=hR.out 2 rfl
   simp only [e0,e1,e2]
   refine (hmul.out X (HE0.out.trans hX)).mono ?_
   rintro e w2 ⟨o,rfl,h6,hb,hv,hB⟩
   exact ⟨(EV o),rfl,hB,fun Y hY=>⟨o,rfl,h6,hb,hv⟩⟩
 refine ju 5 0 ?_
 refine yF ⟨fun f X hX hR hal hap=>?_⟩
 obtain ⟨o3,(e3:f 3=_),l3,b3,v3⟩:=hR 3 (by decide)
 obtain ⟨b4,(e4:f 4=_),l4,h4⟩:=hR 4 (by decide)
 simp only [yZ,e3,e4]
 clear hR hal hap e3 e4
 refine zZ (fun K hK=>⟨zc (by kernel_rfl) (qW (.tmp 5) (.tmp 9) rfl rfl rfl rfl h4 kI l3 (fun Y1 hl1=>hK.out _ _ ?_))⟩)
 refine zK ?_
 have hE1:Ext w Y1:=hl1.ext (HE0.out.trans hX) (by have:=Hz.out;omega)
 have hno:=yM _ (some ⟨b4,0,none⟩) 6 o3 Y1 (hl1.blk.rn l3 b3)
 rw [v3,l3] at hno
 have Hno:=zF hno
 have HE1:=zF hE1
 clear hno hl1 b3 v3 h4 l4 hX l3 hE1
 go_wp2_with (go_at_call 122;refine Hno.out.mono ?_;rintro e w2 ⟨A1,c1,rfl,hO,hB⟩)
 go_ret
 exact ⟨A1,c1,rfl,hO.mono (by have:=HE1.out.bsize;have:=Hq.out;omega),HE1.out.trans hB⟩
def JV (x y z:List Nat):Value:=.agg (nts (x++y++z)).toArray
def jk (X:World) (b:Nat) (x y z:List Nat):Prop:=X.heap[b]?=some (.cells (nts (x++y++z)).toArray 176 (0,0))
theorem uQ:(Tryz.prog.info? 176).map (·.size)=some 18:=by kernel_rfl
theorem yg (a b:List Nat):nts (a++b)=nts a++nts b:=by simp [nts]
section
variable {X:World} {b:Nat} {x y z:List Nat}
theorem jk.range (h:jk X b x y z) (pre l post:List Nat) (e:x++y++z=pre++l++post):X.rangeAt b pre.length (nts l):=fun j v hv=>by
 rw [zH h,e,zI,yg,yg,kH,List.getElem?_append_right (by rw [qX];omega),qX,Nat.add_sub_cancel_left,List.getElem?_append_left,hv]
 exact (List.getElem?_eq_some_iff.1 hv).1
theorem jk.rx (h:jk X b x y z):X.rangeAt b 0 (nts x):=by have:=h.range [] x (y++z) (by simp);simpa using this
theorem jk.ry (h:jk X b x y z) (hx:x.length=6):X.rangeAt b 6 (nts y):=by have:=h.range x y z rfl;rwa [hx] at this
theorem jk.rz (h:jk X b x y z) (hx:x.length=6) (hy:y.length=6):X.rangeAt b 12 (nts z):=by have:=h.range (x++y) z [] (by simp);rwa [zk,hx,hy] at this
end
theorem rj {x y z:List Nat} (hx:x.length=6) (hy:y.length=6) (hz:z.length=6):Tryz.prog.built 176 [(0,EV x),(1,EV y),(2,EV z)]=some (nts (x++y++z)).toArray:=by
 obtain ⟨x0,x1,x2,x3,x4,x5,rfl⟩:=six hx
 obtain ⟨y0,y1,y2,y3,y4,y5,rfl⟩:=six hy
 obtain ⟨z0,z1,z2,z3,z4,z5,rfl⟩:=six hz
 kernel_rfl
theorem uY {op:Oper} {a:Act} {X:World} {K:Act→World→Prop} {Q:Exit→Act→World→Prop} (p q r:Operand) (ho:op.op=.build 176 #[(0,p),(1,q),(2,r)]) {x y z:List Nat} (hp:a.eval p=EV x) (hq:a.eval q=EV y) (hr:a.eval r=EV z)
 (hx:x.length=6) (hy:y.length=6) (hz:z.length=6) (hK:K (a.put op.dst (JV x y z)) X):op.wp Tryz.prog a X K Q:=by
 have hb:(#[(0,p),(1,q),(2,r)].map fun (i,x)=>(i,a.eval x)).toList=[(0,EV x),(1,EV y),(2,EV z)]:=by simp [hp,hq,hr]
 refine wp_build 176 #[(0,p),(1,q),(2,r)] ho (by rw [hb,rj hx hy hz];rfl) ?_
 rw [hb,rj hx hy hz]
 exact hK
theorem bU (l:List Nat):(nts l).toArray.all (·.oneCell')=true:=all_oneCell_toArray (kM l)
theorem gr {fn:Func} {R:Ending→World→Prop} {a:Act} {W:World} {p:Tmp} {g:Nat} {x y z:List Nat} (hr:fn.results=#[.cell p 176]) (hp:a.tmps.getD p undef=.pointer (some ⟨g,0,none⟩)) (hd:a.defers=[])
 (hg:jk W g x y z) (hx:x.length=6) (hy:y.length=6) (hz:z.length=6) (hR:R (.returned (JV x y z)) W):bodyPost Tryz.prog fn R .ret a W :=
 qF (vi hr a.tmps W g _ _ _ _ hp hg Tryz.underlying176 rfl (by rw [jL,qX,zk,zk,hx,hy,hz];exact uQ)) hd hR
theorem ke {op:Oper} {a:Act} {X:World} {K:Act→World→Prop} {Q:Exit→Act→World→Prop} (p q:Operand) (ho:op.op=.store 176 p q) (hd:op.dst=none) {b:Nat} {x y z:List Nat} {cs:Array Value}
 (hp:a.eval p=.pointer (some ⟨b,0,none⟩)) (hq:a.eval q=JV x y z) (hg:X.heap[b]?=some (.cells cs 176 (0,0))) (hc:cs.size=18) (hx:x.length=6) (hy:y.length=6) (hz:z.length=6)
 (hK:∀ Y,jk Y b x y z→kD b X Y→Y.heap.size=X.heap.size→K a Y):op.wp Tryz.prog a X K Q:=by
 have hs:(nts (x++y++z)).toArray.size=18:=by rw [jL,qX,zk,zk,hx,hy,hz]
 exact qo 176 p q ho hd hp hq hg (by rw [hs];exact uQ) (by rw [hs,hc]) (bU _) hK
def mm (M a b:Nat):Nat:=a*b % M
def am (M a b:Nat):Nat:=(a+b) % M
def sm (M a b:Nat):Nat:=(a+M - b % M) % M
theorem ja {g n inv M:Nat} {ml ol rl a b:List Nat} {x y:Nat} (w:World) (hF:FF w g n inv M ml ol rl) (ha:FE M n a x) (hb:FE M n b y) :
 Calls Tryz.prog 150 #[.pointer (some ⟨g,0,none⟩),EV a,EV b] w fun e w'=>∃ o,e=.returned (EV o)∧FE M n o (mm M x y)∧Ext w w' :=
 (yO w hF ha hb).mono fun _ _ ⟨o,h1,h2,h3⟩=>⟨o,h1,h2.mod,h3⟩
theorem xy {g n inv M:Nat} {ml ol rl a b:List Nat} {x y:Nat} (w:World) (hF:FF w g n inv M ml ol rl) (ha:FE M n a x) (hb:FE M n b y) :
 Calls Tryz.prog 149 #[.pointer (some ⟨g,0,none⟩),EV a,EV b] w fun e w'=>∃ o,e=.returned (EV o)∧FE M n o (am M x y)∧Ext w w' :=
 (ag w hF ha hb).mono fun _ _ ⟨o,h1,h2,h3⟩=>⟨o,h1,h2.mod,h3⟩
theorem xH {g n inv M:Nat} {ml ol rl a b:List Nat} {x y:Nat} (w:World) (hF:FF w g n inv M ml ol rl) (ha:FE M n a x) (hb:FE M n b y) :
 Calls Tryz.prog 151 #[.pointer (some ⟨g,0,none⟩),EV a,EV b] w fun e w'=>∃ o,e=.returned (EV o)∧FE M n o (sm M x y)∧Ext w w' :=
 (dO w hF ha hb.mod (qr (qS _ (by have:=hF.big;omega)))).mono fun _ _ ⟨o,h1,h2,h3⟩=>⟨o,h1,h2.mod,h3⟩
theorem kW (w:World) (o1 o2:Obj):((w.alloc o1).alloc o2).heap[w.heap.size]?=some o1∧((w.alloc o1).alloc o2).heap[w.heap.size+1]?=some o2∧((w.alloc o1).alloc o2).heap.size=w.heap.size+2 :=
 ⟨(zR _ _).at_ (zN w _),by have:=zN (w.alloc o1) o2;rwa [zu] at this,by simp⟩
structure FJ (M n:Nat) (lx ly lz:List Nat) (x y z:Nat):Prop where
 x:FE M n lx x
 y:FE M n ly y
 z:FE M n lz z
end Go.Proofs.YtmlbicgpehchhaaGreat
namespace Go.Proofs.YtmlbicgpehchhaaGreat
theorem wR:type_of% @jk.rz:=@jk.rz
end Go.Proofs.YtmlbicgpehchhaaGreat
namespace Go.Proofs.YtmlbicgpehchhaaGreat
open Go.RowKit
def th (v:Value):Bool:=match v with | .int _ _=>false | _=>true
theorem RN.offJ {X Y:World} {A:Option Addr} {c:Nat} {l:List Nat} {g:Nat} {cs:Array Value} {T:TypeId} {fr:Nat×Nat} (h:RU X A c l) (hj:kD g X Y) (hg:X.heap[g]?=some (.cells cs T fr)) (hc:cs.all th=true):RU Y A c l:=by
 obtain ⟨⟨h1,h2,h3,h4⟩,h5⟩:=h
 refine ⟨⟨h1,h2,h3,fun hl=>?_⟩,h5⟩
 obtain ⟨ad,e,hb,hr⟩:=h4 hl
 refine ⟨ad,e,zP hb hj.size,fun j v hv=>?_⟩
 have hcell:=hr j v hv
 by_cases hne:(ad.add j).block=g
 · exfalso
   have hn:th v=false:=by
    rw [nts,List.getElem?_map] at hv
    obtain ⟨n,_,rfl⟩:=Option.map_eq_some_iff.1 hv
    rfl
   unfold World.cell? at hcell
   rw [hne,hg] at hcell
   simp only at hcell
   split at hcell
   · cases hcell
   · rw [Array.all_eq_true] at hc
     obtain ⟨hlt,he⟩:=Array.getElem?_eq_some_iff.1 hcell
     have:=hc _ hlt
     rw [he,hn] at this
     cases this
 · exact (zS (hj.block _ (World.block_lt_of_cell? X _ hcell) hne)).trans hcell
theorem RN.nil0 (w:World):RU w none 0 (digs 4294967296 0):=by rw [qY];exact RN.nil_ _ _
def RPU (w:World) (v:Value):Option (Nat×Nat)→Prop
 | none=>v=vu
 | some p=>∃ A c A' c',v=.agg #[.bool false,.slice A (digs 4294967296 p.1).length c,.slice A' (digs 4294967296 p.2).length c']∧RU w A c (digs 4294967296 p.1)∧RU w A' c' (digs 4294967296 p.2)
theorem RPU.ext {w X:World} {v:Value} {o:Option (Nat×Nat)} (h:RPU w v o) (hE:Ext w X):RPU X v o:=by
  cases o with
  | none=>exact h
  | some p =>
    obtain ⟨A,c,A',c',rfl,h1,h2⟩:=h
    exact ⟨A,c,A',c',rfl,zb h1 hE,zb h2 hE⟩
theorem yq {fn:Func} {R:Ending→World→Prop} {a:Act} {W:World} {p:Tmp} {g:Nat} {ty:TypeId} {fr:Nat×Nat} {x0 x1 x2:Value} (hr:fn.results=#[.cell p 32]) (hp:a.tmps.getD p undef=.pointer (some ⟨g,0,none⟩)) (hd:a.defers=[])
 (hg:W.heap[g]?=some (.cells #[x0,x1,x2] ty fr)) (hR:R (.returned (.agg #[x0,x1,x2])) W):bodyPost Tryz.prog fn R .ret a W :=
 qF (vi hr a.tmps W g _ _ _ _ hp hg Tryz.underlying32 rfl uP) hd hR
def fE (M x y z:Nat):Nat×Nat×Nat:=let u1:=mm M z z;let u2:=mm M y y;let u3:=mm M x u2;let u4:=sm M x u1;let u5:=am M x u1;let u6:=mm M u4 u5;let u7:=mm M 3 u6;let u8:=am M u3 u3;let u9:=am M u8 u8;let u10:=mm M u7 u7;let u11:=am M u9 u9;let u12:=sm M u10 u11;let u13:=am M y z;let u14:=mm M u13 u13;let u15:=sm M u14 u2;let u16:=sm M u15 u1;let u17:=mm M u2 u2;let u18:=am M u17 u17;let u19:=am M u18 u18;let u20:=sm M u9 u12;let u21:=mm M u7 u20;let u22:=am M u19 u19;let u23:=sm M u21 u22;(u12,u23,u16)
theorem dP {P0:Nat→Prop} {k g size n inv M bb:Nat} {pl nl bl xl yl ml ol rl tl fl lx ly lz:List Nat} {Ap An Ab Ax Ay:Option Addr} {cp cn cb cx cy x y z:Nat} (w:World)
 (hk:Num w P0 k g size n inv M bb pl nl bl xl yl ml ol rl tl fl Ap An Ab Ax Ay cp cn cb cx cy) (hP0:∀ b,P0 b→b<w.heap.size) (hj:FJ M n lx ly lz x y z) :
 Calls Tryz.prog 142 #[.pointer (some ⟨k,0,none⟩),JV lx ly lz] w fun e w'=>∃ ox oy oz,e=.returned (JV ox oy oz)∧FJ M n ox oy oz (fE M x y z).1 (fE M x y z).2.1 (fE M x y z).2.2∧Ext w w':=by
 obtain ⟨cs,hcs⟩:=eV ((nts (lx++ly++lz)).toArray)
 obtain ⟨W0,hW0⟩:=eW ((w.alloc (.cells cs 176)).alloc (.cells #[.int .u64 0,.int .u64 0,.int .u64 0,.int .u64 0,.int .u64 0,.int .u64 0,.int .u64 0,.int .u64 0,.int .u64 0,.int .u64 0,.int .u64 0,.int .u64 0,.int .u64 0,.int .u64 0,.int .u64 0,.int .u64 0,.int .u64 0,.int .u64 0] 176))
 obtain ⟨q,hq⟩:=eV w.heap.size
 have hE0:Ext w W0:=by rw [hW0];exact (zR _ _).trans (zR _ _)
 obtain ⟨hpj,hrb,hz0⟩:=kW w (.cells cs 176) (.cells #[.int .u64 0,.int .u64 0,.int .u64 0,.int .u64 0,.int .u64 0,.int .u64 0,.int .u64 0,.int .u64 0,.int .u64 0,.int .u64 0,.int .u64 0,.int .u64 0,.int .u64 0,.int .u64 0,.int .u64 0,.int .u64 0,.int .u64 0,.int .u64 0] 176)
 rw [←hW0,hq] at hpj hrb hz0
 have hpj:jk W0 q lx ly lz:=by rw [jk,hcs];exact hpj
 have hn:=zF (hk.ext hP0 hE0)
 have hP0':∀ b,P0 b→b<W0.heap.size:=fun b hb=>zP (hP0 b hb) hE0.bsize
 have k6:=hn.out.c_f
 have hJ:=zF hj
 have HE0:=zF hE0
 have Hz0:=zF hz0
 obtain ⟨u1,E_u1⟩:=eG (mm M z z)
 obtain ⟨u2,E_u2⟩:=eG (mm M y y)
 obtain ⟨u3,E_u3⟩:=eG (mm M x u2)
 obtain ⟨u4,E_u4⟩:=eG (sm M x u1)
 obtain ⟨u5,E_u5⟩:=eG (am M x u1)
 obtain ⟨u6,E_u6⟩:=eG (mm M u4 u5)
 obtain ⟨u7,E_u7⟩:=eG (mm M 3 u6)
 obtain ⟨u8,E_u8⟩:=eG (am M u3 u3)
 obtain ⟨u9,E_u9⟩:=eG (am M u8 u8)
 obtain ⟨u10,E_u10⟩:=eG (mm M u7 u7)
 obtain ⟨u11,E_u11⟩:=eG (am M u9 u9)
 obtain ⟨u12,E_u12⟩:=eG (sm M u10 u11)
 obtain ⟨u13,E_u13⟩:=eG (am M y z)
 obtain ⟨u14,E_u14⟩:=eG (mm M u13 u13)
 obtain ⟨u15,E_u15⟩:=eG (sm M u14 u2)
 obtain ⟨u16,E_u16⟩:=eG (sm M u15 u1)
 obtain ⟨u17,E_u17⟩:=eG (mm M u2 u2)
 obtain ⟨u18,E_u18⟩:=eG (am M u17 u17)
 obtain ⟨u19,E_u19⟩:=eG (am M u18 u18)
 obtain ⟨u20,E_u20⟩:=eG (sm M u9 u12)
 obtain ⟨u21,E_u21⟩:=eG (mm M u7 u20)
 obtain ⟨u22,E_u22⟩:=eG (am M u19 u19)
 obtain ⟨u23,E_u23⟩:=eG (sm M u21 u22)
 have hres:=zF (show fE M x y z=(u12,u23,u16) by simp only [fE,E_u1.out,E_u2.out,E_u3.out,E_u4.out,E_u5.out,E_u6.out,E_u7.out,E_u8.out,E_u9.out,E_u10.out,E_u11.out,E_u12.out,E_u13.out,E_u14.out,E_u15.out,E_u16.out,E_u17.out,E_u18.out,E_u19.out,E_u20.out,E_u21.out,E_u22.out,E_u23.out])
 rw [hres.out]
 rw [show JV lx ly lz=.agg cs by rw [JV,hcs]]
 have Hcs:=zF hcs
 clear hE0 hz0 hk hP0 hj hcs
 go_enter Tryz.func142,Tryz.ntmps142
 go_upto_region 1 with fail
 rw [←hW0]
 have Hq:=zF hq
 have HW0:=zF hW0
 have hE:=zd W0
 clear hq hW0
 go_upto_region 2 with fail
 clear k6
 refine zj (by kernel_rfl) 14 [0,0,2,0,8,31,0,0,128,0,512,2047,0,0,16383,32767] [12,13] (fun j f X=>match j with
  | 0=>f 0=.pointer (some ⟨g,0,none⟩)
  | 1=>f 1=.pointer (some ⟨q,12,none⟩)
  | 2=>∃ o,f 2=EV o∧FE M n o z
  | 3=>f 3=.pointer (some ⟨q,12,none⟩)
  | 4=>∃ o,f 4=EV o∧FE M n o z
  | 5=>∃ o,f 5=EV o∧FE M n o u1
  | 6=>f 6=.pointer (some ⟨g,0,none⟩)
  | 7=>f 7=.pointer (some ⟨q,6,none⟩)
  | 8=>∃ o,f 8=EV o∧FE M n o y
  | 9=>f 9=.pointer (some ⟨q,6,none⟩)
  | 10=>∃ o,f 10=EV o∧FE M n o y
  | 11=>∃ o,f 11=EV o∧FE M n o u2
  | 12=>∃ b,f 12=.pointer (some ⟨b,0,none⟩)∧W0.heap.size≤b∧X.heap[b]?=some (.cells #[.int .u64 0,.int .u64 0,.int .u64 0,.int .u64 0,.int .u64 0,.int .u64 0] 147 (0,0))
  | 13=>∃ b,f 13=.pointer (some ⟨b,0,none⟩)∧W0.heap.size≤b∧X.heap[b]?=some (.cells #[.int .u64 0,.int .u64 0,.int .u64 0,.int .u64 0,.int .u64 0,.int .u64 0] 147 (0,0))
  | _=>True) (by kernel_rfl) [(20,0),(21,1),(22,2),(23,3),(24,4),(25,5),(26,6),(27,7),(28,8),(29,9),(30,10),(31,11),(6,12),(7,13)] (by kernel_rfl) ?_
 refine zT 1 13 ?_
 refine zT 2 12 ?_
 refine lE 3 11 1 (fun _ hX=>wR ((hE.trans hX).at_ hpj) hJ.out.x.elt.six hJ.out.y.elt.six) hJ.out.z ?_
 refine zT 4 10 ?_
 refine lE 5 9 3 (fun _ hX=>wR ((hE.trans hX).at_ hpj) hJ.out.x.elt.six hJ.out.y.elt.six) hJ.out.z ?_
 refine fc 6 8 0 2 4 (fun X hX _ _ h h'=>ja X (hn.out.ext hP0' (hE.trans hX)).fr.ff h h') E_u1.out ?_
 refine zT 7 7 ?_
 refine zT 8 6 ?_
 refine lE 9 5 7 (fun _ hX=>jk.ry ((hE.trans hX).at_ hpj) hJ.out.x.elt.six) hJ.out.y ?_
 refine zT 10 4 ?_
 refine lE 11 3 9 (fun _ hX=>jk.ry ((hE.trans hX).at_ hpj) hJ.out.x.elt.six) hJ.out.y ?_
 refine fc 12 2 6 8 10 (fun X hX _ _ h h'=>ja X (hn.out.ext hP0' (hE.trans hX)).fr.ff h h') E_u2.out ?_
 refine ju 13 1 ?_
 refine ju 14 0 ?_
 refine yF ⟨fun f X hX hR hal hap=>?_⟩
 obtain ⟨o2,(e2:f 2=_),h2⟩:=hR 2 (by decide)
 obtain ⟨o4,(e4:f 4=_),h4⟩:=hR 4 (by decide)
 obtain ⟨o5,(e5:f 5=_),h5⟩:=hR 5 (by decide)
 obtain ⟨o8,(e8:f 8=_),h8⟩:=hR 8 (by decide)
 obtain ⟨o10,(e10:f 10=_),h10⟩:=hR 10 (by decide)
 obtain ⟨o11,(e11:f 11=_),h11⟩:=hR 11 (by decide)
 obtain ⟨br2_12,(e12:f 12=_),lr2_12,hr2_12⟩:=hR 12 (by decide)
 obtain ⟨br2_13,(e13:f 13=_),lr2_13,hr2_13⟩:=hR 13 (by decide)
 have nr2_13_12:br2_13≠br2_12:=fun e=>hap 13 12 (by decide) (by decide) rfl rfl (by decide) (by rw [e13,e12,e])
 simp only [yZ,e2,e4,e5,e8,e10,e11,e12,e13]
 clear hR hal hap e2 e4 e5 e8 e10 e11 e12 e13
 refine zZ (fun K hK=>⟨zc (by kernel_rfl) (qW (.tmp 6) (.tmp 25) rfl rfl rfl rfl (hr2_12) kI h5.elt.six (fun Y1_14 hl1_14=>hK.out _ _ ?_))⟩)
 refine zZ (fun K hK=>⟨zc (by kernel_rfl) (qW (.tmp 7) (.tmp 31) rfl rfl rfl rfl (hl1_14.other nr2_13_12 (hr2_13)) kI h11.elt.six (fun Y1_15 hl1_15=>hK.out _ _ ?_))⟩)
 refine zK ?_
 have vbr2_12:VE Y1_15 M n br2_12 u1:=(hl1_15.ve (yX nr2_13_12) (hl1_14.mk' h5))
 have lb_vbr2_12:=zU hE.bsize lr2_12
 have vbr2_13:VE Y1_15 M n br2_13 u2:=(hl1_15.mk' h11)
 have lb_vbr2_13:=zU hE.bsize lr2_13
 have d_br2_12_br2_13:br2_12≠br2_13:=(yX nr2_13_12)
 have hE':Ext W0 Y1_15:=(hl1_15.ext (hl1_14.ext (hE.trans hX) (zU hE.bsize lr2_12)) (zU hE.bsize lr2_13))
 clear hE hX hl1_14 hl1_15 h2 h4 h5 h8 h10 h11 
 have hE:=hE'
 clear hE'
 go_upto_region 3 with fail
 refine zX 6 [0,0,2,0,15,0,63] [5] (fun j f X=>match j with
  | 0=>f 0=.pointer (some ⟨g,0,none⟩)
  | 1=>f 1=.pointer (some ⟨q,0,none⟩)
  | 2=>∃ o,f 2=EV o∧FE M n o x
  | 3=>∃ o,f 3=EV o∧FE M n o u2
  | 4=>∃ o,f 4=EV o∧FE M n o u3
  | 5=>∃ b,f 5=.pointer (some ⟨b,0,none⟩)∧Y1_15.heap.size≤b∧X.heap[b]?=some (.cells #[.int .u64 0,.int .u64 0,.int .u64 0,.int .u64 0,.int .u64 0,.int .u64 0] 147 (0,0))
  | _=>True) (by kernel_rfl) [(32,0),(33,1),(34,2),(35,3),(36,4),(8,5)] (by kernel_rfl) ?_
 refine zT 1 5 ?_
 refine zT 2 4 ?_
 refine lE 3 3 1 (fun _ hX=>jk.rx ((hE.trans hX).at_ hpj)) hJ.out.x ?_
 refine lX 4 2 (fun X hX=>let ⟨o,hbl,ho⟩:=vbr2_13.ext hX;⟨o,hbl.range,ho⟩) ?_
 refine fc 5 1 0 2 3 (fun X hX _ _ h h'=>ja X (hn.out.ext hP0' (hE.trans hX)).fr.ff h h') E_u3.out ?_
 refine ju 6 0 ?_
 refine yF ⟨fun f X hX hR hal hap=>?_⟩
 obtain ⟨o2,(e2:f 2=_),h2⟩:=hR 2 (by decide)
 obtain ⟨o3,(e3:f 3=_),h3⟩:=hR 3 (by decide)
 obtain ⟨o4,(e4:f 4=_),h4⟩:=hR 4 (by decide)
 obtain ⟨br3_5,(e5:f 5=_),lr3_5,hr3_5⟩:=hR 5 (by decide)
 simp only [yZ,e2,e3,e4,e5]
 clear hR hal hap e2 e3 e4 e5
 refine zZ (fun K hK=>⟨zc (by kernel_rfl) (qW (.tmp 8) (.tmp 36) rfl rfl rfl rfl (hr3_5) kI h4.elt.six (fun Y2_6 hl2_6=>hK.out _ _ ?_))⟩)
 refine zK ?_
 have d_br2_12_br3_5:br2_12≠br3_5:=by have:=(let ⟨_,h,_⟩:=vbr2_12;h.lt:br2_12<Y1_15.heap.size);omega
 replace vbr2_12:=(hl2_6.ve d_br2_12_br3_5 (vbr2_12.ext hX))
 have d_br2_13_br3_5:br2_13≠br3_5:=by have:=(let ⟨_,h,_⟩:=vbr2_13;h.lt:br2_13<Y1_15.heap.size);omega
 replace vbr2_13:=(hl2_6.ve d_br2_13_br3_5 (vbr2_13.ext hX))
 have vbr3_5:VE Y2_6 M n br3_5 u3:=(hl2_6.mk' h4)
 have lb_vbr3_5:=zU hE.bsize lr3_5
 have hE':Ext W0 Y2_6:=(hl2_6.ext (hE.trans hX) (zU hE.bsize lr3_5))
 clear hE hX hl2_6 h2 h3 h4
 have hE:=hE'
 clear hE'
 go_upto_region 4 with fail
 refine zj (by kernel_rfl) 19 [0,0,2,6,14,0,0,0,128,0,960,0,0,4096,0,32704,65504,131071,0,524287] [18] (fun j f X=>match j with
  | 0=>f 0=.pointer (some ⟨g,0,none⟩)
  | 1=>f 1=.pointer (some ⟨k,0,none⟩)
  | 2=>f 2=.pointer (some ⟨k,0,none⟩)
  | 3=>f 3=.pointer (some ⟨k,7,none⟩)
  | 4=>∃ o,f 4=EV o∧FE M n o 3
  | 5=>f 5=.pointer (some ⟨g,0,none⟩)
  | 6=>f 6=.pointer (some ⟨g,0,none⟩)
  | 7=>f 7=.pointer (some ⟨q,0,none⟩)
  | 8=>∃ o,f 8=EV o∧FE M n o x
  | 9=>∃ o,f 9=EV o∧FE M n o u1
  | 10=>∃ o,f 10=EV o∧FE M n o u4
  | 11=>f 11=.pointer (some ⟨g,0,none⟩)
  | 12=>f 12=.pointer (some ⟨q,0,none⟩)
  | 13=>∃ o,f 13=EV o∧FE M n o x
  | 14=>∃ o,f 14=EV o∧FE M n o u1
  | 15=>∃ o,f 15=EV o∧FE M n o u5
  | 16=>∃ o,f 16=EV o∧FE M n o u6
  | 17=>∃ o,f 17=EV o∧FE M n o u7
  | 18=>∃ b,f 18=.pointer (some ⟨b,0,none⟩)∧Y2_6.heap.size≤b∧X.heap[b]?=some (.cells #[.int .u64 0,.int .u64 0,.int .u64 0,.int .u64 0,.int .u64 0,.int .u64 0] 147 (0,0))
  | _=>True) (by kernel_rfl) [(37,0),(38,1),(39,2),(40,3),(41,4),(42,5),(43,6),(44,7),(45,8),(46,9),(47,10),(48,11),(49,12),(50,13),(51,14),(52,15),(53,16),(54,17),(9,18)] (by kernel_rfl) ?_
 refine zT 1 18 ?_
 refine zT 2 17 ?_
 refine qL 3 16 1 ?_
 refine qL 4 15 2 ?_
 refine zt 5 14 [(37,0),(38,1),(39,2),(40,3),(42,5),(43,6),(44,7),(45,8),(46,9),(47,10),(48,11),(49,12),(50,13),(51,14),(52,15),(53,16),(9,18)] (fun f X hX hR K hK=>?_) ?_
 · have e3:f 3=_:=hR.out 3 rfl
   simp only [yZ,e3]
   refine ⟨zc (by kernel_rfl) (kJ (.tmp 40) rfl rfl ((hn.out.ext hP0' (hE.trans hX)).r_three) hn.out.three.elt.six ?_)⟩
   exact hK.out _ (EV tl) _ (by simp only [yZ,e3]) (zd _) trivial (fun Y hY=>⟨tl,rfl,hn.out.three⟩)
 refine zT 6 13 ?_
 refine zT 7 12 ?_
 refine zT 8 11 ?_
 refine lE 9 10 7 (fun _ hX=>jk.rx ((hE.trans hX).at_ hpj)) hJ.out.x ?_
 refine lX 10 9 (fun X hX=>let ⟨o,hbl,ho⟩:=vbr2_12.ext hX;⟨o,hbl.range,ho⟩) ?_
 refine fc 11 8 6 8 9 (fun X hX _ _ h h'=>xH X (hn.out.ext hP0' (hE.trans hX)).fr.ff h h') E_u4.out ?_
 refine zT 12 7 ?_
 refine zT 13 6 ?_
 refine lE 14 5 12 (fun _ hX=>jk.rx ((hE.trans hX).at_ hpj)) hJ.out.x ?_
 refine lX 15 4 (fun X hX=>let ⟨o,hbl,ho⟩:=vbr2_12.ext hX;⟨o,hbl.range,ho⟩) ?_
 refine fc 16 3 11 13 14 (fun X hX _ _ h h'=>xy X (hn.out.ext hP0' (hE.trans hX)).fr.ff h h') E_u5.out ?_
 refine fc 17 2 5 10 15 (fun X hX _ _ h h'=>ja X (hn.out.ext hP0' (hE.trans hX)).fr.ff h h') E_u6.out ?_
 refine fc 18 1 0 4 16 (fun X hX _ _ h h'=>ja X (hn.out.ext hP0' (hE.trans hX)).fr.ff h h') E_u7.out ?_
 refine ju 19 0 ?_
 refine yF ⟨fun f X hX hR hal hap=>?_⟩
 obtain ⟨o4,(e4:f 4=_),h4⟩:=hR 4 (by decide)
 obtain ⟨o8,(e8:f 8=_),h8⟩:=hR 8 (by decide)
 obtain ⟨o9,(e9:f 9=_),h9⟩:=hR 9 (by decide)
 obtain ⟨o10,(e10:f 10=_),h10⟩:=hR 10 (by decide)
 obtain ⟨o13,(e13:f 13=_),h13⟩:=hR 13 (by decide)
 obtain ⟨o14,(e14:f 14=_),h14⟩:=hR 14 (by decide)
 obtain ⟨o15,(e15:f 15=_),h15⟩:=hR 15 (by decide)
 obtain ⟨o16,(e16:f 16=_),h16⟩:=hR 16 (by decide)
 obtain ⟨o17,(e17:f 17=_),h17⟩:=hR 17 (by decide)
 obtain ⟨br4_18,(e18:f 18=_),lr4_18,hr4_18⟩:=hR 18 (by decide)
 simp only [yZ,e4,e8,e9,e10,e13,e14,e15,e16,e17,e18]
 clear hR hal hap e4 e8 e9 e10 e13 e14 e15 e16 e17 e18
 refine zZ (fun K hK=>⟨zc (by kernel_rfl) (qW (.tmp 9) (.tmp 54) rfl rfl rfl rfl (hr4_18) kI h17.elt.six (fun Y3_19 hl3_19=>hK.out _ _ ?_))⟩)
 refine zK ?_
 have d_br2_12_br4_18:br2_12≠br4_18:=by have:=(let ⟨_,h,_⟩:=vbr2_12;h.lt:br2_12<Y2_6.heap.size);omega
 replace vbr2_12:=(hl3_19.ve d_br2_12_br4_18 (vbr2_12.ext hX))
 have d_br2_13_br4_18:br2_13≠br4_18:=by have:=(let ⟨_,h,_⟩:=vbr2_13;h.lt:br2_13<Y2_6.heap.size);omega
 replace vbr2_13:=(hl3_19.ve d_br2_13_br4_18 (vbr2_13.ext hX))
 have d_br3_5_br4_18:br3_5≠br4_18:=by have:=(let ⟨_,h,_⟩:=vbr3_5;h.lt:br3_5<Y2_6.heap.size);omega
 replace vbr3_5:=(hl3_19.ve d_br3_5_br4_18 (vbr3_5.ext hX))
 have vbr4_18:VE Y3_19 M n br4_18 u7:=(hl3_19.mk' h17)
 have lb_vbr4_18:=zU hE.bsize lr4_18
 have hE':Ext W0 Y3_19:=(hl3_19.ext (hE.trans hX) (zU hE.bsize lr4_18))
 clear hE hX hl3_19 h4 h8 h9 h10 h13 h14 h15 h16 h17
 have hE:=hE'
 clear hE'
 go_upto_region 5 with fail
 refine zj (by kernel_rfl) 11 [0,0,0,0,14,0,0,0,254,511,0,2047] [10] (fun j f X=>match j with
  | 0=>f 0=.pointer (some ⟨g,0,none⟩)
  | 1=>f 1=.pointer (some ⟨g,0,none⟩)
  | 2=>∃ o,f 2=EV o∧FE M n o u3
  | 3=>∃ o,f 3=EV o∧FE M n o u3
  | 4=>∃ o,f 4=EV o∧FE M n o u8
  | 5=>f 5=.pointer (some ⟨g,0,none⟩)
  | 6=>∃ o,f 6=EV o∧FE M n o u3
  | 7=>∃ o,f 7=EV o∧FE M n o u3
  | 8=>∃ o,f 8=EV o∧FE M n o u8
  | 9=>∃ o,f 9=EV o∧FE M n o u9
  | 10=>∃ b,f 10=.pointer (some ⟨b,0,none⟩)∧Y3_19.heap.size≤b∧X.heap[b]?=some (.cells #[.int .u64 0,.int .u64 0,.int .u64 0,.int .u64 0,.int .u64 0,.int .u64 0] 147 (0,0))
  | _=>True) (by kernel_rfl) [(55,0),(56,1),(57,2),(58,3),(59,4),(60,5),(61,6),(62,7),(63,8),(64,9),(10,10)] (by kernel_rfl) ?_
 refine zT 1 10 ?_
 refine zT 2 9 ?_
 refine lX 3 8 (fun X hX=>let ⟨o,hbl,ho⟩:=vbr3_5.ext hX;⟨o,hbl.range,ho⟩) ?_
 refine lX 4 7 (fun X hX=>let ⟨o,hbl,ho⟩:=vbr3_5.ext hX;⟨o,hbl.range,ho⟩) ?_
 refine fc 5 6 1 2 3 (fun X hX _ _ h h'=>xy X (hn.out.ext hP0' (hE.trans hX)).fr.ff h h') E_u8.out ?_
 refine zT 6 5 ?_
 refine lX 7 4 (fun X hX=>let ⟨o,hbl,ho⟩:=vbr3_5.ext hX;⟨o,hbl.range,ho⟩) ?_
 refine lX 8 3 (fun X hX=>let ⟨o,hbl,ho⟩:=vbr3_5.ext hX;⟨o,hbl.range,ho⟩) ?_
 refine fc 9 2 5 6 7 (fun X hX _ _ h h'=>xy X (hn.out.ext hP0' (hE.trans hX)).fr.ff h h') E_u8.out ?_
 refine fc 10 1 0 4 8 (fun X hX _ _ h h'=>xy X (hn.out.ext hP0' (hE.trans hX)).fr.ff h h') E_u9.out ?_
 refine ju 11 0 ?_
 refine yF ⟨fun f X hX hR hal hap=>?_⟩
 obtain ⟨o2,(e2:f 2=_),h2⟩:=hR 2 (by decide)
 obtain ⟨o3,(e3:f 3=_),h3⟩:=hR 3 (by decide)
 obtain ⟨o4,(e4:f 4=_),h4⟩:=hR 4 (by decide)
 obtain ⟨o6,(e6:f 6=_),h6⟩:=hR 6 (by decide)
 obtain ⟨o7,(e7:f 7=_),h7⟩:=hR 7 (by decide)
 obtain ⟨o8,(e8:f 8=_),h8⟩:=hR 8 (by decide)
 obtain ⟨o9,(e9:f 9=_),h9⟩:=hR 9 (by decide)
 obtain ⟨br5_10,(e10:f 10=_),lr5_10,hr5_10⟩:=hR 10 (by decide)
 simp only [yZ,e2,e3,e4,e6,e7,e8,e9,e10]
 clear hR hal hap e2 e3 e4 e6 e7 e8 e9 e10
 refine zZ (fun K hK=>⟨zc (by kernel_rfl) (qW (.tmp 10) (.tmp 64) rfl rfl rfl rfl (hr5_10) kI h9.elt.six (fun Y4_11 hl4_11=>hK.out _ _ ?_))⟩)
 refine zK ?_
 have d_br2_12_br5_10:br2_12≠br5_10:=by have:=(let ⟨_,h,_⟩:=vbr2_12;h.lt:br2_12<Y3_19.heap.size);omega
 replace vbr2_12:=(hl4_11.ve d_br2_12_br5_10 (vbr2_12.ext hX))
 have d_br2_13_br5_10:br2_13≠br5_10:=by have:=(let ⟨_,h,_⟩:=vbr2_13;h.lt:br2_13<Y3_19.heap.size);omega
 replace vbr2_13:=(hl4_11.ve d_br2_13_br5_10 (vbr2_13.ext hX))
 have d_br3_5_br5_10:br3_5≠br5_10:=by have:=(let ⟨_,h,_⟩:=vbr3_5;h.lt:br3_5<Y3_19.heap.size);omega
 replace vbr3_5:=(hl4_11.ve d_br3_5_br5_10 (vbr3_5.ext hX))
 have d_br4_18_br5_10:br4_18≠br5_10:=by have:=(let ⟨_,h,_⟩:=vbr4_18;h.lt:br4_18<Y3_19.heap.size);omega
 replace vbr4_18:=(hl4_11.ve d_br4_18_br5_10 (vbr4_18.ext hX))
 have vbr5_10:VE Y4_11 M n br5_10 u9:=(hl4_11.mk' h9)
 have lb_vbr5_10:=zU hE.bsize lr5_10
 have hE':Ext W0 Y4_11:=(hl4_11.ext (hE.trans hX) (zU hE.bsize lr5_10))
 clear hE hX hl4_11 h2 h3 h4 h6 h7 h8 h9
 have hE:=hE'
 clear hE'
 go_upto_region 6 with fail
 refine zj (by kernel_rfl) 11 [0,0,0,0,14,0,0,0,254,511,0,2047] [10] (fun j f X=>match j with
  | 0=>f 0=.pointer (some ⟨g,0,none⟩)
  | 1=>f 1=.pointer (some ⟨g,0,none⟩)
  | 2=>∃ o,f 2=EV o∧FE M n o u7
  | 3=>∃ o,f 3=EV o∧FE M n o u7
  | 4=>∃ o,f 4=EV o∧FE M n o u10
  | 5=>f 5=.pointer (some ⟨g,0,none⟩)
  | 6=>∃ o,f 6=EV o∧FE M n o u9
  | 7=>∃ o,f 7=EV o∧FE M n o u9
  | 8=>∃ o,f 8=EV o∧FE M n o u11
  | 9=>∃ o,f 9=EV o∧FE M n o u12
  | 10=>∃ b,f 10=.pointer (some ⟨b,0,none⟩)∧Y4_11.heap.size≤b∧X.heap[b]?=some (.cells #[.int .u64 0,.int .u64 0,.int .u64 0,.int .u64 0,.int .u64 0,.int .u64 0] 147 (0,0))
  | _=>True) (by kernel_rfl) [(65,0),(66,1),(67,2),(68,3),(69,4),(70,5),(71,6),(72,7),(73,8),(74,9),(11,10)] (by kernel_rfl) ?_
 refine zT 1 10 ?_
 refine zT 2 9 ?_
 refine lX 3 8 (fun X hX=>let ⟨o,hbl,ho⟩:=vbr4_18.ext hX;⟨o,hbl.range,ho⟩) ?_
 refine lX 4 7 (fun X hX=>let ⟨o,hbl,ho⟩:=vbr4_18.ext hX;⟨o,hbl.range,ho⟩) ?_
 refine fc 5 6 1 2 3 (fun X hX _ _ h h'=>ja X (hn.out.ext hP0' (hE.trans hX)).fr.ff h h') E_u10.out ?_
 refine zT 6 5 ?_
 refine lX 7 4 (fun X hX=>let ⟨o,hbl,ho⟩:=vbr5_10.ext hX;⟨o,hbl.range,ho⟩) ?_
 refine lX 8 3 (fun X hX=>let ⟨o,hbl,ho⟩:=vbr5_10.ext hX;⟨o,hbl.range,ho⟩) ?_
 refine fc 9 2 5 6 7 (fun X hX _ _ h h'=>xy X (hn.out.ext hP0' (hE.trans hX)).fr.ff h h') E_u11.out ?_
 refine fc 10 1 0 4 8 (fun X hX _ _ h h'=>xH X (hn.out.ext hP0' (hE.trans hX)).fr.ff h h') E_u12.out ?_
 refine ju 11 0 ?_
 refine yF ⟨fun f X hX hR hal hap=>?_⟩
 obtain ⟨o2,(e2:f 2=_),h2⟩:=hR 2 (by decide)
 obtain ⟨o3,(e3:f 3=_),h3⟩:=hR 3 (by decide)
 obtain ⟨o4,(e4:f 4=_),h4⟩:=hR 4 (by decide)
 obtain ⟨o6,(e6:f 6=_),h6⟩:=hR 6 (by decide)
 obtain ⟨o7,(e7:f 7=_),h7⟩:=hR 7 (by decide)
 obtain ⟨o8,(e8:f 8=_),h8⟩:=hR 8 (by decide)
 obtain ⟨o9,(e9:f 9=_),h9⟩:=hR 9 (by decide)
 obtain ⟨br6_10,(e10:f 10=_),lr6_10,hr6_10⟩:=hR 10 (by decide)
 simp only [yZ,e2,e3,e4,e6,e7,e8,e9,e10]
 clear hR hal hap e2 e3 e4 e6 e7 e8 e9 e10
 refine zZ (fun K hK=>⟨zc (by kernel_rfl) (qW (.tmp 11) (.tmp 74) rfl rfl rfl rfl (hr6_10) kI h9.elt.six (fun Y5_11 hl5_11=>hK.out _ _ ?_))⟩)
 refine zK ?_
 have d_br2_12_br6_10:br2_12≠br6_10:=by have:=(let ⟨_,h,_⟩:=vbr2_12;h.lt:br2_12<Y4_11.heap.size);omega
 replace vbr2_12:=(hl5_11.ve d_br2_12_br6_10 (vbr2_12.ext hX))
 have d_br2_13_br6_10:br2_13≠br6_10:=by have:=(let ⟨_,h,_⟩:=vbr2_13;h.lt:br2_13<Y4_11.heap.size);omega
 replace vbr2_13:=(hl5_11.ve d_br2_13_br6_10 (vbr2_13.ext hX))
 have d_br3_5_br6_10:br3_5≠br6_10:=by have:=(let ⟨_,h,_⟩:=vbr3_5;h.lt:br3_5<Y4_11.heap.size);omega
 replace vbr3_5:=(hl5_11.ve d_br3_5_br6_10 (vbr3_5.ext hX))
 have d_br4_18_br6_10:br4_18≠br6_10:=by have:=(let ⟨_,h,_⟩:=vbr4_18;h.lt:br4_18<Y4_11.heap.size);omega
 replace vbr4_18:=(hl5_11.ve d_br4_18_br6_10 (vbr4_18.ext hX))
 have d_br5_10_br6_10:br5_10≠br6_10:=by have:=(let ⟨_,h,_⟩:=vbr5_10;h.lt:br5_10<Y4_11.heap.size);omega
 replace vbr5_10:=(hl5_11.ve d_br5_10_br6_10 (vbr5_10.ext hX))
 have vbr6_10:VE Y5_11 M n br6_10 u12:=(hl5_11.mk' h9)
 have lb_vbr6_10:=zU hE.bsize lr6_10
 have hE':Ext W0 Y5_11:=(hl5_11.ext (hE.trans hX) (zU hE.bsize lr6_10))
 clear hE hX hl5_11 h2 h3 h4 h6 h7 h8 h9
 have hE:=hE'
 clear hE'
 go_upto_region 7 with fail
 refine zX 7 [0,0,2,0,8,31,0,127] [6] (fun j f X=>match j with
  | 0=>f 0=.pointer (some ⟨g,0,none⟩)
  | 1=>f 1=.pointer (some ⟨q,6,none⟩)
  | 2=>∃ o,f 2=EV o∧FE M n o y
  | 3=>f 3=.pointer (some ⟨q,12,none⟩)
  | 4=>∃ o,f 4=EV o∧FE M n o z
  | 5=>∃ o,f 5=EV o∧FE M n o u13
  | 6=>∃ b,f 6=.pointer (some ⟨b,0,none⟩)∧Y5_11.heap.size≤b∧X.heap[b]?=some (.cells #[.int .u64 0,.int .u64 0,.int .u64 0,.int .u64 0,.int .u64 0,.int .u64 0] 147 (0,0))
  | _=>True) (by kernel_rfl) [(75,0),(76,1),(77,2),(78,3),(79,4),(80,5),(12,6)] (by kernel_rfl) ?_
 refine zT 1 6 ?_
 refine zT 2 5 ?_
 refine lE 3 4 1 (fun _ hX=>jk.ry ((hE.trans hX).at_ hpj) hJ.out.x.elt.six) hJ.out.y ?_
 refine zT 4 3 ?_
 refine lE 5 2 3 (fun _ hX=>wR ((hE.trans hX).at_ hpj) hJ.out.x.elt.six hJ.out.y.elt.six) hJ.out.z ?_
 refine fc 6 1 0 2 4 (fun X hX _ _ h h'=>xy X (hn.out.ext hP0' (hE.trans hX)).fr.ff h h') E_u13.out ?_
 refine ju 7 0 ?_
 refine yF ⟨fun f X hX hR hal hap=>?_⟩
 obtain ⟨o2,(e2:f 2=_),h2⟩:=hR 2 (by decide)
 obtain ⟨o4,(e4:f 4=_),h4⟩:=hR 4 (by decide)
 obtain ⟨o5,(e5:f 5=_),h5⟩:=hR 5 (by decide)
 obtain ⟨br7_6,(e6:f 6=_),lr7_6,hr7_6⟩:=hR 6 (by decide)
 simp only [yZ,e2,e4,e5,e6]
 clear hR hal hap e2 e4 e5 e6
 refine zZ (fun K hK=>⟨zc (by kernel_rfl) (qW (.tmp 12) (.tmp 80) rfl rfl rfl rfl (hr7_6) kI h5.elt.six (fun Y6_7 hl6_7=>hK.out _ _ ?_))⟩)
 refine zK ?_
 have d_br2_12_br7_6:br2_12≠br7_6:=by have:=(let ⟨_,h,_⟩:=vbr2_12;h.lt:br2_12<Y5_11.heap.size);omega
 replace vbr2_12:=(hl6_7.ve d_br2_12_br7_6 (vbr2_12.ext hX))
 have d_br2_13_br7_6:br2_13≠br7_6:=by have:=(let ⟨_,h,_⟩:=vbr2_13;h.lt:br2_13<Y5_11.heap.size);omega
 replace vbr2_13:=(hl6_7.ve d_br2_13_br7_6 (vbr2_13.ext hX))
 have d_br3_5_br7_6:br3_5≠br7_6:=by have:=(let ⟨_,h,_⟩:=vbr3_5;h.lt:br3_5<Y5_11.heap.size);omega
 replace vbr3_5:=(hl6_7.ve d_br3_5_br7_6 (vbr3_5.ext hX))
 have d_br4_18_br7_6:br4_18≠br7_6:=by have:=(let ⟨_,h,_⟩:=vbr4_18;h.lt:br4_18<Y5_11.heap.size);omega
 replace vbr4_18:=(hl6_7.ve d_br4_18_br7_6 (vbr4_18.ext hX))
 have d_br5_10_br7_6:br5_10≠br7_6:=by have:=(let ⟨_,h,_⟩:=vbr5_10;h.lt:br5_10<Y5_11.heap.size);omega
 replace vbr5_10:=(hl6_7.ve d_br5_10_br7_6 (vbr5_10.ext hX))
 have d_br6_10_br7_6:br6_10≠br7_6:=by have:=(let ⟨_,h,_⟩:=vbr6_10;h.lt:br6_10<Y5_11.heap.size);omega
 replace vbr6_10:=(hl6_7.ve d_br6_10_br7_6 (vbr6_10.ext hX))
 have vbr7_6:VE Y6_7 M n br7_6 u13:=(hl6_7.mk' h5)
 have lb_vbr7_6:=zU hE.bsize lr7_6
 have hE':Ext W0 Y6_7:=(hl6_7.ext (hE.trans hX) (zU hE.bsize lr7_6))
 clear hE hX hl6_7 h2 h4 h5
 have hE:=hE'
 clear hE'
 go_upto_region 8 with fail
 refine zj (by kernel_rfl) 11 [0,0,0,0,0,28,0,126,0,511,0,2047] [10] (fun j f X=>match j with
  | 0=>f 0=.pointer (some ⟨g,0,none⟩)
  | 1=>f 1=.pointer (some ⟨g,0,none⟩)
  | 2=>f 2=.pointer (some ⟨g,0,none⟩)
  | 3=>∃ o,f 3=EV o∧FE M n o u13
  | 4=>∃ o,f 4=EV o∧FE M n o u13
  | 5=>∃ o,f 5=EV o∧FE M n o u14
  | 6=>∃ o,f 6=EV o∧FE M n o u2
  | 7=>∃ o,f 7=EV o∧FE M n o u15
  | 8=>∃ o,f 8=EV o∧FE M n o u1
  | 9=>∃ o,f 9=EV o∧FE M n o u16
  | 10=>∃ b,f 10=.pointer (some ⟨b,0,none⟩)∧Y6_7.heap.size≤b∧X.heap[b]?=some (.cells #[.int .u64 0,.int .u64 0,.int .u64 0,.int .u64 0,.int .u64 0,.int .u64 0] 147 (0,0))
  | _=>True) (by kernel_rfl) [(81,0),(82,1),(83,2),(84,3),(85,4),(86,5),(87,6),(88,7),(89,8),(90,9),(13,10)] (by kernel_rfl) ?_
 refine zT 1 10 ?_
 refine zT 2 9 ?_
 refine zT 3 8 ?_
 refine lX 4 7 (fun X hX=>let ⟨o,hbl,ho⟩:=vbr7_6.ext hX;⟨o,hbl.range,ho⟩) ?_
 refine lX 5 6 (fun X hX=>let ⟨o,hbl,ho⟩:=vbr7_6.ext hX;⟨o,hbl.range,ho⟩) ?_
 refine fc 6 5 2 3 4 (fun X hX _ _ h h'=>ja X (hn.out.ext hP0' (hE.trans hX)).fr.ff h h') E_u14.out ?_
 refine lX 7 4 (fun X hX=>let ⟨o,hbl,ho⟩:=vbr2_13.ext hX;⟨o,hbl.range,ho⟩) ?_
 refine fc 8 3 1 5 6 (fun X hX _ _ h h'=>xH X (hn.out.ext hP0' (hE.trans hX)).fr.ff h h') E_u15.out ?_
 refine lX 9 2 (fun X hX=>let ⟨o,hbl,ho⟩:=vbr2_12.ext hX;⟨o,hbl.range,ho⟩) ?_
 refine fc 10 1 0 7 8 (fun X hX _ _ h h'=>xH X (hn.out.ext hP0' (hE.trans hX)).fr.ff h h') E_u16.out ?_
 refine ju 11 0 ?_
 refine yF ⟨fun f X hX hR hal hap=>?_⟩
 obtain ⟨o3,(e3:f 3=_),h3⟩:=hR 3 (by decide)
 obtain ⟨o4,(e4:f 4=_),h4⟩:=hR 4 (by decide)
 obtain ⟨o5,(e5:f 5=_),h5⟩:=hR 5 (by decide)
 obtain ⟨o6,(e6:f 6=_),h6⟩:=hR 6 (by decide)
 obtain ⟨o7,(e7:f 7=_),h7⟩:=hR 7 (by decide)
 obtain ⟨o8,(e8:f 8=_),h8⟩:=hR 8 (by decide)
 obtain ⟨o9,(e9:f 9=_),h9⟩:=hR 9 (by decide)
 obtain ⟨br8_10,(e10:f 10=_),lr8_10,hr8_10⟩:=hR 10 (by decide)
 simp only [yZ,e3,e4,e5,e6,e7,e8,e9,e10]
 clear hR hal hap e3 e4 e5 e6 e7 e8 e9 e10
 refine zZ (fun K hK=>⟨zc (by kernel_rfl) (qW (.tmp 13) (.tmp 90) rfl rfl rfl rfl (hr8_10) kI h9.elt.six (fun Y7_11 hl7_11=>hK.out _ _ ?_))⟩)
 refine zK ?_
 have d_br2_12_br8_10:br2_12≠br8_10:=by have:=(let ⟨_,h,_⟩:=vbr2_12;h.lt:br2_12<Y6_7.heap.size);omega
 replace vbr2_12:=(hl7_11.ve d_br2_12_br8_10 (vbr2_12.ext hX))
 have d_br2_13_br8_10:br2_13≠br8_10:=by have:=(let ⟨_,h,_⟩:=vbr2_13;h.lt:br2_13<Y6_7.heap.size);omega
 replace vbr2_13:=(hl7_11.ve d_br2_13_br8_10 (vbr2_13.ext hX))
 have d_br3_5_br8_10:br3_5≠br8_10:=by have:=(let ⟨_,h,_⟩:=vbr3_5;h.lt:br3_5<Y6_7.heap.size);omega
 replace vbr3_5:=(hl7_11.ve d_br3_5_br8_10 (vbr3_5.ext hX))
 have d_br4_18_br8_10:br4_18≠br8_10:=by have:=(let ⟨_,h,_⟩:=vbr4_18;h.lt:br4_18<Y6_7.heap.size);omega
 replace vbr4_18:=(hl7_11.ve d_br4_18_br8_10 (vbr4_18.ext hX))
 have d_br5_10_br8_10:br5_10≠br8_10:=by have:=(let ⟨_,h,_⟩:=vbr5_10;h.lt:br5_10<Y6_7.heap.size);omega
 replace vbr5_10:=(hl7_11.ve d_br5_10_br8_10 (vbr5_10.ext hX))
 have d_br6_10_br8_10:br6_10≠br8_10:=by have:=(let ⟨_,h,_⟩:=vbr6_10;h.lt:br6_10<Y6_7.heap.size);omega
 replace vbr6_10:=(hl7_11.ve d_br6_10_br8_10 (vbr6_10.ext hX))
 have d_br7_6_br8_10:br7_6≠br8_10:=by have:=(let ⟨_,h,_⟩:=vbr7_6;h.lt:br7_6<Y6_7.heap.size);omega
 replace vbr7_6:=(hl7_11.ve d_br7_6_br8_10 (vbr7_6.ext hX))
 have vbr8_10:VE Y7_11 M n br8_10 u16:=(hl7_11.mk' h9)
 have lb_vbr8_10:=zU hE.bsize lr8_10
 have hE':Ext W0 Y7_11:=(hl7_11.ext (hE.trans hX) (zU hE.bsize lr8_10))
 clear hE hX hl7_11 h3 h4 h5 h6 h7 h8 h9
 have hE:=hE'
 clear hE'
 go_upto_region 9 with fail
 refine zX 5 [0,0,0,7,0,31] [4] (fun j f X=>match j with
  | 0=>f 0=.pointer (some ⟨g,0,none⟩)
  | 1=>∃ o,f 1=EV o∧FE M n o u2
  | 2=>∃ o,f 2=EV o∧FE M n o u2
  | 3=>∃ o,f 3=EV o∧FE M n o u17
  | 4=>∃ b,f 4=.pointer (some ⟨b,0,none⟩)∧Y7_11.heap.size≤b∧X.heap[b]?=some (.cells #[.int .u64 0,.int .u64 0,.int .u64 0,.int .u64 0,.int .u64 0,.int .u64 0] 147 (0,0))
  | _=>True) (by kernel_rfl) [(91,0),(92,1),(93,2),(94,3),(14,4)] (by kernel_rfl) ?_
 refine zT 1 4 ?_
 refine lX 2 3 (fun X hX=>let ⟨o,hbl,ho⟩:=vbr2_13.ext hX;⟨o,hbl.range,ho⟩) ?_
 refine lX 3 2 (fun X hX=>let ⟨o,hbl,ho⟩:=vbr2_13.ext hX;⟨o,hbl.range,ho⟩) ?_
 refine fc 4 1 0 1 2 (fun X hX _ _ h h'=>ja X (hn.out.ext hP0' (hE.trans hX)).fr.ff h h') E_u17.out ?_
 refine ju 5 0 ?_
 refine yF ⟨fun f X hX hR hal hap=>?_⟩
 obtain ⟨o1,(e1:f 1=_),h1⟩:=hR 1 (by decide)
 obtain ⟨o2,(e2:f 2=_),h2⟩:=hR 2 (by decide)
 obtain ⟨o3,(e3:f 3=_),h3⟩:=hR 3 (by decide)
 obtain ⟨br9_4,(e4:f 4=_),lr9_4,hr9_4⟩:=hR 4 (by decide)
 simp only [yZ,e1,e2,e3,e4]
 clear hR hal hap e1 e2 e3 e4
 refine zZ (fun K hK=>⟨zc (by kernel_rfl) (qW (.tmp 14) (.tmp 94) rfl rfl rfl rfl (hr9_4) kI h3.elt.six (fun Y8_5 hl8_5=>hK.out _ _ ?_))⟩)
 refine zK ?_
 have d_br2_12_br9_4:br2_12≠br9_4:=by have:=(let ⟨_,h,_⟩:=vbr2_12;h.lt:br2_12<Y7_11.heap.size);omega
 replace vbr2_12:=(hl8_5.ve d_br2_12_br9_4 (vbr2_12.ext hX))
 have d_br2_13_br9_4:br2_13≠br9_4:=by have:=(let ⟨_,h,_⟩:=vbr2_13;h.lt:br2_13<Y7_11.heap.size);omega
 replace vbr2_13:=(hl8_5.ve d_br2_13_br9_4 (vbr2_13.ext hX))
 have d_br3_5_br9_4:br3_5≠br9_4:=by have:=(let ⟨_,h,_⟩:=vbr3_5;h.lt:br3_5<Y7_11.heap.size);omega
 replace vbr3_5:=(hl8_5.ve d_br3_5_br9_4 (vbr3_5.ext hX))
 have d_br4_18_br9_4:br4_18≠br9_4:=by have:=(let ⟨_,h,_⟩:=vbr4_18;h.lt:br4_18<Y7_11.heap.size);omega
 replace vbr4_18:=(hl8_5.ve d_br4_18_br9_4 (vbr4_18.ext hX))
 have d_br5_10_br9_4:br5_10≠br9_4:=by have:=(let ⟨_,h,_⟩:=vbr5_10;h.lt:br5_10<Y7_11.heap.size);omega
 replace vbr5_10:=(hl8_5.ve d_br5_10_br9_4 (vbr5_10.ext hX))
 have d_br6_10_br9_4:br6_10≠br9_4:=by have:=(let ⟨_,h,_⟩:=vbr6_10;h.lt:br6_10<Y7_11.heap.size);omega
 replace vbr6_10:=(hl8_5.ve d_br6_10_br9_4 (vbr6_10.ext hX))
 have d_br7_6_br9_4:br7_6≠br9_4:=by have:=(let ⟨_,h,_⟩:=vbr7_6;h.lt:br7_6<Y7_11.heap.size);omega
 replace vbr7_6:=(hl8_5.ve d_br7_6_br9_4 (vbr7_6.ext hX))
 have d_br8_10_br9_4:br8_10≠br9_4:=by have:=(let ⟨_,h,_⟩:=vbr8_10;h.lt:br8_10<Y7_11.heap.size);omega
 replace vbr8_10:=(hl8_5.ve d_br8_10_br9_4 (vbr8_10.ext hX))
 have vbr9_4:VE Y8_5 M n br9_4 u17:=(hl8_5.mk' h3)
 have lb_vbr9_4:=zU hE.bsize lr9_4
 have hE':Ext W0 Y8_5:=(hl8_5.ext (hE.trans hX) (zU hE.bsize lr9_4))
 clear hE hX hl8_5 h1 h2 h3
 have hE:=hE'
 clear hE'
 go_upto_region 10 with fail
 refine zX 4 [0,0,0,7,15] [] (fun j f X=>match j with
  | 0=>f 0=.pointer (some ⟨g,0,none⟩)
  | 1=>∃ o,f 1=EV o∧FE M n o u17
  | 2=>∃ o,f 2=EV o∧FE M n o u17
  | 3=>∃ o,f 3=EV o∧FE M n o u18
  | _=>True) (by kernel_rfl) [(95,0),(96,1),(97,2),(98,3)] (by kernel_rfl) ?_
 refine zT 1 3 ?_
 refine lX 2 2 (fun X hX=>let ⟨o,hbl,ho⟩:=vbr9_4.ext hX;⟨o,hbl.range,ho⟩) ?_
 refine lX 3 1 (fun X hX=>let ⟨o,hbl,ho⟩:=vbr9_4.ext hX;⟨o,hbl.range,ho⟩) ?_
 refine fc 4 0 0 1 2 (fun X hX _ _ h h'=>xy X (hn.out.ext hP0' (hE.trans hX)).fr.ff h h') E_u18.out ?_
 refine yF ⟨fun f X hX hR hal hap=>?_⟩
 obtain ⟨o1,(e1:f 1=_),h1⟩:=hR 1 (by decide)
 obtain ⟨o2,(e2:f 2=_),h2⟩:=hR 2 (by decide)
 obtain ⟨o3,(e3:f 3=_),h3⟩:=hR 3 (by decide)
 simp only [yZ,e1,e2,e3]
 clear hR hal hap e1 e2 e3
 obtain ⟨lo4,hbo4,hfo4⟩:=vbr9_4.ext hX
 refine zZ (fun K hK=>⟨zc (by kernel_rfl) (qW (.tmp 14) (.tmp 98) rfl rfl rfl rfl hbo4 (by rw [qX];exact hfo4.elt.six) h3.elt.six (fun Y9_4 hl9_4=>hK.out _ _ ?_))⟩)
 refine zK ?_
 replace vbr2_12:=(hl9_4.ve d_br2_12_br9_4 (vbr2_12.ext hX))
 replace vbr2_13:=(hl9_4.ve d_br2_13_br9_4 (vbr2_13.ext hX))
 replace vbr3_5:=(hl9_4.ve d_br3_5_br9_4 (vbr3_5.ext hX))
 replace vbr4_18:=(hl9_4.ve d_br4_18_br9_4 (vbr4_18.ext hX))
 replace vbr5_10:=(hl9_4.ve d_br5_10_br9_4 (vbr5_10.ext hX))
 replace vbr6_10:=(hl9_4.ve d_br6_10_br9_4 (vbr6_10.ext hX))
 replace vbr7_6:=(hl9_4.ve d_br7_6_br9_4 (vbr7_6.ext hX))
 replace vbr8_10:=(hl9_4.ve d_br8_10_br9_4 (vbr8_10.ext hX))
 have vbr9_4':VE Y9_4 M n br9_4 u18:=hl9_4.mk' h3
 have hE':Ext W0 Y9_4:=(hl9_4.ext (hE.trans hX) lb_vbr9_4)
 clear hE hX hl9_4 h1 h2 h3 vbr9_4
 have hE:=hE'
 clear hE'
 have vbr9_4:=vbr9_4'
 clear vbr9_4'
 go_upto_region 11 with fail
 refine zX 4 [0,0,0,7,15] [] (fun j f X=>match j with
  | 0=>f 0=.pointer (some ⟨g,0,none⟩)
  | 1=>∃ o,f 1=EV o∧FE M n o u18
  | 2=>∃ o,f 2=EV o∧FE M n o u18
  | 3=>∃ o,f 3=EV o∧FE M n o u19
  | _=>True) (by kernel_rfl) [(99,0),(100,1),(101,2),(102,3)] (by kernel_rfl) ?_
 refine zT 1 3 ?_
 refine lX 2 2 (fun X hX=>let ⟨o,hbl,ho⟩:=vbr9_4.ext hX;⟨o,hbl.range,ho⟩) ?_
 refine lX 3 1 (fun X hX=>let ⟨o,hbl,ho⟩:=vbr9_4.ext hX;⟨o,hbl.range,ho⟩) ?_
 refine fc 4 0 0 1 2 (fun X hX _ _ h h'=>xy X (hn.out.ext hP0' (hE.trans hX)).fr.ff h h') E_u19.out ?_
 refine yF ⟨fun f X hX hR hal hap=>?_⟩
 obtain ⟨o1,(e1:f 1=_),h1⟩:=hR 1 (by decide)
 obtain ⟨o2,(e2:f 2=_),h2⟩:=hR 2 (by decide)
 obtain ⟨o3,(e3:f 3=_),h3⟩:=hR 3 (by decide)
 simp only [yZ,e1,e2,e3]
 clear hR hal hap e1 e2 e3
 obtain ⟨lo4,hbo4,hfo4⟩:=vbr9_4.ext hX
 refine zZ (fun K hK=>⟨zc (by kernel_rfl) (qW (.tmp 14) (.tmp 102) rfl rfl rfl rfl hbo4 (by rw [qX];exact hfo4.elt.six) h3.elt.six (fun Y10_4 hl10_4=>hK.out _ _ ?_))⟩)
 refine zK ?_
 replace vbr2_12:=(hl10_4.ve d_br2_12_br9_4 (vbr2_12.ext hX))
 replace vbr2_13:=(hl10_4.ve d_br2_13_br9_4 (vbr2_13.ext hX))
 replace vbr3_5:=(hl10_4.ve d_br3_5_br9_4 (vbr3_5.ext hX))
 replace vbr4_18:=(hl10_4.ve d_br4_18_br9_4 (vbr4_18.ext hX))
 replace vbr5_10:=(hl10_4.ve d_br5_10_br9_4 (vbr5_10.ext hX))
 replace vbr6_10:=(hl10_4.ve d_br6_10_br9_4 (vbr6_10.ext hX))
 replace vbr7_6:=(hl10_4.ve d_br7_6_br9_4 (vbr7_6.ext hX))
 replace vbr8_10:=(hl10_4.ve d_br8_10_br9_4 (vbr8_10.ext hX))
 have vbr9_4':VE Y10_4 M n br9_4 u19:=hl10_4.mk' h3
 have hE':Ext W0 Y10_4:=(hl10_4.ext (hE.trans hX) lb_vbr9_4)
 clear hE hX hl10_4 h1 h2 h3 vbr9_4
 have hE:=hE'
 clear hE'
 have vbr9_4:=vbr9_4'
 clear vbr9_4'
 go_upto_region 12 with fail
 refine zj (by kernel_rfl) 14 [0,0,0,0,0,0,56,126,0,0,0,2046,4095,0,16383] [13] (fun j f X=>match j with
  | 0=>f 0=.pointer (some ⟨g,0,none⟩)
  | 1=>f 1=.pointer (some ⟨g,0,none⟩)
  | 2=>∃ o,f 2=EV o∧FE M n o u7
  | 3=>f 3=.pointer (some ⟨g,0,none⟩)
  | 4=>∃ o,f 4=EV o∧FE M n o u9
  | 5=>∃ o,f 5=EV o∧FE M n o u12
  | 6=>∃ o,f 6=EV o∧FE M n o u20
  | 7=>∃ o,f 7=EV o∧FE M n o u21
  | 8=>f 8=.pointer (some ⟨g,0,none⟩)
  | 9=>∃ o,f 9=EV o∧FE M n o u19
  | 10=>∃ o,f 10=EV o∧FE M n o u19
  | 11=>∃ o,f 11=EV o∧FE M n o u22
  | 12=>∃ o,f 12=EV o∧FE M n o u23
  | 13=>∃ b,f 13=.pointer (some ⟨b,0,none⟩)∧Y10_4.heap.size≤b∧X.heap[b]?=some (.cells #[.int .u64 0,.int .u64 0,.int .u64 0,.int .u64 0,.int .u64 0,.int .u64 0] 147 (0,0))
  | _=>True) (by kernel_rfl) [(103,0),(104,1),(105,2),(106,3),(107,4),(108,5),(109,6),(110,7),(111,8),(112,9),(113,10),(114,11),(115,12),(15,13)] (by kernel_rfl) ?_
 refine zT 1 13 ?_
 refine zT 2 12 ?_
 refine lX 3 11 (fun X hX=>let ⟨o,hbl,ho⟩:=vbr4_18.ext hX;⟨o,hbl.range,ho⟩) ?_
 refine zT 4 10 ?_
 refine lX 5 9 (fun X hX=>let ⟨o,hbl,ho⟩:=vbr5_10.ext hX;⟨o,hbl.range,ho⟩) ?_
 refine lX 6 8 (fun X hX=>let ⟨o,hbl,ho⟩:=vbr6_10.ext hX;⟨o,hbl.range,ho⟩) ?_
 refine fc 7 7 3 4 5 (fun X hX _ _ h h'=>xH X (hn.out.ext hP0' (hE.trans hX)).fr.ff h h') E_u20.out ?_
 refine fc 8 6 1 2 6 (fun X hX _ _ h h'=>ja X (hn.out.ext hP0' (hE.trans hX)).fr.ff h h') E_u21.out ?_
 refine zT 9 5 ?_
 refine lX 10 4 (fun X hX=>let ⟨o,hbl,ho⟩:=vbr9_4.ext hX;⟨o,hbl.range,ho⟩) ?_
 refine lX 11 3 (fun X hX=>let ⟨o,hbl,ho⟩:=vbr9_4.ext hX;⟨o,hbl.range,ho⟩) ?_
 refine fc 12 2 8 9 10 (fun X hX _ _ h h'=>xy X (hn.out.ext hP0' (hE.trans hX)).fr.ff h h') E_u22.out ?_
 refine fc 13 1 0 7 11 (fun X hX _ _ h h'=>xH X (hn.out.ext hP0' (hE.trans hX)).fr.ff h h') E_u23.out ?_
 refine ju 14 0 ?_
 refine yF ⟨fun f X hX hR hal hap=>?_⟩
 obtain ⟨o2,(e2:f 2=_),h2⟩:=hR 2 (by decide)
 obtain ⟨o4,(e4:f 4=_),h4⟩:=hR 4 (by decide)
 obtain ⟨o5,(e5:f 5=_),h5⟩:=hR 5 (by decide)
 obtain ⟨o6,(e6:f 6=_),h6⟩:=hR 6 (by decide)
 obtain ⟨o7,(e7:f 7=_),h7⟩:=hR 7 (by decide)
 obtain ⟨o9,(e9:f 9=_),h9⟩:=hR 9 (by decide)
 obtain ⟨o10,(e10:f 10=_),h10⟩:=hR 10 (by decide)
 obtain ⟨o11,(e11:f 11=_),h11⟩:=hR 11 (by decide)
 obtain ⟨o12,(e12:f 12=_),h12⟩:=hR 12 (by decide)
 obtain ⟨br12_13,(e13:f 13=_),lr12_13,hr12_13⟩:=hR 13 (by decide)
 simp only [yZ,e2,e4,e5,e6,e7,e9,e10,e11,e12,e13]
 clear hR hal hap e2 e4 e5 e6 e7 e9 e10 e11 e12 e13
 refine zZ (fun K hK=>⟨zc (by kernel_rfl) (qW (.tmp 15) (.tmp 115) rfl rfl rfl rfl (hr12_13) kI h12.elt.six (fun Y11_14 hl11_14=>hK.out _ _ ?_))⟩)
 refine zK ?_
 have d_br2_12_br12_13:br2_12≠br12_13:=by have:=(let ⟨_,h,_⟩:=vbr2_12;h.lt:br2_12<Y10_4.heap.size);omega
 replace vbr2_12:=(hl11_14.ve d_br2_12_br12_13 (vbr2_12.ext hX))
 have d_br2_13_br12_13:br2_13≠br12_13:=by have:=(let ⟨_,h,_⟩:=vbr2_13;h.lt:br2_13<Y10_4.heap.size);omega
 replace vbr2_13:=(hl11_14.ve d_br2_13_br12_13 (vbr2_13.ext hX))
 have d_br3_5_br12_13:br3_5≠br12_13:=by have:=(let ⟨_,h,_⟩:=vbr3_5;h.lt:br3_5<Y10_4.heap.size);omega
 replace vbr3_5:=(hl11_14.ve d_br3_5_br12_13 (vbr3_5.ext hX))
 have d_br4_18_br12_13:br4_18≠br12_13:=by have:=(let ⟨_,h,_⟩:=vbr4_18;h.lt:br4_18<Y10_4.heap.size);omega
 replace vbr4_18:=(hl11_14.ve d_br4_18_br12_13 (vbr4_18.ext hX))
 have d_br5_10_br12_13:br5_10≠br12_13:=by have:=(let ⟨_,h,_⟩:=vbr5_10;h.lt:br5_10<Y10_4.heap.size);omega
 replace vbr5_10:=(hl11_14.ve d_br5_10_br12_13 (vbr5_10.ext hX))
 have d_br6_10_br12_13:br6_10≠br12_13:=by have:=(let ⟨_,h,_⟩:=vbr6_10;h.lt:br6_10<Y10_4.heap.size);omega
 replace vbr6_10:=(hl11_14.ve d_br6_10_br12_13 (vbr6_10.ext hX))
 have d_br7_6_br12_13:br7_6≠br12_13:=by have:=(let ⟨_,h,_⟩:=vbr7_6;h.lt:br7_6<Y10_4.heap.size);omega
 replace vbr7_6:=(hl11_14.ve d_br7_6_br12_13 (vbr7_6.ext hX))
 have d_br8_10_br12_13:br8_10≠br12_13:=by have:=(let ⟨_,h,_⟩:=vbr8_10;h.lt:br8_10<Y10_4.heap.size);omega
 replace vbr8_10:=(hl11_14.ve d_br8_10_br12_13 (vbr8_10.ext hX))
 have d_br9_4_br12_13:br9_4≠br12_13:=by have:=(let ⟨_,h,_⟩:=vbr9_4;h.lt:br9_4<Y10_4.heap.size);omega
 replace vbr9_4:=(hl11_14.ve d_br9_4_br12_13 (vbr9_4.ext hX))
 have vbr12_13:VE Y11_14 M n br12_13 u23:=(hl11_14.mk' h12)
 have lb_vbr12_13:=zU hE.bsize lr12_13
 have hE':Ext W0 Y11_14:=(hl11_14.ext (hE.trans hX) (zU hE.bsize lr12_13))
 clear hE hX hl11_14 h2 h4 h5 h6 h7 h9 h10 h11 h12
 have hE:=hE'
 clear hE'
 obtain ⟨ox,blx,fx⟩:=vbr6_10
 obtain ⟨oy,bly,fy⟩:=vbr12_13
 obtain ⟨oz,blz,fz⟩:=vbr8_10
 have hb1:=hE.at_ hrb
 go_upto_region 13 with fail
 refine zX 4 [0,0,0,7,15] [] (fun j f X=>match j with
  | 0=>f 0=EV ox
  | 1=>f 1=EV oy
  | 2=>f 2=EV oz
  | 3=>f 3=JV ox oy oz
  | _=>True) (by kernel_rfl) [(116,0),(117,1),(118,2),(119,3)] (by kernel_rfl) ?_
 refine zt 1 3 [(117,1),(118,2)] (fun f X hX hR K hK=>?_) ?_
 · simp only [yZ]
   refine ⟨zc (by kernel_rfl) (kJ (.tmp 11) rfl rfl (wQ.range (hX.at_ blx)) fx.elt.six ?_)⟩
   exact hK.out _ (EV ox) _ (by simp only [yZ]) (zd _) trivial (fun _ _=>rfl)
 refine zt 2 2 [(116,0),(118,2)] (fun f X hX hR K hK=>?_) ?_
 · simp only [yZ]
   refine ⟨zc (by kernel_rfl) (kJ (.tmp 15) rfl rfl (wQ.range (hX.at_ bly)) fy.elt.six ?_)⟩
   exact hK.out _ (EV oy) _ (by simp only [yZ]) (zd _) trivial (fun _ _=>rfl)
 refine zt 3 1 [(116,0),(117,1)] (fun f X hX hR K hK=>?_) ?_
 · simp only [yZ]
   refine ⟨zc (by kernel_rfl) (kJ (.tmp 13) rfl rfl (wQ.range (hX.at_ blz)) fz.elt.six ?_)⟩
   exact hK.out _ (EV oz) _ (by simp only [yZ]) (zd _) trivial (fun _ _=>rfl)
 refine zt 4 0 [(116,0),(117,1),(118,2)] (fun f X hX hR K hK=>?_) ?_
 · have e0:f 0=_:=hR.out 0 rfl
   have e1:f 1=_:=hR.out 1 rfl
   have e2:f 2=_:=hR.out 2 rfl
   simp only [yZ,e0,e1,e2]
   refine ⟨zc (by kernel_rfl) (uY (x:=ox) (y:=oy) (z:=oz) (.tmp 116) (.tmp 117) (.tmp 118) rfl rfl rfl rfl fx.elt.six fy.elt.six fz.elt.six ?_)⟩
   exact hK.out _ (JV ox oy oz) _ (by simp only [yZ,e0,e1,e2]) (zd _) trivial (fun _ _=>rfl)
 refine yF ⟨fun f X hX hR hal hap=>?_⟩
 have e3:f 3=_:=hR 3 (by decide)
 simp only [yZ,e3]
 clear hR hal hap e3
 refine zZ (fun K hK=>⟨zc (by kernel_rfl) (ke (x:=ox) (y:=oy) (z:=oz) (.tmp 4) (.tmp 119) rfl rfl rfl rfl (hX.at_ hb1) rfl fx.elt.six fy.elt.six fz.elt.six (fun Y hY1 hY2 hY3=>hK.out _ _ ?_))⟩)
 refine zK ?_
 go_wp2
 exact gr rfl rfl rfl hY1 fx.elt.six fy.elt.six fz.elt.six ⟨_,_,_,rfl,⟨fx,fy,fz⟩,hY2.ext (HE0.out.trans (hE.trans hX)) (by have:=Hq.out;omega)⟩
theorem FE.zero {M n:Nat} (h:0<M):FE M n [0,0,0,0,0,0] 0:=⟨⟨rfl,by intro x hx;simp at hx;omega,by simp [val];omega⟩,by simp [val]⟩
theorem pG {P0:Nat→Prop} {k g size n inv M bb:Nat} {pl nl bl xl yl ml ol rl tl fl:List Nat} {Ap An Ab Ax Ay:Option Addr} {cp cn cb cx cy:Nat} (Pa Pb:Nat→Prop) (A A':Option Addr) (c c':Nat) (a b:List Nat) (inf:Bool) (w:World)
 (hk:Num w P0 k g size n inv M bb pl nl bl xl yl ml ol rl tl fl Ap An Ab Ax Ay cp cn cb cx cy) (hP0:∀ b,P0 b→b<w.heap.size) (h:RN w Pa A c a) (h':RN w Pb A' c' b) (hPa:∀ b,Pa b→b<w.heap.size) (hPb:∀ b,Pb b→b<w.heap.size)
 (hxM:inf=false→val 18446744073709551616 a<M) (hyM:inf=false→val 18446744073709551616 b<M) :
 Calls Tryz.prog 139 #[.pointer (some ⟨k,0,none⟩),.agg #[.bool inf,.slice A a.length c,.slice A' b.length c']] w fun e w'=>∃ ox oy oz,e=.returned (JV ox oy oz)∧FJ M n ox oy oz (if inf then 1 else val 18446744073709551616 a) (if inf then 1 else val 18446744073709551616 b) (if inf then 0 else 1)∧Ext w w':=by
 obtain ⟨W0,hW0⟩:=eW ((w.alloc (.cells #[.bool inf,.slice A a.length c,.slice A' b.length c'] 29)).alloc (.cells #[.int .u64 0,.int .u64 0,.int .u64 0,.int .u64 0,.int .u64 0,.int .u64 0,.int .u64 0,.int .u64 0,.int .u64 0,.int .u64 0,.int .u64 0,.int .u64 0,.int .u64 0,.int .u64 0,.int .u64 0,.int .u64 0,.int .u64 0,.int .u64 0] 176))
 obtain ⟨q,hq⟩:=eV w.heap.size
 have hE0:Ext w W0:=by rw [hW0];exact (zR _ _).trans (zR _ _)
 obtain ⟨hbx,hrb,hz0⟩:=kW w (.cells #[.bool inf,.slice A a.length c,.slice A' b.length c'] 29) (.cells #[.int .u64 0,.int .u64 0,.int .u64 0,.int .u64 0,.int .u64 0,.int .u64 0,.int .u64 0,.int .u64 0,.int .u64 0,.int .u64 0,.int .u64 0,.int .u64 0,.int .u64 0,.int .u64 0,.int .u64 0,.int .u64 0,.int .u64 0,.int .u64 0] 176)
 rw [←hW0,hq] at hbx hrb hz0
 have b0:W0.cell? ⟨q,0,none⟩=some (.bool inf):=zH hbx 0
 have b1:W0.cell? ⟨q,1,none⟩=some (.slice A a.length c):=zH hbx 1
 have b2:W0.cell? ⟨q,2,none⟩=some (.slice A' b.length c'):=zH hbx 2
 have hn:=zF (hk.ext hP0 hE0)
 have hP0':∀ b,P0 b→b<W0.heap.size:=fun b hb=>zP (hP0 b hb) hE0.bsize
 have hPa':∀ b,Pa b→b<W0.heap.size:=fun b hb=>zP (hPa b hb) hE0.bsize
 have hPb':∀ b,Pb b→b<W0.heap.size:=fun b hb=>zP (hPb b hb) hE0.bsize
 have ha:=h.below hE0 hPa
 have hb:=h'.below hE0 hPb
 have k6:=hn.out.c_f
 have HE0:=zF hE0
 have Hz0:=zF hz0
 have hM1:=hk.fr.ff.big
 obtain ⟨x,hx⟩:=eV (val 18446744073709551616 a)
 obtain ⟨y,hy⟩:=eV (val 18446744073709551616 b)
 rw [hx] at hxM
 rw [hy] at hyM
 rw [hx,hy]
 have Hx:=zF hx
 have Hy:=zF hy
 clear hE0 hz0 hk hP0 hx hy h h' hPa hPb
 cases inf
 case true =>
  clear b1 b2 ha hb Hx Hy hxM hyM hPa' hPb'
  simp only [if_true]
  go_enter Tryz.func139,Tryz.ntmps139
  go_upto_region 1 with fail
  rw [←hW0]
  have Hq:=zF hq
  have HW0:=zF hW0
  have hE:=zd W0
  clear hq hW0
  go_upto_region 3 with fail
  clear k6 b0
  refine zX 6 [0,1,0,7,0,31,63] [] (fun j f X=>match j with
   | 0=>f 0=.pointer (some ⟨g,0,none⟩)
   | 1=>f 1=EV ol
   | 2=>f 2=.pointer (some ⟨g,0,none⟩)
   | 3=>f 3=EV ol
   | 4=>f 4=.agg #[.int .u64 0,.int .u64 0,.int .u64 0,.int .u64 0,.int .u64 0,.int .u64 0]
   | 5=>f 5=JV ol ol [0,0,0,0,0,0]
   | _=>True) (by kernel_rfl) [(12,0),(13,1),(14,2),(15,3),(16,4),(17,5)] (by kernel_rfl) ?_
  refine zT 1 5 ?_
  refine qC 2 4 (fun f=>#[f 0]) (F':=178) (fun f X hX hR=>?_) ?_
  · have e0:f 0=_:=hR.out 0 rfl
    simp only [e0]
    refine (bL X (hn.out.ext hP0' (hE.trans hX)).fr).mono ?_
    rintro e w2 ⟨rfl,hB⟩
    exact ⟨(EV ol),rfl,hB,fun _ _=>rfl⟩
  refine zT 3 3 ?_
  refine qC 4 2 (fun f=>#[f 2]) (F':=178) (fun f X hX hR=>?_) ?_
  · have e2:f 2=_:=hR.out 2 rfl
    simp only [e2]
    refine (bL X (hn.out.ext hP0' (hE.trans hX)).fr).mono ?_
    rintro e w2 ⟨rfl,hB⟩
    exact ⟨(EV ol),rfl,hB,fun _ _=>rfl⟩
  refine zT 5 1 ?_
  refine zt 6 0 [(12,0),(13,1),(14,2),(15,3),(16,4)] (fun f X hX hR K hK=>?_) ?_
  · have e1:f 1=_:=hR.out 1 rfl
    have e3:f 3=_:=hR.out 3 rfl
    have e4:f 4=_:=hR.out 4 rfl
    simp only [yZ,e1,e3,e4]
    refine ⟨zc (by kernel_rfl) (uY (x:=ol) (y:=ol) (z:=[0,0,0,0,0,0]) (.tmp 13) (.tmp 15) (.tmp 16) rfl rfl rfl rfl hn.out.fr.fone.elt.six hn.out.fr.fone.elt.six rfl ?_)⟩
    exact hK.out _ (JV ol ol [0,0,0,0,0,0]) _ (by simp only [yZ,e1,e3,e4]) (zd _) trivial (fun _ _=>rfl)
  refine yF ⟨fun f X hX hR hal hap=>?_⟩
  have e5:f 5=_:=hR 5 (by decide)
  simp only [yZ,e5]
  clear hR hal hap e5
  refine zZ (fun K hK=>⟨zc (by kernel_rfl) (ke (x:=ol) (y:=ol) (z:=[0,0,0,0,0,0]) (.tmp 4) (.tmp 17) rfl rfl rfl rfl (hX.at_ hrb) rfl hn.out.fr.fone.elt.six hn.out.fr.fone.elt.six rfl (fun Y hY1 hY2 hY3=>hK.out _ _ ?_))⟩)
  refine zK ?_
  go_wp2
  exact gr rfl rfl rfl hY1 hn.out.fr.fone.elt.six hn.out.fr.fone.elt.six rfl ⟨_,_,_,rfl,⟨hn.out.fr.fone,hn.out.fr.fone,FE.zero (by omega)⟩,hY2.ext (HE0.out.trans (hE.trans hX)) (by have:=Hq.out;omega)⟩
 case false =>
  have hxM:=hxM rfl
  have hyM:=hyM rfl
  simp only [Bool.false_eq_true,if_false]
  go_enter Tryz.func139,Tryz.ntmps139
  go_upto_region 1 with fail
  rw [←hW0]
  have Hq:=zF hq
  have HW0:=zF hW0
  have Hqs:=zF (show q≤W0.heap.size by have:=Hz0.out;omega)
  have hE:=zd W0
  clear hq hW0
  go_upto_region 4 with fail
  clear k6 b0
  refine zj (by kernel_rfl) 13 [0,0,2,6,15,0,0,64,223,511,0,2047,4095,8191] [] (fun j f X=>match j with
   | 0=>f 0=.pointer (some ⟨g,0,none⟩)
   | 1=>f 1=.pointer (some ⟨q,1,none⟩)
   | 2=>f 2=.slice A a.length c
   | 3=>∃ A1 c1,f 3=.slice A1 (digs 18446744073709551616 x).length c1∧OB X q A1 c1 (digs 18446744073709551616 x)
   | 4=>∃ o,f 4=EV o∧FE M n o x
   | 5=>f 5=.pointer (some ⟨g,0,none⟩)
   | 6=>f 6=.pointer (some ⟨q,2,none⟩)
   | 7=>f 7=.slice A' b.length c'
   | 8=>∃ A1 c1,f 8=.slice A1 (digs 18446744073709551616 y).length c1∧OB X q A1 c1 (digs 18446744073709551616 y)
   | 9=>∃ o,f 9=EV o∧FE M n o y
   | 10=>f 10=.pointer (some ⟨g,0,none⟩)
   | 11=>f 11=EV ol
   | 12=>∃ o o',f 12=JV o o' ol∧FE M n o x∧FE M n o' y
   | _=>True) (by kernel_rfl) [(18,0),(19,1),(20,2),(21,3),(22,4),(23,5),(24,6),(25,7),(26,8),(27,9),(28,10),(29,11),(30,12)] (by kernel_rfl) ?_
  refine zT 1 12 ?_
  refine zT 2 11 ?_
  refine qG 3 10 1 b1 ?_
  refine qC 4 9 (fun f=>#[f 2]) (F':=122) (fun f X hX hR=>?_) ?_
  · have e2:f 2=_:=hR.out 2 rfl
    simp only [e2]
    refine (yM Pa A c a X (ha.below (hE.trans hX) hPa')).mono ?_
    rw [Hx.out]
    rintro e w2 ⟨A1,c1,rfl,hO,hB⟩
    exact ⟨_,rfl,hB,fun Y hY=>⟨A1,c1,rfl,(hO.mono (zU Hqs.out (hE.trans hX).bsize)).below hY (zG _)⟩⟩
  refine qC 5 8 (fun f=>#[f 0,f 3]) (F':=145) (fun f X hX hR=>?_) ?_
  · have e0:f 0=_:=hR.out 0 rfl
    obtain ⟨A3,c3,(e3:f 3=_),o3⟩:=hR.out 3 rfl
    simp only [e0,e3]
    refine (xh _ A3 c3 _ X (hn.out.ext hP0' (hE.trans hX)).fr o3.rn (fun b hb=>hb.2) (hn.out.six hxM) (by rw [z7 (by omega)];exact hxM)).mono ?_
    rintro e w2 ⟨o,rfl,ho,hB⟩
    rw [z7 (by omega)] at ho
    exact ⟨(EV o),rfl,hB,fun Y hY=>⟨o,rfl,ho⟩⟩
  refine zT 6 7 ?_
  refine zT 7 6 ?_
  refine qG 8 5 6 b2 ?_
  refine qC 9 4 (fun f=>#[f 7]) (F':=122) (fun f X hX hR=>?_) ?_
  · have e7:f 7=_:=hR.out 7 rfl
    simp only [e7]
    refine (yM Pb A' c' b X (hb.below (hE.trans hX) hPb')).mono ?_
    rw [Hy.out]
    rintro e w2 ⟨A1,c1,rfl,hO,hB⟩
    exact ⟨_,rfl,hB,fun Y hY=>⟨A1,c1,rfl,(hO.mono (zU Hqs.out (hE.trans hX).bsize)).below hY (zG _)⟩⟩
  refine qC 10 3 (fun f=>#[f 5,f 8]) (F':=145) (fun f X hX hR=>?_) ?_
  · have e5:f 5=_:=hR.out 5 rfl
    obtain ⟨A8,c8,(e8:f 8=_),o8⟩:=hR.out 8 rfl
    simp only [e5,e8]
    refine (xh _ A8 c8 _ X (hn.out.ext hP0' (hE.trans hX)).fr o8.rn (fun b hb=>hb.2) (hn.out.six hyM) (by rw [z7 (by omega)];exact hyM)).mono ?_
    rintro e w2 ⟨o,rfl,ho,hB⟩
    rw [z7 (by omega)] at ho
    exact ⟨(EV o),rfl,hB,fun Y hY=>⟨o,rfl,ho⟩⟩
  refine zT 11 2 ?_
  refine qC 12 1 (fun f=>#[f 10]) (F':=178) (fun f X hX hR=>?_) ?_
  · have e10:f 10=_:=hR.out 10 rfl
    simp only [e10]
    refine (bL X (hn.out.ext hP0' (hE.trans hX)).fr).mono ?_
    rintro e w2 ⟨rfl,hB⟩
    exact ⟨(EV ol),rfl,hB,fun _ _=>rfl⟩
  refine zt 13 0 [(18,0),(19,1),(20,2),(21,3),(22,4),(23,5),(24,6),(25,7),(26,8),(27,9),(28,10),(29,11)] (fun f X hX hR K hK=>?_) ?_
  · obtain ⟨o4,(e4:f 4=_),h4⟩:=hR.out 4 rfl
    obtain ⟨o9,(e9:f 9=_),h9⟩:=hR.out 9 rfl
    have e11:f 11=_:=hR.out 11 rfl
    simp only [yZ,e4,e9,e11]
    refine ⟨zc (by kernel_rfl) (uY (x:=o4) (y:=o9) (z:=ol) (.tmp 22) (.tmp 27) (.tmp 29) rfl rfl rfl rfl h4.elt.six h9.elt.six hn.out.fr.fone.elt.six ?_)⟩
    exact hK.out _ (JV o4 o9 ol) _ (by simp only [yZ,e4,e9,e11]) (zd _) trivial (fun _ _=>⟨o4,o9,rfl,h4,h9⟩)
  refine yF ⟨fun f X hX hR hal hap=>?_⟩
  obtain ⟨A3,c3,(e3:f 3=_),o3⟩:=hR 3 (by decide)
  obtain ⟨o4,(e4:f 4=_),h4⟩:=hR 4 (by decide)
  obtain ⟨A8,c8,(e8:f 8=_),o8⟩:=hR 8 (by decide)
  obtain ⟨o9,(e9:f 9=_),h9⟩:=hR 9 (by decide)
  obtain ⟨ox,oy,(e12:f 12=_),fx,fy⟩:=hR 12 (by decide)
  simp only [yZ,e3,e4,e8,e9,e12]
  clear hR hal hap e3 e4 e8 e9 e12
  refine zZ (fun K hK=>⟨zc (by kernel_rfl) (ke (x:=ox) (y:=oy) (z:=ol) (.tmp 4) (.tmp 30) rfl rfl rfl rfl (hX.at_ hrb) rfl fx.elt.six fy.elt.six hn.out.fr.fone.elt.six (fun Y hY1 hY2 hY3=>hK.out _ _ ?_))⟩)
  refine zK ?_
  go_wp2
  exact gr rfl rfl rfl hY1 fx.elt.six fy.elt.six hn.out.fr.fone.elt.six ⟨_,_,_,rfl,⟨fx,fy,hn.out.fr.fone⟩,hY2.ext (HE0.out.trans (hE.trans hX)) (by have:=Hq.out;omega)⟩
end Go.Proofs.YtmlbicgpehchhaaGreat
