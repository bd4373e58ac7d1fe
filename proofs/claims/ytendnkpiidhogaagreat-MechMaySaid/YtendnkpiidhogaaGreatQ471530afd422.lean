/- The reference's On. -/
import Derived.Test.YtendnkpiidhogaaGreatQe57f424a3fbf
import Derived.Deep.DeepCutAuto
set_option maxRecDepth 100000
set_option maxHeartbeats 16000000
namespace Go.Proofs.YtendnkpiidhogaaGreat
open Go.RowKit
theorem digs_mod_len {x M k:Nat} (hM:0<M) (hl:(digs 4294967296 M).length≤k):(digs 4294967296 (x % M)).length≤k :=
 digs_length_of_lt (by omega) (Nat.lt_of_lt_of_le (Nat.lt_trans (Nat.mod_lt x hM) (lt_pow_digs (B:=4294967296) (by omega) M)) (Nat.pow_le_pow_right (by omega) hl))
theorem digs_le_len {x M k:Nat} (hM:x≤M) (hl:(digs 4294967296 M).length≤k):(digs 4294967296 x).length≤k :=
 digs_length_of_lt (by omega) (Nat.lt_of_lt_of_le (Nat.lt_of_le_of_lt hM (lt_pow_digs (B:=4294967296) (by omega) M)) (Nat.pow_le_pow_right (by omega) hl))
theorem Crv.Fine.len {C:Crv} (h:C.Fine):(digs 4294967296 C.M).length≤96:=by
 have h1:=h.room
 have h2:(256:Nat) ^ C.size≤256 ^ 48:=Nat.pow_le_pow_right (by omega) h.small
 have h3:(256:Nat) ^ 48≤4294967296 ^ 96:=by decide +kernel
 exact digs_length_of_lt (by omega) (Nat.lt_of_lt_of_le h1 (Nat.le_trans h2 h3))
theorem cmpV_eq0 (a b:Nat):(cmpV a b==0)=decide (a=b):=by
 unfold cmpV
 split
 · rw [decide_eq_false (by omega)];rfl
 · split
   · rw [decide_eq_true (by omega)];rfl
   · rw [decide_eq_false (by omega)];rfl
theorem refOn_any {C:Crv} {v:Value} (hF:C.Fine) (A A':Option Addr) (c c' x y:Nat) (inf:Bool) (w:World) (hc:RC w C v) (h:RU w A c (digs 4294967296 x)) (h':RU w A' c' (digs 4294967296 y)) :
 Calls Tryz.prog 154 #[v,.agg #[.bool inf,.slice A (digs 4294967296 x).length c,.slice A' (digs 4294967296 y).length c']] w fun e w'=>e=.returned (.bool (inf || onB C.M C.bb x y))∧Ext w w':=by
 have hcv:=hc
 obtain ⟨Ap,An,Ab,Ax,Ay,cp,cn,cb,cx,cy,rfl,h1,h2,h3,h4,h5⟩:=hc
 obtain ⟨s,hs⟩:∃ s,C.size=s:=⟨_,rfl⟩
 have s1:32≤s:=by rw [←hs];exact hF.pos
 have hs0:((s:Int)==0)=false:=by simp;omega
 obtain ⟨r,hr⟩:∃ r,(inf || onB C.M C.bb x y)=r:=⟨_,rfl⟩
 rw [hr,hs]
 rw [hs] at hcv
 have Hr:=Lib.hid hr
 have HF:=Lib.hid hF
 have L:=Lib.hid hF.len
 have Hcv:=Lib.hid hcv
 have hM0:0<C.M:=by have:=hF.three;omega
 have HM0:=Lib.hid hM0
 clear hr hF hs hcv
 obtain ⟨q,hq⟩:∃ q,w.heap.size=q:=⟨_,rfl⟩
 obtain ⟨W0,hW0⟩:∃ W0,W0=(w.alloc (.cells #[.slice Ap (digs 4294967296 C.M).length cp,.slice An (digs 4294967296 (val 18446744073709551616 C.nl)).length cn,.slice Ab (digs 4294967296 C.bb).length cb,.slice Ax (digs 4294967296 (val 18446744073709551616 C.xl)).length cx,.slice Ay (digs 4294967296 (val 18446744073709551616 C.yl)).length cy,.int .i64 (s:Int)] 129)).alloc (.cells #[.bool inf,.slice A (digs 4294967296 x).length c,.slice A' (digs 4294967296 y).length c'] 92):=⟨_,rfl⟩
 have hE0:Ext w W0:=by rw [hW0];exact (Ext.alloc _ _).trans (Ext.alloc _ _)
 have hcb:W0.heap[q]?=some (.cells #[.slice Ap (digs 4294967296 C.M).length cp,.slice An (digs 4294967296 (val 18446744073709551616 C.nl)).length cn,.slice Ab (digs 4294967296 C.bb).length cb,.slice Ax (digs 4294967296 (val 18446744073709551616 C.xl)).length cx,.slice Ay (digs 4294967296 (val 18446744073709551616 C.yl)).length cy,.int .i64 (s:Int)] 129 (0,0)):=by rw [hW0,←hq];exact (Ext.alloc _ _).at_ (heap_alloc_new w _)
 have hpb:W0.heap[q+1]?=some (.cells #[.bool inf,.slice A (digs 4294967296 x).length c,.slice A' (digs 4294967296 y).length c'] 92 (0,0)):=by rw [hW0,←hq];have:=heap_alloc_new (w.alloc (.cells #[.slice Ap (digs 4294967296 C.M).length cp,.slice An (digs 4294967296 (val 18446744073709551616 C.nl)).length cn,.slice Ab (digs 4294967296 C.bb).length cb,.slice Ax (digs 4294967296 (val 18446744073709551616 C.xl)).length cx,.slice Ay (digs 4294967296 (val 18446744073709551616 C.yl)).length cy,.int .i64 (s:Int)] 129)) (.cells #[.bool inf,.slice A (digs 4294967296 x).length c,.slice A' (digs 4294967296 y).length c'] 92);rwa [World.size_alloc] at this
 have b0:W0.cell? ⟨q,0,none⟩=some (.slice Ap (digs 4294967296 C.M).length cp):=blk_cell hcb 0
 have b2:W0.cell? ⟨q,2,none⟩=some (.slice Ab (digs 4294967296 C.bb).length cb):=blk_cell hcb 2
 have p1:W0.cell? ⟨q+1,1,none⟩=some (.slice A (digs 4294967296 x).length c):=blk_cell hpb 1
 have p2:W0.cell? ⟨q+1,2,none⟩=some (.slice A' (digs 4294967296 y).length c'):=blk_cell hpb 2
 have HE0:=Lib.hid hE0
 have HW0:=Lib.hid hW0
 clear hE0
 cases inf
 case true =>
  obtain rfl:r=true:=by rw [←Hr.out];rfl
  clear hW0 hq
  have hW0:=HW0.out
  go_enter Tryz.func154,Tryz.ntmps154
  go_wp2
  go_ret
  exact ⟨rfl,by have:=HE0.out;rw [hW0] at this;exact this⟩
 case false =>
  rw [Bool.false_or] at Hr
  have arm1:=Lib.hid (fun X (hX:Ext W0 X)=>refCmp_any _ _ A Ap c cp x C.M X (h.up (HE0.out.trans hX)) (h1.up (HE0.out.trans hX)))
  have arm2:=Lib.hid (fun X (hX:Ext W0 X)=>refCmp_any _ _ A' Ap c' cp y C.M X (h'.up (HE0.out.trans hX)) (h1.up (HE0.out.trans hX)))
  by_cases hxM:x<C.M
  · have tx:=Lib.hid (cmpV_lt hxM)
    by_cases hyM:y<C.M
    · have ty:=Lib.hid (cmpV_lt hyM)
      obtain ⟨cvv,hcvv⟩:∃ cvv,cvv=Value.agg #[.slice Ap (digs 4294967296 C.M).length cp,.slice An (digs 4294967296 (val 18446744073709551616 C.nl)).length cn,.slice Ab (digs 4294967296 C.bb).length cb,.slice Ax (digs 4294967296 (val 18446744073709551616 C.xl)).length cx,.slice Ay (digs 4294967296 (val 18446744073709551616 C.yl)).length cy,.int .i64 (s:Int)]:=⟨_,rfl⟩
      rw [←hcvv] at Hcv
      have HV:=Lib.hid hcvv
      obtain ⟨m2,hm2⟩:∃ m,x*x % C.M=m:=⟨_,rfl⟩
      obtain ⟨m3,hm3⟩:∃ m,m2*x % C.M=m:=⟨_,rfl⟩
      obtain ⟨t3,ht3⟩:∃ m,3*x % C.M=m:=⟨_,rfl⟩
      obtain ⟨mi,hmi⟩:∃ m,(m3+C.M - t3) % C.M=m:=⟨_,rfl⟩
      obtain ⟨rt,hrt⟩:∃ m,(mi+C.bb) % C.M=m:=⟨_,rfl⟩
      obtain ⟨yy,hyy⟩:∃ m,y*y % C.M=m:=⟨_,rfl⟩
      have K2:=Lib.hid (hm2▸digs_mod_len (x:=x*x) HM0.out L.out)
      have K3:=Lib.hid (hm3▸digs_mod_len (x:=m2*x) HM0.out L.out)
      have Kt:=Lib.hid (ht3▸digs_mod_len (x:=3*x) HM0.out L.out)
      have Ki:=Lib.hid (hmi▸digs_mod_len (x:=m3+C.M - t3) HM0.out L.out)
      have Ky:=Lib.hid (hyy▸digs_mod_len (x:=y*y) HM0.out L.out)
      have Kx:=Lib.hid (digs_le_len (Nat.le_of_lt hxM) L.out)
      have KY:=Lib.hid (digs_le_len (Nat.le_of_lt hyM) L.out)
      have K0:=Lib.hid (digs_le_len (Nat.le_of_lt HF.out.three) L.out)
      have Kb:=Lib.hid (digs_le_len (Nat.le_of_lt HF.out.bb) L.out)
      have Ks:=Lib.hid (show (digs 4294967296 (mi+C.bb)).length≤97 by
       have a1:=Nat.lt_of_lt_of_le (lt_pow_digs (B:=4294967296) (by omega) C.M) (Nat.pow_le_pow_right (by omega) L.out)
       have a2:=Nat.mod_lt (m3+C.M - t3) HM0.out
       have a3:=HF.out.bb
       refine digs_length_of_lt (by omega) ?_
       rw [Nat.pow_succ];generalize 4294967296 ^ 96=R at *;omega)
      have Htm:=Lib.hid (show t3≤m3+C.M by have:=Nat.mod_lt (3*x) HM0.out;omega)
      have Hmb:=Lib.hid (show mi<C.M by have:=Nat.mod_lt (m3+C.M - t3) HM0.out;omega)
      have Hres:=Lib.hid (show r=decide (yy=rt) by rw [←Hr.out,onB,decide_eq_true hxM,decide_eq_true hyM,hm2,hm3,ht3,hmi,hrt,hyy];rfl)
      have E2:=Lib.hid hm2
      have E3:=Lib.hid hm3
      have Et:=Lib.hid ht3
      have Ei:=Lib.hid hmi
      have Er:=Lib.hid hrt
      have Ey:=Lib.hid hyy
      clear hcvv hm2 hm3 ht3 hmi hrt hyy hxM hyM
      go_enter Tryz.func154,Tryz.ntmps154
      go_upto_region 5 with fail
      rw [←hW0]
      clear hW0 hq
      refine Par.region_txt 14 [0,1,0,4,15,31,63,127,255,127,639,2047,4095,8191] [] (fun j f X=>match j with
       | 0=>f 0=.pointer (some ⟨q+1,1,none⟩)
       | 1=>f 1=.slice A (digs 4294967296 x).length c
       | 2=>f 2=.pointer (some ⟨q,0,none⟩)
       | 3=>f 3=.slice Ap (digs 4294967296 C.M).length cp
       | 4=>f 4=.int .i64 (-1)
       | 5=>f 5=.bool false
       | 6=>f 6=.bool false
       | 7=>f 7=.pointer (some ⟨q+1,2,none⟩)
       | 8=>f 8=.slice A' (digs 4294967296 y).length c'
       | 9=>f 9=.pointer (some ⟨q,0,none⟩)
       | 10=>f 10=.slice Ap (digs 4294967296 C.M).length cp
       | 11=>f 11=.int .i64 (-1)
       | 12=>f 12=.bool false
       | 13=>f 13=.bool false
       | _=>True) (by kernel_rfl) [(13,0),(14,1),(15,2),(16,3),(17,4),(18,5),(19,6),(20,7),(21,8),(22,9),(23,10),(24,11),(25,12),(26,13)] (by kernel_rfl) ?_
      refine Par.v0 1 13 ?_
      refine Par.ld1 2 12 0 p1 ?_
      refine Par.v0 3 11 ?_
      refine Par.ld1 4 10 2 b0 ?_
      refine Par.c0 5 9 (fun f=>#[f 1,f 3]) (F':=120) (fun f X hX hR=>?_) ?_
      · have e1:f 1=_:=hR.out 1 rfl
        have e3:f 3=_:=hR.out 3 rfl
        simp only [e1,e3]
        refine (arm1.out X hX).mono ?_
        rintro e w2 ⟨rfl,nq,rfl⟩
        rw [tx.out]
        exact ⟨(.int .i64 (-1)),rfl,(Ext.drewN _ _),fun _ _=>rfl⟩
      refine Par.S 6 8 [(13,0),(14,1),(15,2),(16,3),(17,4)] (fun f X hX hR K hK=>?_) ?_
      · have e4:f 4=_:=hR.out 4 rfl
        simp only [yA,yB,yC,yD,yE,e4]
        refine ⟨?_⟩
        go_simp
        exact Par.k hK (s:=by simp only [yA,yB,yC,yD,yE,e4])
      refine Par.v1 7 7 5 ?_
      refine Par.v1 8 6 6 ?_
      refine Par.S 9 5 [(13,0),(14,1),(15,2),(16,3),(17,4),(18,5),(19,6),(20,7),(22,9),(23,10)] (fun f X hX hR K hK=>?_) ?_
      · have e6:f 6=_:=hR.out 6 rfl
        have e7:f 7=_:=hR.out 7 rfl
        have x0:=hX.cell p2
        simp only [yA,yB,yC,yD,yE,e6,e7]
        refine ⟨Par.want (by kernel_rfl) ?_⟩
        go_simp
        exact Par.k hK (s:=by simp only [yA,yB,yC,yD,yE,e6,e7])
      refine Par.v1 10 4 6 ?_
      refine Par.S 11 3 [(13,0),(14,1),(15,2),(16,3),(17,4),(18,5),(19,6),(20,7),(21,8),(22,9)] (fun f X hX hR K hK=>?_) ?_
      · have e6:f 6=_:=hR.out 6 rfl
        have e9:f 9=_:=hR.out 9 rfl
        have x0:=hX.cell b0
        simp only [yA,yB,yC,yD,yE,e6,e9]
        refine ⟨Par.want (by kernel_rfl) ?_⟩
        go_simp
        exact Par.k hK (s:=by simp only [yA,yB,yC,yD,yE,e6,e9])
      refine Par.c1 12 2 6 (fun f=>#[f 8,f 10]) (F':=120) (fun f X hX hR=>?_) ?_
      · have e8:f 8=_:=hR.out 8 rfl
        have e10:f 10=_:=hR.out 10 rfl
        simp only [e8,e10]
        refine (arm2.out X hX).mono ?_
        rintro e w2 ⟨rfl,nq,rfl⟩
        rw [ty.out]
        exact ⟨(.int .i64 (-1)),rfl,(Ext.drewN _ _),fun _ _=>rfl⟩
      refine Par.S 13 1 [(13,0),(14,1),(15,2),(16,3),(17,4),(18,5),(19,6),(20,7),(21,8),(22,9),(23,10),(24,11)] (fun f X hX hR K hK=>?_) ?_
      · have e6:f 6=_:=hR.out 6 rfl
        have e11:f 11=_:=hR.out 11 rfl
        simp only [yA,yB,yC,yD,yE,e6,e11]
        refine ⟨Par.want (by kernel_rfl) ?_⟩
        go_simp
        exact Par.k hK (s:=by simp only [yA,yB,yC,yD,yE,e6,e11])
      refine Par.v2 14 0 6 12 ?_
      refine Par.AllOps.fin ⟨fun f X hX hR hal hap=>?_⟩
      have e13:f 13=_:=hR 13 (by decide)
      simp only [yA,yB,yD,yE,e13]
      clear hR hal hap e13
      refine Par.Chain.done ?_
      have hE:Ext W0 X:=hX
      clear hX
      go_upto_region 7 with fail
      have d1:=hE.cell p1
      refine Par.region_ext (by kernel_rfl) 11 [0,0,0,4,0,16,62,0,128,511,1023] [] (fun j f X=>match j with
       | 0=>f 0=cvv
       | 1=>f 1=cvv
       | 2=>f 2=.pointer (some ⟨q+1,1,none⟩)
       | 3=>f 3=.slice A (digs 4294967296 x).length c
       | 4=>f 4=.pointer (some ⟨q+1,1,none⟩)
       | 5=>f 5=.slice A (digs 4294967296 x).length c
       | 6=>∃ A1 c1,f 6=.slice A1 (digs 4294967296 m2).length c1∧RU X A1 c1 (digs 4294967296 m2)
       | 7=>f 7=.pointer (some ⟨q+1,1,none⟩)
       | 8=>f 8=.slice A (digs 4294967296 x).length c
       | 9=>∃ A1 c1,f 9=.slice A1 (digs 4294967296 m3).length c1∧RU X A1 c1 (digs 4294967296 m3)
       | 10=>∃ A1 c1,f 10=.slice A1 (digs 4294967296 m3).length c1∧RU X A1 c1 (digs 4294967296 m3)
       | _=>True) (by kernel_rfl) [(27,0),(28,1),(29,2),(30,3),(31,4),(32,5),(33,6),(34,7),(35,8),(36,9),(5,10)] (by kernel_rfl) ?_
      refine Par.S 1 10 [(28,1),(29,2),(30,3),(31,4),(32,5),(33,6),(34,7),(35,8)] (fun f X hX hR K hK=>?_) ?_
      · simp only [yA,yB,yC,yD,yE]
        refine ⟨Par.want (by kernel_rfl) (wp_loadV 129 (.tmp 2) rfl rfl (hE.trans hX |>.at_ hcb) Tryz.underlying129 rfl infoRC HV.out ?_)⟩
        exact hK.out _ (cvv) _ (by simp only [yA,yB,yC,yD,yE]) (Ext.refl _) trivial (fun _ _=>rfl)
      refine Par.S 2 9 [(27,0),(29,2),(30,3),(31,4),(32,5),(34,7),(35,8)] (fun f X hX hR K hK=>?_) ?_
      · simp only [yA,yB,yC,yD,yE]
        refine ⟨Par.want (by kernel_rfl) (wp_loadV 129 (.tmp 2) rfl rfl (hE.trans hX |>.at_ hcb) Tryz.underlying129 rfl infoRC HV.out ?_)⟩
        exact hK.out _ (cvv) _ (by simp only [yA,yB,yC,yD,yE]) (Ext.refl _) trivial (fun _ _=>rfl)
      refine Par.v0 3 8 ?_
      refine Par.ld1 4 7 2 d1 ?_
      refine Par.v0 5 6 ?_
      refine Par.ld1 6 5 4 d1 ?_
      refine Par.c0 7 4 (fun f=>#[f 1,f 3,f 5]) (F':=187) (fun f X hX hR=>?_) ?_
      · have e1:f 1=_:=hR.out 1 rfl
        have e3:f 3=_:=hR.out 3 rfl
        have e5:f 5=_:=hR.out 5 rfl
        simp only [e1,e3,e5]
        refine (times_any A A c c x x X (Hcv.out.ext (HE0.out.trans (hE.trans hX))) (h.up (HE0.out.trans (hE.trans hX))) (h.up (HE0.out.trans (hE.trans hX))) (by have:=Kx.out;omega) (by have:=Kx.out;omega) HM0.out).mono ?_
        rw [E2.out]
        rintro e w2 ⟨A1,c1,rfl,hO,hB⟩
        exact ⟨(.slice A1 (digs 4294967296 m2).length c1),rfl,hB,fun Y hY=>⟨A1,c1,rfl,hO.up hY⟩⟩
      refine Par.v0 8 3 ?_
      refine Par.ld1 9 2 7 d1 ?_
      refine Par.c0 10 1 (fun f=>#[f 0,f 6,f 8]) (F':=187) (fun f X hX hR=>?_) ?_
      · have e0:f 0=_:=hR.out 0 rfl
        obtain ⟨A6,c6,(e6:f 6=_),o6⟩:=hR.out 6 rfl
        have e8:f 8=_:=hR.out 8 rfl
        simp only [e0,e6,e8]
        refine (times_any A6 A c6 c m2 x X (Hcv.out.ext (HE0.out.trans (hE.trans hX))) o6 (h.up (HE0.out.trans (hE.trans hX))) (by have:=K2.out;omega) (by have:=Kx.out;omega) HM0.out).mono ?_
        rw [E3.out]
        rintro e w2 ⟨A1,c1,rfl,hO,hB⟩
        exact ⟨(.slice A1 (digs 4294967296 m3).length c1),rfl,hB,fun Y hY=>⟨A1,c1,rfl,hO.up hY⟩⟩
      refine Par.S 11 0 [(27,0),(28,1),(29,2),(30,3),(31,4),(32,5),(33,6),(34,7),(35,8),(36,9)] (fun f X hX hR K hK=>?_) ?_
      · obtain ⟨A9,c9,(e9:f 9=_),o9⟩:=hR.out 9 rfl
        simp only [yA,yB,yC,yD,yE,e9]
        refine ⟨?_⟩
        go_simp
        exact hK.out _ (.slice A9 (digs 4294967296 m3).length c9) _ (by simp only [yA,yB,yC,yD,yE,e9]) (Ext.refl _) trivial (fun Y hY=>⟨A9,c9,rfl,o9.up hY⟩)
      refine Par.AllOps.fin ⟨fun f X hX hR hal hap=>?_⟩
      obtain ⟨A6,c6,(e6:f 6=_),o6⟩:=hR 6 (by decide)
      obtain ⟨A9,c9,(e9:f 9=_),o9⟩:=hR 9 (by decide)
      obtain ⟨A10,c10,(e10:f 10=_),o10⟩:=hR 10 (by decide)
      simp only [yA,yB,yD,yE,e6,e9,e10]
      clear hR hal hap e6 e9 e10
      refine Par.Chain.done ?_
      replace hE:=hE.trans hX
      clear hX d1 o6 o9
      go_upto_region 8 with fail
      have d1:=hE.cell p1
      refine Par.region_ext (by kernel_rfl) 6 [0,0,0,4,15,31] [] (fun j f X=>match j with
       | 0=>f 0=cvv
       | 1=>∃ A1 c1,f 1=.slice A1 (digs 4294967296 3).length c1∧RU X A1 c1 (digs 4294967296 3)
       | 2=>f 2=.pointer (some ⟨q+1,1,none⟩)
       | 3=>f 3=.slice A (digs 4294967296 x).length c
       | 4=>∃ A1 c1,f 4=.slice A1 (digs 4294967296 t3).length c1∧RU X A1 c1 (digs 4294967296 t3)
       | 5=>∃ A1 c1,f 5=.slice A1 (digs 4294967296 t3).length c1∧RU X A1 c1 (digs 4294967296 t3)
       | _=>True) (by kernel_rfl) [(37,0),(38,1),(39,2),(40,3),(41,4),(6,5)] (by kernel_rfl) ?_
      refine Par.S 1 5 [(38,1),(39,2),(40,3)] (fun f X hX hR K hK=>?_) ?_
      · simp only [yA,yB,yC,yD,yE]
        refine ⟨Par.want (by kernel_rfl) (wp_loadV 129 (.tmp 2) rfl rfl (hE.trans hX |>.at_ hcb) Tryz.underlying129 rfl infoRC HV.out ?_)⟩
        exact hK.out _ (cvv) _ (by simp only [yA,yB,yC,yD,yE]) (Ext.refl _) trivial (fun _ _=>rfl)
      refine Par.c0 2 4 (fun _=>#[Value.int IntKind.u64 3]) (F':=121) (fun f X hX hR=>?_) ?_
      · refine (refOf_any 3 X (by omega)).mono ?_
        rintro e w2 ⟨A1,c1,rfl,hO,hB⟩
        exact ⟨(.slice A1 (digs 4294967296 3).length c1),rfl,hB,fun Y hY=>⟨A1,c1,rfl,hO.ru.up hY⟩⟩
      refine Par.v0 3 3 ?_
      refine Par.ld1 4 2 2 d1 ?_
      refine Par.c0 5 1 (fun f=>#[f 0,f 1,f 3]) (F':=187) (fun f X hX hR=>?_) ?_
      · have e0:f 0=_:=hR.out 0 rfl
        obtain ⟨A1,c1,(e1:f 1=_),o1⟩:=hR.out 1 rfl
        have e3:f 3=_:=hR.out 3 rfl
        simp only [e0,e1,e3]
        refine (times_any A1 A c1 c 3 x X (Hcv.out.ext (HE0.out.trans (hE.trans hX))) o1 (h.up (HE0.out.trans (hE.trans hX))) (by have:=K0.out;omega) (by have:=Kx.out;omega) HM0.out).mono ?_
        rw [Et.out]
        rintro e w2 ⟨A1,c1,rfl,hO,hB⟩
        exact ⟨(.slice A1 (digs 4294967296 t3).length c1),rfl,hB,fun Y hY=>⟨A1,c1,rfl,hO.up hY⟩⟩
      refine Par.S 6 0 [(37,0),(38,1),(39,2),(40,3),(41,4)] (fun f X hX hR K hK=>?_) ?_
      · obtain ⟨A4,c4,(e4:f 4=_),o4⟩:=hR.out 4 rfl
        simp only [yA,yB,yC,yD,yE,e4]
        refine ⟨?_⟩
        go_simp
        exact hK.out _ (.slice A4 (digs 4294967296 t3).length c4) _ (by simp only [yA,yB,yC,yD,yE,e4]) (Ext.refl _) trivial (fun Y hY=>⟨A4,c4,rfl,o4.up hY⟩)
      refine Par.AllOps.fin ⟨fun f X hX hR hal hap=>?_⟩
      obtain ⟨A1,c1,(e1:f 1=_),o1⟩:=hR 1 (by decide)
      obtain ⟨A4,c4,(e4:f 4=_),o4⟩:=hR 4 (by decide)
      obtain ⟨A5,c5,(e5:f 5=_),o5⟩:=hR 5 (by decide)
      simp only [yA,yB,yD,yE,e1,e4,e5]
      clear hR hal hap e1 e4 e5
      refine Par.Chain.done ?_
      have g10:=o10.up hX
      replace hE:=hE.trans hX
      clear hX d1 o1 o4 o10
      go_upto_region 9 with fail
      have d0:=hE.cell b0
      have d2:=hE.cell b2
      refine Par.region_ext (by kernel_rfl) 11 [0,0,0,7,0,16,63,0,128,511,1023] [] (fun j f X=>match j with
       | 0=>f 0=cvv
       | 1=>f 1=.slice A10 (digs 4294967296 m3).length c10
       | 2=>f 2=.slice A5 (digs 4294967296 t3).length c5
       | 3=>∃ A1 c1,f 3=.slice A1 (digs 4294967296 mi).length c1∧RU X A1 c1 (digs 4294967296 mi)
       | 4=>f 4=.pointer (some ⟨q,2,none⟩)
       | 5=>f 5=.slice Ab (digs 4294967296 C.bb).length cb
       | 6=>∃ A1 c1,f 6=.slice A1 (digs 4294967296 (mi+C.bb)).length c1∧RU X A1 c1 (digs 4294967296 (mi+C.bb))
       | 7=>f 7=.pointer (some ⟨q,0,none⟩)
       | 8=>f 8=.slice Ap (digs 4294967296 C.M).length cp
       | 9=>∃ A1 c1,f 9=.slice A1 (digs 4294967296 rt).length c1∧RU X A1 c1 (digs 4294967296 rt)
       | 10=>∃ A1 c1,f 10=.slice A1 (digs 4294967296 rt).length c1∧RU X A1 c1 (digs 4294967296 rt)
       | _=>True) (by kernel_rfl) [(42,0),(43,1),(44,2),(45,3),(46,4),(47,5),(48,6),(49,7),(50,8),(51,9),(7,10)] (by kernel_rfl) ?_
      refine Par.S 1 10 [(43,1),(44,2),(46,4),(47,5),(49,7),(50,8)] (fun f X hX hR K hK=>?_) ?_
      · simp only [yA,yB,yC,yD,yE]
        refine ⟨Par.want (by kernel_rfl) (wp_loadV 129 (.tmp 2) rfl rfl (hE.trans hX |>.at_ hcb) Tryz.underlying129 rfl infoRC HV.out ?_)⟩
        exact hK.out _ (cvv) _ (by simp only [yA,yB,yC,yD,yE]) (Ext.refl _) trivial (fun _ _=>rfl)
      refine Par.v0 2 9 ?_
      refine Par.v0 3 8 ?_
      refine Par.c0 4 7 (fun f=>#[f 0,f 1,f 2]) (F':=189) (fun f X hX hR=>?_) ?_
      · have e0:f 0=_:=hR.out 0 rfl
        have e1:f 1=_:=hR.out 1 rfl
        have e2:f 2=_:=hR.out 2 rfl
        simp only [e0,e1,e2]
        refine (minus_any A10 A5 c10 c5 m3 t3 X (Hcv.out.ext (HE0.out.trans (hE.trans hX))) (g10.up hX) (o5.up hX) (by have:=K3.out;omega) (by have:=L.out;omega) Htm.out HM0.out).mono ?_
        rw [Ei.out]
        rintro e w2 ⟨A1,c1,rfl,hO,hB⟩
        exact ⟨(.slice A1 (digs 4294967296 mi).length c1),rfl,hB,fun Y hY=>⟨A1,c1,rfl,hO.up hY⟩⟩
      refine Par.v0 5 6 ?_
      refine Par.ld1 6 5 4 d2 ?_
      refine Par.c0 7 4 (fun f=>#[f 3,f 5]) (F':=188) (fun f X hX hR=>?_) ?_
      · obtain ⟨A3,c3,(e3:f 3=_),o3⟩:=hR.out 3 rfl
        have e5:f 5=_:=hR.out 5 rfl
        simp only [e3,e5]
        refine (refAdd_any _ _ A3 Ab c3 cb mi C.bb X o3 (h3.up (HE0.out.trans (hE.trans hX))) (fun _ hb=>hb) (fun _ hb=>hb) (by have:=Ki.out;omega) (by have:=Kb.out;omega)).mono ?_
        rintro e w2 ⟨A1,c1,rfl,hO,hB⟩
        exact ⟨(.slice A1 (digs 4294967296 (mi+C.bb)).length c1),rfl,hB,fun Y hY=>⟨A1,c1,rfl,hO.ru.up hY⟩⟩
      refine Par.v0 8 3 ?_
      refine Par.ld1 9 2 7 d0 ?_
      refine Par.c0 10 1 (fun f=>#[f 6,f 8]) (F':=158) (fun f X hX hR=>?_) ?_
      · obtain ⟨A6,c6,(e6:f 6=_),o6⟩:=hR.out 6 rfl
        have e8:f 8=_:=hR.out 8 rfl
        simp only [e6,e8]
        refine (refMod_any A6 Ap c6 cp (mi+C.bb) C.M X o6 (h1.up (HE0.out.trans (hE.trans hX))) (by have:=Ks.out;omega) HM0.out).mono ?_
        rw [Er.out]
        rintro e w2 ⟨A1,c1,rfl,hO,hB⟩
        exact ⟨(.slice A1 (digs 4294967296 rt).length c1),rfl,hB,fun Y hY=>⟨A1,c1,rfl,hO.up hY⟩⟩
      refine Par.S 11 0 [(42,0),(43,1),(44,2),(45,3),(46,4),(47,5),(48,6),(49,7),(50,8),(51,9)] (fun f X hX hR K hK=>?_) ?_
      · obtain ⟨A9,c9,(e9:f 9=_),o9⟩:=hR.out 9 rfl
        simp only [yA,yB,yC,yD,yE,e9]
        refine ⟨?_⟩
        go_simp
        exact hK.out _ (.slice A9 (digs 4294967296 rt).length c9) _ (by simp only [yA,yB,yC,yD,yE,e9]) (Ext.refl _) trivial (fun Y hY=>⟨A9,c9,rfl,o9.up hY⟩)
      refine Par.AllOps.fin ⟨fun f X hX hR hal hap=>?_⟩
      obtain ⟨A3,c3,(e3:f 3=_),o3⟩:=hR 3 (by decide)
      obtain ⟨A6,c6,(e6:f 6=_),o6⟩:=hR 6 (by decide)
      obtain ⟨A9,c9,(e9:f 9=_),o9⟩:=hR 9 (by decide)
      obtain ⟨A11,c11,(e10:f 10=_),o11⟩:=hR 10 (by decide)
      simp only [yA,yB,yD,yE,e3,e6,e9,e10]
      clear hR hal hap e3 e6 e9 e10
      refine Par.Chain.done ?_
      replace hE:=hE.trans hX
      clear hX d0 d2 o3 o6 o9 g10 o5
      go_upto_region 10 with fail
      have d2:=hE.cell p2
      refine Par.region_txt 10 [0,0,2,0,8,31,0,127,255,511] [] (fun j f X=>match j with
       | 0=>f 0=cvv
       | 1=>f 1=.pointer (some ⟨q+1,2,none⟩)
       | 2=>f 2=.slice A' (digs 4294967296 y).length c'
       | 3=>f 3=.pointer (some ⟨q+1,2,none⟩)
       | 4=>f 4=.slice A' (digs 4294967296 y).length c'
       | 5=>∃ A1 c1,f 5=.slice A1 (digs 4294967296 yy).length c1∧RU X A1 c1 (digs 4294967296 yy)
       | 6=>f 6=.slice A11 (digs 4294967296 rt).length c11
       | 7=>f 7=.int .i64 (cmpV yy rt)
       | 8=>f 8=.bool r
       | 9=>f 9=.bool r
       | _=>True) (by kernel_rfl) [(52,0),(53,1),(54,2),(55,3),(56,4),(57,5),(58,6),(59,7),(60,8),(4,9)] (by kernel_rfl) ?_
      refine Par.S 1 9 [(53,1),(54,2),(55,3),(56,4),(58,6)] (fun f X hX hR K hK=>?_) ?_
      · simp only [yA,yB,yC,yD,yE]
        refine ⟨Par.want (by kernel_rfl) (wp_loadV 129 (.tmp 2) rfl rfl (hE.trans hX |>.at_ hcb) Tryz.underlying129 rfl infoRC HV.out ?_)⟩
        exact hK.out _ (cvv) _ (by simp only [yA,yB,yC,yD,yE]) (Ext.refl _) trivial (fun _ _=>rfl)
      refine Par.v0 2 8 ?_
      refine Par.ld1 3 7 1 d2 ?_
      refine Par.v0 4 6 ?_
      refine Par.ld1 5 5 3 d2 ?_
      refine Par.c0 6 4 (fun f=>#[f 0,f 2,f 4]) (F':=187) (fun f X hX hR=>?_) ?_
      · have e0:f 0=_:=hR.out 0 rfl
        have e2:f 2=_:=hR.out 2 rfl
        have e4:f 4=_:=hR.out 4 rfl
        simp only [e0,e2,e4]
        refine (times_any A' A' c' c' y y X (Hcv.out.ext (HE0.out.trans (hE.trans hX))) (h'.up (HE0.out.trans (hE.trans hX))) (h'.up (HE0.out.trans (hE.trans hX))) (by have:=KY.out;omega) (by have:=KY.out;omega) HM0.out).mono ?_
        rw [Ey.out]
        rintro e w2 ⟨A1,c1,rfl,hO,hB⟩
        exact ⟨(.slice A1 (digs 4294967296 yy).length c1),rfl,hB,fun Y hY=>⟨A1,c1,rfl,hO.up hY⟩⟩
      refine Par.v0 7 3 ?_
      refine Par.c0 8 2 (fun f=>#[f 5,f 6]) (F':=120) (fun f X hX hR=>?_) ?_
      · obtain ⟨A5,c5,(e5:f 5=_),o5⟩:=hR.out 5 rfl
        have e6:f 6=_:=hR.out 6 rfl
        simp only [e5,e6]
        refine (refCmp_any _ _ A5 A11 c5 c11 yy rt X o5 (o11.up hX)).mono ?_
        rintro e w2 ⟨rfl,nq,rfl⟩
        exact ⟨(.int .i64 (cmpV yy rt)),rfl,(Ext.drewN _ _),fun _ _=>rfl⟩
      refine Par.S 9 1 [(52,0),(53,1),(54,2),(55,3),(56,4),(57,5),(58,6),(59,7)] (fun f X hX hR K hK=>?_) ?_
      · have e7:f 7=_:=hR.out 7 rfl
        simp only [yA,yB,yC,yD,yE,e7]
        refine ⟨?_⟩
        go_simp
        have hd:(cmpV yy rt==0)=r:=by rw [Hres.out];exact cmpV_eq0 yy rt
        rw [hd]
        exact Par.k hK (s:=by simp only [yA,yB,yC,yD,yE,e7])
      refine Par.v1 10 0 8 ?_
      refine Par.AllOps.fin ⟨fun f X hX hR hal hap=>?_⟩
      obtain ⟨A5,c5,(e5:f 5=_),o5⟩:=hR 5 (by decide)
      have e9:f 9=_:=hR 9 (by decide)
      simp only [yA,yB,yD,yE,e5,e9]
      clear hR hal hap e5 e9
      refine Par.Chain.done ?_
      go_wp2
      go_ret
      exact ⟨rfl,HE0.out.trans (hE.trans hX)⟩
    · obtain ⟨v,hv⟩:∃ v,cmpV y C.M=v:=⟨_,rfl⟩
      have hv0:0≤v:=by rw [←hv];rcases cmpV_cases y C.M with h | h | h <;> omega
      have Hv:=Lib.hid hv
      have HH:=Lib.hid hyM
      clear hv hyM
      go_enter Tryz.func154,Tryz.ntmps154
      go_upto_region 5 with fail
      rw [←hW0]
      clear hW0 hq
      refine Par.region_txt 14 [0,1,0,4,15,31,63,127,255,127,639,2047,4095,8191] [] (fun j f X=>match j with
       | 0=>f 0=.pointer (some ⟨q+1,1,none⟩)
       | 1=>f 1=.slice A (digs 4294967296 x).length c
       | 2=>f 2=.pointer (some ⟨q,0,none⟩)
       | 3=>f 3=.slice Ap (digs 4294967296 C.M).length cp
       | 4=>f 4=.int .i64 (-1)
       | 5=>f 5=.bool false
       | 6=>f 6=.bool false
       | 7=>f 7=.pointer (some ⟨q+1,2,none⟩)
       | 8=>f 8=.slice A' (digs 4294967296 y).length c'
       | 9=>f 9=.pointer (some ⟨q,0,none⟩)
       | 10=>f 10=.slice Ap (digs 4294967296 C.M).length cp
       | 11=>f 11=.int .i64 v
       | 12=>f 12=.bool true
       | 13=>f 13=.bool true
       | _=>True) (by kernel_rfl) [(13,0),(14,1),(15,2),(16,3),(17,4),(18,5),(19,6),(20,7),(21,8),(22,9),(23,10),(24,11),(25,12),(26,13)] (by kernel_rfl) ?_
      refine Par.v0 1 13 ?_
      refine Par.ld1 2 12 0 p1 ?_
      refine Par.v0 3 11 ?_
      refine Par.ld1 4 10 2 b0 ?_
      refine Par.c0 5 9 (fun f=>#[f 1,f 3]) (F':=120) (fun f X hX hR=>?_) ?_
      · have e1:f 1=_:=hR.out 1 rfl
        have e3:f 3=_:=hR.out 3 rfl
        simp only [e1,e3]
        refine (arm1.out X hX).mono ?_
        rintro e w2 ⟨rfl,nq,rfl⟩
        rw [tx.out]
        exact ⟨(.int .i64 (-1)),rfl,(Ext.drewN _ _),fun _ _=>rfl⟩
      refine Par.S 6 8 [(13,0),(14,1),(15,2),(16,3),(17,4)] (fun f X hX hR K hK=>?_) ?_
      · have e4:f 4=_:=hR.out 4 rfl
        simp only [yA,yB,yC,yD,yE,e4]
        refine ⟨?_⟩
        go_simp
        exact Par.k hK (s:=by simp only [yA,yB,yC,yD,yE,e4])
      refine Par.v1 7 7 5 ?_
      refine Par.v1 8 6 6 ?_
      refine Par.S 9 5 [(13,0),(14,1),(15,2),(16,3),(17,4),(18,5),(19,6),(20,7),(22,9),(23,10)] (fun f X hX hR K hK=>?_) ?_
      · have e6:f 6=_:=hR.out 6 rfl
        have e7:f 7=_:=hR.out 7 rfl
        have x0:=hX.cell p2
        simp only [yA,yB,yC,yD,yE,e6,e7]
        refine ⟨Par.want (by kernel_rfl) ?_⟩
        go_simp
        exact Par.k hK (s:=by simp only [yA,yB,yC,yD,yE,e6,e7])
      refine Par.v1 10 4 6 ?_
      refine Par.S 11 3 [(13,0),(14,1),(15,2),(16,3),(17,4),(18,5),(19,6),(20,7),(21,8),(22,9)] (fun f X hX hR K hK=>?_) ?_
      · have e6:f 6=_:=hR.out 6 rfl
        have e9:f 9=_:=hR.out 9 rfl
        have x0:=hX.cell b0
        simp only [yA,yB,yC,yD,yE,e6,e9]
        refine ⟨Par.want (by kernel_rfl) ?_⟩
        go_simp
        exact Par.k hK (s:=by simp only [yA,yB,yC,yD,yE,e6,e9])
      refine Par.c1 12 2 6 (fun f=>#[f 8,f 10]) (F':=120) (fun f X hX hR=>?_) ?_
      · have e8:f 8=_:=hR.out 8 rfl
        have e10:f 10=_:=hR.out 10 rfl
        simp only [e8,e10]
        refine (arm2.out X hX).mono ?_
        rintro e w2 ⟨rfl,nq,rfl⟩
        rw [Hv.out]
        exact ⟨(.int .i64 v),rfl,(Ext.drewN _ _),fun _ _=>rfl⟩
      refine Par.S 13 1 [(13,0),(14,1),(15,2),(16,3),(17,4),(18,5),(19,6),(20,7),(21,8),(22,9),(23,10),(24,11)] (fun f X hX hR K hK=>?_) ?_
      · have e6:f 6=_:=hR.out 6 rfl
        have e11:f 11=_:=hR.out 11 rfl
        simp only [yA,yB,yC,yD,yE,e6,e11]
        refine ⟨Par.want (by kernel_rfl) ?_⟩
        go_simp
        exact Par.k hK (s:=by simp only [yA,yB,yC,yD,yE,e6,e11])
      refine Par.v2 14 0 6 12 ?_
      refine Par.AllOps.fin ⟨fun f X hX hR hal hap=>?_⟩
      have e13:f 13=_:=hR 13 (by decide)
      simp only [yA,yB,yD,yE,e13]
      clear hR hal hap e13
      refine Par.Chain.done ?_
      go_wp2
      go_ret
      exact ⟨by rw [show r=false by rw [←Hr.out];simp [onB,HH.out]];rfl,HE0.out.trans hX⟩
  · obtain ⟨v,hv⟩:∃ v,cmpV x C.M=v:=⟨_,rfl⟩
    have hv0:0≤v:=by rw [←hv];rcases cmpV_cases x C.M with h | h | h <;> omega
    have Hv:=Lib.hid hv
    have HH:=Lib.hid hxM
    clear hv hxM
    go_enter Tryz.func154,Tryz.ntmps154
    go_upto_region 5 with fail
    rw [←hW0]
    clear hW0 hq
    refine Par.region_txt 14 [0,1,0,4,15,31,63,127,255,127,639,2047,4095,8191] [] (fun j f X=>match j with
     | 0=>f 0=.pointer (some ⟨q+1,1,none⟩)
     | 1=>f 1=.slice A (digs 4294967296 x).length c
     | 2=>f 2=.pointer (some ⟨q,0,none⟩)
     | 3=>f 3=.slice Ap (digs 4294967296 C.M).length cp
     | 4=>f 4=.int .i64 v
     | 5=>f 5=.bool true
     | 6=>f 6=.bool true
     | 7=>f 7=undef
     | 8=>f 8=undef
     | 9=>f 9=undef
     | 10=>f 10=undef
     | 11=>f 11=undef
     | 12=>f 12=undef
     | 13=>f 13=.bool true
     | _=>True) (by kernel_rfl) [(13,0),(14,1),(15,2),(16,3),(17,4),(18,5),(19,6),(20,7),(21,8),(22,9),(23,10),(24,11),(25,12),(26,13)] (by kernel_rfl) ?_
    refine Par.v0 1 13 ?_
    refine Par.ld1 2 12 0 p1 ?_
    refine Par.v0 3 11 ?_
    refine Par.ld1 4 10 2 b0 ?_
    refine Par.c0 5 9 (fun f=>#[f 1,f 3]) (F':=120) (fun f X hX hR=>?_) ?_
    · have e1:f 1=_:=hR.out 1 rfl
      have e3:f 3=_:=hR.out 3 rfl
      simp only [e1,e3]
      refine (arm1.out X hX).mono ?_
      rintro e w2 ⟨rfl,nq,rfl⟩
      rw [Hv.out]
      exact ⟨(.int .i64 v),rfl,(Ext.drewN _ _),fun _ _=>rfl⟩
    refine Par.S 6 8 [(13,0),(14,1),(15,2),(16,3),(17,4)] (fun f X hX hR K hK=>?_) ?_
    · have e4:f 4=_:=hR.out 4 rfl
      simp only [yA,yB,yC,yD,yE,e4]
      refine ⟨?_⟩
      go_simp
      exact Par.k hK (s:=by simp only [yA,yB,yC,yD,yE,e4])
    refine Par.v1 7 7 5 ?_
    refine Par.sk 8 6 6 ?_
    refine Par.sk 9 5 6 ?_
    refine Par.sk 10 4 6 ?_
    refine Par.sk 11 3 6 ?_
    refine Par.sk 12 2 6 ?_
    refine Par.sk 13 1 6 ?_
    refine Par.v2 14 0 6 12 ?_
    refine Par.AllOps.fin ⟨fun f X hX hR hal hap=>?_⟩
    have e13:f 13=_:=hR 13 (by decide)
    simp only [yA,yB,yD,yE,e13]
    clear hR hal hap e13
    refine Par.Chain.done ?_
    go_wp2
    go_ret
    exact ⟨by rw [show r=false by rw [←Hr.out];simp [onB,HH.out]];rfl,HE0.out.trans hX⟩
def c0:Crv:=⟨0,0,0,0,[],[],[],[],[]⟩
theorem end_rc {fn:Func} {R:Ending→World→Prop} {a:Act} {W:World} {p:Tmp} {g:Nat} {ty:TypeId} {fr:Nat×Nat} {x0 x1 x2 x3 x4 x5:Value} (hr:fn.results=#[.cell p 129]) (hp:a.tmps.getD p undef=.pointer (some ⟨g,0,none⟩)) (hd:a.defers=[])
 (hg:W.heap[g]?=some (.cells #[x0,x1,x2,x3,x4,x5] ty fr)) (hR:R (.returned (.agg #[x0,x1,x2,x3,x4,x5])) W):bodyPost Tryz.prog fn R .ret a W :=
 bodyPost_ret (results_cell_row hr a.tmps W g _ _ _ _ hp hg Tryz.underlying129 rfl infoRC) hd hR
theorem rc_one (A1 A2 A3 A4 A5:Option Addr) (n1 n2 n3 n4 n5 c1 c2 c3 c4 c5:Nat) (s:Int):(#[Value.slice A1 n1 c1,.slice A2 n2 c2,.slice A3 n3 c3,.slice A4 n4 c4,.slice A5 n5 c5,.int .i64 s]:Array Value).all (·.oneCell')=true:=by simp [Value.oneCell']
theorem refOf_c {c:Int} {C:Crv} (hC:IsC c C) (w:World):Calls Tryz.prog 112 #[.int .i64 c] w fun e w'=>∃ v,e=.returned v∧RC w' C v∧Ext w w':=by
 have hz:(w.alloc (.cells #[.slice none 0 0,.slice none 0 0,.slice none 0 0,.slice none 0 0,.slice none 0 0,.int .i64 0] 129)).heap[w.heap.size]?=some (.cells #[.slice none 0 0,.slice none 0 0,.slice none 0 0,.slice none 0 0,.slice none 0 0,.int .i64 0] 129 (0,0)):=heap_alloc_new w _
 rcases hC with ⟨rfl,rfl⟩ | ⟨rfl,rfl⟩
 · go_enter Tryz.func112,Tryz.ntmps112
   go_upto_region 3 with fail
   refine Par.region_txt 11 [0,1,0,7,0,31,0,127,0,511,1023,2047] [] (fun j f X=>match j with
    | 0=>∃ b,f 0=.slice (some ⟨b,0,none⟩) 4 4∧RU X (some ⟨b,0,none⟩) 4 p256p
    | 1=>∃ A1 c1,f 1=.slice A1 (digs 4294967296 (val 18446744073709551616 p256p)).length c1∧OB X w.heap.size A1 c1 (digs 4294967296 (val 18446744073709551616 p256p))
    | 2=>∃ b,f 2=.slice (some ⟨b,0,none⟩) 4 4∧RU X (some ⟨b,0,none⟩) 4 p256n
    | 3=>∃ A1 c1,f 3=.slice A1 (digs 4294967296 (val 18446744073709551616 p256n)).length c1∧OB X w.heap.size A1 c1 (digs 4294967296 (val 18446744073709551616 p256n))
    | 4=>∃ b,f 4=.slice (some ⟨b,0,none⟩) 4 4∧RU X (some ⟨b,0,none⟩) 4 p256b
    | 5=>∃ A1 c1,f 5=.slice A1 (digs 4294967296 (val 18446744073709551616 p256b)).length c1∧OB X w.heap.size A1 c1 (digs 4294967296 (val 18446744073709551616 p256b))
    | 6=>∃ b,f 6=.slice (some ⟨b,0,none⟩) 4 4∧RU X (some ⟨b,0,none⟩) 4 p256x
    | 7=>∃ A1 c1,f 7=.slice A1 (digs 4294967296 (val 18446744073709551616 p256x)).length c1∧OB X w.heap.size A1 c1 (digs 4294967296 (val 18446744073709551616 p256x))
    | 8=>∃ b,f 8=.slice (some ⟨b,0,none⟩) 4 4∧RU X (some ⟨b,0,none⟩) 4 p256y
    | 9=>∃ A1 c1,f 9=.slice A1 (digs 4294967296 (val 18446744073709551616 p256y)).length c1∧OB X w.heap.size A1 c1 (digs 4294967296 (val 18446744073709551616 p256y))
    | 10=>f 10=.agg #[f 1,f 3,f 5,f 7,f 9,.int .i64 32]
    | _=>True) (by kernel_rfl) [(6,0),(7,1),(8,2),(9,3),(10,4),(11,5),(12,6),(13,7),(14,8),(15,9),(16,10)] (by kernel_rfl) ?_
   refine Par.S 1 10 [(8,2),(10,4),(12,6),(14,8)] (fun f X hX hR K hK=>?_) ?_
   · simp only [yA,yB,yC,yD,yE]
     refine ⟨?_⟩
     go_simp
     exact hK.out _ (.slice (some ⟨X.heap.size,0,none⟩) 4 4) _ (by simp only [yA,yB,yC,yD,yE]) (Ext.alloc _ _) trivial (fun Y hY=>⟨X.heap.size,rfl,((RN.lits X p256p ⟨by decide,by decide⟩).mono (fun b hb=>by rw [World.size_alloc];exact hb.2)).up hY⟩)
   refine Par.c0 2 9 (fun f=>#[f 0]) (F':=153) (fun f X hX hR=>?_) ?_
   · obtain ⟨b0,(e0:f 0=_),h0⟩:=hR.out 0 rfl
     simp only [e0]
     refine (from_any _ (some ⟨b0,0,none⟩) 4 p256p X h0 (fun _ hb=>hb) (by decide)).mono ?_
     rintro e w2 ⟨A1,c1,rfl,hO,hB⟩
     exact ⟨(.slice A1 (digs 4294967296 (val 18446744073709551616 p256p)).length c1),rfl,hB,fun Y hY=>⟨A1,c1,rfl,(hO.mono (Nat.le_trans (Ext.alloc w _).bsize hX.bsize)).below hY (Nat.le_refl _)⟩⟩
   refine Par.S 3 8 [(6,0),(7,1),(10,4),(12,6),(14,8)] (fun f X hX hR K hK=>?_) ?_
   · simp only [yA,yB,yC,yD,yE]
     refine ⟨?_⟩
     go_simp
     exact hK.out _ (.slice (some ⟨X.heap.size,0,none⟩) 4 4) _ (by simp only [yA,yB,yC,yD,yE]) (Ext.alloc _ _) trivial (fun Y hY=>⟨X.heap.size,rfl,((RN.lits X p256n ⟨by decide,by decide⟩).mono (fun b hb=>by rw [World.size_alloc];exact hb.2)).up hY⟩)
   refine Par.c0 4 7 (fun f=>#[f 2]) (F':=153) (fun f X hX hR=>?_) ?_
   · obtain ⟨b2,(e2:f 2=_),h2⟩:=hR.out 2 rfl
     simp only [e2]
     refine (from_any _ (some ⟨b2,0,none⟩) 4 p256n X h2 (fun _ hb=>hb) (by decide)).mono ?_
     rintro e w2 ⟨A1,c1,rfl,hO,hB⟩
     exact ⟨(.slice A1 (digs 4294967296 (val 18446744073709551616 p256n)).length c1),rfl,hB,fun Y hY=>⟨A1,c1,rfl,(hO.mono (Nat.le_trans (Ext.alloc w _).bsize hX.bsize)).below hY (Nat.le_refl _)⟩⟩
   refine Par.S 5 6 [(6,0),(7,1),(8,2),(9,3),(12,6),(14,8)] (fun f X hX hR K hK=>?_) ?_
   · simp only [yA,yB,yC,yD,yE]
     refine ⟨?_⟩
     go_simp
     exact hK.out _ (.slice (some ⟨X.heap.size,0,none⟩) 4 4) _ (by simp only [yA,yB,yC,yD,yE]) (Ext.alloc _ _) trivial (fun Y hY=>⟨X.heap.size,rfl,((RN.lits X p256b ⟨by decide,by decide⟩).mono (fun b hb=>by rw [World.size_alloc];exact hb.2)).up hY⟩)
   refine Par.c0 6 5 (fun f=>#[f 4]) (F':=153) (fun f X hX hR=>?_) ?_
   · obtain ⟨b4,(e4:f 4=_),h4⟩:=hR.out 4 rfl
     simp only [e4]
     refine (from_any _ (some ⟨b4,0,none⟩) 4 p256b X h4 (fun _ hb=>hb) (by decide)).mono ?_
     rintro e w2 ⟨A1,c1,rfl,hO,hB⟩
     exact ⟨(.slice A1 (digs 4294967296 (val 18446744073709551616 p256b)).length c1),rfl,hB,fun Y hY=>⟨A1,c1,rfl,(hO.mono (Nat.le_trans (Ext.alloc w _).bsize hX.bsize)).below hY (Nat.le_refl _)⟩⟩
   refine Par.S 7 4 [(6,0),(7,1),(8,2),(9,3),(10,4),(11,5),(14,8)] (fun f X hX hR K hK=>?_) ?_
   · simp only [yA,yB,yC,yD,yE]
     refine ⟨?_⟩
     go_simp
     exact hK.out _ (.slice (some ⟨X.heap.size,0,none⟩) 4 4) _ (by simp only [yA,yB,yC,yD,yE]) (Ext.alloc _ _) trivial (fun Y hY=>⟨X.heap.size,rfl,((RN.lits X p256x ⟨by decide,by decide⟩).mono (fun b hb=>by rw [World.size_alloc];exact hb.2)).up hY⟩)
   refine Par.c0 8 3 (fun f=>#[f 6]) (F':=153) (fun f X hX hR=>?_) ?_
   · obtain ⟨b6,(e6:f 6=_),h6⟩:=hR.out 6 rfl
     simp only [e6]
     refine (from_any _ (some ⟨b6,0,none⟩) 4 p256x X h6 (fun _ hb=>hb) (by decide)).mono ?_
     rintro e w2 ⟨A1,c1,rfl,hO,hB⟩
     exact ⟨(.slice A1 (digs 4294967296 (val 18446744073709551616 p256x)).length c1),rfl,hB,fun Y hY=>⟨A1,c1,rfl,(hO.mono (Nat.le_trans (Ext.alloc w _).bsize hX.bsize)).below hY (Nat.le_refl _)⟩⟩
   refine Par.S 9 2 [(6,0),(7,1),(8,2),(9,3),(10,4),(11,5),(12,6),(13,7)] (fun f X hX hR K hK=>?_) ?_
   · simp only [yA,yB,yC,yD,yE]
     refine ⟨?_⟩
     go_simp
     exact hK.out _ (.slice (some ⟨X.heap.size,0,none⟩) 4 4) _ (by simp only [yA,yB,yC,yD,yE]) (Ext.alloc _ _) trivial (fun Y hY=>⟨X.heap.size,rfl,((RN.lits X p256y ⟨by decide,by decide⟩).mono (fun b hb=>by rw [World.size_alloc];exact hb.2)).up hY⟩)
   refine Par.c0 10 1 (fun f=>#[f 8]) (F':=153) (fun f X hX hR=>?_) ?_
   · obtain ⟨b8,(e8:f 8=_),h8⟩:=hR.out 8 rfl
     simp only [e8]
     refine (from_any _ (some ⟨b8,0,none⟩) 4 p256y X h8 (fun _ hb=>hb) (by decide)).mono ?_
     rintro e w2 ⟨A1,c1,rfl,hO,hB⟩
     exact ⟨(.slice A1 (digs 4294967296 (val 18446744073709551616 p256y)).length c1),rfl,hB,fun Y hY=>⟨A1,c1,rfl,(hO.mono (Nat.le_trans (Ext.alloc w _).bsize hX.bsize)).below hY (Nat.le_refl _)⟩⟩
   refine Par.S 11 0 [(6,0),(7,1),(8,2),(9,3),(10,4),(11,5),(12,6),(13,7),(14,8),(15,9)] (fun f X hX hR K hK=>?_) ?_
   · obtain ⟨A1,c1,(e1:f 1=_),o1⟩:=hR.out 1 rfl
     obtain ⟨A3,c3,(e3:f 3=_),o3⟩:=hR.out 3 rfl
     obtain ⟨A5,c5,(e5:f 5=_),o5⟩:=hR.out 5 rfl
     obtain ⟨A7,c7,(e7:f 7=_),o7⟩:=hR.out 7 rfl
     obtain ⟨A9,c9,(e9:f 9=_),o9⟩:=hR.out 9 rfl
     simp only [yA,yB,yC,yD,yE,e1,e3,e5,e7,e9]
     refine ⟨?_⟩
     go_simp
     exact hK.out _ (.agg #[f 1,f 3,f 5,f 7,f 9,.int .i64 32]) _ (by simp only [yA,yB,yC,yD,yE,e1,e3,e5,e7,e9]) (Ext.refl _) trivial (fun _ _=>rfl)
   refine Par.AllOps.fin ⟨fun f X hX hR hal hap=>?_⟩
   obtain ⟨b0,(e0:f 0=_),h0⟩:=hR 0 (by decide)
   obtain ⟨A1,c1,(e1:f 1=_),o1⟩:=hR 1 (by decide)
   obtain ⟨b2,(e2:f 2=_),h2⟩:=hR 2 (by decide)
   obtain ⟨A3,c3,(e3:f 3=_),o3⟩:=hR 3 (by decide)
   obtain ⟨b4,(e4:f 4=_),h4⟩:=hR 4 (by decide)
   obtain ⟨A5,c5,(e5:f 5=_),o5⟩:=hR 5 (by decide)
   obtain ⟨b6,(e6:f 6=_),h6⟩:=hR 6 (by decide)
   obtain ⟨A7,c7,(e7:f 7=_),o7⟩:=hR 7 (by decide)
   obtain ⟨b8,(e8:f 8=_),h8⟩:=hR 8 (by decide)
   obtain ⟨A9,c9,(e9:f 9=_),o9⟩:=hR 9 (by decide)
   have e10:f 10=.agg #[f 1,f 3,f 5,f 7,f 9,.int .i64 32]:=hR 10 (by decide)
   simp only [yA,yB,yD,yE,e0,e1,e2,e3,e4,e5,e6,e7,e8,e9,e10]
   clear hR hal hap e0 e1 e2 e3 e4 e5 e6 e7 e8 e9 e10
   refine Par.Chain.next (fun K hK=>⟨Par.want (by kernel_rfl) (wp_storeV 129 (.tmp 2) (.tmp 16) rfl rfl rfl rfl (hX.at_ hz) infoRC rfl (rc_one _ _ _ _ _ _ _ _ _ _ _ _ _ _ _ _) (fun Y1 g1 g2 g3=>hK.out _ _ ?_))⟩)
   refine Par.Chain.done ?_
   go_wp2
   refine end_rc rfl rfl rfl g1 ⟨_,rfl,⟨A1,A3,A5,A7,A9,c1,c3,c5,c7,c9,rfl,(o1.just g2 (hX.at_ hz) (by decide)).ru,(o3.just g2 (hX.at_ hz) (by decide)).ru,(o5.just g2 (hX.at_ hz) (by decide)).ru,(o7.just g2 (hX.at_ hz) (by decide)).ru,(o9.just g2 (hX.at_ hz) (by decide)).ru⟩,g2.ext ((Ext.alloc w _).trans hX) (Nat.le_refl _)⟩
 · go_enter Tryz.func112,Tryz.ntmps112
   go_upto_region 5 with fail
   refine Par.region_txt 11 [0,1,0,7,0,31,0,127,0,511,1023,2047] [] (fun j f X=>match j with
    | 0=>∃ b,f 0=.slice (some ⟨b,0,none⟩) 6 6∧RU X (some ⟨b,0,none⟩) 6 p384p
    | 1=>∃ A1 c1,f 1=.slice A1 (digs 4294967296 (val 18446744073709551616 p384p)).length c1∧OB X w.heap.size A1 c1 (digs 4294967296 (val 18446744073709551616 p384p))
    | 2=>∃ b,f 2=.slice (some ⟨b,0,none⟩) 6 6∧RU X (some ⟨b,0,none⟩) 6 p384n
    | 3=>∃ A1 c1,f 3=.slice A1 (digs 4294967296 (val 18446744073709551616 p384n)).length c1∧OB X w.heap.size A1 c1 (digs 4294967296 (val 18446744073709551616 p384n))
    | 4=>∃ b,f 4=.slice (some ⟨b,0,none⟩) 6 6∧RU X (some ⟨b,0,none⟩) 6 p384b
    | 5=>∃ A1 c1,f 5=.slice A1 (digs 4294967296 (val 18446744073709551616 p384b)).length c1∧OB X w.heap.size A1 c1 (digs 4294967296 (val 18446744073709551616 p384b))
    | 6=>∃ b,f 6=.slice (some ⟨b,0,none⟩) 6 6∧RU X (some ⟨b,0,none⟩) 6 p384x
    | 7=>∃ A1 c1,f 7=.slice A1 (digs 4294967296 (val 18446744073709551616 p384x)).length c1∧OB X w.heap.size A1 c1 (digs 4294967296 (val 18446744073709551616 p384x))
    | 8=>∃ b,f 8=.slice (some ⟨b,0,none⟩) 6 6∧RU X (some ⟨b,0,none⟩) 6 p384y
    | 9=>∃ A1 c1,f 9=.slice A1 (digs 4294967296 (val 18446744073709551616 p384y)).length c1∧OB X w.heap.size A1 c1 (digs 4294967296 (val 18446744073709551616 p384y))
    | 10=>f 10=.agg #[f 1,f 3,f 5,f 7,f 9,.int .i64 48]
    | _=>True) (by kernel_rfl) [(19,0),(20,1),(21,2),(22,3),(23,4),(24,5),(25,6),(26,7),(27,8),(28,9),(29,10)] (by kernel_rfl) ?_
   refine Par.S 1 10 [(21,2),(23,4),(25,6),(27,8)] (fun f X hX hR K hK=>?_) ?_
   · simp only [yA,yB,yC,yD,yE]
     refine ⟨?_⟩
     go_simp
     exact hK.out _ (.slice (some ⟨X.heap.size,0,none⟩) 6 6) _ (by simp only [yA,yB,yC,yD,yE]) (Ext.alloc _ _) trivial (fun Y hY=>⟨X.heap.size,rfl,((RN.lits X p384p ⟨by decide,by decide⟩).mono (fun b hb=>by rw [World.size_alloc];exact hb.2)).up hY⟩)
   refine Par.c0 2 9 (fun f=>#[f 0]) (F':=153) (fun f X hX hR=>?_) ?_
   · obtain ⟨b0,(e0:f 0=_),h0⟩:=hR.out 0 rfl
     simp only [e0]
     refine (from_any _ (some ⟨b0,0,none⟩) 6 p384p X h0 (fun _ hb=>hb) (by decide)).mono ?_
     rintro e w2 ⟨A1,c1,rfl,hO,hB⟩
     exact ⟨(.slice A1 (digs 4294967296 (val 18446744073709551616 p384p)).length c1),rfl,hB,fun Y hY=>⟨A1,c1,rfl,(hO.mono (Nat.le_trans (Ext.alloc w _).bsize hX.bsize)).below hY (Nat.le_refl _)⟩⟩
   refine Par.S 3 8 [(19,0),(20,1),(23,4),(25,6),(27,8)] (fun f X hX hR K hK=>?_) ?_
   · simp only [yA,yB,yC,yD,yE]
     refine ⟨?_⟩
     go_simp
     exact hK.out _ (.slice (some ⟨X.heap.size,0,none⟩) 6 6) _ (by simp only [yA,yB,yC,yD,yE]) (Ext.alloc _ _) trivial (fun Y hY=>⟨X.heap.size,rfl,((RN.lits X p384n ⟨by decide,by decide⟩).mono (fun b hb=>by rw [World.size_alloc];exact hb.2)).up hY⟩)
   refine Par.c0 4 7 (fun f=>#[f 2]) (F':=153) (fun f X hX hR=>?_) ?_
   · obtain ⟨b2,(e2:f 2=_),h2⟩:=hR.out 2 rfl
     simp only [e2]
     refine (from_any _ (some ⟨b2,0,none⟩) 6 p384n X h2 (fun _ hb=>hb) (by decide)).mono ?_
     rintro e w2 ⟨A1,c1,rfl,hO,hB⟩
     exact ⟨(.slice A1 (digs 4294967296 (val 18446744073709551616 p384n)).length c1),rfl,hB,fun Y hY=>⟨A1,c1,rfl,(hO.mono (Nat.le_trans (Ext.alloc w _).bsize hX.bsize)).below hY (Nat.le_refl _)⟩⟩
   refine Par.S 5 6 [(19,0),(20,1),(21,2),(22,3),(25,6),(27,8)] (fun f X hX hR K hK=>?_) ?_
   · simp only [yA,yB,yC,yD,yE]
     refine ⟨?_⟩
     go_simp
     exact hK.out _ (.slice (some ⟨X.heap.size,0,none⟩) 6 6) _ (by simp only [yA,yB,yC,yD,yE]) (Ext.alloc _ _) trivial (fun Y hY=>⟨X.heap.size,rfl,((RN.lits X p384b ⟨by decide,by decide⟩).mono (fun b hb=>by rw [World.size_alloc];exact hb.2)).up hY⟩)
   refine Par.c0 6 5 (fun f=>#[f 4]) (F':=153) (fun f X hX hR=>?_) ?_
   · obtain ⟨b4,(e4:f 4=_),h4⟩:=hR.out 4 rfl
     simp only [e4]
     refine (from_any _ (some ⟨b4,0,none⟩) 6 p384b X h4 (fun _ hb=>hb) (by decide)).mono ?_
     rintro e w2 ⟨A1,c1,rfl,hO,hB⟩
     exact ⟨(.slice A1 (digs 4294967296 (val 18446744073709551616 p384b)).length c1),rfl,hB,fun Y hY=>⟨A1,c1,rfl,(hO.mono (Nat.le_trans (Ext.alloc w _).bsize hX.bsize)).below hY (Nat.le_refl _)⟩⟩
   refine Par.S 7 4 [(19,0),(20,1),(21,2),(22,3),(23,4),(24,5),(27,8)] (fun f X hX hR K hK=>?_) ?_
   · simp only [yA,yB,yC,yD,yE]
     refine ⟨?_⟩
     go_simp
     exact hK.out _ (.slice (some ⟨X.heap.size,0,none⟩) 6 6) _ (by simp only [yA,yB,yC,yD,yE]) (Ext.alloc _ _) trivial (fun Y hY=>⟨X.heap.size,rfl,((RN.lits X p384x ⟨by decide,by decide⟩).mono (fun b hb=>by rw [World.size_alloc];exact hb.2)).up hY⟩)
   refine Par.c0 8 3 (fun f=>#[f 6]) (F':=153) (fun f X hX hR=>?_) ?_
   · obtain ⟨b6,(e6:f 6=_),h6⟩:=hR.out 6 rfl
     simp only [e6]
     refine (from_any _ (some ⟨b6,0,none⟩) 6 p384x X h6 (fun _ hb=>hb) (by decide)).mono ?_
     rintro e w2 ⟨A1,c1,rfl,hO,hB⟩
     exact ⟨(.slice A1 (digs 4294967296 (val 18446744073709551616 p384x)).length c1),rfl,hB,fun Y hY=>⟨A1,c1,rfl,(hO.mono (Nat.le_trans (Ext.alloc w _).bsize hX.bsize)).below hY (Nat.le_refl _)⟩⟩
   refine Par.S 9 2 [(19,0),(20,1),(21,2),(22,3),(23,4),(24,5),(25,6),(26,7)] (fun f X hX hR K hK=>?_) ?_
   · simp only [yA,yB,yC,yD,yE]
     refine ⟨?_⟩
     go_simp
     exact hK.out _ (.slice (some ⟨X.heap.size,0,none⟩) 6 6) _ (by simp only [yA,yB,yC,yD,yE]) (Ext.alloc _ _) trivial (fun Y hY=>⟨X.heap.size,rfl,((RN.lits X p384y ⟨by decide,by decide⟩).mono (fun b hb=>by rw [World.size_alloc];exact hb.2)).up hY⟩)
   refine Par.c0 10 1 (fun f=>#[f 8]) (F':=153) (fun f X hX hR=>?_) ?_
   · obtain ⟨b8,(e8:f 8=_),h8⟩:=hR.out 8 rfl
     simp only [e8]
     refine (from_any _ (some ⟨b8,0,none⟩) 6 p384y X h8 (fun _ hb=>hb) (by decide)).mono ?_
     rintro e w2 ⟨A1,c1,rfl,hO,hB⟩
     exact ⟨(.slice A1 (digs 4294967296 (val 18446744073709551616 p384y)).length c1),rfl,hB,fun Y hY=>⟨A1,c1,rfl,(hO.mono (Nat.le_trans (Ext.alloc w _).bsize hX.bsize)).below hY (Nat.le_refl _)⟩⟩
   refine Par.S 11 0 [(19,0),(20,1),(21,2),(22,3),(23,4),(24,5),(25,6),(26,7),(27,8),(28,9)] (fun f X hX hR K hK=>?_) ?_
   · obtain ⟨A1,c1,(e1:f 1=_),o1⟩:=hR.out 1 rfl
     obtain ⟨A3,c3,(e3:f 3=_),o3⟩:=hR.out 3 rfl
     obtain ⟨A5,c5,(e5:f 5=_),o5⟩:=hR.out 5 rfl
     obtain ⟨A7,c7,(e7:f 7=_),o7⟩:=hR.out 7 rfl
     obtain ⟨A9,c9,(e9:f 9=_),o9⟩:=hR.out 9 rfl
     simp only [yA,yB,yC,yD,yE,e1,e3,e5,e7,e9]
     refine ⟨?_⟩
     go_simp
     exact hK.out _ (.agg #[f 1,f 3,f 5,f 7,f 9,.int .i64 48]) _ (by simp only [yA,yB,yC,yD,yE,e1,e3,e5,e7,e9]) (Ext.refl _) trivial (fun _ _=>rfl)
   refine Par.AllOps.fin ⟨fun f X hX hR hal hap=>?_⟩
   obtain ⟨b0,(e0:f 0=_),h0⟩:=hR 0 (by decide)
   obtain ⟨A1,c1,(e1:f 1=_),o1⟩:=hR 1 (by decide)
   obtain ⟨b2,(e2:f 2=_),h2⟩:=hR 2 (by decide)
   obtain ⟨A3,c3,(e3:f 3=_),o3⟩:=hR 3 (by decide)
   obtain ⟨b4,(e4:f 4=_),h4⟩:=hR 4 (by decide)
   obtain ⟨A5,c5,(e5:f 5=_),o5⟩:=hR 5 (by decide)
   obtain ⟨b6,(e6:f 6=_),h6⟩:=hR 6 (by decide)
   obtain ⟨A7,c7,(e7:f 7=_),o7⟩:=hR 7 (by decide)
   obtain ⟨b8,(e8:f 8=_),h8⟩:=hR 8 (by decide)
   obtain ⟨A9,c9,(e9:f 9=_),o9⟩:=hR 9 (by decide)
   have e10:f 10=.agg #[f 1,f 3,f 5,f 7,f 9,.int .i64 48]:=hR 10 (by decide)
   simp only [yA,yB,yD,yE,e0,e1,e2,e3,e4,e5,e6,e7,e8,e9,e10]
   clear hR hal hap e0 e1 e2 e3 e4 e5 e6 e7 e8 e9 e10
   refine Par.Chain.next (fun K hK=>⟨Par.want (by kernel_rfl) (wp_storeV 129 (.tmp 2) (.tmp 29) rfl rfl rfl rfl (hX.at_ hz) infoRC rfl (rc_one _ _ _ _ _ _ _ _ _ _ _ _ _ _ _ _) (fun Y1 g1 g2 g3=>hK.out _ _ ?_))⟩)
   refine Par.Chain.done ?_
   go_wp2
   refine end_rc rfl rfl rfl g1 ⟨_,rfl,⟨A1,A3,A5,A7,A9,c1,c3,c5,c7,c9,rfl,(o1.just g2 (hX.at_ hz) (by decide)).ru,(o3.just g2 (hX.at_ hz) (by decide)).ru,(o5.just g2 (hX.at_ hz) (by decide)).ru,(o7.just g2 (hX.at_ hz) (by decide)).ru,(o9.just g2 (hX.at_ hz) (by decide)).ru⟩,g2.ext ((Ext.alloc w _).trans hX) (Nat.le_refl _)⟩
def decC (C:Crv) (bs:List Nat):Option (Option (Nat×Nat)) :=
 if bs=[0] then some none
 else if bs.length=1+2*C.size∧dg bs 0=4 then
  if onB C.M C.bb (numOf ((bs.drop 1).take C.size)) (numOf (bs.drop (1+C.size)))=true then some (some (numOf ((bs.drop 1).take C.size),numOf (bs.drop (1+C.size)))) else none
 else none
def PtV (w:World) (base:Nat) (v:Value):Option (Nat×Nat)→Prop
 | none=>v=infV
 | some p=>∃ A c A' c',v=.agg #[.bool false,.slice A (digs 18446744073709551616 p.1).length c,.slice A' (digs 18446744073709551616 p.2).length c']∧OB w base A c (digs 18446744073709551616 p.1)∧OB w base A' c' (digs 18446744073709551616 p.2)
theorem decode_c {c:Int} {C:Crv} (hC:IsC c C) (P:Nat→Prop) (A:Option Addr) (cap:Nat) (bs:List Nat) (w:World) (h:RB w P A cap bs) (hP:∀ b,P b→b<w.heap.size) :
 Calls Tryz.prog 95 #[.int .i64 c,.slice A bs.length cap] w fun e w'=>∃ v,e=.returned (.tuple #[v,.bool (decC C bs).isSome])∧PtV w' w.heap.size v ((decC C bs).getD none)∧Ext w w':=by
 have hF:=hC.fine
 obtain ⟨s,hs⟩:∃ s,C.size=s:=⟨_,rfl⟩
 have s1:32≤s:=by rw [←hs];exact hF.pos
 have s2:s≤48:=by rw [←hs];exact hF.small
 obtain ⟨r,hr⟩:∃ r,decC C bs=r:=⟨_,rfl⟩
 rw [hr]
 have Hr:=Lib.hid hr
 have Hs:=Lib.hid hs
 have HF:=Lib.hid hF
 obtain ⟨l1,l2,l3⟩:=h.cap
 obtain ⟨n,hn⟩:∃ n,bs.length=n:=⟨_,rfl⟩
 rw [hn] at l1 l3
 rw [hn]
 have Hn:=Lib.hid hn
 have w1:IntKind.i64.wrap (2*(s:Int))=2*s:=IntWalk.i64_in _ (by omega)
 have w2:IntKind.i64.wrap (1+2*(s:Int))=1+2*s:=IntWalk.i64_in _ (by omega)
 clear hr hs hF hn
 by_cases h1:n=1
 · subst h1
   obtain ⟨x,rfl⟩:∃ x,bs=[x]:=by
    have:=Hn.out
    match bs,this with
    | [x],_=>exact ⟨x,rfl⟩
   obtain ⟨ad,rfl,hPb,hc,hx⟩:=h.at_ (i:=0) (by simp)
   have hc0:w.cell? ad=some (.int .u8 (x:Int)):=by rwa [show ad.add 0=ad by simp [Addr.add]] at hc
   by_cases hx0:x=0
   · subst hx0
     obtain rfl:r=some none:=by rw [←Hr.out];simp [decC]
     go_enter Tryz.func95,Tryz.ntmps95
     go_wp2_with (first
      | (go_at_call 136;refine (of_c hC _).mono ?_;rintro e wa ⟨k,rfl,hk,hE1⟩;have hca:=hE1.cell ((Ext.alloc w _).cell hc0);have hrb:=hE1.at_ (heap_alloc_new w _);have hks:=hk.size;rw [Hs.out] at hks)
      | (go_at_call 137;refine (none_any _).mono ?_;rintro e wb ⟨rfl,hE2⟩;have hrb2:=hE2.at_ hrb;obtain ⟨z0,z1,z2,f0,f1,f2⟩:=pt_facts hrb2))
     exact end_pt rfl rfl rfl rfl (pt_set hrb2 _ _ _) ⟨infV,rfl,rfl,pt_ext (((Ext.alloc w _).trans hE1).trans hE2) (Nat.le_refl _) _ _ _⟩
   · have hx1:((x:Int)==0)=false:=by simp;omega
     have hx2:((1:Int) != 1+2*(s:Int))=true:=by simp;omega
     obtain rfl:r=none:=by rw [←Hr.out];simp [decC,hx0];intro h;have:=Hs.out;omega
     go_enter Tryz.func95,Tryz.ntmps95
     go_wp2_with (first
      | (go_at_call 136;refine (of_c hC _).mono ?_;rintro e wa ⟨k,rfl,hk,hE1⟩;have hca:=hE1.cell ((Ext.alloc w _).cell hc0);have hrb:=hE1.at_ (heap_alloc_new w _);have hks:=hk.size;rw [Hs.out] at hks)
      | (go_at_call 137;refine (none_any _).mono ?_;rintro e wb ⟨rfl,hE2⟩;have hrb2:=hE2.at_ hrb;obtain ⟨z0,z1,z2,f0,f1,f2⟩:=pt_facts hrb2))
     exact end_pt rfl rfl rfl rfl (pt_set hrb2 _ _ _) ⟨infV,rfl,rfl,pt_ext (((Ext.alloc w _).trans hE1).trans hE2) (Nat.le_refl _) _ _ _⟩
 · have hn1:((n:Int)==1)=false:=by simp;omega
   by_cases h2:n=1+2*s
   · obtain ⟨ad,rfl,hPb,hc,hx⟩:=h.at_ (i:=0) (by rw [Hn.out];omega)
     have hn2:((n:Int) != 1+2*(s:Int))=false:=by simp;omega
     have hn3:0<n:=by omega
     obtain ⟨x,hxe⟩:∃ x,bs[0]'(by rw [Hn.out];omega)=x:=⟨_,rfl⟩
     rw [hxe] at hc hx
     have hdx:dg bs 0=x:=by rw [dg,getD_eq' (by rw [Hn.out];omega)];exact hxe
     have hc0:w.cell? ad=some (.int .u8 (x:Int)):=by rwa [show ad.add 0=ad by simp [Addr.add]] at hc
     have Hdx:=Lib.hid hdx
     have H2:=Lib.hid h2
     clear hxe hdx h2 hc
     by_cases hx4:x=4
     · have hx1:((x:Int) != 4)=false:=by simp;omega
       go_enter Tryz.func95,Tryz.ntmps95
       go_upto_region 8 with (first
       | (go_at_call 136;refine (of_c hC _).mono ?_;rintro e wa ⟨k,rfl,hk,hE1⟩;have hca:=hE1.cell ((Ext.alloc w _).cell hc0);have hrb:=hE1.at_ (heap_alloc_new w _);have hks:=hk.size;rw [Hs.out] at hks)
       | (go_at_call 137;refine (none_any _).mono ?_;rintro e wb ⟨rfl,hE2⟩;have hrb2:=hE2.at_ hrb;obtain ⟨z0,z1,z2,f0,f1,f2⟩:=pt_facts hrb2))
       have hW:Ext w wa:=(Ext.alloc w _).trans hE1
       obtain ⟨B1,hB1⟩:∃ B1,(bs.drop 1).take s=B1:=⟨_,rfl⟩
       obtain ⟨B2,hB2⟩:∃ B2,bs.drop (1+s)=B2:=⟨_,rfl⟩
       have hlen1:B1.length=s:=by rw [←hB1,List.length_take,List.length_drop,Hn.out,H2.out];omega
       have hlen2:B2.length=s:=by rw [←hB2,List.length_drop,Hn.out,H2.out];omega
       have hr1:=Lib.hid (fun X (hX:Ext wa X)=>show RB X P (some ⟨ad.block,ad.off+1,none⟩) (cap - 1) B1 by
        have:=(h.below (hW.trans hX) hP).mid (k:=1) (m:=1+s) (c':=cap - 1) (A':=some ⟨ad.block,ad.off+1,none⟩) (by omega) (by rw [Hn.out,H2.out];omega) (by have:=H2.out;omega) (by unfold maxLen;omega) (fun _=>by simp [Addr.add])
        rw [Nat.add_sub_cancel_left,hB1] at this
        exact this)
       have hr2:=Lib.hid (fun X (hX:Ext wa X)=>show RB X P (some (ad.add (1+s))) (cap - (1+s)) B2 by
        have:=(h.below (hW.trans hX) hP).mid (k:=1+s) (m:=bs.length) (c':=cap - (1+s)) (A':=some (ad.add (1+s))) (by rw [Hn.out,H2.out];omega) (Nat.le_refl _) (by rw [Hn.out];omega) (by unfold maxLen;omega) (fun _=>rfl)
        rw [List.take_of_length_le (by rw [List.length_drop];omega),hB2] at this
        exact this)
       have hrr:decC C bs=if onB C.M C.bb (numOf B1) (numOf B2)=true then some (some (numOf B1,numOf B2)) else none:=by
        rw [decC,if_neg (fun e=>by have:=Hn.out;rw [e] at this;simp at this;omega),if_pos ⟨by have:=Hn.out;have:=Hs.out;have:=H2.out;omega,by have:=Hdx.out;omega⟩,Hs.out,hB1,hB2]
       rw [Hr.out] at hrr
       have Hrr:=Lib.hid hrr
       have L1:=Lib.hid hlen1
       have L2:=Lib.hid hlen2
       have HW:=Lib.hid hW
       have w3:IntKind.i64.wrap (1+(s:Int))=1+s:=IntWalk.i64_in _ (by omega)
       have hPw:∀ X:World,Ext wa X→∀ b,P b→b<X.heap.size:=fun X hX b hb=>Nat.lt_of_lt_of_le (hP b hb) (HW.out.trans hX).bsize
       have HPw:=Lib.hid hPw
       have c1i:1+(s:Int)≤cap:=by have:=H2.out;omega
       have c0i:(1:Int)≤1+(s:Int):=by omega
       have c4i:1+(s:Int)≤n:=by have:=H2.out;omega
       have c5i:(0:Int)≤1+(s:Int):=by omega
       have c6:¬ cap=1:=by have:=H2.out;omega
       have c7:¬ cap=1+s:=by have:=H2.out;omega
       have c1:1+s≤cap:=by have:=H2.out;omega
       have c2:(1+(s:Int)).toNat=1+s:=by omega
       have c3:n - (1+s)=s:=by have:=H2.out;omega
       have c4:1+s≤n:=by have:=H2.out;omega
       clear hlen1 hlen2 hB1 hB2 hrr hW hPw
       refine Par.region_ext (by kernel_rfl) 18 [0,0,2,6,14,30,63,127,0,0,512,1536,3584,7680,16128,32767,65535,0,262143] [17] (fun j f X=>match j with
        | 0=>f 0=.slice (some ad) n cap
        | 1=>f 1=.pointer (some ⟨k,0,none⟩)
        | 2=>f 2=.pointer (some ⟨k,0,none⟩)
        | 3=>f 3=.pointer (some ⟨k,0,none⟩)
        | 4=>f 4=.int .i64 (s:Int)
        | 5=>f 5=.int .i64 (1+(s:Int))
        | 6=>f 6=.slice (some ⟨ad.block,ad.off+1,none⟩) s (cap - 1)
        | 7=>∃ A1 k1,f 7=.slice A1 (digs 18446744073709551616 (numOf B1)).length k1∧OB X w.heap.size A1 k1 (digs 18446744073709551616 (numOf B1))
        | 8=>f 8=.slice (some ad) n cap
        | 9=>f 9=.pointer (some ⟨k,0,none⟩)
        | 10=>f 10=.pointer (some ⟨k,0,none⟩)
        | 11=>f 11=.pointer (some ⟨k,0,none⟩)
        | 12=>f 12=.int .i64 (s:Int)
        | 13=>f 13=.int .i64 (1+(s:Int))
        | 14=>f 14=.slice (some (ad.add (1+s))) s (cap - (1+s))
        | 15=>∃ A1 k1,f 15=.slice A1 (digs 18446744073709551616 (numOf B2)).length k1∧OB X w.heap.size A1 k1 (digs 18446744073709551616 (numOf B2))
        | 16=>f 16=.agg #[.bool false,f 7,f 15]
        | 17=>∃ b,f 17=.pointer (some ⟨b,0,none⟩)∧wa.heap.size≤b∧X.heap[b]?=some (.cells #[.bool false,.slice none 0 0,.slice none 0 0] 114 (0,0))
        | _=>True) (by kernel_rfl) [(42,0),(43,1),(44,2),(45,3),(46,4),(47,5),(48,6),(49,7),(50,8),(51,9),(52,10),(53,11),(54,12),(55,13),(56,14),(57,15),(58,16),(7,17)] (by kernel_rfl) ?_
       refine Par.v0 1 17 ?_
       refine Par.v0 2 16 ?_
       refine Par.v1 3 15 1 ?_
       refine Par.v1 4 14 2 ?_
       refine Par.ld1 5 13 3 hks ?_
       refine Par.S 6 12 [(42,0),(43,1),(44,2),(45,3),(46,4),(50,8),(51,9),(52,10),(53,11),(54,12),(55,13),(56,14),(7,17)] (fun f X hX hR K hK=>?_) ?_
       · have e4:f 4=_:=hR.out 4 rfl
         simp only [yA,yB,yC,yD,yE,e4]
         refine ⟨?_⟩
         go_simp
         exact Par.k hK (s:=by simp only [yA,yB,yC,yD,yE,e4])
       refine Par.S 7 11 [(42,0),(43,1),(44,2),(45,3),(46,4),(47,5),(50,8),(51,9),(52,10),(53,11),(54,12),(55,13),(56,14),(7,17)] (fun f X hX hR K hK=>?_) ?_
       · have e0:f 0=_:=hR.out 0 rfl
         have e5:f 5=_:=hR.out 5 rfl
         simp only [yA,yB,yC,yD,yE,e0,e5]
         refine ⟨?_⟩
         go_simp
         exact Par.k hK (s:=by simp only [yA,yB,yC,yD,yE,e0,e5])
       refine Par.c0 8 10 (fun f=>#[f 6]) (F':=97) (fun f X hX hR=>?_) ?_
       · have e6:f 6=_:=hR.out 6 rfl
         simp only [e6]
         have hf:=fromBytes_any P _ _ B1 X (hr1.out X hX) (HPw.out X hX) (by rw [L1.out];omega)
         rw [L1.out] at hf
         refine hf.mono ?_
         rintro e w2 ⟨A1,k1,rfl,hO,hB⟩
         exact ⟨_,rfl,hB,fun Y hY=>⟨A1,k1,rfl,(hO.mono (HW.out.trans hX).bsize).below hY (Nat.le_refl _)⟩⟩
       refine Par.v0 9 9 ?_
       refine Par.v0 10 8 ?_
       refine Par.v1 11 7 9 ?_
       refine Par.v1 12 6 10 ?_
       refine Par.ld1 13 5 11 hks ?_
       refine Par.S 14 4 [(42,0),(43,1),(44,2),(45,3),(46,4),(47,5),(48,6),(49,7),(50,8),(51,9),(52,10),(53,11),(54,12),(7,17)] (fun f X hX hR K hK=>?_) ?_
       · have e12:f 12=_:=hR.out 12 rfl
         simp only [yA,yB,yC,yD,yE,e12]
         refine ⟨?_⟩
         go_simp
         exact Par.k hK (s:=by simp only [yA,yB,yC,yD,yE,e12])
       refine Par.S 15 3 [(42,0),(43,1),(44,2),(45,3),(46,4),(47,5),(48,6),(49,7),(50,8),(51,9),(52,10),(53,11),(54,12),(55,13),(7,17)] (fun f X hX hR K hK=>?_) ?_
       · have e8:f 8=_:=hR.out 8 rfl
         have e13:f 13=_:=hR.out 13 rfl
         simp only [yA,yB,yC,yD,yE,e8,e13]
         refine ⟨?_⟩
         go_simp
         exact Par.k hK (s:=by simp only [yA,yB,yC,yD,yE,e8,e13])
       refine Par.c0 16 2 (fun f=>#[f 14]) (F':=97) (fun f X hX hR=>?_) ?_
       · have e14:f 14=_:=hR.out 14 rfl
         simp only [e14]
         have hf:=fromBytes_any P _ _ B2 X (hr2.out X hX) (HPw.out X hX) (by rw [L2.out];omega)
         rw [L2.out] at hf
         refine hf.mono ?_
         rintro e w2 ⟨A1,k1,rfl,hO,hB⟩
         exact ⟨_,rfl,hB,fun Y hY=>⟨A1,k1,rfl,(hO.mono (HW.out.trans hX).bsize).below hY (Nat.le_refl _)⟩⟩
       refine Par.S 17 1 [(42,0),(43,1),(44,2),(45,3),(46,4),(47,5),(48,6),(49,7),(50,8),(51,9),(52,10),(53,11),(54,12),(55,13),(56,14),(57,15),(7,17)] (fun f X hX hR K hK=>?_) ?_
       · obtain ⟨A7,k7,(e7:f 7=_),o7⟩:=hR.out 7 rfl
         obtain ⟨A15,k15,(e15:f 15=_),o15⟩:=hR.out 15 rfl
         simp only [yA,yB,yC,yD,yE,e7,e15]
         refine ⟨?_⟩
         go_simp
         exact hK.out _ (.agg #[.bool false,f 7,f 15]) _ (by simp only [yA,yB,yC,yD,yE,e7,e15]) (Ext.refl _) trivial (fun _ _=>rfl)
       refine Par.al 18 0 ?_
       refine Par.AllOps.fin ⟨fun f X hX hR hal hap=>?_⟩
       obtain ⟨A7,k7,(e7:f 7=_),o7⟩:=hR 7 (by decide)
       obtain ⟨A15,k15,(e15:f 15=_),o15⟩:=hR 15 (by decide)
       have e16:f 16=.agg #[.bool false,f 7,f 15]:=hR 16 (by decide)
       obtain ⟨b17,(e17:f 17=_),l17,h17⟩:=hR 17 (by decide)
       simp only [yA,yB,yD,yE,e7,e15,e16,e17]
       clear hR hal hap e7 e15 e16 e17
       refine Par.Chain.next (fun K hK=>⟨Par.want (by kernel_rfl) (wp_storeV 114 (.tmp 7) (.tmp 58) rfl rfl rfl rfl h17 infoP rfl (pt_one _ _ _ _ _ _ _) (fun Y1 g1 g2 g3=>hK.out _ _ ?_))⟩)
       refine Par.Chain.done ?_
       have hEY:Ext wa Y1:=g2.ext hX l17
       have p7:=o7.just g2 h17 (by decide)
       have p15:=o15.just g2 h17 (by decide)
       have hgl:w.heap.size<wa.heap.size:=blk_lt hrb
       have hrY:Y1.heap[w.heap.size]?=some (.cells #[.bool false,.slice none 0 0,.slice none 0 0] 114 (0,0)):=g2.at_ (by omega) (hX.at_ hrb)
       have hkY:=hk.ext hEY
       obtain ⟨m,hm⟩:∃ m,onB C.M C.bb (numOf B1) (numOf B2)=m:=⟨_,rfl⟩
       have hon:=on_c hkY HF.out _ _ A7 A15 k7 k15 _ _ false p7.rn p15.rn (fun b hb=>hb.2) (fun b hb=>hb.2)
       rw [val_digs (by omega),val_digs (by omega),hm,Bool.false_or] at hon
       have hrr:=Hrr.out
       rw [hm] at hrr
       have Hon:=Lib.hid hon
       have Hk7:=Lib.hid p7
       have Hk15:=Lib.hid p15
       have HEY:=Lib.hid (HW.out.trans hEY)
       clear hm hon Hrr g2 g3 hX o7 o15 h17 l17 hEY p7 p15 hgl hkY w1 w2 w3 c0i c1i c4i c5i c1 c2 c3 c4 c6 c7 Hr
       obtain ⟨y0,y1,y2,q0,q1,q2⟩:=pt_facts g1
       have Harm:=Lib.hid (fun wo (hEo:Ext Y1 wo)=>(⟨pt_facts (hEo.at_ hrY),pt_facts (hEo.at_ g1)⟩:_∧_))
       cases m
       · rw [if_neg (by decide)] at hrr
         subst hrr
         go_wp2_with (first
          | (go_at_call 138;refine Hon.out.mono ?_;rintro e wo ⟨rfl,hEo⟩;have hro:=hEo.at_ hrY)
          | (go_at_call 137;refine (none_any _).mono ?_;rintro e wb ⟨rfl,hE2⟩;have hrb2:=hE2.at_ hro;obtain ⟨z0,z1,z2,f0,f1,f2⟩:=pt_facts hrb2))
         exact end_pt rfl rfl rfl rfl (pt_set hrb2 _ _ _) ⟨infV,rfl,rfl,pt_ext ((HEY.out.trans hEo).trans hE2) (Nat.le_refl _) _ _ _⟩
       · rw [if_pos rfl] at hrr
         subst hrr
         go_wp2_with (go_at_call 138;refine Hon.out.mono ?_;rintro e wo ⟨rfl,hEo⟩;have hro:=hEo.at_ hrY;obtain ⟨z0,z1,z2,f0,f1,f2⟩:=pt_facts hro;obtain ⟨v0,v1,v2,u0,u1,u2⟩:=pt_facts (hEo.at_ g1))
         exact end_pt rfl rfl rfl rfl (pt_set hro _ _ _) ⟨_,rfl,⟨A7,k7,A15,k15,rfl,(Hk7.out.below hEo (Nat.le_refl _)).just (pt_just _ _ _ _ _) hro (by decide),(Hk15.out.below hEo (Nat.le_refl _)).just (pt_just _ _ _ _ _) hro (by decide)⟩,pt_ext (HEY.out.trans hEo) (Nat.le_refl _) _ _ _⟩
     · have hx1:((x:Int) != 4)=true:=by simp;omega
       obtain rfl:r=none:=by
        rw [←Hr.out,decC,if_neg (fun e=>by have:=Hn.out;rw [e] at this;simp at this;omega),if_neg (fun e=>by have:=Hdx.out;omega)]
       go_enter Tryz.func95,Tryz.ntmps95
       go_wp2_with (first
       | (go_at_call 136;refine (of_c hC _).mono ?_;rintro e wa ⟨k,rfl,hk,hE1⟩;have hca:=hE1.cell ((Ext.alloc w _).cell hc0);have hrb:=hE1.at_ (heap_alloc_new w _);have hks:=hk.size;rw [Hs.out] at hks)
       | (go_at_call 137;refine (none_any _).mono ?_;rintro e wb ⟨rfl,hE2⟩;have hrb2:=hE2.at_ hrb;obtain ⟨z0,z1,z2,f0,f1,f2⟩:=pt_facts hrb2))
       exact end_pt rfl rfl rfl rfl (pt_set hrb2 _ _ _) ⟨infV,rfl,rfl,pt_ext (((Ext.alloc w _).trans hE1).trans hE2) (Nat.le_refl _) _ _ _⟩
   · have hn2:((n:Int) != 1+2*(s:Int))=true:=by simp;omega
     obtain rfl:r=none:=by
      rw [←Hr.out,decC,if_neg (fun e=>by have:=Hn.out;rw [e] at this;simp at this;omega),if_neg (fun e=>by have:=Hn.out;have:=Hs.out;omega)]
     go_enter Tryz.func95,Tryz.ntmps95
     go_wp2_with (first
      | (go_at_call 136;refine (of_c hC _).mono ?_;rintro e wa ⟨k,rfl,hk,hE1⟩;have hrb:=hE1.at_ (heap_alloc_new w _);have hks:=hk.size;rw [Hs.out] at hks)
      | (go_at_call 137;refine (none_any _).mono ?_;rintro e wb ⟨rfl,hE2⟩;have hrb2:=hE2.at_ hrb;obtain ⟨z0,z1,z2,f0,f1,f2⟩:=pt_facts hrb2))
     exact end_pt rfl rfl rfl rfl (pt_set hrb2 _ _ _) ⟨infV,rfl,rfl,pt_ext (((Ext.alloc w _).trans hE1).trans hE2) (Nat.le_refl _) _ _ _⟩
def RPt (w:World) (base:Nat) (v:Value):Option (Nat×Nat)→Prop
 | none=>v=infV
 | some p=>∃ A c A' c',v=.agg #[.bool false,.slice A (digs 4294967296 p.1).length c,.slice A' (digs 4294967296 p.2).length c']∧OB w base A c (digs 4294967296 p.1)∧OB w base A' c' (digs 4294967296 p.2)
theorem end_rp {fn:Func} {R:Ending→World→Prop} {a:Act} {W:World} {p u:Tmp} {g:Nat} {ty:TypeId} {fr:Nat×Nat} {x0 x1 x2 v:Value} (hr:fn.results=#[.cell p 92,.tmp u]) (hp:a.tmps.getD p undef=.pointer (some ⟨g,0,none⟩)) (hu:a.tmps.getD u undef=v) (hd:a.defers=[])
 (hg:W.heap[g]?=some (.cells #[x0,x1,x2] ty fr)) (hR:R (.returned (.tuple #[.agg #[x0,x1,x2],v])) W):bodyPost Tryz.prog fn R .ret a W:=by
 refine bodyPost_ret (v:=.tuple #[.agg #[x0,x1,x2],v]) ?_ hd hR
 rw [results_cell_tmp hr,hp]
 have h1:(asAddr (.pointer (some ⟨g,0,none⟩)):Sem Addr).run Tryz.prog W=.ok ⟨g,0,none⟩ W:=rfl
 rw [h1,Result.andThen_ok,run_loadVar_row W g ty 92 #[x0,x1,x2] fr _ hg Tryz.underlying92 rfl infoRP,Result.andThen_ok,hu]
theorem two_at (w:World) (o1 o2:Obj):((w.alloc o1).alloc o2).heap[w.heap.size]?=some o1∧((w.alloc o1).alloc o2).heap[w.heap.size+1]?=some o2∧((w.alloc o1).alloc o2).heap.size=w.heap.size+2 :=
 ⟨(Ext.alloc _ _).at_ (heap_alloc_new w _),by have:=heap_alloc_new (w.alloc o1) o2;rwa [World.size_alloc] at this,by simp⟩
theorem refDecode_any {C:Crv} {v:Value} (hF:C.Fine) (P:Nat→Prop) (A:Option Addr) (cap:Nat) (bs:List Nat) (w:World) (hc:RC w C v) (h:RB w P A cap bs) (hP:∀ b,P b→b<w.heap.size) :
 Calls Tryz.prog 113 #[v,.slice A bs.length cap] w fun e w'=>∃ u,e=.returned (.tuple #[u,.bool (decC C bs).isSome])∧RPt w' w.heap.size u ((decC C bs).getD none)∧Ext w w':=by
 have hcv:=hc
 obtain ⟨Ap,An,Ab,Ax,Ay,cp,cn,cb,cx,cy,rfl,hc1,hc2,hc3,hc4,hc5⟩:=hc
 obtain ⟨s,hs⟩:∃ s,C.size=s:=⟨_,rfl⟩
 have s1:32≤s:=by rw [←hs];exact hF.pos
 have s2:s≤48:=by rw [←hs];exact hF.small
 have hs0:((s:Int)==0)=false:=by simp;omega
 obtain ⟨r,hr⟩:∃ r,decC C bs=r:=⟨_,rfl⟩
 rw [hr,hs]
 rw [hs] at hcv
 have Hr:=Lib.hid hr
 have Hs:=Lib.hid hs
 have HF:=Lib.hid hF
 have Hcv:=Lib.hid hcv
 obtain ⟨l1,l2,l3⟩:=h.cap
 obtain ⟨n,hn⟩:∃ n,bs.length=n:=⟨_,rfl⟩
 rw [hn] at l1 l3
 rw [hn]
 have Hn:=Lib.hid hn
 have w1:IntKind.i64.wrap (2*(s:Int))=2*s:=IntWalk.i64_in _ (by omega)
 have w2:IntKind.i64.wrap (2*(s:Int)+1)=2*s+1:=IntWalk.i64_in _ (by omega)
 clear hr hs hF hn hcv
 by_cases h1:n=1
 · subst h1
   obtain ⟨x,rfl⟩:∃ x,bs=[x]:=by
    have:=Hn.out
    match bs,this with
    | [x],_=>exact ⟨x,rfl⟩
   obtain ⟨ad,rfl,hPb,hc,hx⟩:=h.at_ (i:=0) (by simp)
   have hc0:w.cell? ad=some (.int .u8 (x:Int)):=by rwa [show ad.add 0=ad by simp [Addr.add]] at hc
   have hlt:=hP _ hPb
   have hc2':=((Ext.alloc w (.cells #[.slice Ap (digs 4294967296 C.M).length cp,.slice An (digs 4294967296 (val 18446744073709551616 C.nl)).length cn,.slice Ab (digs 4294967296 C.bb).length cb,.slice Ax (digs 4294967296 (val 18446744073709551616 C.xl)).length cx,.slice Ay (digs 4294967296 (val 18446744073709551616 C.yl)).length cy,.int .i64 (s:Int)] 129)).trans (Ext.alloc _ (.cells #[.bool false,.slice none 0 0,.slice none 0 0] 92))).cell hc0
   by_cases hx0:x=0
   · subst hx0
     obtain rfl:r=some none:=by rw [←Hr.out];simp [decC]
     go_enter Tryz.func113,Tryz.ntmps113
     go_wp2
     exact end_rp rfl rfl rfl rfl (by have:=heap_alloc_new (w.alloc (.cells #[.slice Ap (digs 4294967296 C.M).length cp,.slice An (digs 4294967296 (val 18446744073709551616 C.nl)).length cn,.slice Ab (digs 4294967296 C.bb).length cb,.slice Ax (digs 4294967296 (val 18446744073709551616 C.xl)).length cx,.slice Ay (digs 4294967296 (val 18446744073709551616 C.yl)).length cy,.int .i64 (s:Int)] 129)) (.cells #[.bool true,.slice none 0 0,.slice none 0 0] 92);rwa [World.size_alloc] at this) ⟨infV,rfl,rfl,(Ext.alloc _ _).trans (Ext.alloc _ _)⟩
   · have hx1:((x:Int)==0)=false:=by simp;omega
     have hx2:((1:Int) != 2*(s:Int)+1)=true:=by simp;omega
     obtain rfl:r=none:=by rw [←Hr.out];simp [decC,hx0];intro h;have:=Hs.out;omega
     go_enter Tryz.func113,Tryz.ntmps113
     go_wp2
     exact end_rp rfl rfl rfl rfl (by have:=heap_alloc_new (w.alloc (.cells #[.slice Ap (digs 4294967296 C.M).length cp,.slice An (digs 4294967296 (val 18446744073709551616 C.nl)).length cn,.slice Ab (digs 4294967296 C.bb).length cb,.slice Ax (digs 4294967296 (val 18446744073709551616 C.xl)).length cx,.slice Ay (digs 4294967296 (val 18446744073709551616 C.yl)).length cy,.int .i64 (s:Int)] 129)) (.cells #[.bool true,.slice none 0 0,.slice none 0 0] 92);rwa [World.size_alloc] at this) ⟨infV,rfl,rfl,(Ext.alloc _ _).trans (Ext.alloc _ _)⟩
 · have hn1:((n:Int)==1)=false:=by simp;omega
   by_cases h2:n=1+2*s
   · obtain ⟨ad,rfl,hPb,hc,hx⟩:=h.at_ (i:=0) (by rw [Hn.out];omega)
     have hn2:((n:Int) != 2*(s:Int)+1)=false:=by simp;omega
     have hn3:0<n:=by omega
     obtain ⟨x,hxe⟩:∃ x,bs[0]'(by rw [Hn.out];omega)=x:=⟨_,rfl⟩
     rw [hxe] at hc hx
     have hdx:dg bs 0=x:=by rw [dg,getD_eq' (by rw [Hn.out];omega)];exact hxe
     have hc0:w.cell? ad=some (.int .u8 (x:Int)):=by rwa [show ad.add 0=ad by simp [Addr.add]] at hc
     have hlt:=hP _ hPb
     have hc2':=((Ext.alloc w (.cells #[.slice Ap (digs 4294967296 C.M).length cp,.slice An (digs 4294967296 (val 18446744073709551616 C.nl)).length cn,.slice Ab (digs 4294967296 C.bb).length cb,.slice Ax (digs 4294967296 (val 18446744073709551616 C.xl)).length cx,.slice Ay (digs 4294967296 (val 18446744073709551616 C.yl)).length cy,.int .i64 (s:Int)] 129)).trans (Ext.alloc _ (.cells #[.bool false,.slice none 0 0,.slice none 0 0] 92))).cell hc0
     have Hdx:=Lib.hid hdx
     have H2:=Lib.hid h2
     clear hxe hdx h2 hc
     by_cases hx4:x=4
     · have hx1:((x:Int) != 4)=false:=by simp;omega
       obtain ⟨cvv,hcvv⟩:∃ cvv,cvv=Value.agg #[.slice Ap (digs 4294967296 C.M).length cp,.slice An (digs 4294967296 (val 18446744073709551616 C.nl)).length cn,.slice Ab (digs 4294967296 C.bb).length cb,.slice Ax (digs 4294967296 (val 18446744073709551616 C.xl)).length cx,.slice Ay (digs 4294967296 (val 18446744073709551616 C.yl)).length cy,.int .i64 (s:Int)]:=⟨_,rfl⟩
       rw [←hcvv] at Hcv
       have HV:=Lib.hid hcvv
       clear hcvv
       go_enter Tryz.func113,Tryz.ntmps113
       go_upto_region 7 with fail
       obtain ⟨W0,hW0⟩:∃ W0,W0=(w.alloc (.cells #[.slice Ap (digs 4294967296 C.M).length cp,.slice An (digs 4294967296 (val 18446744073709551616 C.nl)).length cn,.slice Ab (digs 4294967296 C.bb).length cb,.slice Ax (digs 4294967296 (val 18446744073709551616 C.xl)).length cx,.slice Ay (digs 4294967296 (val 18446744073709551616 C.yl)).length cy,.int .i64 (s:Int)] 129)).alloc (.cells #[.bool false,.slice none 0 0,.slice none 0 0] 92):=⟨_,rfl⟩
       rw [←hW0]
       obtain ⟨hcb,hrb,hz0⟩:=two_at w (.cells #[.slice Ap (digs 4294967296 C.M).length cp,.slice An (digs 4294967296 (val 18446744073709551616 C.nl)).length cn,.slice Ab (digs 4294967296 C.bb).length cb,.slice Ax (digs 4294967296 (val 18446744073709551616 C.xl)).length cx,.slice Ay (digs 4294967296 (val 18446744073709551616 C.yl)).length cy,.int .i64 (s:Int)] 129) (.cells #[.bool false,.slice none 0 0,.slice none 0 0] 92)
       have hW:Ext w W0:=by rw [hW0];exact (Ext.alloc _ _).trans (Ext.alloc _ _)
       rw [←hW0] at hcb hrb hz0
       clear hW0 hc2'
       obtain ⟨q,hq⟩:∃ q,w.heap.size=q:=⟨_,rfl⟩
       rw [hq] at hcb hrb hz0 ⊢
       have Hq:=Lib.hid hq
       have Hz0:=Lib.hid hz0
       clear hq hz0
       have hks:W0.cell? ⟨q,5,none⟩=some (.int .i64 (s:Int)):=blk_cell hcb 5
       obtain ⟨B1,hB1⟩:∃ B1,(bs.drop 1).take s=B1:=⟨_,rfl⟩
       obtain ⟨B2,hB2⟩:∃ B2,bs.drop (1+s)=B2:=⟨_,rfl⟩
       have hlen1:B1.length=s:=by rw [←hB1,List.length_take,List.length_drop,Hn.out,H2.out];omega
       have hlen2:B2.length=s:=by rw [←hB2,List.length_drop,Hn.out,H2.out];omega
       have hr1:=Lib.hid (fun X (hX:Ext W0 X)=>show RB X P (some ⟨ad.block,ad.off+1,none⟩) (cap - 1) B1 by
        have:=(h.below (hW.trans hX) hP).mid (k:=1) (m:=1+s) (c':=cap - 1) (A':=some ⟨ad.block,ad.off+1,none⟩) (by omega) (by rw [Hn.out,H2.out];omega) (by have:=H2.out;omega) (by unfold maxLen;omega) (fun _=>by simp [Addr.add])
        rw [Nat.add_sub_cancel_left,hB1] at this
        exact this)
       have hr2:=Lib.hid (fun X (hX:Ext W0 X)=>show RB X P (some (ad.add (1+s))) (cap - (1+s)) B2 by
        have:=(h.below (hW.trans hX) hP).mid (k:=1+s) (m:=bs.length) (c':=cap - (1+s)) (A':=some (ad.add (1+s))) (by rw [Hn.out,H2.out];omega) (Nat.le_refl _) (by rw [Hn.out];omega) (by unfold maxLen;omega) (fun _=>rfl)
        rw [List.take_of_length_le (by rw [List.length_drop];omega),hB2] at this
        exact this)
       have hrr:decC C bs=if onB C.M C.bb (numOf B1) (numOf B2)=true then some (some (numOf B1,numOf B2)) else none:=by
        rw [decC,if_neg (fun e=>by have:=Hn.out;rw [e] at this;simp at this;omega),if_pos ⟨by have:=Hn.out;have:=Hs.out;have:=H2.out;omega,by have:=Hdx.out;omega⟩,Hs.out,hB1,hB2]
       rw [Hr.out] at hrr
       have Hrr:=Lib.hid hrr
       have L1:=Lib.hid hlen1
       have L2:=Lib.hid hlen2
       have HW:=Lib.hid hW
       have w3:IntKind.i64.wrap (1+(s:Int))=1+s:=IntWalk.i64_in _ (by omega)
       have hPw:∀ X:World,Ext W0 X→∀ b,P b→b<X.heap.size:=fun X hX b hb=>Nat.lt_of_lt_of_le (hP b hb) (HW.out.trans hX).bsize
       have HPw:=Lib.hid hPw
       have c1i:1+(s:Int)≤cap:=by have:=H2.out;omega
       have c0i:(1:Int)≤1+(s:Int):=by omega
       have c4i:1+(s:Int)≤n:=by have:=H2.out;omega
       have c5i:(0:Int)≤1+(s:Int):=by omega
       have c6:¬ cap=1:=by have:=H2.out;omega
       have c7:¬ cap=1+s:=by have:=H2.out;omega
       have c1:1+s≤cap:=by have:=H2.out;omega
       have c2:(1+(s:Int)).toNat=1+s:=by omega
       have c3:n - (1+s)=s:=by have:=H2.out;omega
       have c4:1+s≤n:=by have:=H2.out;omega
       have Hqw:=Lib.hid (fun X (hX:Ext W0 X)=>show q≤X.heap.size by have:=hX.bsize;have:=Hz0.out;omega)
       clear hlen1 hlen2 hB1 hB2 hrr hW hPw
       refine Par.region_ext (by kernel_rfl) 14 [0,0,2,6,15,31,0,0,128,384,960,2047,4095,0,16383] [13] (fun j f X=>match j with
        | 0=>f 0=.slice (some ad) n cap
        | 1=>f 1=.pointer (some ⟨q,5,none⟩)
        | 2=>f 2=.int .i64 (s:Int)
        | 3=>f 3=.int .i64 (1+(s:Int))
        | 4=>f 4=.slice (some ⟨ad.block,ad.off+1,none⟩) s (cap - 1)
        | 5=>∃ A1 k1,f 5=.slice A1 (digs 4294967296 (numOf B1)).length k1∧OB X q A1 k1 (digs 4294967296 (numOf B1))
        | 6=>f 6=.slice (some ad) n cap
        | 7=>f 7=.pointer (some ⟨q,5,none⟩)
        | 8=>f 8=.int .i64 (s:Int)
        | 9=>f 9=.int .i64 (1+(s:Int))
        | 10=>f 10=.slice (some (ad.add (1+s))) s (cap - (1+s))
        | 11=>∃ A1 k1,f 11=.slice A1 (digs 4294967296 (numOf B2)).length k1∧OB X q A1 k1 (digs 4294967296 (numOf B2))
        | 12=>f 12=.agg #[.bool false,f 5,f 11]
        | 13=>∃ b,f 13=.pointer (some ⟨b,0,none⟩)∧W0.heap.size≤b∧X.heap[b]?=some (.cells #[.bool false,.slice none 0 0,.slice none 0 0] 92 (0,0))
        | _=>True) (by kernel_rfl) [(35,0),(36,1),(37,2),(38,3),(39,4),(40,5),(41,6),(42,7),(43,8),(44,9),(45,10),(46,11),(47,12),(6,13)] (by kernel_rfl) ?_
       refine Par.v0 1 13 ?_
       refine Par.v0 2 12 ?_
       refine Par.ld1 3 11 1 hks ?_
       refine Par.S 4 10 [(35,0),(36,1),(37,2),(41,6),(42,7),(43,8),(44,9),(45,10),(6,13)] (fun f X hX hR K hK=>?_) ?_
       · have e2:f 2=_:=hR.out 2 rfl
         simp only [yA,yB,yC,yD,yE,e2]
         refine ⟨?_⟩
         go_simp
         exact Par.k hK (s:=by simp only [yA,yB,yC,yD,yE,e2])
       refine Par.S 5 9 [(35,0),(36,1),(37,2),(38,3),(41,6),(42,7),(43,8),(44,9),(45,10),(6,13)] (fun f X hX hR K hK=>?_) ?_
       · have e0:f 0=_:=hR.out 0 rfl
         have e3:f 3=_:=hR.out 3 rfl
         simp only [yA,yB,yC,yD,yE,e0,e3]
         refine ⟨?_⟩
         go_simp
         exact Par.k hK (s:=by simp only [yA,yB,yC,yD,yE,e0,e3])
       refine Par.c0 6 8 (fun f=>#[f 4]) (F':=124) (fun f X hX hR=>?_) ?_
       · have e4:f 4=_:=hR.out 4 rfl
         simp only [e4]
         have hf:=refFromBytes_any P _ _ B1 X (hr1.out X hX) (HPw.out X hX) (by rw [L1.out];omega)
         rw [L1.out] at hf
         refine hf.mono ?_
         rintro e w2 ⟨A1,k1,rfl,hO,hB⟩
         exact ⟨(.slice A1 (digs 4294967296 (numOf B1)).length k1),rfl,hB,fun Y hY=>⟨A1,k1,rfl,(hO.mono (Hqw.out X hX)).below hY (Nat.le_refl _)⟩⟩
       refine Par.v0 7 7 ?_
       refine Par.v0 8 6 ?_
       refine Par.ld1 9 5 7 hks ?_
       refine Par.S 10 4 [(35,0),(36,1),(37,2),(38,3),(39,4),(40,5),(41,6),(42,7),(43,8),(6,13)] (fun f X hX hR K hK=>?_) ?_
       · have e8:f 8=_:=hR.out 8 rfl
         simp only [yA,yB,yC,yD,yE,e8]
         refine ⟨?_⟩
         go_simp
         exact Par.k hK (s:=by simp only [yA,yB,yC,yD,yE,e8])
       refine Par.S 11 3 [(35,0),(36,1),(37,2),(38,3),(39,4),(40,5),(41,6),(42,7),(43,8),(44,9),(6,13)] (fun f X hX hR K hK=>?_) ?_
       · have e6:f 6=_:=hR.out 6 rfl
         have e9:f 9=_:=hR.out 9 rfl
         simp only [yA,yB,yC,yD,yE,e6,e9]
         refine ⟨?_⟩
         go_simp
         exact Par.k hK (s:=by simp only [yA,yB,yC,yD,yE,e6,e9])
       refine Par.c0 12 2 (fun f=>#[f 10]) (F':=124) (fun f X hX hR=>?_) ?_
       · have e10:f 10=_:=hR.out 10 rfl
         simp only [e10]
         have hf:=refFromBytes_any P _ _ B2 X (hr2.out X hX) (HPw.out X hX) (by rw [L2.out];omega)
         rw [L2.out] at hf
         refine hf.mono ?_
         rintro e w2 ⟨A1,k1,rfl,hO,hB⟩
         exact ⟨(.slice A1 (digs 4294967296 (numOf B2)).length k1),rfl,hB,fun Y hY=>⟨A1,k1,rfl,(hO.mono (Hqw.out X hX)).below hY (Nat.le_refl _)⟩⟩
       refine Par.S 13 1 [(35,0),(36,1),(37,2),(38,3),(39,4),(40,5),(41,6),(42,7),(43,8),(44,9),(45,10),(46,11),(6,13)] (fun f X hX hR K hK=>?_) ?_
       · obtain ⟨A7,k7,(e5:f 5=_),o7⟩:=hR.out 5 rfl
         obtain ⟨A15,k15,(e11:f 11=_),o15⟩:=hR.out 11 rfl
         simp only [yA,yB,yC,yD,yE,e5,e11]
         refine ⟨?_⟩
         go_simp
         exact hK.out _ (.agg #[.bool false,f 5,f 11]) _ (by simp only [yA,yB,yC,yD,yE,e5,e11]) (Ext.refl _) trivial (fun _ _=>rfl)
       refine Par.al 14 0 ?_
       refine Par.AllOps.fin ⟨fun f X hX hR hal hap=>?_⟩
       obtain ⟨A7,k7,(e5:f 5=_),o7⟩:=hR 5 (by decide)
       obtain ⟨A15,k15,(e11:f 11=_),o15⟩:=hR 11 (by decide)
       have e12:f 12=.agg #[.bool false,f 5,f 11]:=hR 12 (by decide)
       obtain ⟨b13,(e13:f 13=_),l13,h13⟩:=hR 13 (by decide)
       simp only [yA,yB,yD,yE,e5,e11,e12,e13]
       clear hR hal hap e5 e11 e12 e13
       refine Par.Chain.next (fun K hK=>⟨Par.want (by kernel_rfl) (wp_storeV 92 (.tmp 6) (.tmp 47) rfl rfl rfl rfl h13 infoRP rfl (pt_one _ _ _ _ _ _ _) (fun Y1 g1 g2 g3=>hK.out _ _ ?_))⟩)
       refine Par.Chain.done ?_
       have hEY:Ext W0 Y1:=g2.ext hX l13
       have p7:=o7.just g2 h13 (by decide)
       have p15:=o15.just g2 h13 (by decide)
       have hrY:Y1.heap[q+1]?=some (.cells #[.bool false,.slice none 0 0,.slice none 0 0] 92 (0,0)):=g2.at_ (by have:=Hz0.out;omega) (hX.at_ hrb)
       have hcY:Y1.heap[q]?=some (.cells #[.slice Ap (digs 4294967296 C.M).length cp,.slice An (digs 4294967296 (val 18446744073709551616 C.nl)).length cn,.slice Ab (digs 4294967296 C.bb).length cb,.slice Ax (digs 4294967296 (val 18446744073709551616 C.xl)).length cx,.slice Ay (digs 4294967296 (val 18446744073709551616 C.yl)).length cy,.int .i64 (s:Int)] 129 (0,0)):=g2.at_ (by have:=Hz0.out;omega) (hX.at_ hcb)
       obtain ⟨m,hm⟩:∃ m,onB C.M C.bb (numOf B1) (numOf B2)=m:=⟨_,rfl⟩
       have hon:=Lib.hid (fun X (hX:Ext Y1 X)=>refOn_any HF.out A7 A15 k7 k15 (numOf B1) (numOf B2) false X (Hcv.out.ext ((HW.out.trans hEY).trans hX)) (p7.ru.up hX) (p15.ru.up hX))
       have hrr:=Hrr.out
       rw [hm] at hrr
       have Hm:=Lib.hid hm
       have Hk7:=Lib.hid p7
       have Hk15:=Lib.hid p15
       have HEY:=Lib.hid (HW.out.trans hEY)
       clear hm Hrr g2 g3 hX o7 o15 h13 l13 hEY p7 p15 w1 w2 w3 c0i c1i c4i c5i c1 c2 c3 c4 c6 c7 Hr
       go_upto_region 8 with fail
       refine Par.region_txt 4 [0,0,3,7] [] (fun j f X=>match j with
        | 0=>f 0=cvv
        | 1=>f 1=.agg #[.bool false,.slice A7 (digs 4294967296 (numOf B1)).length k7,.slice A15 (digs 4294967296 (numOf B2)).length k15]
        | 2=>f 2=.bool m
        | 3=>f 3=.bool (!m)
        | _=>True) (by kernel_rfl) [(48,0),(49,1),(50,2),(51,3)] (by kernel_rfl) ?_
       refine Par.S 1 3 [(49,1)] (fun f X hX hR K hK=>?_) ?_
       · simp only [yA,yB,yC,yD,yE]
         refine ⟨Par.want (by kernel_rfl) (wp_loadV 129 (.tmp 2) rfl rfl (hX.at_ hcY) Tryz.underlying129 rfl infoRC HV.out ?_)⟩
         exact hK.out _ (cvv) _ (by simp only [yA,yB,yC,yD,yE]) (Ext.refl _) trivial (fun _ _=>rfl)
       refine Par.S 2 2 [(48,0)] (fun f X hX hR K hK=>?_) ?_
       · simp only [yA,yB,yC,yD,yE]
         refine ⟨Par.want (by kernel_rfl) (wp_loadV 92 (.tmp 6) rfl rfl (hX.at_ g1) Tryz.underlying92 rfl infoRP rfl ?_)⟩
         exact Par.k hK (s:=by simp only [yA,yB,yC,yD,yE])
       refine Par.c0 3 1 (fun f=>#[f 0,f 1]) (F':=154) (fun f X hX hR=>?_) ?_
       · have e0:f 0=_:=hR.out 0 rfl
         have e1:f 1=_:=hR.out 1 rfl
         simp only [e0,e1]
         refine (hon.out X hX).mono ?_
         rw [Bool.false_or,Hm.out]
         rintro e w2 ⟨rfl,hB⟩
         exact ⟨(.bool m),rfl,hB,fun _ _=>rfl⟩
       refine Par.v1 4 0 2 ?_
       refine Par.AllOps.fin ⟨fun f X hX hR hal hap=>?_⟩
       have e3:f 3=_:=hR 3 (by decide)
       simp only [yA,yB,yD,yE,e3]
       clear hR hal hap e3
       refine Par.Chain.done ?_
       obtain ⟨z0,z1,z2,f0,f1,f2⟩:=pt_facts (hX.at_ hrY)
       obtain ⟨v0,v1,v2,u0,u1,u2⟩:=pt_facts (hX.at_ g1)
       cases m
       · rw [if_neg (by decide)] at hrr
         subst hrr
         go_wp2
         exact end_rp rfl rfl rfl rfl (pt_set (hX.at_ hrY) _ _ _) ⟨infV,rfl,rfl,pt_ext (HEY.out.trans hX) (by have:=Hq.out;omega) _ _ _⟩
       · rw [if_pos rfl] at hrr
         subst hrr
         go_wp2
         exact end_rp rfl rfl rfl rfl (pt_set (hX.at_ hrY) _ _ _) ⟨_,rfl,⟨A7,k7,A15,k15,rfl,(by rw [Hq.out];exact (Hk7.out.below hX (Nat.le_refl _)).just (pt_just _ _ _ _ _) (hX.at_ hrY) (by decide)),(by rw [Hq.out];exact (Hk15.out.below hX (Nat.le_refl _)).just (pt_just _ _ _ _ _) (hX.at_ hrY) (by decide))⟩,pt_ext (HEY.out.trans hX) (by have:=Hq.out;omega) _ _ _⟩
     · have hx1:((x:Int) != 4)=true:=by simp;omega
       obtain rfl:r=none:=by
        rw [←Hr.out,decC,if_neg (fun e=>by have:=Hn.out;rw [e] at this;simp at this;omega),if_neg (fun e=>by have:=Hdx.out;omega)]
       go_enter Tryz.func113,Tryz.ntmps113
       go_wp2
       exact end_rp rfl rfl rfl rfl (by have:=heap_alloc_new (w.alloc (.cells #[.slice Ap (digs 4294967296 C.M).length cp,.slice An (digs 4294967296 (val 18446744073709551616 C.nl)).length cn,.slice Ab (digs 4294967296 C.bb).length cb,.slice Ax (digs 4294967296 (val 18446744073709551616 C.xl)).length cx,.slice Ay (digs 4294967296 (val 18446744073709551616 C.yl)).length cy,.int .i64 (s:Int)] 129)) (.cells #[.bool true,.slice none 0 0,.slice none 0 0] 92);rwa [World.size_alloc] at this) ⟨infV,rfl,rfl,(Ext.alloc _ _).trans (Ext.alloc _ _)⟩
   · have hn2:((n:Int) != 2*(s:Int)+1)=true:=by simp;omega
     obtain rfl:r=none:=by
      rw [←Hr.out,decC,if_neg (fun e=>by have:=Hn.out;rw [e] at this;simp at this;omega),if_neg (fun e=>by have:=Hn.out;have:=Hs.out;omega)]
     go_enter Tryz.func113,Tryz.ntmps113
     go_wp2
     exact end_rp rfl rfl rfl rfl (by have:=heap_alloc_new (w.alloc (.cells #[.slice Ap (digs 4294967296 C.M).length cp,.slice An (digs 4294967296 (val 18446744073709551616 C.nl)).length cn,.slice Ab (digs 4294967296 C.bb).length cb,.slice Ax (digs 4294967296 (val 18446744073709551616 C.xl)).length cx,.slice Ay (digs 4294967296 (val 18446744073709551616 C.yl)).length cy,.int .i64 (s:Int)] 129)) (.cells #[.bool true,.slice none 0 0,.slice none 0 0] 92);rwa [World.size_alloc] at this) ⟨infV,rfl,rfl,(Ext.alloc _ _).trans (Ext.alloc _ _)⟩
end Go.Proofs.YtendnkpiidhogaaGreat

namespace Go.Proofs.YtendnkpiidhogaaGreat
open Go.RowKit Mc
theorem mech_at (kind:Int) (w:World):Calls Tryz.prog 63 #[.int .i64 kind] w fun e w'=>e=.returned (mechOf kind).val∧Ext w w':=Mc.of_any kind w
def keyP (kind:Int):Int×Bool:=if (mechOf kind).key<0 then (0,false) else ((mechOf kind).key,true)
theorem block_any (P:Nat→Prop) (A:Option Addr) (c:Nat) (bs:List Nat) (w:World) (h:RB w P A c bs):Calls Tryz.prog 148 #[.slice A bs.length c] w fun e w'=>e=.returned (.bool (decide (bs.length=16)))∧Ext w w':=by
 obtain ⟨l1,l2,l3⟩:=h.cap
 obtain ⟨n,hn⟩:∃ n,bs.length=n:=⟨_,rfl⟩
 rw [hn] at l1 l3 ⊢
 by_cases h16:n=16
 · subst h16
   go_enter Tryz.func148,Tryz.ntmps148
   go_wp2
   go_ret
   exact ⟨rfl,Ext.refl _⟩
 · have e1:((n:Int)==16)=false:=by simp;omega
   rw [decide_eq_false h16]
   go_enter Tryz.func148,Tryz.ntmps148
   go_wp2
   go_ret
   exact ⟨rfl,Ext.refl _⟩
theorem salt_any (P:Nat→Prop) (A:Option Addr) (c:Nat) (bs:List Nat) (w:World) (h:RB w P A c bs):Calls Tryz.prog 146 #[.slice A bs.length c] w fun e w'=>e=.returned (.bool (decide (bs.length=1)))∧Ext w w':=by
 obtain ⟨l1,l2,l3⟩:=h.cap
 obtain ⟨n,hn⟩:∃ n,bs.length=n:=⟨_,rfl⟩
 rw [hn] at l1 l3 ⊢
 by_cases h16:n=1
 · subst h16
   go_enter Tryz.func146,Tryz.ntmps146
   go_wp2
   go_ret
   exact ⟨rfl,Ext.refl _⟩
 · have e1:((n:Int)==1)=false:=by simp;omega
   rw [decide_eq_false h16]
   go_enter Tryz.func146,Tryz.ntmps146
   go_wp2
   go_ret
   exact ⟨rfl,Ext.refl _⟩
theorem label_any (P:Nat→Prop) (A:Option Addr) (c:Nat) (bs:List Nat) (w:World) (h:RB w P A c bs):Calls Tryz.prog 145 #[.slice A bs.length c] w fun e w'=>e=.returned (.bool (decide (bs.length≤255)))∧Ext w w':=by
 obtain ⟨l1,l2,l3⟩:=h.cap
 obtain ⟨n,hn⟩:∃ n,bs.length=n:=⟨_,rfl⟩
 rw [hn] at l1 l3 ⊢
 obtain ⟨r,hr⟩:∃ r,decide (n≤255)=r:=⟨_,rfl⟩
 have e1:decide ((n:Int)≤255)=r:=by rw [←hr];exact decide_eq_decide.2 (by omega)
 rw [hr]
 clear hr
 go_enter Tryz.func145,Tryz.ntmps145
 go_wp2
 go_ret
 exact ⟨by simp,Ext.refl _⟩
end Go.Proofs.YtendnkpiidhogaaGreat

namespace Go.Proofs.YtendnkpiidhogaaGreat
open Go.RowKit Mc
def counterB (bs:List Nat):Bool:=decide (bs.length=17) && (decide (1≤dg bs 0) && decide (dg bs 0≤128))
def gcmB (bs:List Nat):Bool:=decide (0<bs.length) && (decide (0<dg bs 0) && decide (1+dg bs 0≤bs.length))
def somewhere (C:Crv) (bs:List Nat):Bool:=match decC C bs with | some (some _)=>true | _=>false
def pointB (bs:List Nat):Bool:=somewhere c256 bs || somewhere c384 bs
theorem counter_any (P:Nat→Prop) (A:Option Addr) (c:Nat) (bs:List Nat) (w:World) (h:RB w P A c bs):Calls Tryz.prog 149 #[.slice A bs.length c] w fun e w'=>e=.returned (.bool (counterB bs))∧Ext w w':=by
 obtain ⟨l1,l2,l3⟩:=h.cap
 obtain ⟨r,hr⟩:∃ r,counterB bs=r:=⟨_,rfl⟩
 rw [hr]
 by_cases h17:bs.length=17
 · obtain ⟨ad,rfl,hc,hx⟩:=h.dg (i:=0) (by omega)
   rw [show ad.add 0=ad by simp [Addr.add]] at hc
   obtain ⟨x,hxe⟩:∃ x,dg bs 0=x:=⟨_,rfl⟩
   rw [hxe] at hc hx
   have hr':r=(decide (1≤x) && decide (x≤128)):=by rw [←hr,counterB,h17,hxe];rfl
   have Hr:=Lib.hid hr'
   rw [h17]
   clear hr hr' hxe h17 h l1 l3
   by_cases a:1≤x
   · have a1:decide ((1:Int)≤x)=true:=decide_eq_true (by omega)
     by_cases b:x≤128
     · have b1:decide ((x:Int)≤128)=true:=decide_eq_true (by omega)
       obtain rfl:r=true:=by rw [Hr.out,decide_eq_true a,decide_eq_true b];rfl
       go_enter Tryz.func149,Tryz.ntmps149
       go_wp2
       go_ret
       exact ⟨rfl,Ext.refl _⟩
     · have b1:decide ((x:Int)≤128)=false:=decide_eq_false (by omega)
       obtain rfl:r=false:=by rw [Hr.out,decide_eq_true a,decide_eq_false b];rfl
       go_enter Tryz.func149,Tryz.ntmps149
       go_wp2
       go_ret
       exact ⟨rfl,Ext.refl _⟩
   · have a1:decide ((1:Int)≤x)=false:=decide_eq_false (by omega)
     obtain rfl:r=false:=by rw [Hr.out,decide_eq_false a];rfl
     go_enter Tryz.func149,Tryz.ntmps149
     go_wp2
     go_ret
     exact ⟨rfl,Ext.refl _⟩
 · obtain rfl:r=false:=by rw [←hr,counterB,decide_eq_false h17];rfl
   obtain ⟨n,hn⟩:∃ n,bs.length=n:=⟨_,rfl⟩
   rw [hn] at l1 l3 h17 ⊢
   have e1:((n:Int)==17)=false:=by simp;omega
   clear hr hn
   go_enter Tryz.func149,Tryz.ntmps149
   go_wp2
   go_ret
   exact ⟨rfl,Ext.refl _⟩
theorem gcm_any (P:Nat→Prop) (A:Option Addr) (c:Nat) (bs:List Nat) (w:World) (h:RB w P A c bs):Calls Tryz.prog 150 #[.slice A bs.length c] w fun e w'=>e=.returned (.bool (gcmB bs))∧Ext w w':=by
 obtain ⟨l1,l2,l3⟩:=h.cap
 obtain ⟨r,hr⟩:∃ r,gcmB bs=r:=⟨_,rfl⟩
 rw [hr]
 obtain ⟨n,hn⟩:∃ n,bs.length=n:=⟨_,rfl⟩
 by_cases h0:0<n
 · obtain ⟨ad,rfl,hc,hx⟩:=h.dg (i:=0) (by omega)
   rw [show ad.add 0=ad by simp [Addr.add]] at hc
   obtain ⟨x,hxe⟩:∃ x,dg bs 0=x:=⟨_,rfl⟩
   rw [hxe] at hc hx
   have hr':r=(decide (0<x) && decide (1+x≤n)):=by rw [←hr,gcmB,hn,hxe,decide_eq_true h0];rfl
   have Hr:=Lib.hid hr'
   rw [hn] at l1 l3 ⊢
   clear hr hr' hxe hn h
   have w1:IntKind.i64.wrap (1+(x:Int))=1+x:=IntWalk.i64_in _ (by omega)
   by_cases a:0<x
   · have a1:decide ((0:Int)<x)=true:=decide_eq_true (by omega)
     by_cases b:1+x≤n
     · have b1:decide (1+(x:Int)≤n)=true:=decide_eq_true (by omega)
       obtain rfl:r=true:=by rw [Hr.out,decide_eq_true a,decide_eq_true b];rfl
       go_enter Tryz.func150,Tryz.ntmps150
       go_wp2
       go_ret
       exact ⟨rfl,Ext.refl _⟩
     · have b1:decide (1+(x:Int)≤n)=false:=decide_eq_false (by omega)
       obtain rfl:r=false:=by rw [Hr.out,decide_eq_true a,decide_eq_false b];rfl
       go_enter Tryz.func150,Tryz.ntmps150
       go_wp2
       go_ret
       exact ⟨rfl,Ext.refl _⟩
   · obtain rfl:x=0:=by omega
     obtain rfl:r=false:=by rw [Hr.out];rfl
     go_enter Tryz.func150,Tryz.ntmps150
     go_wp2
     go_ret
     exact ⟨rfl,Ext.refl _⟩
 · obtain rfl:n=0:=by omega
   obtain rfl:r=false:=by rw [←hr,gcmB,hn];rfl
   rw [hn]
   clear hr hn
   go_enter Tryz.func150,Tryz.ntmps150
   go_wp2
   go_ret
   exact ⟨rfl,Ext.refl _⟩
theorem onM_any {k:Int} {C:Crv} (hC:IsC k C) (P:Nat→Prop) (A:Option Addr) (c:Nat) (bs:List Nat) (w:World) (h:RB w P A c bs) (hP:∀ b,P b→b<w.heap.size):Calls Tryz.prog 109 #[.int .i64 k,.slice A bs.length c] w fun e w'=>e=.returned (.bool (somewhere C bs))∧Ext w w':=by
  have hd:=decode_c hC P A c bs w h hP
  obtain ⟨r,hr⟩:∃ r,somewhere C bs=r:=⟨_,rfl⟩
  obtain ⟨n,hn⟩:∃ n,bs.length=n:=⟨_,rfl⟩
  rw [hr]
  rw [hn] at hd ⊢
  obtain ⟨d,hde⟩:∃ d,decC C bs=d:=⟨_,rfl⟩
  rw [hde] at hd
  rw [somewhere,hde] at hr
  match d,hd,hr with
  | none, hd, hr =>
    obtain rfl:r=false:=hr.symm
    have Hd:=Lib.hid hd
    clear hd hn hde h hr
    go_enter Tryz.func109,Tryz.ntmps109
    go_wp2_with fail
    refine Hd.out.mono ?_
    rintro e w1 ⟨v,rfl,hv,hB⟩
    obtain rfl:v=infV:=hv
    go_wp2
    go_ret
    exact ⟨rfl,Ext.trans hB (Ext.alloc _ _)⟩
  | some none, hd, hr =>
    obtain rfl:r=false:=hr.symm
    have Hd:=Lib.hid hd
    clear hd hn hde h hr
    go_enter Tryz.func109,Tryz.ntmps109
    go_wp2_with fail
    refine Hd.out.mono ?_
    rintro e w1 ⟨v,rfl,hv,hB⟩
    obtain rfl:v=infV:=hv
    go_wp2
    go_ret
    exact ⟨rfl,Ext.trans hB (Ext.alloc _ _)⟩
  | some (some p), hd, hr =>
    obtain rfl:r=true:=hr.symm
    have Hd:=Lib.hid hd
    clear hd hn hde h hr
    go_enter Tryz.func109,Tryz.ntmps109
    go_wp2_with fail
    refine Hd.out.mono ?_
    rintro e w1 ⟨v,rfl,hv,hB⟩
    obtain ⟨A1,c1,A2,c2,rfl,_,_⟩:=hv
    go_wp2
    go_ret
    exact ⟨rfl,Ext.trans hB (Ext.alloc _ _)⟩
theorem point_any (P:Nat→Prop) (A:Option Addr) (c:Nat) (bs:List Nat) (w:World) (h:RB w P A c bs) (hP:∀ b,P b→b<w.heap.size):Calls Tryz.prog 147 #[.slice A bs.length c] w fun e w'=>e=.returned (.bool (pointB bs))∧Ext w w':=by
 have h1:=onM_any (.inl ⟨rfl,rfl⟩) P A c bs w h hP
 have h2:=fun X (hX:Ext w X)=>onM_any (.inr ⟨rfl,rfl⟩) P A c bs X (h.below hX hP) (fun b hb=>Nat.lt_of_lt_of_le (hP b hb) hX.bsize)
 rw [pointB]
 obtain ⟨n,hn⟩:∃ n,bs.length=n:=⟨_,rfl⟩
 rw [hn] at h1 h2 ⊢
 obtain ⟨a,ha⟩:∃ a,somewhere c256 bs=a:=⟨_,rfl⟩
 obtain ⟨b,hb⟩:∃ b,somewhere c384 bs=b:=⟨_,rfl⟩
 rw [ha] at h1 ⊢
 rw [hb] at h2 ⊢
 have H1:=Lib.hid h1
 have H2:=Lib.hid h2
 clear h1 h2 hn ha hb h
 cases a
 · go_enter Tryz.func147,Tryz.ntmps147
   go_wp2_with fail
   refine H1.out.mono ?_
   rintro e w1 ⟨rfl,hB⟩
   go_wp2_with fail
   refine (H2.out w1 hB).mono ?_
   rintro e w2 ⟨rfl,hB2⟩
   go_wp2
   go_ret
   exact ⟨rfl,hB.trans hB2⟩
 · go_enter Tryz.func147,Tryz.ntmps147
   go_wp2_with fail
   refine H1.out.mono ?_
   rintro e w1 ⟨rfl,hB⟩
   go_wp2
   go_ret
   exact ⟨rfl,hB⟩
end Go.Proofs.YtendnkpiidhogaaGreat

namespace Go.Proofs.YtendnkpiidhogaaGreat
open Go.RowKit Mc
def formB (f:Nat) (bs:List Nat):Bool:=if f=145 then decide (bs.length≤255) else if f=146 then decide (bs.length=1) else if f=147 then pointB bs else if f=148 then decide (bs.length=16) else if f=149 then counterB bs else if f=150 then gcmB bs else false
def parB (kind:Int) (bs:List Nat):Bool:=if (mechOf kind).uses=0 then false else match (mechOf kind).param with | none=>decide (bs.length=0) | some f=>formB f bs
theorem mech_mem (kind:Int):mechOf kind∈mtab∨mechOf kind=⟨0,0,-1,false,none⟩:=by
 unfold mechOf
 cases h:mtab.find? fun x=>x.kind==kind with
 | none=>exact .inr rfl
 | some r=>exact .inl (List.mem_of_find?_eq_some h)
theorem mech_param (kind:Int):(mechOf kind).param=none∨(mechOf kind).param=some 145∨(mechOf kind).param=some 146∨(mechOf kind).param=some 147∨(mechOf kind).param=some 148∨(mechOf kind).param=some 149∨(mechOf kind).param=some 150:=by
 rcases mech_mem kind with h | h
 · have:∀ r∈mtab,r.param=none∨r.param=some 145∨r.param=some 146∨r.param=some 147∨r.param=some 148∨r.param=some 149∨r.param=some 150:=by decide
   exact this _ h
 · rw [h];exact .inl rfl
theorem param_g (kind:Int) (P:Nat→Prop) (A:Option Addr) (c:Nat) (bs:List Nat) (w:World) (hb:RB w P A c bs) (hP:∀ b,P b→b<w.heap.size) :
 Calls Tryz.prog 60 #[.agg #[.int .i64 kind,.slice A bs.length c]] w fun e w'=>e=.returned (.bool (parB kind bs))∧Ext w w':=by
 have h:=fun X=>mech_at kind X
 obtain ⟨r,hr⟩:∃ r,parB kind bs=r:=⟨_,rfl⟩
 rw [hr]
 have hpa:=mech_param kind
 obtain ⟨n,hn⟩:∃ n,bs.length=n:=⟨_,rfl⟩
 obtain ⟨l1,l2,l3⟩:=hb.cap
 rw [hn] at l1 l3 ⊢
 obtain ⟨k,u,y,mu,pa,hm⟩:∃ k u y mu pa,mechOf kind=⟨k,u,y,mu,pa⟩:=⟨_,_,_,_,_,rfl⟩
 by_cases hu:u=0
 · subst hu
   obtain rfl:r=false:=by rw [←hr,parB,if_pos (by rw [hm])]
   rw [hm] at h
   simp only [MRow.val] at h
   clear hr hm hpa hb
   cases pa
   all_goals
    simp only [fnv] at h
    go_enter Tryz.func60,Tryz.ntmps60
    go_wp2_with fail
    refine (h _).mono ?_
    rintro e w1 ⟨rfl,hB⟩
    have hEq:=(Ext.alloc w _).trans hB
    go_wp2
    go_ret
    exact ⟨rfl,hEq.trans (Ext.alloc _ _)⟩
 have hu0:(u==0)=false:=by simpa using hu
 have h':=h
 rw [hm] at h
 simp only [MRow.val] at h
 have hp':=hpa
 rw [hm] at hpa
 have key:∀ q,pa=q→(mechOf kind).param=q:=fun q e=>by rw [hm];exact e
 clear hp' h'
 rcases hpa with hp | hp | hp | hp | hp | hp | hp
 all_goals
  have hp':=key _ hp
 all_goals clear key
 · -- none
   change pa=none at hp
   rw [hp] at h
   have hv:r=decide (n=0):=by rw [←hr,parB,if_neg (by rw [hm];exact hu),hp',hn]
   simp only [fnv] at h
   have hnn:∀ w,Sem.run Tryz.prog (binOp .eql 83 .nilFunc .nilFunc) w=.ok (.bool true) w:=fun w=>by kernel_rfl
   have e1:((n:Int)==0)=r:=by rw [hv];by_cases e:n=0 <;> simp [e]
   clear hv hr hm hp hp' hb
   go_enter Tryz.func60,Tryz.ntmps60
   go_wp2_with fail
   refine (h _).mono ?_
   rintro e w1 ⟨rfl,hB⟩
   have hEq:=(Ext.alloc w _).trans hB
   have hcc:=hB.at_ (heap_alloc_new w _)
   have q0:=blk_cell hcc 0
   have q1:=blk_cell hcc 1
   simp only [List.getElem?_toArray,List.getElem?_cons_zero,List.getElem?_cons_succ] at q0 q1
   have hlt:=blk_lt hcc
   go_wp2
   go_ret
   exact ⟨rfl,hEq.trans (Ext.alloc _ _)⟩
 · -- label
   change pa=some _ at hp
   rw [hp] at h
   have hv:r=decide (bs.length≤255):=by rw [←hr,parB,if_neg (by rw [hm];exact hu),hp'];rfl
   have hf:=fun X (hX:Ext w X)=>label_any P A c bs X (hb.below hX hP)
   rw [←hv,hn] at hf
   have Hf:=Lib.hid hf
   simp only [fnv] at h
   have hnn:∀ w,Sem.run Tryz.prog (binOp .eql 83 (.func (.func 145) #[] #[]) .nilFunc) w=.ok (.bool false) w:=fun w=>by kernel_rfl
   clear hf hv hr hm hp hp' hb
   have HP:=Lib.hid hP
   clear hP
   go_enter Tryz.func60,Tryz.ntmps60
   go_wp2_with fail
   refine (h _).mono ?_
   rintro e w1 ⟨rfl,hB⟩
   have hEq:=(Ext.alloc w _).trans hB
   have hcc:=hB.at_ (heap_alloc_new w _)
   have q0:=blk_cell hcc 0
   have q1:=blk_cell hcc 1
   simp only [List.getElem?_toArray,List.getElem?_cons_zero,List.getElem?_cons_succ] at q0 q1
   have hlt:=blk_lt hcc
   go_wp2_with (go_at_call 145;refine (Hf.out _ (hEq.trans (Ext.alloc _ _))).mono ?_;rintro e w2 ⟨rfl,hB2⟩)
   go_ret
   exact ⟨rfl,(hEq.trans (Ext.alloc _ _)).trans hB2⟩
 · -- salt
   change pa=some _ at hp
   rw [hp] at h
   have hv:r=decide (bs.length=1):=by rw [←hr,parB,if_neg (by rw [hm];exact hu),hp'];rfl
   have hf:=fun X (hX:Ext w X)=>salt_any P A c bs X (hb.below hX hP)
   rw [←hv,hn] at hf
   have Hf:=Lib.hid hf
   simp only [fnv] at h
   have hnn:∀ w,Sem.run Tryz.prog (binOp .eql 83 (.func (.func 146) #[] #[]) .nilFunc) w=.ok (.bool false) w:=fun w=>by kernel_rfl
   clear hf hv hr hm hp hp' hb
   have HP:=Lib.hid hP
   clear hP
   go_enter Tryz.func60,Tryz.ntmps60
   go_wp2_with fail
   refine (h _).mono ?_
   rintro e w1 ⟨rfl,hB⟩
   have hEq:=(Ext.alloc w _).trans hB
   have hcc:=hB.at_ (heap_alloc_new w _)
   have q0:=blk_cell hcc 0
   have q1:=blk_cell hcc 1
   simp only [List.getElem?_toArray,List.getElem?_cons_zero,List.getElem?_cons_succ] at q0 q1
   have hlt:=blk_lt hcc
   go_wp2_with (go_at_call 146;refine (Hf.out _ (hEq.trans (Ext.alloc _ _))).mono ?_;rintro e w2 ⟨rfl,hB2⟩)
   go_ret
   exact ⟨rfl,(hEq.trans (Ext.alloc _ _)).trans hB2⟩
 · -- point
   change pa=some _ at hp
   rw [hp] at h
   have hv:r=pointB bs:=by rw [←hr,parB,if_neg (by rw [hm];exact hu),hp'];rfl
   have hf:=fun X (hX:Ext w X)=>point_any P A c bs X (hb.below hX hP) (fun b hb=>Nat.lt_of_lt_of_le (hP b hb) hX.bsize)
   rw [←hv,hn] at hf
   have Hf:=Lib.hid hf
   simp only [fnv] at h
   have hnn:∀ w,Sem.run Tryz.prog (binOp .eql 83 (.func (.func 147) #[] #[]) .nilFunc) w=.ok (.bool false) w:=fun w=>by kernel_rfl
   clear hf hv hr hm hp hp' hb
   have HP:=Lib.hid hP
   clear hP
   go_enter Tryz.func60,Tryz.ntmps60
   go_wp2_with fail
   refine (h _).mono ?_
   rintro e w1 ⟨rfl,hB⟩
   have hEq:=(Ext.alloc w _).trans hB
   have hcc:=hB.at_ (heap_alloc_new w _)
   have q0:=blk_cell hcc 0
   have q1:=blk_cell hcc 1
   simp only [List.getElem?_toArray,List.getElem?_cons_zero,List.getElem?_cons_succ] at q0 q1
   have hlt:=blk_lt hcc
   go_wp2_with (go_at_call 147;refine (Hf.out _ (hEq.trans (Ext.alloc _ _))).mono ?_;rintro e w2 ⟨rfl,hB2⟩)
   go_ret
   exact ⟨rfl,(hEq.trans (Ext.alloc _ _)).trans hB2⟩
 · -- block
   change pa=some _ at hp
   rw [hp] at h
   have hv:r=decide (bs.length=16):=by rw [←hr,parB,if_neg (by rw [hm];exact hu),hp'];rfl
   have hf:=fun X (hX:Ext w X)=>block_any P A c bs X (hb.below hX hP)
   rw [←hv,hn] at hf
   have Hf:=Lib.hid hf
   simp only [fnv] at h
   have hnn:∀ w,Sem.run Tryz.prog (binOp .eql 83 (.func (.func 148) #[] #[]) .nilFunc) w=.ok (.bool false) w:=fun w=>by kernel_rfl
   clear hf hv hr hm hp hp' hb
   have HP:=Lib.hid hP
   clear hP
   go_enter Tryz.func60,Tryz.ntmps60
   go_wp2_with fail
   refine (h _).mono ?_
   rintro e w1 ⟨rfl,hB⟩
   have hEq:=(Ext.alloc w _).trans hB
   have hcc:=hB.at_ (heap_alloc_new w _)
   have q0:=blk_cell hcc 0
   have q1:=blk_cell hcc 1
   simp only [List.getElem?_toArray,List.getElem?_cons_zero,List.getElem?_cons_succ] at q0 q1
   have hlt:=blk_lt hcc
   go_wp2_with (go_at_call 148;refine (Hf.out _ (hEq.trans (Ext.alloc _ _))).mono ?_;rintro e w2 ⟨rfl,hB2⟩)
   go_ret
   exact ⟨rfl,(hEq.trans (Ext.alloc _ _)).trans hB2⟩
 · -- counter
   change pa=some _ at hp
   rw [hp] at h
   have hv:r=counterB bs:=by rw [←hr,parB,if_neg (by rw [hm];exact hu),hp'];rfl
   have hf:=fun X (hX:Ext w X)=>counter_any P A c bs X (hb.below hX hP)
   rw [←hv,hn] at hf
   have Hf:=Lib.hid hf
   simp only [fnv] at h
   have hnn:∀ w,Sem.run Tryz.prog (binOp .eql 83 (.func (.func 149) #[] #[]) .nilFunc) w=.ok (.bool false) w:=fun w=>by kernel_rfl
   clear hf hv hr hm hp hp' hb
   have HP:=Lib.hid hP
   clear hP
   go_enter Tryz.func60,Tryz.ntmps60
   go_wp2_with fail
   refine (h _).mono ?_
   rintro e w1 ⟨rfl,hB⟩
   have hEq:=(Ext.alloc w _).trans hB
   have hcc:=hB.at_ (heap_alloc_new w _)
   have q0:=blk_cell hcc 0
   have q1:=blk_cell hcc 1
   simp only [List.getElem?_toArray,List.getElem?_cons_zero,List.getElem?_cons_succ] at q0 q1
   have hlt:=blk_lt hcc
   go_wp2_with (go_at_call 149;refine (Hf.out _ (hEq.trans (Ext.alloc _ _))).mono ?_;rintro e w2 ⟨rfl,hB2⟩)
   go_ret
   exact ⟨rfl,(hEq.trans (Ext.alloc _ _)).trans hB2⟩
 · -- gcm
   change pa=some _ at hp
   rw [hp] at h
   have hv:r=gcmB bs:=by rw [←hr,parB,if_neg (by rw [hm];exact hu),hp'];rfl
   have hf:=fun X (hX:Ext w X)=>gcm_any P A c bs X (hb.below hX hP)
   rw [←hv,hn] at hf
   have Hf:=Lib.hid hf
   simp only [fnv] at h
   have hnn:∀ w,Sem.run Tryz.prog (binOp .eql 83 (.func (.func 150) #[] #[]) .nilFunc) w=.ok (.bool false) w:=fun w=>by kernel_rfl
   clear hf hv hr hm hp hp' hb
   have HP:=Lib.hid hP
   clear hP
   go_enter Tryz.func60,Tryz.ntmps60
   go_wp2_with fail
   refine (h _).mono ?_
   rintro e w1 ⟨rfl,hB⟩
   have hEq:=(Ext.alloc w _).trans hB
   have hcc:=hB.at_ (heap_alloc_new w _)
   have q0:=blk_cell hcc 0
   have q1:=blk_cell hcc 1
   simp only [List.getElem?_toArray,List.getElem?_cons_zero,List.getElem?_cons_succ] at q0 q1
   have hlt:=blk_lt hcc
   go_wp2_with (go_at_call 150;refine (Hf.out _ (hEq.trans (Ext.alloc _ _))).mono ?_;rintro e w2 ⟨rfl,hB2⟩)
   go_ret
   exact ⟨rfl,(hEq.trans (Ext.alloc _ _)).trans hB2⟩
end Go.Proofs.YtendnkpiidhogaaGreat
