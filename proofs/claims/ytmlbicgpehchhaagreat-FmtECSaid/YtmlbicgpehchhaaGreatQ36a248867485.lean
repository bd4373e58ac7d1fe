/- FmtEC: for every curve, number, point and bytes the law answers true and leaves its arguments as they were. No condition. -/
import Derived.Test.YtmlbicgpehchhaaGreatQ032bbca82ae1
set_option maxRecDepth 100000
set_option maxHeartbeats 16000000
namespace Go.Proofs.YtmlbicgpehchhaaGreat
open Go.RowKit
def rmS (M qx qy E:Nat):Nat→Nat×Nat×Nat
 | 0=>(0,0,0)
 | k+1=>if (kC E k).2=1 then fB M (twP M (rmS M qx qy E k).1 (rmS M qx qy E k).2.1 (rmS M qx qy E k).2.2).1 (twP M (rmS M qx qy E k).1 (rmS M qx qy E k).2.1 (rmS M qx qy E k).2.2).2.1 (twP M (rmS M qx qy E k).1 (rmS M qx qy E k).2.1 (rmS M qx qy E k).2.2).2.2 qx qy else twP M (rmS M qx qy E k).1 (rmS M qx qy E k).2.1 (rmS M qx qy E k).2.2
def fg (M x y z:Nat):Option (Nat×Nat):=if z=0 then none else let iv:=(xG z M).1;let u1:=mm M iv iv;some (mm M x u1,mm M y (mm M u1 iv))
def dq (M:Nat) (bi:Bool) (qx qy E:Nat):Option (Nat×Nat):=if bi then none else fg M (rmS M qx qy E (qa E)).1 (rmS M qx qy E (qa E)).2.1 (rmS M qx qy E (qa E)).2.2
theorem mf {m:Nat} : ∀ (n s:Nat),s≤n→∀ r t u,t<m→u<m→(vL m r s t u).2<m:=by
 intro n
 induction n with
 | zero =>
  intro s hs r t u ht hu
  obtain rfl:s=0:=by omega
  rw [yh]
  exact ht
 | succ n ih =>
  intro s hs r t u ht hu
  rcases zo s with rfl | h0
  · rw [yh];exact ht
  · rw [gL (by omega)]
    exact ih (r % s) (by have:=qS r h0;omega) s u _ hu (qS _ (by omega))
theorem oQ {x m:Nat} (hm:2≤m):(xG x m).1<m:=by
 unfold xG
 split
 · exact mf (x % m) _ (zG _) _ _ _ (by omega) (by omega)
 · show 0<m
   omega
def RJB (C:Crv) (X:World) (b:Nat) (p:Nat×Nat×Nat):Prop:=∃ (A1 A2 A3:Option Addr) (c1 c2 c3:Nat),X.heap[b]?=some (.cells #[.slice A1 (digs 4294967296 p.1).length c1,.slice A2 (digs 4294967296 p.2.1).length c2,.slice A3 (digs 4294967296 p.2.2).length c3] 132 (0,0)) ∧
 RU X A1 c1 (digs 4294967296 p.1)∧RU X A2 c2 (digs 4294967296 p.2.1)∧RU X A3 c3 (digs 4294967296 p.2.2)∧p.1<C.M∧p.2.1<C.M∧p.2.2<C.M
theorem zAH {C:Crv} {ccs:Array Value} {An1:Option Addr} {cn1 E:Nat} {bi:Bool} {B1 B2:Option Addr} {m1 m2 qx qy:Nat} (hF:C.Fine) (h8:8<C.M) (w:World) (hc:RC w C (.agg ccs)) (hn:RU w An1 cn1 (digs 4294967296 E)) (hq1:RU w B1 m1 (digs 4294967296 qx)) (hq2:RU w B2 m2 (digs 4294967296 qy)) (hqx:bi=false→qx<C.M∧qy<C.M) :
 Calls Tryz.prog 39 #[.agg ccs,.slice An1 (digs 4294967296 E).length cn1,.agg #[.bool bi,.slice B1 (digs 4294967296 qx).length m1,.slice B2 (digs 4294967296 qy).length m2]] w fun e w'=>∃ o,e=.returned o∧RPU w' o (dq C.M bi qx qy E)∧Ext w w':=by
 obtain ⟨Ap,An,Ab,Ax,Ay,cp,cn,cb,cx,cy,hccs,hP,hN,hB,hX1,hY1⟩:=hc
 injection hccs with hccs
 have hRC0:RC w C (.agg ccs):=⟨Ap,An,Ab,Ax,Ay,cp,cn,cb,cx,cy,by rw [hccs],hP,hN,hB,hX1,hY1⟩
 obtain ⟨W0,hW0⟩:=eW (((w.alloc (.cells ccs 73)).alloc (.cells #[.bool bi,.slice B1 (digs 4294967296 qx).length m1,.slice B2 (digs 4294967296 qy).length m2] 32)).alloc (.cells #[.bool false,.slice none 0 0,.slice none 0 0] 32))
 obtain ⟨q,hq⟩:=eV w.heap.size
 have hE0:Ext w W0:=by rw [hW0];exact ((zR _ _).trans (zR _ _)).trans (zR _ _)
 obtain ⟨hcb,hqb,hrb,hz0⟩:=bC w (.cells ccs 73) (.cells #[.bool bi,.slice B1 (digs 4294967296 qx).length m1,.slice B2 (digs 4294967296 qy).length m2] 32) (.cells #[.bool false,.slice none 0 0,.slice none 0 0] 32)
 rw [←hW0,hq] at hcb hqb hrb hz0
 have t0:=zH hqb 0
 have cP:=zH hcb 0
 rw [hccs] at cP
 simp only [zI,zJ] at t0 cP
 have hRC:=zF (hRC0.ext hE0)
 have Hccs:=zF (show ccs.size=6 by rw [hccs];rfl)
 have HRP:=zF (zb hP hE0)
 have HX4:=zF (zb hq1 hE0)
 have HX5:=zF (zb hq2 hE0)
 have HN:=zF (zb hn hE0)
 have HF:=zF hF
 have H8:=zF h8
 have hM0:0<C.M:=by omega
 have HE0:=zF hE0
 have Hz0:=zF hz0
 clear hRC0 hccs hP hN hB hX1 hY1 hF h8 hE0 hz0 hq1 hq2 hn
 cases bi
 case true =>
  rw [show dq C.M true qx qy E=none from rfl]
  go_enter Tryz.func39,Tryz.ntmps39
  go_upto_region 1 with fail
  rw [←hW0]
  have Hq:=zF hq
  clear hW0 hq
  obtain ⟨z0,z1,z2,f0,f1,f2⟩:=qc hrb
  go_wp2
  exact yq rfl rfl rfl (kw hrb _ _ _) ⟨_,rfl,rfl,ky HE0.out (by have:=Hq.out;omega) _ _ _⟩
 case false =>
  obtain ⟨hqx1,hqy1⟩:=hqx rfl
  have hqxl:=zF hqx1
  have hqyl:=zF hqy1
  clear hqx1 hqy1 hqx
  obtain ⟨nb,hnb⟩:=eV (qa E)
  rw [show dq C.M false qx qy E=fg C.M (rmS C.M qx qy E nb).1 (rmS C.M qx qy E nb).2.1 (rmS C.M qx qy E nb).2.2 by rw [←hnb];rfl]
  have hnb2:nb≤64000000:=by
   have h1:=HN.out.cap
   rw [←hnb]
   refine zU (ww (k:=32*(digs 4294967296 E).length) ?_) (by omega)
   have:=ji (jm (B:=4294967296) (by omega) E)
   rw [z7 (by omega)] at this
   rw [vw]
   exact this
  obtain ⟨res,hres0⟩:=eV (fg C.M (rmS C.M qx qy E nb).1 (rmS C.M qx qy E nb).2.1 (rmS C.M qx qy E nb).2.2)
  rw [hres0]
  have Hres:=zF hres0
  have Hnb:=zF hnb
  clear hnb hres0
  go_enter Tryz.func39,Tryz.ntmps39
  go_upto_region 1 with fail
  rw [←hW0]
  have Hq:=zF hq
  have HW0:=zF hW0
  clear hW0 hq
  obtain ⟨b7,hb7⟩:=eV W0.heap.size
  have g7:=zN W0 (.cells #[.slice none 0 0,.slice none 0 0,.slice none 0 0] 132)
  have hA7:=zR W0 (.cells #[.slice none 0 0,.slice none 0 0,.slice none 0 0] 132)
  rw [hb7] at g7
  have hz7:(W0.alloc (.cells #[.slice none 0 0,.slice none 0 0,.slice none 0 0] 132)).heap.size=b7+1:=by rw [zu,hb7]
  go_upto_region 4 with fail
  clear t0
  generalize hW5:W0.alloc (.cells #[.slice none 0 0,.slice none 0 0,.slice none 0 0] 132)=W5 at *
  have hbits:=uF _ An1 cn1 E W5 (zb HN.out hA7)
  rw [Hnb.out] at hbits
  have Hbits:=zF hbits
  have hq7:q+3≤b7:=by have:=Hz0.out;omega
  have HE5:=zF (HE0.out.trans hA7)
  have HA7:=zF hA7
  have Hb7:=zF hb7
  have hJ0:RJB C W5 b7 (rmS C.M qx qy E 0):=⟨none,none,none,0,0,0,by rw [show rmS C.M qx qy E 0=(0,0,0) from rfl,qY];exact g7,RN.nil0 _,RN.nil0 _,RN.nil0 _,hM0,hM0,hM0⟩
  have hw0:IntKind.i64.wrap ((nb:Int) - 1)=(nb:Int) - 1:=wE _ (by omega)
  clear hbits hA7 hW5 g7 hb7
  have Hcb:=zF hcb
  have HcP:=zF cP
  have Hqb:=zF hqb
  have Hrb:=zF hrb
  clear cP
  go_wp2_with (go_at_call 92;refine Hbits.out.mono ?_;rintro e w5 ⟨rfl,rfl⟩)
  clear hw0
  go_loopw [8] (fun iv wr=>∃ (k:Nat) (z:Int),k≤nb∧iv=.int .i64 z∧z=(nb:Int) - 1 - (k:Int)∧RJB C wr b7 (rmS C.M qx qy E k)∧Below b7 W5 wr) (fun iv _=>(intOf iv+1).toNat)
  case atStart=>exact ⟨0,_,by omega,rfl,by omega,hJ0,zQ _ _⟩
  case round =>
   obtain ⟨k,z,hk,rfl,hz,hJ,hBr⟩:=hrel
   have hWr:Ext W0 wr:=kU HA7.out (Below.mono hBr (yY Hb7.out))
   have HWr:=zF hWr
   have hcw:=hWr.at_ hcb
   have hqw:=hWr.at_ hqb
   have hrw:=hWr.at_ hrb
   have hRCw:=zF (hRC.out.ext hWr)
   have HBr:=zF hBr
   clear hWr
   obtain ⟨E1,E2,E3,d1,d2,d3,hbl,g1,g2,g3,g4,g5,g6⟩:=hJ
   have hzr:=ql hbl
   by_cases hlt:k<nb
   · have k1:(0:Int)≤z:=by omega
     obtain ⟨so,hso⟩:=eV (rmS C.M qx qy E k)
     have hstep:rmS C.M qx qy E (k+1)=if (kC E k).2=1 then fB C.M (twP C.M so.1 so.2.1 so.2.2).1 (twP C.M so.1 so.2.1 so.2.2).2.1 (twP C.M so.1 so.2.1 so.2.2).2.2 qx qy else twP C.M so.1 so.2.1 so.2.2:=by rw [←hso];rfl
     have hbo:(xo E z:Nat)=(kC E k).2:=by
      rw [xo,zr (by omega),kC,Hnb.out,show z.toNat=nb - 1 - k by omega]
     have hbt2:(kC E k).2<2:=qS _ (by omega)
     rw [hso] at hbl g1 g2 g3 g4 g5 g6
     obtain ⟨bt,hbt⟩:=eV ((kC E k).2)
     rw [hbt] at hstep hbo hbt2
     have Hstep:=zF hstep
     have Hbo:=zF hbo
     have G1:=zF g1
     have G2:=zF g2
     have G3:=zF g3
     have G4:=zF g4
     have G5:=zF g5
     have G6:=zF g6
     have hzz:IntKind.i64.wrap (z - 1)=z - 1:=wE _ (by omega)
     have Hzz:=zF hzz
     have Hz:=zF hz
     clear hstep hbo g1 g2 g3 g4 g5 g6 hso hbt hz hBr hzz hcb hqb hrb hrw
     go_upto_region 7 with fail
     refine zX 3 [0,0,3,7] [] (fun j f X=>match j with
      | 0=>f 0=.agg ccs
      | 1=>f 1=.agg #[.slice E1 (digs 4294967296 so.1).length d1,.slice E2 (digs 4294967296 so.2.1).length d2,.slice E3 (digs 4294967296 so.2.2).length d3]
      | 2=>∃ o,f 2=o∧JN X C o (twP C.M so.1 so.2.1 so.2.2)
      | _=>True) (by kernel_rfl) [(22,0),(23,1),(24,2)] (by kernel_rfl) ?_
     refine lV0 1 2 hcw (by rw [Hccs.out];exact qh) ?_
     refine lV0 2 1 hbl xv ?_
     refine qC 3 0 (fun f=>#[f 0,f 1]) (F':=93) (fun f X hX hR=>?_) ?_
     · have e0:f 0=_:=hR.out 0 rfl
       have e1:f 1=_:=hR.out 1 rfl
       simp only [e0,e1]
       refine (nG (p:=so) HF.out H8.out X (hRCw.out.ext hX) ⟨E1,E2,E3,d1,d2,d3,rfl,zb G1.out hX,zb G2.out hX,zb G3.out hX,G4.out,G5.out,G6.out⟩).mono ?_
       rintro e w2 ⟨o,rfl,hj,hB⟩
       exact ⟨o,rfl,hB,fun Y hY=>⟨_,rfl,hj.ext hY⟩⟩
     refine yF ⟨fun f X hX hR hal hap=>?_⟩
     obtain ⟨vo,(e2:f 2=_),jo⟩:=hR 2 (by decide)
     simp only [yZ,e2]
     clear hR hal hap e2
     obtain ⟨D1,D2,D3,c1,c2,c3,ev,f1,f2,f3,f4,f5,f6⟩:=jo
     subst ev
     refine zZ (fun K hK=>⟨zc (by kernel_rfl) (qo (cs':=#[.slice D1 (digs 4294967296 (twP C.M so.1 so.2.1 so.2.2).1).length c1,.slice D2 (digs 4294967296 (twP C.M so.1 so.2.1 so.2.2).2.1).length c2,.slice D3 (digs 4294967296 (twP C.M so.1 so.2.1 so.2.2).2.2).length c3]) (t:=132) 132 (.tmp 7) (.tmp 24) rfl rfl rfl rfl (hX.at_ hbl) xv rfl (gZ _ _ _ _ _ _ _ _ _) (fun Y hY1 hY2 hY3=>hK.out _ _ ?_))⟩)
     refine zK ?_
     obtain ⟨tw,htw⟩:=eV (twP C.M so.1 so.2.1 so.2.2)
     rw [htw] at Hstep hY1 f1 f2 f3 f4 f5 f6
     have F1:=zF (f1.offJ hY2 (hX.at_ hbl) (by kernel_rfl))
     have F2:=zF (f2.offJ hY2 (hX.at_ hbl) (by kernel_rfl))
     have F3:=zF (f3.offJ hY2 (hX.at_ hbl) (by kernel_rfl))
     have F4:=zF f4
     have F5:=zF f5
     have F6:=zF f6
     have HB2:=zF ((HBr.out.trans (Below.mono hX (by omega))).trans (hY2.below (zG _) (by have:=hX.bsize;omega)))
     have hW2:Ext W0 Y:=kU HA7.out (Below.mono HB2.out (yY Hb7.out))
     have hbY:=hY1
     have zY:=ql hY1
     have HW2:=zF hW2
     have hbitY:=mP _ An1 cn1 E z Y (zb HN.out hW2) (by have:=Hz.out;omega)
     rw [Hbo.out] at hbitY
     have HbitY:=zF hbitY
     clear f1 f2 f3 f4 f5 f6 hX hY1 hY2 hY3 hbl hcw hqw hW2 hbitY htw
     rename World=>V
     by_cases hb1:bt=1
     · have hst:=zF (show rmS C.M qx qy E (k+1)=fB C.M tw.1 tw.2.1 tw.2.2 qx qy by rw [Hstep.out,qE hb1])
       subst hb1
       have hcV:=HW2.out.at_ (show W0.heap[q]?=some (.cells ccs 73 (0,0)) from Hcb.out)
       have hqV:=HW2.out.at_ (show W0.heap[q+1]?=some (.cells #[.bool false,.slice B1 (digs 4294967296 qx).length m1,.slice B2 (digs 4294967296 qy).length m2] 32 (0,0)) from Hqb.out)
       go_upto_region 9 with (go_at_call 94;refine HbitY.out.mono ?_;rintro e w5 ⟨rfl,rfl⟩)
       refine zX 4 [0,0,0,7,15] [] (fun j f X=>match j with
        | 0=>f 0=.agg ccs
        | 1=>f 1=.agg #[.slice D1 (digs 4294967296 tw.1).length c1,.slice D2 (digs 4294967296 tw.2.1).length c2,.slice D3 (digs 4294967296 tw.2.2).length c3]
        | 2=>f 2=.agg #[.bool false,.slice B1 (digs 4294967296 qx).length m1,.slice B2 (digs 4294967296 qy).length m2]
        | 3=>∃ o,f 3=o∧JN X C o (fB C.M tw.1 tw.2.1 tw.2.2 qx qy)
        | _=>True) (by kernel_rfl) [(29,0),(30,1),(31,2),(32,3)] (by kernel_rfl) ?_
       refine lV0 1 3 hcV (by rw [Hccs.out];exact qh) ?_
       refine lV0 2 2 hbY xv ?_
       refine lV0 3 1 hqV uP ?_
       refine qC 4 0 (fun f=>#[f 0,f 1,f 2]) (F':=95) (fun f X hX hR=>?_) ?_
       · have e0:f 0=_:=hR.out 0 rfl
         have e1:f 1=_:=hR.out 1 rfl
         have e2:f 2=_:=hR.out 2 rfl
         simp only [e0,e1,e2]
         refine (su (p:=tw) HF.out H8.out X (hRC.out.ext (HW2.out.trans hX)) ⟨D1,D2,D3,c1,c2,c3,rfl,zb F1.out hX,zb F2.out hX,zb F3.out hX,F4.out,F5.out,F6.out⟩ (zb HX4.out (HW2.out.trans hX)) (zb HX5.out (HW2.out.trans hX)) hqxl.out hqyl.out).mono ?_
         rintro e w2 ⟨o,rfl,hj,hB⟩
         exact ⟨o,rfl,hB,fun Y hY=>⟨_,rfl,hj.ext hY⟩⟩
       refine yF ⟨fun f X hX hR hal hap=>?_⟩
       obtain ⟨vo,(e3:f 3=_),jo⟩:=hR 3 (by decide)
       simp only [yZ,e3]
       clear hR hal hap e3
       obtain ⟨H1,H2,H3,i1,i2,i3,ev,f1,f2,f3,f4,f5,f6⟩:=jo
       subst ev
       refine zZ (fun K hK=>⟨zc (by kernel_rfl) (qo (cs':=#[.slice H1 (digs 4294967296 (fB C.M tw.1 tw.2.1 tw.2.2 qx qy).1).length i1,.slice H2 (digs 4294967296 (fB C.M tw.1 tw.2.1 tw.2.2 qx qy).2.1).length i2,.slice H3 (digs 4294967296 (fB C.M tw.1 tw.2.1 tw.2.2 qx qy).2.2).length i3]) (t:=132) 132 (.tmp 7) (.tmp 32) rfl rfl rfl rfl (hX.at_ hbY) xv rfl (gZ _ _ _ _ _ _ _ _ _) (fun Y hY1 hY2 hY3=>hK.out _ _ ?_))⟩)
       refine zK ?_
       have hR2:RJB C Y b7 (rmS C.M qx qy E (k+1)):=by rw [hst.out];exact ⟨H1,H2,H3,i1,i2,i3,hY1,f1.offJ hY2 (hX.at_ hbY) (by kernel_rfl),f2.offJ hY2 (hX.at_ hbY) (by kernel_rfl),f3.offJ hY2 (hX.at_ hbY) (by kernel_rfl),f4,f5,f6⟩
       have HR2:=zF hR2
       have HB3:=zF ((HB2.out.trans (Below.mono hX (by omega))).trans (hY2.below (zG _) (by have:=hX.bsize;omega)))
       clear hR2 f1 f2 f3 f4 f5 f6 hX hY1 hY2 hY3 hbY hcV hqV
       have hzz:=Hzz.out
       go_wp2
       refine ⟨⟨k+1,z - 1,by omega,rfl,by have:=Hz.out;omega,HR2.out,HB3.out⟩,?_⟩
       simp [intOf]
       omega
     · obtain rfl:bt=0:=by omega
       have hst:=zF (show rmS C.M qx qy E (k+1)=tw by rw [Hstep.out,zr hb1])
       have hzz:=Hzz.out
       go_wp2_with (go_at_call 94;refine HbitY.out.mono ?_;rintro e w5 ⟨rfl,rfl⟩)
       refine ⟨⟨k+1,z - 1,by omega,rfl,by have:=Hz.out;omega,by rw [hst.out];exact ⟨D1,D2,D3,c1,c2,c3,hbY,F1.out,F2.out,F3.out,F4.out,F5.out,F6.out⟩,HB2.out⟩,?_⟩
       simp [intOf]
       omega
   · obtain rfl:k=nb:=by omega
     have k1:¬ (0:Int)≤z:=by omega
     obtain ⟨so,hso⟩:=eV (rmS C.M qx qy E k)
     obtain ⟨sx,sy,sz⟩:=so
     rw [hso] at hbl g1 g2 g3 g4 g5 g6
     simp only at hbl g1 g2 g3 g4 g5 g6
     have Hr:=zF (show fg C.M sx sy sz=res by rw [←Hres.out,hso])
     have s0:=zH hbl 0
     have s1:=zH hbl 1
     have s2:=zH hbl 2
     have cPw:=HWr.out.cell HcP.out
     simp only [zI,zJ,zL] at s0 s1 s2
     have HS1:=zF g1
     have HS2:=zF g2
     have HS3:=zF g3
     have hsx:=zF g4
     have hsy:=zF g5
     have hsz:=zF g6
     have HEw:=zF (HE0.out.trans HWr.out)
     replace HRP:=zF (zb HRP.out HWr.out)
     replace hRC:=hRCw
     have hE:=zd wr
     clear g1 g2 g3 g4 g5 g6 hbl hso hz hBr hcb hqb hrb hqw
     by_cases hz0:sz=0
     · obtain rfl:res=none:=by rw [←Hr.out,fg,qE hz0]
       replace hz0:=zF hz0
       go_upto_region 10 with fail
       refine zX 4 [0,1,3,7] [] (fun j f X=>match j with
        | 0=>f 0=.pointer (some ⟨b7,2,none⟩)
        | 1=>f 1=.slice E3 (digs 4294967296 sz).length d3
        | 2=>f 2=.int .i64 ((digs 4294967296 sz).length:Int)
        | 3=>f 3=.bool true
        | _=>True) (by kernel_rfl) [(33,0),(34,1),(35,2),(36,3)] (by kernel_rfl) ?_
       refine zT 1 3 ?_
       refine qG 2 2 0 (hE.cell s2) ?_
       refine zt 3 1 [(33,0),(34,1)] (fun f X hX hR K hK=>?_) ?_
       · have e1:f 1=_:=hR.out 1 rfl
         simp only [yZ,e1]
         refine ⟨?_⟩
         go_simp
         exact qe hK (s:=by simp only [yZ,e1])
       refine zt 4 0 [(33,0),(34,1),(35,2)] (fun f X hX hR K hK=>?_) ?_
       · have e2:f 2=_:=hR.out 2 rfl
         have hz1:decide (((digs 4294967296 sz).length:Int)=0)=true:=wY hz0.out
         have hz2:decide ((digs 4294967296 sz).length=0)=true:=wX hz0.out
         have hz4:((((digs 4294967296 sz).length:Nat):Int)==0)=true:=wZ hz0.out
         simp only [yZ,e2]
         refine ⟨?_⟩
         go_simp
         exact qe hK (s:=by simp only [yZ,e2])
       refine yF ⟨fun f X hX hR hal hap=>?_⟩
       have e3:f 3=_:=hR 3 (by decide)
       simp only [yZ,e3]
       clear hR hal hap e3
       refine zK ?_
       replace hE:=hE.trans hX
       clear hX  
       rename World=>X10_k
       have hb1:=hE.at_ hrw
       obtain ⟨z0,z1,z2,f0,f1,f2⟩:=qc hb1
       go_wp2
       exact yq rfl rfl rfl (kw hb1 _ _ _) ⟨_,rfl,rfl,ky (HEw.out.trans hE) (by have:=Hq.out;omega) _ _ _⟩
     · obtain ⟨iv,hiv⟩:=eV ((xG sz C.M).1)
       obtain ⟨ib,hib⟩:=eV ((xG sz C.M).2)
       have hivl:=zF (show iv<C.M by rw [←hiv];exact oQ (by have:=HF.out.three;omega))
       have Hiv:=zF hiv
       have Hib:=zF hib
       obtain ⟨u1,e_u1⟩:=eV (mm C.M iv iv)
       have L_u1:=zF (show u1<C.M by rw [←e_u1];exact kg hM0 _ _)
       have E_u1:=zF e_u1
       clear e_u1
       obtain ⟨u2,e_u2⟩:=eV (mm C.M sx u1)
       have L_u2:=zF (show u2<C.M by rw [←e_u2];exact kg hM0 _ _)
       have E_u2:=zF e_u2
       clear e_u2
       obtain ⟨u3,e_u3⟩:=eV (mm C.M u1 iv)
       have L_u3:=zF (show u3<C.M by rw [←e_u3];exact kg hM0 _ _)
       have E_u3:=zF e_u3
       clear e_u3
       obtain ⟨u4,e_u4⟩:=eV (mm C.M sy u3)
       have L_u4:=zF (show u4<C.M by rw [←e_u4];exact kg hM0 _ _)
       have E_u4:=zF e_u4
       clear e_u4
       obtain rfl:res=some (u2,u4):=by rw [←Hr.out,fg,zr hz0];simp only [Hiv.out,E_u1.out,E_u2.out,E_u3.out,E_u4.out]
       clear hiv hib
       replace hz0:=zF hz0
       go_upto_region 10 with fail
       refine zX 4 [0,1,3,7] [] (fun j f X=>match j with
        | 0=>f 0=.pointer (some ⟨b7,2,none⟩)
        | 1=>f 1=.slice E3 (digs 4294967296 sz).length d3
        | 2=>f 2=.int .i64 ((digs 4294967296 sz).length:Int)
        | 3=>f 3=.bool false
        | _=>True) (by kernel_rfl) [(33,0),(34,1),(35,2),(36,3)] (by kernel_rfl) ?_
       refine zT 1 3 ?_
       refine qG 2 2 0 (hE.cell s2) ?_
       refine zt 3 1 [(33,0),(34,1)] (fun f X hX hR K hK=>?_) ?_
       · have e1:f 1=_:=hR.out 1 rfl
         simp only [yZ,e1]
         refine ⟨?_⟩
         go_simp
         exact qe hK (s:=by simp only [yZ,e1])
       refine zt 4 0 [(33,0),(34,1),(35,2)] (fun f X hX hR K hK=>?_) ?_
       · have e2:f 2=_:=hR.out 2 rfl
         have hz1:decide (((digs 4294967296 sz).length:Int)=0)=false:=vc hz0.out
         have hz2:decide ((digs 4294967296 sz).length=0)=false:=vZ hz0.out
         have hz4:((((digs 4294967296 sz).length:Nat):Int)==0)=false:=vd hz0.out
         simp only [yZ,e2]
         refine ⟨?_⟩
         go_simp
         exact qe hK (s:=by simp only [yZ,e2])
       refine yF ⟨fun f X hX hR hal hap=>?_⟩
       have e3:f 3=_:=hR 3 (by decide)
       simp only [yZ,e3]
       clear hR hal hap e3
       refine zK ?_
       replace hE:=hE.trans hX
       clear hX  
       rename World=>X10_k
       go_upto_region 12 with fail
       refine zX 10 [0,1,0,4,15,31,63,63,127,511] [] (fun j f X=>match j with
        | 0=>f 0=.pointer (some ⟨b7,2,none⟩)
        | 1=>f 1=.slice E3 (digs 4294967296 sz).length d3
        | 2=>f 2=.pointer (some ⟨q,0,none⟩)
        | 3=>f 3=.slice Ap (digs 4294967296 C.M).length cp
        | 4=>∃ A1 c1,f 4=.tuple #[.slice A1 (digs 4294967296 iv).length c1,.bool ib]∧RU X A1 c1 (digs 4294967296 iv)
        | 5=>∃ A1 c1,f 5=.tuple #[.slice A1 (digs 4294967296 iv).length c1,.bool ib]∧RU X A1 c1 (digs 4294967296 iv)
        | 6=>∃ A1 c1,f 6=.slice A1 (digs 4294967296 iv).length c1∧RU X A1 c1 (digs 4294967296 iv)
        | 7=>f 7=.bool ib
        | 8=>∃ A1 c1,f 8=.slice A1 (digs 4294967296 iv).length c1∧RU X A1 c1 (digs 4294967296 iv)
        | 9=>f 9=.bool ib
        | _=>True) (by kernel_rfl) [(39,0),(40,1),(41,2),(42,3),(43,4),(38,5),(44,6),(45,7),(9,8),(10,9)] (by kernel_rfl) ?_
       refine zT 1 9 ?_
       refine qG 2 8 0 (hE.cell s2) ?_
       refine zT 3 7 ?_
       refine qG 4 6 2 (hE.cell cPw) ?_
       refine qC 5 5 (fun f=>#[f 1,f 3]) (F':=81) (fun f X hX hR=>?_) ?_
       · have e1:f 1=_:=hR.out 1 rfl
         have e3:f 3=_:=hR.out 3 rfl
         simp only [e1,e3]
         refine (fY E3 Ap d3 cp sz C.M X (zb HS3.out (hE.trans hX)) (zb HRP.out (hE.trans hX)) (by have:=HF.out.len' hsz.out;omega) (by have:=HF.out.len;omega) (by have:=HF.out.three;omega)).mono ?_
         rw [Hiv.out,Hib.out]
         rintro e w2 ⟨A1,c1,rfl,hO,hB⟩
         exact ⟨_,rfl,hB,fun Y hY=>⟨A1,c1,rfl,zb hO hY⟩⟩
       refine zt 6 4 [(39,0),(40,1),(41,2),(42,3),(43,4)] (fun f X hX hR K hK=>?_) ?_
       · obtain ⟨A4,c4,(e4:f 4=_),o4⟩:=hR.out 4 rfl
         simp only [yZ,e4]
         refine ⟨?_⟩
         go_simp
         exact hK.out _ _ _ (by simp only [yZ,e4]) (zd _) trivial (fun Y hY=>⟨A4,c4,rfl,zb o4 hY⟩)
       refine zt 7 3 [(39,0),(40,1),(41,2),(42,3),(43,4),(38,5),(45,7)] (fun f X hX hR K hK=>?_) ?_
       · obtain ⟨A5,c5,(e5:f 5=_),o5⟩:=hR.out 5 rfl
         simp only [yZ,e5]
         refine ⟨?_⟩
         go_simp
         exact hK.out _ _ _ (by simp only [yZ,e5]) (zd _) trivial (fun Y hY=>⟨A5,c5,rfl,zb o5 hY⟩)
       refine zt 8 2 [(39,0),(40,1),(41,2),(42,3),(43,4),(38,5),(44,6),(9,8)] (fun f X hX hR K hK=>?_) ?_
       · obtain ⟨A5,c5,(e5:f 5=_),o5⟩:=hR.out 5 rfl
         simp only [yZ,e5]
         refine ⟨?_⟩
         go_simp
         exact qe hK (s:=by simp only [yZ,e5])
       refine zt 9 1 [(39,0),(40,1),(41,2),(42,3),(43,4),(38,5),(44,6),(45,7)] (fun f X hX hR K hK=>?_) ?_
       · obtain ⟨A6,c6,(e6:f 6=_),o6⟩:=hR.out 6 rfl
         simp only [yZ,e6]
         refine ⟨?_⟩
         go_simp
         exact hK.out _ _ _ (by simp only [yZ,e6]) (zd _) trivial (fun Y hY=>⟨A6,c6,rfl,zb o6 hY⟩)
       refine qL 10 0 7 ?_
       refine yF ⟨fun f X hX hR hal hap=>?_⟩
       obtain ⟨A4,c4,(e4:f 4=_),o4⟩:=hR 4 (by decide)
       obtain ⟨A5,c5,(e5:f 5=_),o5⟩:=hR 5 (by decide)
       obtain ⟨A6,c6,(e6:f 6=_),o6⟩:=hR 6 (by decide)
       obtain ⟨A8,c8,(e8:f 8=_),o8⟩:=hR 8 (by decide)
       simp only [yZ,e4,e5,e6,e8]
       clear hR hal hap e4 e5 e6 e8
       refine zK ?_
       replace hE:=hE.trans hX
       have N9:=zF o8
       clear hX o4 o5 o6 o8
       rename World=>X12
       go_upto_region 13 with fail
       refine zX 5 [0,0,0,7,15] [] (fun j f X=>match j with
        | 0=>f 0=.agg ccs
        | 1=>f 1=.slice A8 (digs 4294967296 iv).length c8
        | 2=>f 2=.slice A8 (digs 4294967296 iv).length c8
        | 3=>∃ A1 c1,f 3=.slice A1 (digs 4294967296 u1).length c1∧RU X A1 c1 (digs 4294967296 u1)
        | 4=>∃ A1 c1,f 4=.slice A1 (digs 4294967296 u1).length c1∧RU X A1 c1 (digs 4294967296 u1)
        | _=>True) (by kernel_rfl) [(46,0),(47,1),(48,2),(49,3),(11,4)] (by kernel_rfl) ?_
       refine lV0 1 4 (hE.at_ hcw) (by rw [Hccs.out];exact qh) ?_
       refine zT 2 3 ?_
       refine zT 3 2 ?_
       refine rc 4 1 0 1 2 (fun _ _ hX h=>⟨_,_,h,(zb N9.out hX)⟩) (fun _ _ hX h=>⟨_,_,h,(zb N9.out hX)⟩) (fun X hX _ _ _ _ h h'=>jT X HF.out (hRC.out.ext (hE.trans hX)) h h' hivl.out hivl.out) E_u1.out ?_
       refine zt 5 0 [(46,0),(47,1),(48,2),(49,3)] (fun f X hX hR K hK=>?_) ?_
       · obtain ⟨A13_3,c13_3,(e3:f 3=_),o13_3⟩:=hR.out 3 rfl
         simp only [yZ,e3]
         refine ⟨?_⟩
         go_simp
         exact hK.out _ _ _ (by simp only [yZ,e3]) (zd _) trivial (fun Y hY=>⟨A13_3,c13_3,rfl,zb o13_3 hY⟩)
       refine yF ⟨fun f X hX hR hal hap=>?_⟩
       obtain ⟨A13_3,c13_3,(e3:f 3=_),o13_3⟩:=hR 3 (by decide)
       obtain ⟨A13_4,c13_4,(e4:f 4=_),o13_4⟩:=hR 4 (by decide)
       simp only [yZ,e3,e4]
       clear hR hal hap e3 e4
       refine zK ?_
       replace hE:=hE.trans hX
       replace N9:=zF (zb N9.out hX)
       have N11:=zF o13_4
       clear hX o13_3 o13_4
       rename World=>X13_k
       have hb1:=hE.at_ hrw
       go_upto_region 14 with fail
       refine zj (by kernel_rfl) 14 [0,0,2,0,15,0,0,64,0,0,0,1823,4095,8191,16383] [] (fun j f X=>match j with
        | 0=>f 0=.agg ccs
        | 1=>f 1=.pointer (some ⟨b7,0,none⟩)
        | 2=>f 2=.slice E1 (digs 4294967296 sx).length d1
        | 3=>f 3=.slice A13_4 (digs 4294967296 u1).length c13_4
        | 4=>∃ A1 c1,f 4=.slice A1 (digs 4294967296 u2).length c1∧RU X A1 c1 (digs 4294967296 u2)
        | 5=>f 5=.agg ccs
        | 6=>f 6=.pointer (some ⟨b7,1,none⟩)
        | 7=>f 7=.slice E2 (digs 4294967296 sy).length d2
        | 8=>f 8=.agg ccs
        | 9=>f 9=.slice A13_4 (digs 4294967296 u1).length c13_4
        | 10=>f 10=.slice A8 (digs 4294967296 iv).length c8
        | 11=>∃ A1 c1,f 11=.slice A1 (digs 4294967296 u3).length c1∧RU X A1 c1 (digs 4294967296 u3)
        | 12=>∃ A1 c1,f 12=.slice A1 (digs 4294967296 u4).length c1∧RU X A1 c1 (digs 4294967296 u4)
        | 13=>∃ A1 c1 A2 c2,f 13=.agg #[.bool false,.slice A1 (digs 4294967296 u2).length c1,.slice A2 (digs 4294967296 u4).length c2]∧RU X A1 c1 (digs 4294967296 u2)∧RU X A2 c2 (digs 4294967296 u4)
        | _=>True) (by kernel_rfl) [(50,0),(51,1),(52,2),(53,3),(54,4),(55,5),(56,6),(57,7),(58,8),(59,9),(60,10),(61,11),(62,12),(63,13)] (by kernel_rfl) ?_
       refine lV0 1 13 (hE.at_ hcw) (by rw [Hccs.out];exact qh) ?_
       refine zT 2 12 ?_
       refine qG 3 11 1 (hE.cell s0) ?_
       refine zT 4 10 ?_
       refine rc 5 9 0 2 3 (fun _ _ hX h=>⟨_,_,h,(zb HS1.out (hE.trans hX))⟩) (fun _ _ hX h=>⟨_,_,h,(zb N11.out hX)⟩) (fun X hX _ _ _ _ h h'=>jT X HF.out (hRC.out.ext (hE.trans hX)) h h' hsx.out L_u1.out) E_u2.out ?_
       refine lV0 6 8 (hE.at_ hcw) (by rw [Hccs.out];exact qh) ?_
       refine zT 7 7 ?_
       refine qG 8 6 6 (hE.cell s1) ?_
       refine lV0 9 5 (hE.at_ hcw) (by rw [Hccs.out];exact qh) ?_
       refine zT 10 4 ?_
       refine zT 11 3 ?_
       refine rc 12 2 8 9 10 (fun _ _ hX h=>⟨_,_,h,(zb N11.out hX)⟩) (fun _ _ hX h=>⟨_,_,h,(zb N9.out hX)⟩) (fun X hX _ _ _ _ h h'=>jT X HF.out (hRC.out.ext (hE.trans hX)) h h' L_u1.out hivl.out) E_u3.out ?_
       refine rc 13 1 5 7 11 (fun _ _ hX h=>⟨_,_,h,(zb HS2.out (hE.trans hX))⟩) (fun _ _ _ h=>h) (fun X hX _ _ _ _ h h'=>jT X HF.out (hRC.out.ext (hE.trans hX)) h h' hsy.out L_u3.out) E_u4.out ?_
       refine zt 14 0 [(50,0),(51,1),(52,2),(53,3),(54,4),(55,5),(56,6),(57,7),(58,8),(59,9),(60,10),(61,11),(62,12)] (fun f X hX hR K hK=>?_) ?_
       · obtain ⟨A14_4,c14_4,(e4:f 4=_),o14_4⟩:=hR.out 4 rfl
         obtain ⟨A14_12,c14_12,(e12:f 12=_),o14_12⟩:=hR.out 12 rfl
         simp only [yZ,e4,e12]
         refine ⟨?_⟩
         go_simp
         exact hK.out _ _ _ (by simp only [yZ,e4,e12]) (zd _) trivial (fun Y hY=>⟨_,_,_,_,rfl,zb o14_4 hY,zb o14_12 hY⟩)
       refine yF ⟨fun f X hX hR hal hap=>?_⟩
       obtain ⟨A14_4,c14_4,(e4:f 4=_),o14_4⟩:=hR 4 (by decide)
       obtain ⟨A14_11,c14_11,(e11:f 11=_),o14_11⟩:=hR 11 (by decide)
       obtain ⟨A14_12,c14_12,(e12:f 12=_),o14_12⟩:=hR 12 (by decide)
       obtain ⟨Ax1,cx1,Ay1,cy1,(e13:f 13=_),ox1,oy1⟩:=hR 13 (by decide)
       simp only [yZ,e4,e11,e12,e13]
       clear hR hal hap e4 e11 e12 e13
       refine zZ (fun K hK=>⟨zc (by kernel_rfl) (qo (cs':=#[.bool false,.slice Ax1 (digs 4294967296 u2).length cx1,.slice Ay1 (digs 4294967296 u4).length cy1]) (t:=32) 32 (.tmp 6) (.tmp 63) rfl rfl rfl rfl (hX.at_ hb1) uP rfl (vO _ _ _ _ _ _ _) (fun Y hY1 hY2 hY3=>hK.out _ _ ?_))⟩)
       refine zK ?_
       go_wp2
       exact yq rfl rfl rfl hY1 ⟨_,rfl,⟨_,_,_,_,rfl,ox1.offJ hY2 (hX.at_ hb1) (by kernel_rfl),oy1.offJ hY2 (hX.at_ hb1) (by kernel_rfl)⟩,hY2.ext (HEw.out.trans (hE.trans hX)) (by have:=Hq.out;omega)⟩
theorem IsC.ptlt {c:Int} {C:Crv} (h:IsC c C):val 18446744073709551616 C.xl<C.M∧val 18446744073709551616 C.yl<C.M∧8<C.M:=by
 rcases h with ⟨_,rfl⟩ | ⟨_,rfl⟩ <;> exact ⟨by decide +kernel,by decide +kernel,by decide +kernel⟩
theorem bn {W:World} {g:Nat} {ty:TypeId} {x0 x1 x2 x3 x4 x5:Value} (h:W.heap[g]?=some (.cells #[x0,x1,x2,x3,x4,x5] ty (0,0))) :
 W.cell? ⟨g,0,none⟩=some x0∧W.cell? ⟨g,1,none⟩=some x1∧W.cell? ⟨g,2,none⟩=some x2∧W.cell? ⟨g,3,none⟩=some x3∧W.cell? ⟨g,4,none⟩=some x4∧W.cell? ⟨g,5,none⟩=some x5 :=
 ⟨zH h 0,zH h 1,zH h 2,zH h 3,zH h 4,zH h 5⟩
theorem pP {M:Nat} (hM:0<M) {bi:Bool} {qx qy E:Nat} {p:Nat×Nat} (h:dq M bi qx qy E=some p):p.1<M∧p.2<M:=by
 unfold dq fg at h
 split at h
 · cases h
 · split at h
   · cases h
   · injection h with h
     subst h
     exact ⟨qS _ hM,qS _ hM⟩
def PtO (R:Option (Nat×Nat)) (bi:Bool) (x y:Nat):Prop:=bi=R.isNone∧x=R.elim 0 (·.1)∧y=R.elim 0 (·.2)
def PtD (bi:Bool) (a b:List Nat) (R:Option (Nat×Nat)):Prop:=∃ x y,PtO R bi x y∧a=digs 18446744073709551616 x∧b=digs 18446744073709551616 y
def PtG (sp bi:Bool) (a b:List Nat) (R:Option (Nat×Nat)):Prop:=sp=false→PtD bi a b R
theorem RPU.split {w:World} {v:Value} {o:Option (Nat×Nat)} {M:Nat} (h:RPU w v o) (hM:0<M) (ho:∀ p,o=some p→p.1<M∧p.2<M):∃ bi x y,RPv w v bi x y∧x<M∧y<M∧PtO o bi x y:=by
 cases o with
 | none=>exact ⟨_,_,_,h.pv,hM,hM,rfl,rfl,rfl⟩
 | some p=>exact ⟨_,_,_,h.pv,(ho p rfl).1,(ho p rfl).2,rfl,rfl,rfl⟩
theorem IsC.dlen {c:Int} {C:Crv} (h:IsC c C) {x:Nat} (hx:x<C.M):(digs 18446744073709551616 x).length<100000:=by
 have h1:x<18446744073709551616 ^ 6:=by
  rcases h with ⟨_,rfl⟩ | ⟨_,rfl⟩ <;> exact xL hx (by decide +kernel)
 have:=qV (B:=18446744073709551616) (by omega) h1
 omega
theorem sD {v:Nat} (hv:v<18446744073709551616):∃ m:Nat,bits BinOp.xor IntKind.u64 (v:Int) 1=(m:Int)∧m<18446744073709551616 :=
 ⟨v ^^^ 1,bits_xor_u64_nat v 1 hv (by omega),Nat.xor_lt_two_pow (n:=64) (by omega) (by omega)⟩
theorem OB.off_set {Y:World} {base g n:Nat} {A:Option Addr} {c:Nat} {l:List Nat} (h:OB Y base A c l) (ha:gV A (some ⟨g,0,none⟩) l.length n) (hn:0<n) (i:Nat) (v:Value):RU (Y.setCell ⟨g,i,none⟩ v) A c l:=by
 refine ⟨⟨h.2.1,h.2.2.1,by simp [nts],fun hl=>?_⟩,h.1⟩
 obtain ⟨g',cur,rfl,hg',hh,hc⟩:=h.2.2.2 hl
 have hlt:g'<g:=ha _ _ rfl rfl hl hn
 have hj:=(kD.refl g Y).set i v
 have hb:=(hj.block g' (ql hh) (by omega)).trans hh
 refine ⟨_,rfl,ql hb,fun j u hu=>?_⟩
 have:=zH hb j
 rw [hc j u hu] at this
 rw [wl]
 exact this
theorem OB.head_set {Y:World} {base g:Nat} {c:Nat} {v:Nat} {t:List Nat} (h:OB Y base (some ⟨g,0,none⟩) c (v :: t)) {m:Nat} (hm:m<18446744073709551616):RU (Y.setCell ⟨g,0,none⟩ (.int .u64 (m:Int))) (some ⟨g,0,none⟩) c (m :: t):=by
  obtain ⟨hl,h1,h2,h3⟩:=h
  obtain ⟨g',cur,e,_,hh,hc⟩:=h3 (by simp)
  injection e with e
  injection e with e _ _
  subst e
  have hb:=jf hh 0 (.int .u64 (m:Int))
  have h0:0<cur.size:=by
    have:=hc 0 (.int .u64 (v:Int)) rfl
    exact (Array.getElem?_eq_some_iff.1 this).1
  refine ⟨⟨h1,h2,by simp [nts],fun _=>⟨_,rfl,ql hb,fun j u hu=>?_⟩⟩,fun x hx=>?_,by have:=hl.2;simpa using this⟩
  · have:=zH hb j
    rw [wl,this]
    cases j with
    | zero =>
      simp [nts] at hu
      subst hu
      simp [h0]
    | succ j =>
      rw [Array.getElem?_setIfInBounds_ne (by omega)]
      exact hc (j+1) u hu
  · rcases List.mem_cons.1 hx with rfl | hx
    · exact hm
    · exact hl.1 x (List.mem_cons_of_mem _ hx)
theorem se {c:Int} {C:Crv} (hC:IsC c C) {P:Nat→Prop} {A:Option Addr} {cap:Nat} {l l1:List Nat} {R:Option (Nat×Nat)} (sp:Bool) (hl1:l.take 1=l1) (hR:dq C.M false (val 18446744073709551616 C.xl) (val 18446744073709551616 C.yl) (val 18446744073709551616 l1)=R) (w:World) (hk:RL w P A cap l) (hP:∀ b,P b→b<w.heap.size) :
    Calls Tryz.prog 9 #[.int .i64 c,.slice A l.length cap,.bool sp] w fun e w'=>∃ v bi a b,e=.returned v∧APn w' v bi a b∧a.length<100000∧b.length<100000∧PtG sp bi a b R∧Ext w w':=by
  have hr:=zN w (.cells #[.bool false,.slice none 0 0,.slice none 0 0] 29)
  have hA0:=zR w (.cells #[.bool false,.slice none 0 0,.slice none 0 0] 29)
  obtain ⟨W0,hW0⟩:=eW (w.alloc (.cells #[.bool false,.slice none 0 0,.slice none 0 0] 29))
  obtain ⟨b0,hb0⟩:=eV w.heap.size
  rw [←hW0,hb0] at hr
  rw [←hW0] at hA0
  have HK:=zF hk
  have HP:=zF hP
  have hl2:l1.length≤1:=by rw [←hl1,zz];omega
  have Hl1:=zF hl1
  have Hl2:=zF hl2
  have HR:=zF hR
  have HL:=zF (show ∀ p,R=some p→p.1<C.M∧p.2<C.M from fun p hp=>pP (by have:=hC.ptlt.2.2;omega) (hR.trans hp))
  clear hl1 hl2 hR
  have HA0:=zF hA0
  have HC:=zF hC
  clear hk hP hA0
  have hs:C.size≠0:=by have:=hC.fine.pos;omega
  have hs':((C.size:Int)==0)=false:=by rw [beq_eq_false_iff_ne];omega
  clear hC
  go_enter Tryz.func9,Tryz.ntmps9
  go_upto_region 1 with fail
  rw [←hW0]
  have Hb0:=zF hb0
  clear hW0 hb0
  go_upto_region 2 with (go_at_call 37;refine (bF HC.out _).mono ?_;rintro e w2 ⟨v,rfl,⟨Ap,An,Ab,Ax,Ay,cp,cn,cb,cx,cy,rfl,hp,hn,hb,hx,hy⟩,hE2⟩)
  have hc0:=zN w2 (.cells #[.slice Ap (digs 4294967296 C.M).length cp,.slice An (digs 4294967296 (val 18446744073709551616 C.nl)).length cn,.slice Ab (digs 4294967296 C.bb).length cb,.slice Ax (digs 4294967296 (val 18446744073709551616 C.xl)).length cx,.slice Ay (digs 4294967296 (val 18446744073709551616 C.yl)).length cy,.int .i64 (C.size:Int)] 73)
  have hA:=zR w2 (.cells #[.slice Ap (digs 4294967296 C.M).length cp,.slice An (digs 4294967296 (val 18446744073709551616 C.nl)).length cn,.slice Ab (digs 4294967296 C.bb).length cb,.slice Ax (digs 4294967296 (val 18446744073709551616 C.xl)).length cx,.slice Ay (digs 4294967296 (val 18446744073709551616 C.yl)).length cy,.int .i64 (C.size:Int)] 73)
  have hrc:RC w2 C (.agg #[.slice Ap (digs 4294967296 C.M).length cp,.slice An (digs 4294967296 (val 18446744073709551616 C.nl)).length cn,.slice Ab (digs 4294967296 C.bb).length cb,.slice Ax (digs 4294967296 (val 18446744073709551616 C.xl)).length cx,.slice Ay (digs 4294967296 (val 18446744073709551616 C.yl)).length cy,.int .i64 (C.size:Int)]):=⟨Ap,An,Ab,Ax,Ay,cp,cn,cb,cx,cy,rfl,hp,hn,hb,hx,hy⟩
  have Hrc:=zF (hrc.ext hA)
  replace hr:=hA.at_ (hE2.at_ hr)
  have HE:=zF (HA0.out.trans (hE2.trans hA))
  generalize hV1:w2.alloc (.cells #[.slice Ap (digs 4294967296 C.M).length cp,.slice An (digs 4294967296 (val 18446744073709551616 C.nl)).length cn,.slice Ab (digs 4294967296 C.bb).length cb,.slice Ax (digs 4294967296 (val 18446744073709551616 C.xl)).length cx,.slice Ay (digs 4294967296 (val 18446744073709551616 C.yl)).length cy,.int .i64 (C.size:Int)] 73)=V1 at *
  obtain ⟨b1,hq1⟩:=eV w2.heap.size
  rw [hq1] at hc0 ⊢
  clear hV1 hq1 hp hn hb hx hy hrc hE2 hA HA0
  obtain ⟨z0,z1,z2,z3,z4,z5⟩:=bn hc0
  go_upto_region 4 with fail
  clear z0 z1 z2 z3 z4 z5 hs hs'
  refine zj (by kernel_rfl) 9 [0,0,2,6,0,30,63,127,0,511] [8] (fun j f X=>match j with
    | 0=>f 0=.agg #[.slice Ap (digs 4294967296 C.M).length cp,.slice An (digs 4294967296 (val 18446744073709551616 C.nl)).length cn,.slice Ab (digs 4294967296 C.bb).length cb,.slice Ax (digs 4294967296 (val 18446744073709551616 C.xl)).length cx,.slice Ay (digs 4294967296 (val 18446744073709551616 C.yl)).length cy,.int .i64 (C.size:Int)]
    | 1=>f 1=.slice A l.length cap
    | 2=>∃ A c,f 2=.slice A l1.length c∧RU X A c l1
    | 3=>∃ A c,f 3=.slice A (digs 4294967296 (val 18446744073709551616 l1)).length c∧RU X A c (digs 4294967296 (val 18446744073709551616 l1))
    | 4=>f 4=.agg #[.slice Ap (digs 4294967296 C.M).length cp,.slice An (digs 4294967296 (val 18446744073709551616 C.nl)).length cn,.slice Ab (digs 4294967296 C.bb).length cb,.slice Ax (digs 4294967296 (val 18446744073709551616 C.xl)).length cx,.slice Ay (digs 4294967296 (val 18446744073709551616 C.yl)).length cy,.int .i64 (C.size:Int)]
    | 5=>∃ B B' k k',f 5=.agg #[.bool false,.slice B (digs 4294967296 (val 18446744073709551616 C.xl)).length k,.slice B' (digs 4294967296 (val 18446744073709551616 C.yl)).length k']∧RU X B k (digs 4294967296 (val 18446744073709551616 C.xl))∧RU X B' k' (digs 4294967296 (val 18446744073709551616 C.yl))
    | 6=>∃ o,f 6=o∧RPU X o R
    | 7=>∃ bi x y A B c d,f 7=.agg #[.bool bi,.slice A (digs 18446744073709551616 x).length c,.slice B (digs 18446744073709551616 y).length d]∧OB X V1.heap.size A c (digs 18446744073709551616 x)∧OB X V1.heap.size B d (digs 18446744073709551616 y)∧gV A B (digs 18446744073709551616 x).length (digs 18446744073709551616 y).length∧x<C.M∧y<C.M∧PtO R bi x y
    | 8=>∃ b,f 8=.pointer (some ⟨b,0,none⟩)∧V1.heap.size≤b∧X.heap[b]?=some (.cells #[.bool false,.slice none 0 0,.slice none 0 0] 29 (0,0))
    | _=>True) (by kernel_rfl) [(17,0),(18,1),(19,2),(20,3),(21,4),(22,5),(23,6),(24,7),(8,8)] (by kernel_rfl) ?_
  refine lV0 1 8 hc0 qh ?_
  refine zT 2 7 ?_
  refine qC 3 6 (fun f=>#[f 1,Value.int IntKind.i64 1]) (F':=7) (fun f X hX hR=>?_) ?_
  · have e1:f 1=.slice A l.length cap:=hR.out 1 rfl
    simp only [e1]
    refine (nf P A cap l 1 X (HK.out.below (HE.out.trans hX) HP.out) (by omega)).mono ?_
    rw [Hl1.out]
    rintro e w2 ⟨A,c,rfl,h,hB⟩
    exact ⟨(.slice A l1.length c),rfl,hB,fun Y hY=>⟨A,c,rfl,zb h.ru hY⟩⟩
  refine qC 4 5 (fun f=>#[f 2]) (F':=8) (fun f X hX hR=>?_) ?_
  · obtain ⟨A2,c2,e2,h2⟩:∃ A c,f 2=.slice A l1.length c∧RU X A c l1:=hR.out 2 rfl
    simp only [e2]
    refine (kA _ A2 c2 l1 X h2 (fun _ h=>h) (by have:=Hl2.out;omega)).mono ?_
    rintro e w2 ⟨A,c,rfl,h,hB⟩
    exact ⟨(.slice A (digs 4294967296 (val 18446744073709551616 l1)).length c),rfl,hB,fun Y hY=>⟨A,c,rfl,zb h.ru hY⟩⟩
  refine lV0 5 4 hc0 qh ?_
  refine qC 6 3 (fun f=>#[f 4]) (F':=40) (fun f X hX hR=>?_) ?_
  · have e4:f 4=.agg #[.slice Ap (digs 4294967296 C.M).length cp,.slice An (digs 4294967296 (val 18446744073709551616 C.nl)).length cn,.slice Ab (digs 4294967296 C.bb).length cb,.slice Ax (digs 4294967296 (val 18446744073709551616 C.xl)).length cx,.slice Ay (digs 4294967296 (val 18446744073709551616 C.yl)).length cy,.int .i64 (C.size:Int)]:=hR.out 4 rfl
    simp only [e4]
    refine (sU X (Hrc.out.ext hX)).mono ?_
    rintro e w2 ⟨o,rfl,⟨B,B',k,k',rfl,hu,hv⟩,hB⟩
    exact ⟨(.agg #[.bool false,.slice B (digs 4294967296 (val 18446744073709551616 C.xl)).length k,.slice B' (digs 4294967296 (val 18446744073709551616 C.yl)).length k']),rfl,hB,fun Y hY=>⟨B,B',k,k',rfl,zb hu hY,zb hv hY⟩⟩
  refine qC 7 2 (fun f=>#[f 0,f 3,f 5]) (F':=39) (fun f X hX hR=>?_) ?_
  · have e0:f 0=.agg #[.slice Ap (digs 4294967296 C.M).length cp,.slice An (digs 4294967296 (val 18446744073709551616 C.nl)).length cn,.slice Ab (digs 4294967296 C.bb).length cb,.slice Ax (digs 4294967296 (val 18446744073709551616 C.xl)).length cx,.slice Ay (digs 4294967296 (val 18446744073709551616 C.yl)).length cy,.int .i64 (C.size:Int)]:=hR.out 0 rfl
    obtain ⟨A3,c3,e3,h3⟩:∃ A c,f 3=.slice A (digs 4294967296 (val 18446744073709551616 l1)).length c∧RU X A c (digs 4294967296 (val 18446744073709551616 l1)):=hR.out 3 rfl
    obtain ⟨B5,B5',k5,k5',e5,h5,h5'⟩:∃ B B' k k',f 5=.agg #[.bool false,.slice B (digs 4294967296 (val 18446744073709551616 C.xl)).length k,.slice B' (digs 4294967296 (val 18446744073709551616 C.yl)).length k']∧RU X B k (digs 4294967296 (val 18446744073709551616 C.xl))∧RU X B' k' (digs 4294967296 (val 18446744073709551616 C.yl)):=hR.out 5 rfl
    simp only [e0,e3,e5]
    refine (zAH HC.out.fine HC.out.ptlt.2.2 X (Hrc.out.ext hX) h3 h5 h5' (fun _=>⟨HC.out.ptlt.1,HC.out.ptlt.2.1⟩)).mono ?_
    rw [HR.out]
    rintro e w2 ⟨o,rfl,h,hB⟩
    exact ⟨o,rfl,hB,fun Y hY=>⟨o,rfl,h.ext hY⟩⟩
  refine qC 8 1 (fun f=>#[f 6]) (F':=38) (fun f X hX hR=>?_) ?_
  · obtain ⟨o6,e6,h6⟩:∃ o,f 6=o∧RPU X o R:=hR.out 6 rfl
    simp only [e6]
    obtain ⟨bi,x,y,hv,lx,ly,po⟩:=h6.split (by have:=HC.out.ptlt.2.2;omega) HL.out
    refine (rto_n X hv).mono ?_
    rintro e w2 ⟨A,B,c,d,rfl,h,k,K1,hB⟩
    exact ⟨(.agg #[.bool bi,.slice A (digs 18446744073709551616 x).length c,.slice B (digs 18446744073709551616 y).length d]),rfl,hB,fun Y hY=>⟨bi,x,y,A,B,c,d,rfl,(h.mono hX.bsize).ext hY,(k.mono hX.bsize).ext hY,K1,lx,ly,po⟩⟩
  refine ju 9 0 ?_
  refine yF ⟨fun f X hX hR hal hap=>?_⟩
  obtain ⟨A2,c2,e2,h2⟩:∃ A c,f 2=.slice A l1.length c∧RU X A c l1:=hR 2 (by decide)
  obtain ⟨A3,c3,e3,h3⟩:∃ A c,f 3=.slice A (digs 4294967296 (val 18446744073709551616 l1)).length c∧RU X A c (digs 4294967296 (val 18446744073709551616 l1)):=hR 3 (by decide)
  obtain ⟨B5,B5',k5,k5',e5,h5,h5'⟩:∃ B B' k k',f 5=.agg #[.bool false,.slice B (digs 4294967296 (val 18446744073709551616 C.xl)).length k,.slice B' (digs 4294967296 (val 18446744073709551616 C.yl)).length k']∧RU X B k (digs 4294967296 (val 18446744073709551616 C.xl))∧RU X B' k' (digs 4294967296 (val 18446744073709551616 C.yl)):=hR 5 (by decide)
  obtain ⟨o6,e6,h6⟩:∃ o,f 6=o∧RPU X o R:=hR 6 (by decide)
  obtain ⟨bi,x,y,A7,B7,c7,d7,e7,h7,k7,K7,lx7,ly7,po7⟩:∃ bi x y A B c d,f 7=.agg #[.bool bi,.slice A (digs 18446744073709551616 x).length c,.slice B (digs 18446744073709551616 y).length d]∧OB X V1.heap.size A c (digs 18446744073709551616 x)∧OB X V1.heap.size B d (digs 18446744073709551616 y)∧gV A B (digs 18446744073709551616 x).length (digs 18446744073709551616 y).length∧x<C.M∧y<C.M∧PtO R bi x y:=hR 7 (by decide)
  obtain ⟨b8,e8,l8,h8⟩:∃ b,f 8=.pointer (some ⟨b,0,none⟩)∧V1.heap.size≤b∧X.heap[b]?=some (.cells #[.bool false,.slice none 0 0,.slice none 0 0] 29 (0,0)):=hR 8 (by decide)
  simp only [Par.wT,Act.put,jd,List.set_cons_succ,vR,e2,e3,e5,e6,e7,e8]
  clear hR hal hap e2 e3 e5 e6 e7 e8
  refine zZ (fun K hK=>⟨zc (by kernel_rfl) (qo (cs':=#[.bool bi,.slice A7 (digs 18446744073709551616 x).length c7,.slice B7 (digs 18446744073709551616 y).length d7]) (t:=29) 29 (.tmp 8) (.tmp 24) rfl rfl rfl rfl h8 vG rfl (vO _ _ _ _ _ _ _) (fun Y hY1 hY2 hY3=>hK.out _ _ ?_))⟩)
  refine zK ?_
  have hb9:b0≠b8:=by have:=ql hr;omega
  have hr9:=hY2.at_ hb9 (hX.at_ hr)
  have HEY:=zF (hY2.ext (HE.out.trans hX) (by have:=HE.out.bsize;omega))
  have H7:=zF (h7.just hY2 h8 (by decide))
  have K8:=zF (k7.just hY2 h8 (by decide))
  have HK7:=zF K7
  have HLx:=zF lx7
  have HLy:=zF ly7
  have Hpo:=zF po7
  clear h2 h3 h5 h5' h6 h7 k7 K7 h8 l8 hY2 hY3 hc0 hr lx7 ly7 po7
  obtain ⟨z0,z1,z2,f0,f1,f2⟩:=qc hY1
  cases sp
  case false =>
    go_upto_region 7 with fail
    clear z0 z1 z2 f0 f1 f2 hX
    refine zX 1 [0,1] [] (fun j f X=>match j with
      | 0=>f 0=.agg #[.bool bi,.slice A7 (digs 18446744073709551616 x).length c7,.slice B7 (digs 18446744073709551616 y).length d7]
      | _=>True) (by kernel_rfl) [(38,0)] (by kernel_rfl) ?_
    refine lV0 1 0 hY1 vG ?_
    refine yF ⟨fun f X hX hR hal hap=>?_⟩
    have e0:f 0=.agg #[.bool bi,.slice A7 (digs 18446744073709551616 x).length c7,.slice B7 (digs 18446744073709551616 y).length d7]:=hR 0 (by decide)
    simp only [Par.wT,Act.put,jd,List.set_cons_succ,vR,e0]
    clear hR hal hap e0
    refine zZ (fun K hK=>⟨zc (by kernel_rfl) (qo (cs':=#[.bool bi,.slice A7 (digs 18446744073709551616 x).length c7,.slice B7 (digs 18446744073709551616 y).length d7]) (t:=29) 29 (.tmp 6) (.tmp 38) rfl rfl rfl rfl (hX.at_ hr9) vG rfl (vO _ _ _ _ _ _ _) (fun Z hZ1 hZ2 hZ3=>hK.out _ _ ?_))⟩)
    refine zK ?_
    go_wp2
    exact ul rfl rfl rfl hZ1 ⟨_,bi,digs 18446744073709551616 x,digs 18446744073709551616 y,rfl,⟨_,_,_,_,rfl,((H7.out.ext hX).just hZ2 (hX.at_ hr9) (by decide)).ru,((K8.out.ext hX).just hZ2 (hX.at_ hr9) (by decide)).ru⟩,HC.out.dlen HLx.out,HC.out.dlen HLy.out,(fun _=>⟨_,_,Hpo.out,rfl,rfl⟩),hZ2.ext (HEY.out.trans hX) (by have:=Hb0.out;omega)⟩
  case true =>
    obtain ⟨dy,hdy⟩:=eV (digs 18446744073709551616 y)
    rw [hdy] at hY1 z2
    have Hdy:=zF hdy
    clear hdy
    cases dy with
    | nil =>
      go_upto_region 7 with fail
      clear z0 z1 z2 f0 f1 f2 hX
      refine zX 1 [0,1] [] (fun j f X=>match j with
        | 0=>f 0=.agg #[.bool bi,.slice A7 (digs 18446744073709551616 x).length c7,.slice B7 ([]:List Nat).length d7]
        | _=>True) (by kernel_rfl) [(38,0)] (by kernel_rfl) ?_
      refine lV0 1 0 hY1 vG ?_
      refine yF ⟨fun f X hX hR hal hap=>?_⟩
      have e0:f 0=.agg #[.bool bi,.slice A7 (digs 18446744073709551616 x).length c7,.slice B7 ([]:List Nat).length d7]:=hR 0 (by decide)
      simp only [Par.wT,Act.put,jd,List.set_cons_succ,vR,e0]
      clear hR hal hap e0
      refine zZ (fun K hK=>⟨zc (by kernel_rfl) (qo (cs':=#[.bool bi,.slice A7 (digs 18446744073709551616 x).length c7,.slice B7 ([]:List Nat).length d7]) (t:=29) 29 (.tmp 6) (.tmp 38) rfl rfl rfl rfl (hX.at_ hr9) vG rfl (vO _ _ _ _ _ _ _) (fun Z hZ1 hZ2 hZ3=>hK.out _ _ ?_))⟩)
      refine zK ?_
      go_wp2
      exact ul rfl rfl rfl hZ1 ⟨_,bi,digs 18446744073709551616 x,[],rfl,⟨_,_,_,_,rfl,((H7.out.ext hX).just hZ2 (hX.at_ hr9) (by decide)).ru,(by have:=((K8.out.ext hX).just hZ2 (hX.at_ hr9) (by decide)).ru;rw [Hdy.out] at this;exact this)⟩,HC.out.dlen HLx.out,by simp,(fun h=>Bool.noConfusion h),hZ2.ext (HEY.out.trans hX) (by have:=Hb0.out;omega)⟩
    | cons v t =>
      have hk9:=K8.out
      rw [Hdy.out] at hk9
      obtain ⟨hlim,hcap,hmax,hown⟩:=id hk9
      obtain ⟨g,cur,rfl,hg,hh,hcur⟩:=hown (by simp)
      have m0:=zH hh 0
      rw [hcur 0 (.int .u64 (v:Int)) rfl] at m0
      have n0:=zp hh 0
      have Hg:=zF hg
      have Hh:=zF hh
      have Hcur:=zF hcur
      have Hk9:=zF hk9
      clear hk9 hlim hmax hown hg hh hcur hX
      go_upto_region 7 with fail
      obtain ⟨m,hm,hm2⟩:=sD (Hk9.out.1.1 v List.mem_cons_self)
      rw [hm]
      have hj:=(kD.refl g Y).set 0 (.int .u64 (m:Int))
      have g8:b8≠g:=fun e=>by have:=Hh.out;rw [←e,hY1] at this;injection this with this;injection this with _ this;exact absurd this (by decide)
      have g0:b0≠g:=fun e=>by have:=Hh.out;rw [←e,hr9] at this;injection this with this;injection this with _ this;exact absurd this (by decide)
      have hY9:=hj.at_ g8 hY1
      have hr8:=hj.at_ g0 hr9
      have HE9:=zF (hj.ext HEY.out (by have:=HE.out.bsize;have:=Hg.out;omega))
      have Hxv:=zF (H7.out.off_set HK7.out (by rw [Hdy.out];simp) 0 (.int .u64 (m:Int)))
      have Hyv:=zF (Hk9.out.head_set hm2)
      have Hlt:=zF (show (m :: t).length<100000 from by have:=HC.out.dlen HLy.out;rw [Hdy.out] at this;simpa using this)
      clear z0 z1 z2 f0 f1 f2 m0 n0 hm hm2 hj g8 g0 hY1 hr9
      generalize Y.setCell ⟨g,0,none⟩ (.int .u64 (m:Int))=V9 at *
      refine zX 1 [0,1] [] (fun j f X=>match j with
        | 0=>f 0=.agg #[.bool bi,.slice A7 (digs 18446744073709551616 x).length c7,.slice (some ⟨g,0,none⟩) (v :: t).length d7]
        | _=>True) (by kernel_rfl) [(38,0)] (by kernel_rfl) ?_
      refine lV0 1 0 hY9 vG ?_
      refine yF ⟨fun f X hX hR hal hap=>?_⟩
      have e0:f 0=.agg #[.bool bi,.slice A7 (digs 18446744073709551616 x).length c7,.slice (some ⟨g,0,none⟩) (v :: t).length d7]:=hR 0 (by decide)
      simp only [Par.wT,Act.put,jd,List.set_cons_succ,vR,e0]
      clear hR hal hap e0
      refine zZ (fun K hK=>⟨zc (by kernel_rfl) (qo (cs':=#[.bool bi,.slice A7 (digs 18446744073709551616 x).length c7,.slice (some ⟨g,0,none⟩) (v :: t).length d7]) (t:=29) 29 (.tmp 6) (.tmp 38) rfl rfl rfl rfl (hX.at_ hr8) vG rfl (vO _ _ _ _ _ _ _) (fun Z hZ1 hZ2 hZ3=>hK.out _ _ ?_))⟩)
      refine zK ?_
      go_wp2
      exact ul rfl rfl rfl hZ1 ⟨_,bi,digs 18446744073709551616 x,m :: t,rfl,⟨_,_,_,_,rfl,(zb Hxv.out hX).offJ hZ2 (hX.at_ hr8) (by kernel_rfl),(zb Hyv.out hX).offJ hZ2 (hX.at_ hr8) (by kernel_rfl)⟩,HC.out.dlen HLx.out,Hlt.out,(fun h=>Bool.noConfusion h),hZ2.ext (HE9.out.trans hX) (by have:=Hb0.out;omega)⟩
theorem RS.at1 {w:World} {P:Nat→Prop} {A:Option Addr} {c:Nat} {l:List Nat} (h:RS w P 1 A l.length c (nts l)) {i:Nat} (hi:i<l.length):∃ ad,A=some ad∧w.cell? (ad.add i)=some (.int .u64 (dg l i:Int)):=by
 obtain ⟨ad,e,_,hc⟩:=h.2.2.2 (by omega)
 exact ⟨ad,e,hc i _ (xk hi)⟩
theorem zAA (P:Nat→Prop) (A:Option Addr) (c:Nat) (l:List Nat) (w:World) (h:RS w P 1 A l.length c (nts l)) (_hb:l.length≤70368744177664) (hx:∀ x∈l,x<18446744073709551616) :
 Calls Tryz.prog 36 #[.slice A l.length c] w fun e w'=>(∃ A' n' c',e=.returned (.slice A' n' c'))∧w=w':=by
 have h1:=h.1
 have h2:c≤9223372036854775807:=h.2.1
 have Hx:=zF hx
 clear hx
 go_enter Tryz.func36,Tryz.ntmps36
 go_wp2
 go_loop [3] (fun n=>∃ k:Nat,k≤l.length∧n=.int .i64 k) (fun n=>(intOf n).toNat)
 case atStart=>exact ⟨l.length,zG _,rfl⟩
 case round =>
  obtain ⟨k,hk,rfl⟩:=hrel
  rcases k with _ | k
  · go_wp2
    go_ret
    exact ⟨⟨_,_,_,rfl⟩,rfl⟩
  · obtain ⟨ad,rfl,hc⟩:=h.at1 (i:=k) (by omega)
    by_cases h0:dg l k=0
    · rw [h0] at hc
      clear h0
      go_wp2
      go_round
      case rel=>exact ⟨k,by omega,by go_num⟩
      case measure=>simp [intOf]
    · have h0':(((dg l k:Nat):Int)==0)=false:=eqB (by omega)
      clear h0
      go_wp2
      go_ret
      exact ⟨⟨_,_,_,rfl⟩,rfl⟩
theorem RS.of_blk {w:World} {g:Nat} {l:List Nat} {c:Nat} (h:Blk w g l) (hc:l.length≤c) (hc':c≤maxLen):RS w (fun _=>True) 1 (some ⟨g,0,none⟩) l.length c (nts l) :=
 ⟨hc, hc', by simp [nts], fun hn => ⟨_, rfl, trivial, fun j u hu => by
  have hj:j<l.length:=by have:=(List.getElem?_eq_some_iff.1 hu).1;simpa [nts] using this
  have:=h.cell (i:=j) hj
  rw [xk hj] at hu
  injection hu with hu
  subst hu
  rw [wl]
  exact this⟩⟩
theorem rL (P:Nat→Prop) (A:Option Addr) (c:Nat) (l:List Nat) (w:World) (h:RL w P A c l) (hP:∀ b,P b→b<w.heap.size) :
 Calls Tryz.prog 8 #[.slice A l.length c] w fun e w'=>(∃ A1 n1 c1,e=.returned (.slice A1 n1 c1))∧Below w.heap.size w w':=by
 have h1:=h.1.1
 have h2:c≤9223372036854775807:=h.1.2.1
 have h3:=h.2.2
 have hmk:=jJ (P:=Tryz.prog) 26 69 (.int .u64 0) 8 Tryz.underlying26 j9 rfl .i64 .i64 (2*l.length) (by omega) (by omega)
 simp only [vq,qf] at hmk
 go_enter Tryz.func8,Tryz.ntmps8
 go_wp2
 go_loopw [4] (fun iv wr=>∃ (i:Nat) (o:List Nat),iv=.int .i64 (i:Int)∧i≤l.length∧xc l o i∧(∀ x∈o,x<18446744073709551616)∧Blk wr w.heap.size o∧Below w.heap.size w wr) (fun iv _=>l.length - (intOf iv).toNat)
 case atStart=>exact ⟨0,List.replicate (2*l.length) 0,rfl,by omega,xc.zero _,by simp,vT w _,(zQ _ w).alloc (zG _) _⟩
 case round =>
  obtain ⟨i,o,rfl,hi,hF,hLo,hblk,hB⟩:=hrel
  by_cases hlt:i<l.length
  · obtain ⟨ad,rfl,q1⟩:=RS.at1 (h.below hB hP).1 hlt
    have hol:=hF.1
    have hxi:dg l i<18446744073709551616:=by rw [xn hlt];exact h.2.1 _ (jX hlt)
    obtain ⟨p,q,hp,hq,he,e1,e2⟩:∃ p q:Nat,p<4294967296∧q<4294967296∧p+4294967296*q=dg l i∧(dg l i:Int) % 4294967296=(p:Int)∧(dg l i:Int) / 4294967296=(q:Int) :=
     ⟨dg l i % 4294967296,dg l i / 4294967296,by omega,by omega,by omega,by omega,by omega⟩
    have q3:=hblk.cell (i:=2*i) (by omega)
    have q4:=hblk.free (2*i)
    have hblk1:=hblk.set (2*i) p
    have q5:=hblk1.cell (i:=2*i+1) (by simp;omega)
    have q6:=hblk1.free (2*i+1)
    have hblk2:=hblk1.set (2*i+1) q
    have hLo':∀ x∈(o.set (2*i) p).set (2*i+1) q,x<18446744073709551616:=fun x hx=>by
     rcases List.mem_or_eq_of_mem_set hx with hx | rfl
     · rcases List.mem_or_eq_of_mem_set hx with hx | rfl
       · exact hLo x hx
       · omega
     · omega
    have hB1:=hB.setCell (p:=⟨w.heap.size,2*i,none⟩) (zG _) (.int .u64 (p:Int))
    obtain ⟨_,e7,q7⟩:=RS.at1 (h.below hB1 hP).1 hlt
    injection e7 with e7
    subst e7
    have hB2:=hB1.setCell (p:=⟨w.heap.size,2*i+1,none⟩) (zG _) (.int .u64 (q:Int))
    have hF':=hF.step hlt hp hq he
    have k1:(2:Int)*(i:Int)<2*(l.length:Int):=by omega
    have k2:(2:Int)*(i:Int)+1<2*(l.length:Int):=by omega
    have HLo:=zF hLo'
    clear hF hLo hLo' hblk hB hblk1 hB1 he hol hp hq
    go_wp2
    go_roundw
    case rel=>exact ⟨i+1,(o.set (2*i) p).set (2*i+1) q,by go_num,by omega,hF',HLo.out,hblk2,hB2⟩
    case measure=>simp [intOf];omega
  · obtain rfl:i=l.length:=by omega
    have hol:=hF.1
    have ht:=zAA _ _ (2*l.length) _ _ (RS.of_blk hblk (by omega) (by unfold maxLen;omega)) (by omega) hLo
    rw [hol] at ht
    have Ht:=zF ht
    clear hblk ht hLo hF hol
    go_wp2_with fail
    refine Ht.out.mono ?_
    rintro e w1 ⟨⟨A',n',c',rfl⟩,rfl⟩
    go_wp2
    go_ret
    exact ⟨⟨_,_,_,rfl⟩,hB⟩
theorem sQ {p:Value} {bi:Bool} {a b:List Nat} (w:World) (hp:APn w p bi a b) (hla:a.length<100000) (hlb:b.length<100000):Calls Tryz.prog 10 #[p] w fun e w'=>∃ o,e=.returned o ∧
 RPv w' o bi (if bi then 0 else val 18446744073709551616 a) (if bi then 0 else val 18446744073709551616 b)∧Ext w w':=by
 obtain ⟨A,A',ca,cb,rfl,hx,hy⟩:=hp
 obtain ⟨W0,hW0⟩:=eW ((w.alloc (.cells #[.bool bi,.slice A a.length ca,.slice A' b.length cb] 29)).alloc (.cells #[.bool false,.slice none 0 0,.slice none 0 0] 32))
 obtain ⟨q,hq⟩:=eV w.heap.size
 have hE0:Ext w W0:=by rw [hW0];exact (zR _ _).trans (zR _ _)
 obtain ⟨h1,h2,hz0⟩:=kW w (.cells #[.bool bi,.slice A a.length ca,.slice A' b.length cb] 29) (.cells #[.bool false,.slice none 0 0,.slice none 0 0] 32)
 rw [←hW0,hq] at h1 h2 hz0
 have p0:=zH h1 0
 have p1:=zH h1 1
 have p2:=zH h1 2
 simp only [zI,zJ,zL] at p0 p1 p2
 have Hx:=zF (zb hx hE0)
 have Hy:=zF (zb hy hE0)
 have HE0:=zF hE0
 clear hx hy hE0 hz0 h1
 cases bi
 case true =>
  go_enter Tryz.func10,Tryz.ntmps10
  go_upto_region 1 with fail
  rw [←hW0]
  have Hq:=zF hq
  clear hW0 hq
  go_upto_region 2 with fail
  refine zX 1 [0,1] [] (fun j f X=>match j with
   | 0=>f 0=.agg #[.bool true,.slice none 0 0,.slice none 0 0]
   | _=>True) (by kernel_rfl) [(5,0)] (by kernel_rfl) ?_
  refine zT 1 0 ?_
  refine yF ⟨fun f X hX hR hal hap=>?_⟩
  have e0:f 0=_:=hR 0 (by decide)
  simp only [yZ,e0]
  clear hR hal hap e0
  refine zZ (fun K hK=>⟨zc (by kernel_rfl) (qo (cs':=#[.bool true,.slice none 0 0,.slice none 0 0]) (t:=32) 32 (.tmp 2) (.tmp 5) rfl rfl rfl rfl (hX.at_ h2) uP rfl (vO _ _ _ _ _ _ _) (fun Y hY1 hY2 hY3=>hK.out _ _ ?_))⟩)
  refine zK ?_
  go_wp2
  exact yq rfl rfl rfl hY1 ⟨_,rfl,RPv.inf_ _,hY2.ext (HE0.out.trans hX) (by have:=Hq.out;omega)⟩
 case false =>
  go_enter Tryz.func10,Tryz.ntmps10
  go_upto_region 1 with fail
  rw [←hW0]
  have Hq:=zF hq
  clear hW0 hq
  go_upto_region 3 with fail
  refine zj (by kernel_rfl) 7 [0,1,3,0,8,31,63,127] [] (fun j f X=>match j with
   | 0=>f 0=.pointer (some ⟨q,1,none⟩)
   | 1=>f 1=.slice A a.length ca
   | 2=>∃ B c,f 2=.slice B (digs 4294967296 (val 18446744073709551616 a)).length c∧RU X B c (digs 4294967296 (val 18446744073709551616 a))
   | 3=>f 3=.pointer (some ⟨q,2,none⟩)
   | 4=>f 4=.slice A' b.length cb
   | 5=>∃ B c,f 5=.slice B (digs 4294967296 (val 18446744073709551616 b)).length c∧RU X B c (digs 4294967296 (val 18446744073709551616 b))
   | 6=>f 6=.agg #[.bool false,f 2,f 5]
   | _=>True) (by kernel_rfl) [(6,0),(7,1),(8,2),(9,3),(10,4),(11,5),(12,6)] (by kernel_rfl) ?_
  refine zT 1 6 ?_
  refine qG 2 5 0 p1 ?_
  refine qC 3 4 (fun f=>#[f 1]) (F':=8) (fun f X hX hR=>?_) ?_
  · have e1:f 1=_:=hR.out 1 rfl
    simp only [e1]
    refine (kA _ A ca a X (zb Hx.out hX) (fun _ h=>h) hla).mono ?_
    rintro e w2 ⟨B,c,rfl,h,hB⟩
    exact ⟨(.slice B (digs 4294967296 (val 18446744073709551616 a)).length c),rfl,hB,fun Y hY=>⟨B,c,rfl,zb h.ru hY⟩⟩
  refine zT 4 3 ?_
  refine qG 5 2 3 p2 ?_
  refine qC 6 1 (fun f=>#[f 4]) (F':=8) (fun f X hX hR=>?_) ?_
  · have e4:f 4=_:=hR.out 4 rfl
    simp only [e4]
    refine (kA _ A' cb b X (zb Hy.out hX) (fun _ h=>h) hlb).mono ?_
    rintro e w2 ⟨B,c,rfl,h,hB⟩
    exact ⟨(.slice B (digs 4294967296 (val 18446744073709551616 b)).length c),rfl,hB,fun Y hY=>⟨B,c,rfl,zb h.ru hY⟩⟩
  refine zt 7 0 [(6,0),(7,1),(8,2),(9,3),(10,4),(11,5)] (fun f X hX hR K hK=>?_) ?_
  · obtain ⟨B2,c2,(e2:f 2=_),h_2⟩:=hR.out 2 rfl
    obtain ⟨B5,c5,(e5:f 5=_),h_5⟩:=hR.out 5 rfl
    simp only [yZ,e2,e5]
    refine ⟨?_⟩
    go_simp
    exact hK.out _ (.agg #[.bool false,f 2,f 5]) _ (by simp only [yZ,e2,e5]) (zd _) trivial (fun _ _=>rfl)
  refine yF ⟨fun f X hX hR hal hap=>?_⟩
  obtain ⟨B2,c2,(e2:f 2=_),h_2⟩:=hR 2 (by decide)
  obtain ⟨B5,c5,(e5:f 5=_),h_5⟩:=hR 5 (by decide)
  have e6:f 6=.agg #[.bool false,f 2,f 5]:=hR 6 (by decide)
  simp only [yZ,e2,e5,e6]
  clear hR hal hap e2 e5 e6
  refine zZ (fun K hK=>⟨zc (by kernel_rfl) (qo (cs':=#[.bool false,.slice B2 (digs 4294967296 (val 18446744073709551616 a)).length c2,.slice B5 (digs 4294967296 (val 18446744073709551616 b)).length c5]) (t:=32) 32 (.tmp 2) (.tmp 12) rfl rfl rfl rfl (hX.at_ h2) uP rfl (vO _ _ _ _ _ _ _) (fun Y hY1 hY2 hY3=>hK.out _ _ ?_))⟩)
  refine zK ?_
  go_wp2
  exact yq rfl rfl rfl hY1 ⟨_,rfl,⟨_,_,_,_,rfl,h_2.offJ hY2 (hX.at_ h2) (by kernel_rfl),h_5.offJ hY2 (hX.at_ h2) (by kernel_rfl)⟩,hY2.ext (HE0.out.trans hX) (by have:=Hq.out;omega)⟩
theorem sP {P:Nat→Prop} {A A':Option Addr} {ca cb:Nat} {a b:List Nat} (w:World) (hx:RL w P A ca a) (hy:RL w P A' cb b) (hP:∀ b,P b→b<w.heap.size):Calls Tryz.prog 10 #[.agg #[.bool false,.slice A a.length ca,.slice A' b.length cb]] w fun e w'=>(∃ B n k B' n' k',e=.returned (.agg #[.bool false,.slice B n k,.slice B' n' k']))∧Ext w w':=by
 obtain ⟨W0,hW0⟩:=eW ((w.alloc (.cells #[.bool false,.slice A a.length ca,.slice A' b.length cb] 29)).alloc (.cells #[.bool false,.slice none 0 0,.slice none 0 0] 32))
 obtain ⟨q,hq⟩:=eV w.heap.size
 have hE0:Ext w W0:=by rw [hW0];exact (zR _ _).trans (zR _ _)
 obtain ⟨h1,h2,hz0⟩:=kW w (.cells #[.bool false,.slice A a.length ca,.slice A' b.length cb] 29) (.cells #[.bool false,.slice none 0 0,.slice none 0 0] 32)
 rw [←hW0,hq] at h1 h2 hz0
 have p0:=zH h1 0
 have p1:=zH h1 1
 have p2:=zH h1 2
 simp only [zI,zJ,zL] at p0 p1 p2
 have Hx:=zF (hx.below hE0 hP)
 have Hy:=zF (hy.below hE0 hP)
 have HP:=zF (show ∀ b,P b→b<W0.heap.size from fun b hb=>zP (hP b hb) hE0.bsize)
 have HE0:=zF hE0
 clear hx hy hE0 hz0 h1 hP
 go_enter Tryz.func10,Tryz.ntmps10
 go_upto_region 1 with fail
 rw [←hW0]
 have Hq:=zF hq
 clear hW0 hq
 go_upto_region 3 with fail
 refine zj (by kernel_rfl) 7 [0,1,3,0,8,31,63,127] [] (fun j f X=>match j with
  | 0=>f 0=.pointer (some ⟨q,1,none⟩)
  | 1=>f 1=.slice A a.length ca
  | 2=>∃ B n c,f 2=.slice B n c
  | 3=>f 3=.pointer (some ⟨q,2,none⟩)
  | 4=>f 4=.slice A' b.length cb
  | 5=>∃ B n c,f 5=.slice B n c
  | 6=>f 6=.agg #[.bool false,f 2,f 5]
  | _=>True) (by kernel_rfl) [(6,0),(7,1),(8,2),(9,3),(10,4),(11,5),(12,6)] (by kernel_rfl) ?_
 refine zT 1 6 ?_
 refine qG 2 5 0 p1 ?_
 refine qC 3 4 (fun f=>#[f 1]) (F':=8) (fun f X hX hR=>?_) ?_
 · have e1:f 1=_:=hR.out 1 rfl
   simp only [e1]
   refine (rL P A ca a X (Hx.out.below hX HP.out) (fun b hb=>zP (HP.out b hb) hX.bsize)).mono ?_
   rintro e w2 ⟨⟨B,n,c,rfl⟩,hB⟩
   exact ⟨(.slice B n c),rfl,hB,fun Y hY=>⟨B,n,c,rfl⟩⟩
 refine zT 4 3 ?_
 refine qG 5 2 3 p2 ?_
 refine qC 6 1 (fun f=>#[f 4]) (F':=8) (fun f X hX hR=>?_) ?_
 · have e4:f 4=_:=hR.out 4 rfl
   simp only [e4]
   refine (rL P A' cb b X (Hy.out.below hX HP.out) (fun b hb=>zP (HP.out b hb) hX.bsize)).mono ?_
   rintro e w2 ⟨⟨B,n,c,rfl⟩,hB⟩
   exact ⟨(.slice B n c),rfl,hB,fun Y hY=>⟨B,n,c,rfl⟩⟩
 refine zt 7 0 [(6,0),(7,1),(8,2),(9,3),(10,4),(11,5)] (fun f X hX hR K hK=>?_) ?_
 · obtain ⟨B2,n2,c2,(e2:f 2=_)⟩:=hR.out 2 rfl
   obtain ⟨B5,n5,c5,(e5:f 5=_)⟩:=hR.out 5 rfl
   simp only [yZ,e2,e5]
   refine ⟨?_⟩
   go_simp
   exact hK.out _ (.agg #[.bool false,f 2,f 5]) _ (by simp only [yZ,e2,e5]) (zd _) trivial (fun _ _=>rfl)
 refine yF ⟨fun f X hX hR hal hap=>?_⟩
 obtain ⟨B2,n2,c2,(e2:f 2=_)⟩:=hR 2 (by decide)
 obtain ⟨B5,n5,c5,(e5:f 5=_)⟩:=hR 5 (by decide)
 have e6:f 6=.agg #[.bool false,f 2,f 5]:=hR 6 (by decide)
 simp only [yZ,e2,e5,e6]
 clear hR hal hap e2 e5 e6
 refine zZ (fun K hK=>⟨zc (by kernel_rfl) (qo (cs':=#[.bool false,.slice B2 n2 c2,.slice B5 n5 c5]) (t:=32) 32 (.tmp 2) (.tmp 12) rfl rfl rfl rfl (hX.at_ h2) uP rfl (vO _ _ _ _ _ _ _) (fun Y hY1 hY2 hY3=>hK.out _ _ ?_))⟩)
 refine zK ?_
 go_wp2
 exact yq rfl rfl rfl hY1 ⟨⟨_,_,_,_,_,_,rfl⟩,hY2.ext (HE0.out.trans hX) (by have:=Hq.out;omega)⟩
end Go.Proofs.YtmlbicgpehchhaaGreat
namespace Go.Proofs.YtmlbicgpehchhaaGreat.Ec
open Go.RowKit Go.Shelf Der
attribute [local go_sem] Oper.semAt_some
theorem sR {c:Int} (g1:c≠1) (g2:c≠2) (P:Nat→Prop) (A:Option Addr) (cap x:Nat) (w:World) (h:RN w P A cap (digs 4294967296 x)) (hP:∀ b,P b→b<w.heap.size) :
 Calls Tryz.prog 12 #[.int .i64 c,.slice A (digs 4294967296 x).length cap] w fun e w'=>WrB none e w'∧Below w.heap.size w w':=by
 have HM:=bu (C:=c0) (.inr ⟨g1,g2,rfl⟩) P A cap x w h hP
 have hm:vK c0 x=false:=by
  unfold vK
  simp [c0]
 rw [hm] at HM
 have HM:=zF HM
 clear hm h hP g1 g2
 go_enter Tryz.func12,Tryz.ntmps12
 go_wp2_with fail
 refine HM.out.mono ?_
 rintro e w1 ⟨rfl,hE1⟩
 go_wp2
 go_ret2
 exact ⟨⟨_,_,rfl,vY _ _⟩,hE1⟩
theorem ti {c:Int} {C:Crv} {oc:List Nat} (hC:IsC c C) (hn:IsN c oc) {P:Nat→Prop} {A B:Option Addr} {cap cb:Nat} {l la:List Nat} (sp:Bool) (w:World) (hk:RL w P A cap l) (ha:RL w P B cb la) (hP:∀ b,P b→b<w.heap.size) :
 Calls Tryz.prog 3 #[.int .i64 c,.slice A l.length cap,.slice B la.length cb,.bool sp] w fun e w'=>e=.returned (.bool true)∧Ext w w':=by
 have hlt:∀ {X},Ext w X→∀ b,P b→b<X.heap.size:=fun hX b hb=>zP (hP b hb) hX.bsize
 refine af (D:=Bool×List Nat×List Nat)
  (Pp:=fun X v d=>APn X v d.1 d.2.1 d.2.2∧d.2.1.length<100000∧d.2.2.length<100000)
  (Pu:=fun X v d=>RPv X v d.1 (if d.1 then 0 else val 18446744073709551616 d.2.1) (if d.1 then 0 else val 18446744073709551616 d.2.2))
  (R1:=uT C oc (val 18446744073709551616 (l.take 6))) (R2:=fun d=>fA C oc d.1 (val 18446744073709551616 d.2.1) (val 18446744073709551616 d.2.2))
  sp w hk hP rfl ?_ ?_ ?_ ?_ ?_ ?_ ?_ ?_ ?_ ?_
 · intro X hX
   refine (se hC sp rfl rfl X (ha.below hX hP) (hlt hX)).mono ?_
   rintro e w' ⟨v,bi,a,b,rfl,ha,h1,h2,_,hE⟩
   obtain ⟨A1,A2,c1,c2,rfl,h3,h4⟩:=id ha
   exact ⟨(bi,a,b),_,_,_,_,_,_,_,rfl,⟨ha,h1,h2⟩,hE⟩
 · exact fun X Y v d h hE=>⟨h.1.ext hE,h.2⟩
 · exact fun X Y v d h hE=>RPv.ext h hE
 · intro X v d h
   refine (sQ X h.1 h.2.1 h.2.2).mono ?_
   rintro e w' ⟨o,rfl,ho,hE⟩
   obtain ⟨A1,A2,c1,c2,rfl,h3,h4⟩:=id ho
   exact ⟨_,_,_,_,_,_,_,rfl,ho,hE⟩
 · intro X A' c' ls h hv
   have:=fL hC hn (Al X) A' c' ls X h (fun b hb=>hb)
   rwa [hv] at this
 · exact fun X A' c' h=>sS hC hn (IsN.short hn) (Al X) A' c' _ X h (fun b hb=>hb)
 · exact fun X v d h=>dG hC hn X h.1.pt
 · intro X v d h
   have:=pN hC hn X h
   rwa [zAF rfl rfl] at this
 · exact fun kb h=>tf hC hn h
 · rintro ⟨bi,a,b⟩ kb h
   obtain ⟨hb,hr⟩:=rd_pk hC hn h
   exact ⟨_,_,hr,fun X v hv=>by
    have hb:bi=false:=hb
    subst hb
    exact hv⟩
theorem fmt_n {c:Int} (g1:c≠1) (g2:c≠2) {P:Nat→Prop} {A B:Option Addr} {cap cb:Nat} {l la:List Nat} (sp:Bool) (w:World) (hk:RL w P A cap l) (ha:RL w P B cb la) (hP:∀ b,P b→b<w.heap.size) :
 Calls Tryz.prog 3 #[.int .i64 c,.slice A l.length cap,.slice B la.length cb,.bool sp] w fun e w'=>e=.returned (.bool true)∧Ext w w':=by
 have hlt:∀ {X},Ext w X→∀ b,P b→b<X.heap.size:=fun hX b hb=>zP (hP b hb) hX.bsize
 refine af (D:=Unit)
  (Pp:=fun X v _=>v=.agg #[.bool false,.slice B la.length cb,.slice B la.length cb]∧Ext w X)
  (Pu:=fun X v _=>∃ (bi:Bool) (A1:Option Addr) (n1 c1:Nat) (A2:Option Addr) (n2 c2:Nat),v=.agg #[.bool bi,.slice A1 n1 c1,.slice A2 n2 c2])
  (R1:=none) (R2:=fun _=>none)
  sp w hk hP rfl ?_ ?_ ?_ ?_ ?_ ?_ ?_ ?_ ?_ ?_
 · intro X hX
   refine (mQ g1 g2 B la.length cb sp X).mono ?_
   rintro e w' ⟨rfl,hE⟩
   exact ⟨(),_,_,_,_,_,_,_,rfl,⟨rfl,za hX hE⟩,hE⟩
 · exact fun X Y v d h hE=>⟨h.1,za h.2 hE⟩
 · exact fun X Y v d h hE=>h
 · rintro X v d ⟨rfl,hX⟩
   refine (sP X (ha.below hX hP) (ha.below hX hP) (hlt hX)).mono ?_
   rintro e w' ⟨⟨A1,n1,c1,A2,n2,c2,rfl⟩,hE⟩
   exact ⟨_,_,_,_,_,_,_,rfl,⟨_,_,_,_,_,_,_,rfl⟩,hE⟩
 · exact fun X A' c' ls h hv=>nY g1 g2 (Al X) A' c' ls X h (fun b hb=>hb)
 · exact fun X A' c' h=>sR g1 g2 (Al X) A' c' _ X h (fun b hb=>hb)
 · rintro X v d ⟨rfl,hX⟩
   exact aW g1 g2 _ _ _ X
 · rintro X v d ⟨bi,A1,n1,c1,A2,n2,c2,rfl⟩
   exact pM g1 g2 _ _ _ X
 · exact fun kb h=>by cases h
 · exact fun d kb h=>by cases h
theorem tH (c:Int) {P:Nat→Prop} {A B:Option Addr} {cap cb:Nat} {l la:List Nat} (sp:Bool) (w:World) (hk:RL w P A cap l) (ha:RL w P B cb la) (hP:∀ b,P b→b<w.heap.size) :
 Calls Tryz.prog 3 #[.int .i64 c,.slice A l.length cap,.slice B la.length cb,.bool sp] w fun e w'=>e=.returned (.bool true)∧Ext w w':=by
 by_cases h1:c=1
 · exact ti (.inl ⟨h1,rfl⟩) (.inl ⟨h1,rfl⟩) sp w hk ha hP
 by_cases h2:c=2
 · exact ti (.inr ⟨h2,rfl⟩) (.inr ⟨h2,rfl⟩) sp w hk ha hP
 exact fmt_n h1 h2 sp w hk ha hP
end Go.Proofs.YtmlbicgpehchhaaGreat.Ec
namespace Go.Proofs.YtmlbicgpehchhaaGreat.fmtEC
open Go.ChangeShapes Go.WideShapes Go.ChangeAt Go.RowKit
theorem own:ownKnob Tryz.prog.godebug=none:=by kernel_rfl
theorem laidOut:laidOutB Tryz.prog=true:=by kernel_rfl
theorem lifted (os:Os) (started:os.Started) (H:Type) (enc:TypeId×Value→H) :
 ReturnsInHanded {} Tryz.checked os 3 .any (Rows.fmtECSpec.pre6 enc Tryz.prog Tryz.f3 Rows.fmtECRow.domain false) (Rows.fmtECSpec.post enc Tryz.prog Tryz.f3 false true false false):=by
 refine returnsInHanded_of_change_sized (C:=Tryz.checked) own started (by kernel_rfl) Tryz.func3
  (ChangeSpec.witness6 (enc:=enc) (C:=Tryz.checked) false ⟨#[],#[.int .i64 0,.slice none 0 0,.slice none 0 0,.bool false],[]⟩ 8 (by kernel_rfl) (by kernel_rfl) (by kernel_rfl) (by kernel_rfl)) ?_
 intro W base args ds gs before hval0 hW hcnd hsz0 _
 have hval:∀ (j:Nat) t v,Tryz.f3.params[j]?=some t→args[j]?=some v→Value.okWide Tryz.prog W .any base t v:=hval0
 have hsz:(DataW.weightsEach Tryz.prog (Tryz.f3.params.toList++Rows.fmtECSpec.plain.varTypes Tryz.prog) (ds++gs)).all (· ≤ reachBytes)=true:=hsz0
 have hW':=hW
 obtain ⟨p,q,hA0,hV,rfl,hfz,hnd⟩:=hW
 have hA:DataW.TrodAll enc Tryz.prog W 0 (fun _=>true) true Tryz.f3.params.toList args.toList ds p:=hA0
 rw [Tryz.params3] at hA hval hsz
 obtain ⟨v0,vs0,d0,ds0,p0,q0,hargs,rfl,rfl,h0,r0⟩:=trodAll_cons hA
 obtain ⟨v1,vs1,d1,ds1,p1,q1,rfl,rfl,rfl,h1,r1⟩:=trodAll_cons r0
 obtain ⟨v2,vs2,d2,ds2,p2,q2,rfl,rfl,rfl,h2,r2⟩:=trodAll_cons r1
 obtain ⟨v3,vs3,d3,ds3,p3,q3,rfl,rfl,rfl,h3,r3⟩:=trodAll_cons r2
 obtain ⟨rfl,rfl,rfl⟩:=trodAll_nil r3
 obtain rfl:args=#[v0,v1,v2,v3]:=by cases args;simp_all
 obtain ⟨rfl,rfl⟩:=trodVars_none hV
 have k0:=h0
 have lt0:∀ x∈p0,x.block<W.heap.size:=by obtain ⟨m,hm⟩:=k0;exact DataW.trod_lt m _ _ _ hm
 have k1:=h1
 have lt1:∀ x∈p1,x.block<W.heap.size:=by obtain ⟨m,hm⟩:=k1;exact DataW.trod_lt m _ _ _ hm
 have k2:=h2
 have lt2:∀ x∈p2,x.block<W.heap.size:=by obtain ⟨m,hm⟩:=k2;exact DataW.trod_lt m _ _ _ hm
 have k3:=h3
 have lt3:∀ x∈p3,x.block<W.heap.size:=by obtain ⟨m,hm⟩:=k3;exact DataW.trod_lt m _ _ _ hm
 have fit:∀ (j:Nat) (t:TypeId) (d:DataW H),[3,23,23,4][j]?=some t→[d0,d1,d2,d3][j]?=some d→Fits t d:=fun j t d ht hd k hk=>by
  have:=List.all_eq_true.1 hsz k (DataW.weights_mem_each (ts:=[3,23,23,4]) (ds:=[d0,d1,d2,d3]) ht hd k hk)
  simpa using this
 obtain ⟨n0,hv0,_,_,wf0⟩:=open_int Tryz.underlying3 (hval 0 3 v0 rfl rfl) h0
 obtain ⟨a1,len1,cap1,e1⟩:=okWide_slice Tryz.underlying23 (hval 1 23 v1 rfl rfl)
 obtain ⟨A1,c1,l1,hv1,hR1⟩:∃ A c l,v1=.slice A (List.length l) c∧RL W (fun b=>b<W.heap.size) A c l:=by
  obtain ⟨fuel,hf⟩:=h1
  rw [e1] at hf ⊢
  exact cD hf (fit 1 _ _ rfl rfl)
 obtain ⟨a2,len2,cap2,e2⟩:=okWide_slice Tryz.underlying23 (hval 2 23 v2 rfl rfl)
 obtain ⟨A2,c2,l2,hv2,hR2⟩:∃ A c l,v2=.slice A (List.length l) c∧RL W (fun b=>b<W.heap.size) A c l:=by
  obtain ⟨fuel,hf⟩:=h2
  rw [e2] at hf ⊢
  exact cD hf (fit 2 _ _ rfl rfl)
 obtain ⟨b3,hv3,_⟩:=open_bool Tryz.underlying4 (hval 3 4 v3 rfl rfl) h3
 clear hA0 hval0
 subst hv0 hv1 hv2 hv3
 refine (Ec.tH n0 b3 W hR1 hR2 (fun b hb=>hb)).mono fun e W' ⟨he,bel⟩=>?_
 subst he
 exact ⟨_,rfl,_,_,_,[],_,[],hW',trodAll_mk1 (shut_bool Tryz.underlying4 _),(trodAll_cons_mk (Below.trod laidOut (by kernel_rfl) (of_decide_eq_true (by kernel_rfl)) k0 bel lt0) (trodAll_cons_mk (Below.trod laidOut (by kernel_rfl) (of_decide_eq_true (by kernel_rfl)) k1 bel lt1) (trodAll_cons_mk (Below.trod laidOut (by kernel_rfl) (of_decide_eq_true (by kernel_rfl)) k2 bel lt2) (trodAll_cons_mk (Below.trod laidOut (by kernel_rfl) (of_decide_eq_true (by kernel_rfl)) k3 bel lt3) trodAll_mk0)))),rfl,bel.frame _,fun h=>by cases h⟩
theorem over:Rows.fmtECRow.holds Tryz.pinned (OpenSpec.ofChange Rows.fmtECSpec) :=
 OpenClaim.holds_of_wide 3 Tryz.f3 rfl rfl rfl rfl rfl rfl rfl ⟨rfl,rfl,rfl,rfl,rfl⟩ rfl rfl rfl rfl rfl (by kernel_rfl) Tryz.func3 (by kernel_rfl)
  (of_decide_eq_true (by kernel_rfl)) (by unfold Func.isWrapper;first | (rw [qE (by decide +kernel)];kernel_rfl) | (rw [zr (by decide +kernel)];exact ⟨rfl,rfl⟩))
  (fun os started H enc _=>lifted os started H enc)
theorem proved:Rows.FmtECSaid:=over
#print axioms proved
end Go.Proofs.YtmlbicgpehchhaaGreat.fmtEC
