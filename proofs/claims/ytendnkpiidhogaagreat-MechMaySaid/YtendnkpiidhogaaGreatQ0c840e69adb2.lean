/- The reference's Valid of an RSA key: it answers. -/
import Derived.Test.YtendnkpiidhogaaGreatQ6f3e48f3c230
set_option maxRecDepth 100000
set_option maxHeartbeats 16000000
namespace Go.Proofs.YtendnkpiidhogaaGreat.At
open Go.RowKit Go.Shelf
attribute [local go_sem] Oper.semAt_some
theorem mul_len (x y:Nat):(digs 4294967296 (x*y)).length≤(digs 4294967296 x).length+(digs 4294967296 y).length:=by
 refine digs_length_of_lt (by omega) ?_
 have hx:=val_lt (digs_lt (B:=4294967296) (by omega) x)
 have hy:=val_lt (digs_lt (B:=4294967296) (by omega) y)
 rw [val_digs (by omega)] at hx hy
 rw [Nat.pow_add]
 exact Nat.mul_lt_mul'' hx hy
theorem extD (X:World) (d:Nat):Ext X (X.drewN d):=below_drewN (Below.refl _ X) d
theorem valid7_t (A0 A1 A2 A3 A4:Option Addr) (c0 c1 c2 c3 c4 x0 x1 x2 x3 x4:Nat) (w:World)
 (h0:RU w A0 c0 (digs 4294967296 x0)) (h1:RU w A1 c1 (digs 4294967296 x1)) (h2:RU w A2 c2 (digs 4294967296 x2)) (h3:RU w A3 c3 (digs 4294967296 x3)) (h4:RU w A4 c4 (digs 4294967296 x4))
 (l0:(digs 4294967296 x0).length<20000) (l1:(digs 4294967296 x1).length<20000) (l2:(digs 4294967296 x2).length<20000) (l3:(digs 4294967296 x3).length<20000) (l4:(digs 4294967296 x4).length<20000) :
 Calls Tryz.prog 122 #[.agg #[.slice A0 (digs 4294967296 x0).length c0,.slice A1 (digs 4294967296 x1).length c1,.slice A2 (digs 4294967296 x2).length c2,.slice A3 (digs 4294967296 x3).length c3,.slice A4 (digs 4294967296 x4).length c4]] w fun e w'=>(∃ b:Bool,e=.returned (.bool b))∧Below w.heap.size w w':=by
 have hW0:Ext w (w.alloc (.cells #[.slice A0 (digs 4294967296 x0).length c0,.slice A1 (digs 4294967296 x1).length c1,.slice A2 (digs 4294967296 x2).length c2,.slice A3 (digs 4294967296 x3).length c3,.slice A4 (digs 4294967296 x4).length c4] 133)):=Ext.alloc _ _
 have hb:=heap_alloc_new w (.cells #[.slice A0 (digs 4294967296 x0).length c0,.slice A1 (digs 4294967296 x1).length c1,.slice A2 (digs 4294967296 x2).length c2,.slice A3 (digs 4294967296 x3).length c3,.slice A4 (digs 4294967296 x4).length c4] 133)
 have m0:=blk_cell hb 0
 have m1:=blk_cell hb 1
 have m2:=blk_cell hb 2
 have m3:=blk_cell hb 3
 have m4:=blk_cell hb 4
 simp only [List.getElem?_toArray,List.getElem?_cons_zero,List.getElem?_cons_succ] at m0 m1 m2 m3 m4
 have H0:=Lib.hid (fun (X:World) (hX:Ext (w.alloc (.cells #[.slice A0 (digs 4294967296 x0).length c0,.slice A1 (digs 4294967296 x1).length c1,.slice A2 (digs 4294967296 x2).length c2,.slice A3 (digs 4294967296 x3).length c3,.slice A4 (digs 4294967296 x4).length c4] 133)) X)=>RN.up h0 (hW0.trans hX))
 have H1:=Lib.hid (fun (X:World) (hX:Ext (w.alloc (.cells #[.slice A0 (digs 4294967296 x0).length c0,.slice A1 (digs 4294967296 x1).length c1,.slice A2 (digs 4294967296 x2).length c2,.slice A3 (digs 4294967296 x3).length c3,.slice A4 (digs 4294967296 x4).length c4] 133)) X)=>RN.up h1 (hW0.trans hX))
 have H2:=Lib.hid (fun (X:World) (hX:Ext (w.alloc (.cells #[.slice A0 (digs 4294967296 x0).length c0,.slice A1 (digs 4294967296 x1).length c1,.slice A2 (digs 4294967296 x2).length c2,.slice A3 (digs 4294967296 x3).length c3,.slice A4 (digs 4294967296 x4).length c4] 133)) X)=>RN.up h2 (hW0.trans hX))
 have H3:=Lib.hid (fun (X:World) (hX:Ext (w.alloc (.cells #[.slice A0 (digs 4294967296 x0).length c0,.slice A1 (digs 4294967296 x1).length c1,.slice A2 (digs 4294967296 x2).length c2,.slice A3 (digs 4294967296 x3).length c3,.slice A4 (digs 4294967296 x4).length c4] 133)) X)=>RN.up h3 (hW0.trans hX))
 have H4:=Lib.hid (fun (X:World) (hX:Ext (w.alloc (.cells #[.slice A0 (digs 4294967296 x0).length c0,.slice A1 (digs 4294967296 x1).length c1,.slice A2 (digs 4294967296 x2).length c2,.slice A3 (digs 4294967296 x3).length c3,.slice A4 (digs 4294967296 x4).length c4] 133)) X)=>RN.up h4 (hW0.trans hX))
 have HW0:=Lib.hid hW0
 have L0:=Lib.hid l0
 have L1:=Lib.hid l1
 have L2:=Lib.hid l2
 have L3:=Lib.hid l3
 have L4:=Lib.hid l4
 clear hb hW0 h0 h1 h2 h3 h4 l0 l1 l2 l3 l4
 obtain ⟨s,hs⟩:∃ s,w.heap.size=s:=⟨_,rfl⟩
 rw [hs] at m0 m1 m2 m3 m4
 have Hs:=Lib.hid hs
 clear hs
 obtain ⟨nb,hnb⟩:∃ nb,nbits x0=nb:=⟨_,rfl⟩
 obtain ⟨v1,hv1⟩:∃ v,cmpV x3 x4=v:=⟨_,rfl⟩
 obtain ⟨v2,hv2⟩:∃ v,cmpV (x3*x4) x0=v:=⟨_,rfl⟩
 have Hnb:=Lib.hid hnb
 have Hv1:=Lib.hid hv1
 have Hv2:=Lib.hid hv2
 clear hnb hv1 hv2
 go_enter Tryz.func122,Tryz.ntmps122
 go_wp2_with fail
 rw [Hs.out]
 generalize w.alloc (.cells #[.slice A0 (digs 4294967296 x0).length c0,.slice A1 (digs 4294967296 x1).length c1,.slice A2 (digs 4294967296 x2).length c2,.slice A3 (digs 4294967296 x3).length c3,.slice A4 (digs 4294967296 x4).length c4] 133)=W0 at *
 refine (refBits_any _ A0 c0 x0 W0 (H0.out W0 (Ext.refl _))).mono ?_
 rw [Hnb.out]
 rintro e W0' ⟨rfl,rfl⟩
 go_wp2_with fail
 refine (refOf_any 1 W0 (by omega)).mono ?_
 rintro e W1 ⟨Ao,co,rfl,hO,hB1⟩
 have HO:=Lib.hid (fun (X:World) (hX:Ext W1 X)=>RN.up hO.ru hX)
 have HE1:Hid (Ext W0 W1):=Lib.hid hB1
 have n0:=HE1.out.cell m0
 have n1:=HE1.out.cell m1
 have n2:=HE1.out.cell m2
 have n3:=HE1.out.cell m3
 have n4:=HE1.out.cell m4
 have HB1:Hid (Below w.heap.size w W1):=Lib.hid (HW0.out.trans hB1)
 have G0:=Lib.hid (fun (X:World) (hX:Ext W1 X)=>H0.out X (HE1.out.trans hX))
 have G1:=Lib.hid (fun (X:World) (hX:Ext W1 X)=>H1.out X (HE1.out.trans hX))
 have G2:=Lib.hid (fun (X:World) (hX:Ext W1 X)=>H2.out X (HE1.out.trans hX))
 have G3:=Lib.hid (fun (X:World) (hX:Ext W1 X)=>H3.out X (HE1.out.trans hX))
 have G4:=Lib.hid (fun (X:World) (hX:Ext W1 X)=>H4.out X (HE1.out.trans hX))
 clear hO hB1 m0 m1 m2 m3 m4 H0 H1 H2 H3 H4 HE1
 by_cases hn:nb<256
 · have hn':decide ((nb:Int)<256)=true:=by simp;omega
   go_upto_region 3 with fail
   refine Par.region_ext (by kernel_rfl) 25 [0,1,3,7,15,31,63,127,255,127,639,2047,4095,8191,16383,32767,65535,32767,163839,524287,32767,1081343,4194303,8388607,16777215] [] (fun j f X=>match j with
    | 0=>f 0=.int .i64 (nb:Int)
    | 1=>f 1=.bool true
    | 2=>f 2=.bool true
    | 3=>f 3=undef
    | 4=>f 4=undef
    | 5=>f 5=.bool true
    | 6=>f 6=.bool true
    | 7=>f 7=undef
    | 8=>f 8=undef
    | 9=>f 9=undef
    | 10=>f 10=undef
    | 11=>f 11=undef
    | 12=>f 12=undef
    | 13=>f 13=.bool true
    | 14=>f 14=.bool true
    | 15=>f 15=undef
    | 16=>f 16=undef
    | 17=>f 17=undef
    | 18=>f 18=undef
    | 19=>f 19=undef
    | 20=>f 20=undef
    | 21=>f 21=undef
    | 22=>f 22=undef
    | 23=>f 23=undef
    | 24=>f 24=.bool true
    | _=>True) (by kernel_rfl) [(12,0),(13,1),(14,2),(15,3),(16,4),(17,5),(18,6),(19,7),(20,8),(21,9),(22,10),(23,11),(24,12),(25,13),(26,14),(27,15),(28,16),(29,17),(30,18),(31,19),(32,20),(33,21),(34,22),(35,23),(36,24)] (by kernel_rfl) ?_
   refine Par.v0 1 24 ?_
   refine Par.S 2 23 [(12,0)] (fun f X hX hR K hK=>?_) ?_
   · have e0:f 0=_:=hR.out 0 rfl
     simp only [yA,yB,yC,yD,yE,e0]
     refine ⟨?_⟩
     go_simp
     exact Par.k hK (s:=by simp only [yA,yB,yC,yD,yE,e0])
   refine Par.v1 3 22 1 ?_
   refine Par.sk 4 21 2 ?_
   refine Par.sk 5 20 2 ?_
   refine Par.v2 6 19 2 4 ?_
   refine Par.v1 7 18 5 ?_
   refine Par.sk 8 17 6 ?_
   refine Par.sk 9 16 6 ?_
   refine Par.sk 10 15 6 ?_
   refine Par.sk 11 14 6 ?_
   refine Par.sk 12 13 6 ?_
   refine Par.sk 13 12 6 ?_
   refine Par.v2 14 11 6 12 ?_
   refine Par.v1 15 10 13 ?_
   refine Par.sk 16 9 14 ?_
   refine Par.sk 17 8 14 ?_
   refine Par.sk 18 7 14 ?_
   refine Par.sk 19 6 14 ?_
   refine Par.sk 20 5 14 ?_
   refine Par.sk 21 4 14 ?_
   refine Par.sk 22 3 14 ?_
   refine Par.sk 23 2 14 ?_
   refine Par.sk 24 1 14 ?_
   refine Par.v2 25 0 14 23 ?_
   refine Par.AllOps.fin ⟨fun f X hX hR hal hap=>?_⟩
   have e24:f 24=_:=hR 24 (by decide)
   simp only [yA,yB,yD,yE,e24]
   clear hR hal hap e24
   refine Par.Chain.done ?_
   have HX:=Lib.hid (HB1.out.trans (Below.mono hX HB1.out.size))
   go_wp2
   go_ret
   exact ⟨⟨_,rfl⟩,HX.out⟩
 have hn':decide ((nb:Int)<256)=false:=by simp;omega
 by_cases hm:4096<nb
 · have hm':decide ((4096:Int)<(nb:Int))=true:=by simp;omega
   go_upto_region 3 with fail
   refine Par.region_ext (by kernel_rfl) 25 [0,1,3,7,15,31,63,127,255,127,639,2047,4095,8191,16383,32767,65535,32767,163839,524287,32767,1081343,4194303,8388607,16777215] [] (fun j f X=>match j with
    | 0=>f 0=.int .i64 (nb:Int)
    | 1=>f 1=.bool false
    | 2=>f 2=.bool false
    | 3=>f 3=.int .i64 (nb:Int)
    | 4=>f 4=.bool true
    | 5=>f 5=.bool true
    | 6=>f 6=.bool true
    | 7=>f 7=undef
    | 8=>f 8=undef
    | 9=>f 9=undef
    | 10=>f 10=undef
    | 11=>f 11=undef
    | 12=>f 12=undef
    | 13=>f 13=.bool true
    | 14=>f 14=.bool true
    | 15=>f 15=undef
    | 16=>f 16=undef
    | 17=>f 17=undef
    | 18=>f 18=undef
    | 19=>f 19=undef
    | 20=>f 20=undef
    | 21=>f 21=undef
    | 22=>f 22=undef
    | 23=>f 23=undef
    | 24=>f 24=.bool true
    | _=>True) (by kernel_rfl) [(12,0),(13,1),(14,2),(15,3),(16,4),(17,5),(18,6),(19,7),(20,8),(21,9),(22,10),(23,11),(24,12),(25,13),(26,14),(27,15),(28,16),(29,17),(30,18),(31,19),(32,20),(33,21),(34,22),(35,23),(36,24)] (by kernel_rfl) ?_
   refine Par.v0 1 24 ?_
   refine Par.S 2 23 [(12,0)] (fun f X hX hR K hK=>?_) ?_
   · have e0:f 0=_:=hR.out 0 rfl
     simp only [yA,yB,yC,yD,yE,e0]
     refine ⟨?_⟩
     go_simp
     exact Par.k hK (s:=by simp only [yA,yB,yC,yD,yE,e0])
   refine Par.v1 3 22 1 ?_
   refine Par.v1 4 21 2 ?_
   refine Par.S 5 20 [(12,0),(13,1),(14,2),(15,3)] (fun f X hX hR K hK=>?_) ?_
   · have e2:f 2=_:=hR.out 2 rfl
     have e3:f 3=_:=hR.out 3 rfl
     simp only [yA,yB,yC,yD,yE,e2,e3]
     refine ⟨Par.want (by kernel_rfl) ?_⟩
     go_simp
     exact Par.k hK (s:=by simp only [yA,yB,yC,yD,yE,e2,e3])
   refine Par.v2 6 19 2 4 ?_
   refine Par.v1 7 18 5 ?_
   refine Par.sk 8 17 6 ?_
   refine Par.sk 9 16 6 ?_
   refine Par.sk 10 15 6 ?_
   refine Par.sk 11 14 6 ?_
   refine Par.sk 12 13 6 ?_
   refine Par.sk 13 12 6 ?_
   refine Par.v2 14 11 6 12 ?_
   refine Par.v1 15 10 13 ?_
   refine Par.sk 16 9 14 ?_
   refine Par.sk 17 8 14 ?_
   refine Par.sk 18 7 14 ?_
   refine Par.sk 19 6 14 ?_
   refine Par.sk 20 5 14 ?_
   refine Par.sk 21 4 14 ?_
   refine Par.sk 22 3 14 ?_
   refine Par.sk 23 2 14 ?_
   refine Par.sk 24 1 14 ?_
   refine Par.v2 25 0 14 23 ?_
   refine Par.AllOps.fin ⟨fun f X hX hR hal hap=>?_⟩
   have e24:f 24=_:=hR 24 (by decide)
   simp only [yA,yB,yD,yE,e24]
   clear hR hal hap e24
   refine Par.Chain.done ?_
   have HX:=Lib.hid (HB1.out.trans (Below.mono hX HB1.out.size))
   go_wp2
   go_ret
   exact ⟨⟨_,rfl⟩,HX.out⟩
 have hm':decide ((4096:Int)<(nb:Int))=false:=by simp;omega
 by_cases hv:v1=0
 · subst hv
   go_upto_region 3 with fail
   refine Par.region_ext (by kernel_rfl) 25 [0,1,3,7,15,31,63,127,255,127,639,2047,4095,8191,16383,32767,65535,32767,163839,524287,32767,1081343,4194303,8388607,16777215] [] (fun j f X=>match j with
    | 0=>f 0=.int .i64 (nb:Int)
    | 1=>f 1=.bool false
    | 2=>f 2=.bool false
    | 3=>f 3=.int .i64 (nb:Int)
    | 4=>f 4=.bool false
    | 5=>f 5=.bool false
    | 6=>f 6=.bool false
    | 7=>f 7=.pointer (some ⟨s,3,none⟩)
    | 8=>f 8=.slice A3 (digs 4294967296 x3).length c3
    | 9=>f 9=.pointer (some ⟨s,4,none⟩)
    | 10=>f 10=.slice A4 (digs 4294967296 x4).length c4
    | 11=>f 11=.int .i64 0
    | 12=>f 12=.bool true
    | 13=>f 13=.bool true
    | 14=>f 14=.bool true
    | 15=>f 15=undef
    | 16=>f 16=undef
    | 17=>f 17=undef
    | 18=>f 18=undef
    | 19=>f 19=undef
    | 20=>f 20=undef
    | 21=>f 21=undef
    | 22=>f 22=undef
    | 23=>f 23=undef
    | 24=>f 24=.bool true
    | _=>True) (by kernel_rfl) [(12,0),(13,1),(14,2),(15,3),(16,4),(17,5),(18,6),(19,7),(20,8),(21,9),(22,10),(23,11),(24,12),(25,13),(26,14),(27,15),(28,16),(29,17),(30,18),(31,19),(32,20),(33,21),(34,22),(35,23),(36,24)] (by kernel_rfl) ?_
   refine Par.v0 1 24 ?_
   refine Par.S 2 23 [(12,0)] (fun f X hX hR K hK=>?_) ?_
   · have e0:f 0=_:=hR.out 0 rfl
     simp only [yA,yB,yC,yD,yE,e0]
     refine ⟨?_⟩
     go_simp
     exact Par.k hK (s:=by simp only [yA,yB,yC,yD,yE,e0])
   refine Par.v1 3 22 1 ?_
   refine Par.v1 4 21 2 ?_
   refine Par.S 5 20 [(12,0),(13,1),(14,2),(15,3)] (fun f X hX hR K hK=>?_) ?_
   · have e2:f 2=_:=hR.out 2 rfl
     have e3:f 3=_:=hR.out 3 rfl
     simp only [yA,yB,yC,yD,yE,e2,e3]
     refine ⟨Par.want (by kernel_rfl) ?_⟩
     go_simp
     exact Par.k hK (s:=by simp only [yA,yB,yC,yD,yE,e2,e3])
   refine Par.v2 6 19 2 4 ?_
   refine Par.v1 7 18 5 ?_
   refine Par.v1 8 17 6 ?_
   refine Par.S 9 16 [(12,0),(13,1),(14,2),(15,3),(16,4),(17,5),(18,6),(19,7),(21,9),(22,10)] (fun f X hX hR K hK=>?_) ?_
   · have e6:f 6=_:=hR.out 6 rfl
     have e7:f 7=_:=hR.out 7 rfl
     have x0:=hX.cell n3
     simp only [yA,yB,yC,yD,yE,e6,e7]
     refine ⟨Par.want (by kernel_rfl) ?_⟩
     go_simp
     exact Par.k hK (s:=by simp only [yA,yB,yC,yD,yE,e6,e7])
   refine Par.v1 10 15 6 ?_
   refine Par.S 11 14 [(12,0),(13,1),(14,2),(15,3),(16,4),(17,5),(18,6),(19,7),(20,8),(21,9)] (fun f X hX hR K hK=>?_) ?_
   · have e6:f 6=_:=hR.out 6 rfl
     have e9:f 9=_:=hR.out 9 rfl
     have x0:=hX.cell n4
     simp only [yA,yB,yC,yD,yE,e6,e9]
     refine ⟨Par.want (by kernel_rfl) ?_⟩
     go_simp
     exact Par.k hK (s:=by simp only [yA,yB,yC,yD,yE,e6,e9])
   refine Par.S 12 13 [(12,0),(13,1),(14,2),(15,3),(16,4),(17,5),(18,6),(19,7),(20,8),(21,9),(22,10)] (fun f X hX hR K hK=>?_) ?_
   · have e6:f 6=_:=hR.out 6 rfl
     have e8:f 8=_:=hR.out 8 rfl
     have e10:f 10=_:=hR.out 10 rfl
     simp only [yA,yB,yC,yD,yE,e6,e8,e10]
     refine ⟨Par.want (by kernel_rfl) ?_⟩
     go_simp
     refine (refCmp_any _ _ A3 A4 c3 c4 x3 x4 X (G3.out X hX) (G4.out X hX)).mono ?_
     rw [Hv1.out]
     rintro e w2 ⟨rfl,d,rfl⟩
     exact hK.out _ (.int .i64 0) _ (by simp only [yA,yB,yC,yD,yE,e6,e8,e10]) (extD X d) trivial (fun _ _=>rfl)
   refine Par.v2 13 12 6 11 ?_
   refine Par.v2 14 11 6 12 ?_
   refine Par.v1 15 10 13 ?_
   refine Par.sk 16 9 14 ?_
   refine Par.sk 17 8 14 ?_
   refine Par.sk 18 7 14 ?_
   refine Par.sk 19 6 14 ?_
   refine Par.sk 20 5 14 ?_
   refine Par.sk 21 4 14 ?_
   refine Par.sk 22 3 14 ?_
   refine Par.sk 23 2 14 ?_
   refine Par.sk 24 1 14 ?_
   refine Par.v2 25 0 14 23 ?_
   refine Par.AllOps.fin ⟨fun f X hX hR hal hap=>?_⟩
   have e24:f 24=_:=hR 24 (by decide)
   simp only [yA,yB,yD,yE,e24]
   clear hR hal hap e24
   refine Par.Chain.done ?_
   have HX:=Lib.hid (HB1.out.trans (Below.mono hX HB1.out.size))
   go_wp2
   go_ret
   exact ⟨⟨_,rfl⟩,HX.out⟩
 have hv':(v1==0)=false:=by simpa using hv
 by_cases hv2:v2=0
 rotate_left
 · have hv2':(v2 != 0)=true:=by simpa using hv2
   have hv3':(v2==0)=false:=by simpa using hv2
   go_upto_region 3 with fail
   refine Par.region_ext (by kernel_rfl) 25 [0,1,3,7,15,31,63,127,255,127,639,2047,4095,8191,16383,32767,65535,32767,163839,524287,32767,1081343,4194303,8388607,16777215] [] (fun j f X=>match j with
    | 0=>f 0=.int .i64 (nb:Int)
    | 1=>f 1=.bool false
    | 2=>f 2=.bool false
    | 3=>f 3=.int .i64 (nb:Int)
    | 4=>f 4=.bool false
    | 5=>f 5=.bool false
    | 6=>f 6=.bool false
    | 7=>f 7=.pointer (some ⟨s,3,none⟩)
    | 8=>f 8=.slice A3 (digs 4294967296 x3).length c3
    | 9=>f 9=.pointer (some ⟨s,4,none⟩)
    | 10=>f 10=.slice A4 (digs 4294967296 x4).length c4
    | 11=>f 11=.int .i64 v1
    | 12=>f 12=.bool false
    | 13=>f 13=.bool false
    | 14=>f 14=.bool false
    | 15=>f 15=.pointer (some ⟨s,3,none⟩)
    | 16=>f 16=.slice A3 (digs 4294967296 x3).length c3
    | 17=>f 17=.pointer (some ⟨s,4,none⟩)
    | 18=>f 18=.slice A4 (digs 4294967296 x4).length c4
    | 19=>∃ A c,f 19=.slice A (digs 4294967296 (x3*x4)).length c∧RU X A c (digs 4294967296 (x3*x4))
    | 20=>f 20=.pointer (some ⟨s,0,none⟩)
    | 21=>f 21=.slice A0 (digs 4294967296 x0).length c0
    | 22=>f 22=.int .i64 v2
    | 23=>f 23=.bool true
    | 24=>f 24=.bool true
    | _=>True) (by kernel_rfl) [(12,0),(13,1),(14,2),(15,3),(16,4),(17,5),(18,6),(19,7),(20,8),(21,9),(22,10),(23,11),(24,12),(25,13),(26,14),(27,15),(28,16),(29,17),(30,18),(31,19),(32,20),(33,21),(34,22),(35,23),(36,24)] (by kernel_rfl) ?_
   refine Par.v0 1 24 ?_
   refine Par.S 2 23 [(12,0)] (fun f X hX hR K hK=>?_) ?_
   · have e0:f 0=_:=hR.out 0 rfl
     simp only [yA,yB,yC,yD,yE,e0]
     refine ⟨?_⟩
     go_simp
     exact Par.k hK (s:=by simp only [yA,yB,yC,yD,yE,e0])
   refine Par.v1 3 22 1 ?_
   refine Par.v1 4 21 2 ?_
   refine Par.S 5 20 [(12,0),(13,1),(14,2),(15,3)] (fun f X hX hR K hK=>?_) ?_
   · have e2:f 2=_:=hR.out 2 rfl
     have e3:f 3=_:=hR.out 3 rfl
     simp only [yA,yB,yC,yD,yE,e2,e3]
     refine ⟨Par.want (by kernel_rfl) ?_⟩
     go_simp
     exact Par.k hK (s:=by simp only [yA,yB,yC,yD,yE,e2,e3])
   refine Par.v2 6 19 2 4 ?_
   refine Par.v1 7 18 5 ?_
   refine Par.v1 8 17 6 ?_
   refine Par.S 9 16 [(12,0),(13,1),(14,2),(15,3),(16,4),(17,5),(18,6),(19,7),(21,9),(22,10)] (fun f X hX hR K hK=>?_) ?_
   · have e6:f 6=_:=hR.out 6 rfl
     have e7:f 7=_:=hR.out 7 rfl
     have x0:=hX.cell n3
     simp only [yA,yB,yC,yD,yE,e6,e7]
     refine ⟨Par.want (by kernel_rfl) ?_⟩
     go_simp
     exact Par.k hK (s:=by simp only [yA,yB,yC,yD,yE,e6,e7])
   refine Par.v1 10 15 6 ?_
   refine Par.S 11 14 [(12,0),(13,1),(14,2),(15,3),(16,4),(17,5),(18,6),(19,7),(20,8),(21,9)] (fun f X hX hR K hK=>?_) ?_
   · have e6:f 6=_:=hR.out 6 rfl
     have e9:f 9=_:=hR.out 9 rfl
     have x0:=hX.cell n4
     simp only [yA,yB,yC,yD,yE,e6,e9]
     refine ⟨Par.want (by kernel_rfl) ?_⟩
     go_simp
     exact Par.k hK (s:=by simp only [yA,yB,yC,yD,yE,e6,e9])
   refine Par.S 12 13 [(12,0),(13,1),(14,2),(15,3),(16,4),(17,5),(18,6),(19,7),(20,8),(21,9),(22,10)] (fun f X hX hR K hK=>?_) ?_
   · have e6:f 6=_:=hR.out 6 rfl
     have e8:f 8=_:=hR.out 8 rfl
     have e10:f 10=_:=hR.out 10 rfl
     simp only [yA,yB,yC,yD,yE,e6,e8,e10]
     refine ⟨Par.want (by kernel_rfl) ?_⟩
     go_simp
     refine (refCmp_any _ _ A3 A4 c3 c4 x3 x4 X (G3.out X hX) (G4.out X hX)).mono ?_
     rw [Hv1.out]
     rintro e w2 ⟨rfl,d,rfl⟩
     exact hK.out _ (.int .i64 v1) _ (by simp only [yA,yB,yC,yD,yE,e6,e8,e10]) (extD X d) trivial (fun _ _=>rfl)
   refine Par.S 13 12 [(12,0),(13,1),(14,2),(15,3),(16,4),(17,5),(18,6),(19,7),(20,8),(21,9),(22,10),(23,11)] (fun f X hX hR K hK=>?_) ?_
   · have e6:f 6=_:=hR.out 6 rfl
     have e11:f 11=_:=hR.out 11 rfl
     simp only [yA,yB,yC,yD,yE,e6,e11]
     refine ⟨Par.want (by kernel_rfl) ?_⟩
     go_simp
     exact Par.k hK (s:=by simp only [yA,yB,yC,yD,yE,e6,e11])
   refine Par.v2 14 11 6 12 ?_
   refine Par.v1 15 10 13 ?_
   refine Par.v1 16 9 14 ?_
   refine Par.S 17 8 [(12,0),(13,1),(14,2),(15,3),(16,4),(17,5),(18,6),(19,7),(20,8),(21,9),(22,10),(23,11),(24,12),(25,13),(26,14),(27,15),(29,17),(30,18),(32,20),(33,21)] (fun f X hX hR K hK=>?_) ?_
   · have e14:f 14=_:=hR.out 14 rfl
     have e15:f 15=_:=hR.out 15 rfl
     have x0:=hX.cell n3
     simp only [yA,yB,yC,yD,yE,e14,e15]
     refine ⟨Par.want (by kernel_rfl) ?_⟩
     go_simp
     exact Par.k hK (s:=by simp only [yA,yB,yC,yD,yE,e14,e15])
   refine Par.v1 18 7 14 ?_
   refine Par.S 19 6 [(12,0),(13,1),(14,2),(15,3),(16,4),(17,5),(18,6),(19,7),(20,8),(21,9),(22,10),(23,11),(24,12),(25,13),(26,14),(27,15),(28,16),(29,17),(32,20),(33,21)] (fun f X hX hR K hK=>?_) ?_
   · have e14:f 14=_:=hR.out 14 rfl
     have e17:f 17=_:=hR.out 17 rfl
     have x0:=hX.cell n4
     simp only [yA,yB,yC,yD,yE,e14,e17]
     refine ⟨Par.want (by kernel_rfl) ?_⟩
     go_simp
     exact Par.k hK (s:=by simp only [yA,yB,yC,yD,yE,e14,e17])
   refine Par.c1 20 5 14 (fun f=>#[f 16,f 18]) (F':=156) (fun f X hX hR=>?_) ?_
   · have e16:f 16=_:=hR.out 16 rfl
     have e18:f 18=_:=hR.out 18 rfl
     simp only [e16,e18]
     refine (refMul_any _ _ A3 A4 c3 c4 x3 x4 X (G3.out X hX) (G4.out X hX) (fun _ hb=>hb) (fun _ hb=>hb) (by have:=L3.out;omega) (by have:=L4.out;omega)).mono ?_
     rintro e w2 ⟨A5,c5,rfl,hO,hB⟩
     exact ⟨(.slice A5 (digs 4294967296 (x3*x4)).length c5),rfl,hB,fun Y hY=>⟨A5,c5,rfl,RN.up hO.ru hY⟩⟩
   refine Par.v1 21 4 14 ?_
   refine Par.S 22 3 [(12,0),(13,1),(14,2),(15,3),(16,4),(17,5),(18,6),(19,7),(20,8),(21,9),(22,10),(23,11),(24,12),(25,13),(26,14),(27,15),(28,16),(29,17),(30,18),(31,19),(32,20)] (fun f X hX hR K hK=>?_) ?_
   · have e14:f 14=_:=hR.out 14 rfl
     have e20:f 20=_:=hR.out 20 rfl
     have x0:=hX.cell n0
     simp only [yA,yB,yC,yD,yE,e14,e20]
     refine ⟨Par.want (by kernel_rfl) ?_⟩
     go_simp
     exact Par.k hK (s:=by simp only [yA,yB,yC,yD,yE,e14,e20])
   refine Par.S 23 2 [(12,0),(13,1),(14,2),(15,3),(16,4),(17,5),(18,6),(19,7),(20,8),(21,9),(22,10),(23,11),(24,12),(25,13),(26,14),(27,15),(28,16),(29,17),(30,18),(31,19),(32,20),(33,21)] (fun f X hX hR K hK=>?_) ?_
   · have e14:f 14=_:=hR.out 14 rfl
     obtain ⟨A19,c19,(e19:f 19=_),r19⟩:=hR.out 19 rfl
     have e21:f 21=_:=hR.out 21 rfl
     simp only [yA,yB,yC,yD,yE,e14,e19,e21]
     refine ⟨Par.want (by kernel_rfl) ?_⟩
     go_simp
     refine (refCmp_any _ _ A19 A0 c19 c0 (x3*x4) x0 X r19 (G0.out X hX)).mono ?_
     rw [Hv2.out]
     rintro e w2 ⟨rfl,d,rfl⟩
     exact hK.out _ (.int .i64 v2) _ (by simp only [yA,yB,yC,yD,yE,e14,e19,e21]) (extD X d) trivial (fun _ _=>rfl)
   refine Par.S 24 1 [(12,0),(13,1),(14,2),(15,3),(16,4),(17,5),(18,6),(19,7),(20,8),(21,9),(22,10),(23,11),(24,12),(25,13),(26,14),(27,15),(28,16),(29,17),(30,18),(31,19),(32,20),(33,21),(34,22)] (fun f X hX hR K hK=>?_) ?_
   · have e14:f 14=_:=hR.out 14 rfl
     have e22:f 22=_:=hR.out 22 rfl
     simp only [yA,yB,yC,yD,yE,e14,e22]
     refine ⟨Par.want (by kernel_rfl) ?_⟩
     go_simp
     exact Par.k hK (s:=by simp only [yA,yB,yC,yD,yE,e14,e22])
   refine Par.v2 25 0 14 23 ?_
   refine Par.AllOps.fin ⟨fun f X hX hR hal hap=>?_⟩
   obtain ⟨A19,c19,(e19:f 19=_),r19⟩:=hR 19 (by decide)
   have e24:f 24=_:=hR 24 (by decide)
   simp only [yA,yB,yD,yE,e19,e24]
   clear hR hal hap e19 e24
   refine Par.Chain.done ?_
   have HX:=Lib.hid (HB1.out.trans (Below.mono hX HB1.out.size))
   go_wp2
   go_ret
   exact ⟨⟨_,rfl⟩,HX.out⟩
 subst hv2
 go_upto_region 3 with fail
 refine Par.region_ext (by kernel_rfl) 25 [0,1,3,7,15,31,63,127,255,127,639,2047,4095,8191,16383,32767,65535,32767,163839,524287,32767,1081343,4194303,8388607,16777215] [] (fun j f X=>match j with
  | 0=>f 0=.int .i64 (nb:Int)
  | 1=>f 1=.bool false
  | 2=>f 2=.bool false
  | 3=>f 3=.int .i64 (nb:Int)
  | 4=>f 4=.bool false
  | 5=>f 5=.bool false
  | 6=>f 6=.bool false
  | 7=>f 7=.pointer (some ⟨s,3,none⟩)
  | 8=>f 8=.slice A3 (digs 4294967296 x3).length c3
  | 9=>f 9=.pointer (some ⟨s,4,none⟩)
  | 10=>f 10=.slice A4 (digs 4294967296 x4).length c4
  | 11=>f 11=.int .i64 v1
  | 12=>f 12=.bool false
  | 13=>f 13=.bool false
  | 14=>f 14=.bool false
  | 15=>f 15=.pointer (some ⟨s,3,none⟩)
  | 16=>f 16=.slice A3 (digs 4294967296 x3).length c3
  | 17=>f 17=.pointer (some ⟨s,4,none⟩)
  | 18=>f 18=.slice A4 (digs 4294967296 x4).length c4
  | 19=>∃ A c,f 19=.slice A (digs 4294967296 (x3*x4)).length c∧RU X A c (digs 4294967296 (x3*x4))
  | 20=>f 20=.pointer (some ⟨s,0,none⟩)
  | 21=>f 21=.slice A0 (digs 4294967296 x0).length c0
  | 22=>f 22=.int .i64 0
  | 23=>f 23=.bool false
  | 24=>f 24=.bool false
  | _=>True) (by kernel_rfl) [(12,0),(13,1),(14,2),(15,3),(16,4),(17,5),(18,6),(19,7),(20,8),(21,9),(22,10),(23,11),(24,12),(25,13),(26,14),(27,15),(28,16),(29,17),(30,18),(31,19),(32,20),(33,21),(34,22),(35,23),(36,24)] (by kernel_rfl) ?_
 refine Par.v0 1 24 ?_
 refine Par.S 2 23 [(12,0)] (fun f X hX hR K hK=>?_) ?_
 · have e0:f 0=_:=hR.out 0 rfl
   simp only [yA,yB,yC,yD,yE,e0]
   refine ⟨?_⟩
   go_simp
   exact Par.k hK (s:=by simp only [yA,yB,yC,yD,yE,e0])
 refine Par.v1 3 22 1 ?_
 refine Par.v1 4 21 2 ?_
 refine Par.S 5 20 [(12,0),(13,1),(14,2),(15,3)] (fun f X hX hR K hK=>?_) ?_
 · have e2:f 2=_:=hR.out 2 rfl
   have e3:f 3=_:=hR.out 3 rfl
   simp only [yA,yB,yC,yD,yE,e2,e3]
   refine ⟨Par.want (by kernel_rfl) ?_⟩
   go_simp
   exact Par.k hK (s:=by simp only [yA,yB,yC,yD,yE,e2,e3])
 refine Par.v2 6 19 2 4 ?_
 refine Par.v1 7 18 5 ?_
 refine Par.v1 8 17 6 ?_
 refine Par.S 9 16 [(12,0),(13,1),(14,2),(15,3),(16,4),(17,5),(18,6),(19,7),(21,9),(22,10)] (fun f X hX hR K hK=>?_) ?_
 · have e6:f 6=_:=hR.out 6 rfl
   have e7:f 7=_:=hR.out 7 rfl
   have x0:=hX.cell n3
   simp only [yA,yB,yC,yD,yE,e6,e7]
   refine ⟨Par.want (by kernel_rfl) ?_⟩
   go_simp
   exact Par.k hK (s:=by simp only [yA,yB,yC,yD,yE,e6,e7])
 refine Par.v1 10 15 6 ?_
 refine Par.S 11 14 [(12,0),(13,1),(14,2),(15,3),(16,4),(17,5),(18,6),(19,7),(20,8),(21,9)] (fun f X hX hR K hK=>?_) ?_
 · have e6:f 6=_:=hR.out 6 rfl
   have e9:f 9=_:=hR.out 9 rfl
   have x0:=hX.cell n4
   simp only [yA,yB,yC,yD,yE,e6,e9]
   refine ⟨Par.want (by kernel_rfl) ?_⟩
   go_simp
   exact Par.k hK (s:=by simp only [yA,yB,yC,yD,yE,e6,e9])
 refine Par.S 12 13 [(12,0),(13,1),(14,2),(15,3),(16,4),(17,5),(18,6),(19,7),(20,8),(21,9),(22,10)] (fun f X hX hR K hK=>?_) ?_
 · have e6:f 6=_:=hR.out 6 rfl
   have e8:f 8=_:=hR.out 8 rfl
   have e10:f 10=_:=hR.out 10 rfl
   simp only [yA,yB,yC,yD,yE,e6,e8,e10]
   refine ⟨Par.want (by kernel_rfl) ?_⟩
   go_simp
   refine (refCmp_any _ _ A3 A4 c3 c4 x3 x4 X (G3.out X hX) (G4.out X hX)).mono ?_
   rw [Hv1.out]
   rintro e w2 ⟨rfl,d,rfl⟩
   exact hK.out _ (.int .i64 v1) _ (by simp only [yA,yB,yC,yD,yE,e6,e8,e10]) (extD X d) trivial (fun _ _=>rfl)
 refine Par.S 13 12 [(12,0),(13,1),(14,2),(15,3),(16,4),(17,5),(18,6),(19,7),(20,8),(21,9),(22,10),(23,11)] (fun f X hX hR K hK=>?_) ?_
 · have e6:f 6=_:=hR.out 6 rfl
   have e11:f 11=_:=hR.out 11 rfl
   simp only [yA,yB,yC,yD,yE,e6,e11]
   refine ⟨Par.want (by kernel_rfl) ?_⟩
   go_simp
   exact Par.k hK (s:=by simp only [yA,yB,yC,yD,yE,e6,e11])
 refine Par.v2 14 11 6 12 ?_
 refine Par.v1 15 10 13 ?_
 refine Par.v1 16 9 14 ?_
 refine Par.S 17 8 [(12,0),(13,1),(14,2),(15,3),(16,4),(17,5),(18,6),(19,7),(20,8),(21,9),(22,10),(23,11),(24,12),(25,13),(26,14),(27,15),(29,17),(30,18),(32,20),(33,21)] (fun f X hX hR K hK=>?_) ?_
 · have e14:f 14=_:=hR.out 14 rfl
   have e15:f 15=_:=hR.out 15 rfl
   have x0:=hX.cell n3
   simp only [yA,yB,yC,yD,yE,e14,e15]
   refine ⟨Par.want (by kernel_rfl) ?_⟩
   go_simp
   exact Par.k hK (s:=by simp only [yA,yB,yC,yD,yE,e14,e15])
 refine Par.v1 18 7 14 ?_
 refine Par.S 19 6 [(12,0),(13,1),(14,2),(15,3),(16,4),(17,5),(18,6),(19,7),(20,8),(21,9),(22,10),(23,11),(24,12),(25,13),(26,14),(27,15),(28,16),(29,17),(32,20),(33,21)] (fun f X hX hR K hK=>?_) ?_
 · have e14:f 14=_:=hR.out 14 rfl
   have e17:f 17=_:=hR.out 17 rfl
   have x0:=hX.cell n4
   simp only [yA,yB,yC,yD,yE,e14,e17]
   refine ⟨Par.want (by kernel_rfl) ?_⟩
   go_simp
   exact Par.k hK (s:=by simp only [yA,yB,yC,yD,yE,e14,e17])
 refine Par.c1 20 5 14 (fun f=>#[f 16,f 18]) (F':=156) (fun f X hX hR=>?_) ?_
 · have e16:f 16=_:=hR.out 16 rfl
   have e18:f 18=_:=hR.out 18 rfl
   simp only [e16,e18]
   refine (refMul_any _ _ A3 A4 c3 c4 x3 x4 X (G3.out X hX) (G4.out X hX) (fun _ hb=>hb) (fun _ hb=>hb) (by have:=L3.out;omega) (by have:=L4.out;omega)).mono ?_
   rintro e w2 ⟨A5,c5,rfl,hO,hB⟩
   exact ⟨(.slice A5 (digs 4294967296 (x3*x4)).length c5),rfl,hB,fun Y hY=>⟨A5,c5,rfl,RN.up hO.ru hY⟩⟩
 refine Par.v1 21 4 14 ?_
 refine Par.S 22 3 [(12,0),(13,1),(14,2),(15,3),(16,4),(17,5),(18,6),(19,7),(20,8),(21,9),(22,10),(23,11),(24,12),(25,13),(26,14),(27,15),(28,16),(29,17),(30,18),(31,19),(32,20)] (fun f X hX hR K hK=>?_) ?_
 · have e14:f 14=_:=hR.out 14 rfl
   have e20:f 20=_:=hR.out 20 rfl
   have x0:=hX.cell n0
   simp only [yA,yB,yC,yD,yE,e14,e20]
   refine ⟨Par.want (by kernel_rfl) ?_⟩
   go_simp
   exact Par.k hK (s:=by simp only [yA,yB,yC,yD,yE,e14,e20])
 refine Par.S 23 2 [(12,0),(13,1),(14,2),(15,3),(16,4),(17,5),(18,6),(19,7),(20,8),(21,9),(22,10),(23,11),(24,12),(25,13),(26,14),(27,15),(28,16),(29,17),(30,18),(31,19),(32,20),(33,21)] (fun f X hX hR K hK=>?_) ?_
 · have e14:f 14=_:=hR.out 14 rfl
   obtain ⟨A19,c19,(e19:f 19=_),r19⟩:=hR.out 19 rfl
   have e21:f 21=_:=hR.out 21 rfl
   simp only [yA,yB,yC,yD,yE,e14,e19,e21]
   refine ⟨Par.want (by kernel_rfl) ?_⟩
   go_simp
   refine (refCmp_any _ _ A19 A0 c19 c0 (x3*x4) x0 X r19 (G0.out X hX)).mono ?_
   rw [Hv2.out]
   rintro e w2 ⟨rfl,d,rfl⟩
   exact hK.out _ (.int .i64 0) _ (by simp only [yA,yB,yC,yD,yE,e14,e19,e21]) (extD X d) trivial (fun _ _=>rfl)
 refine Par.v2 24 1 14 22 ?_
 refine Par.v2 25 0 14 23 ?_
 refine Par.AllOps.fin ⟨fun f X hX hR hal hap=>?_⟩
 obtain ⟨A19,c19,(e19:f 19=_),r19⟩:=hR 19 (by decide)
 have e24:f 24=_:=hR 24 (by decide)
 simp only [yA,yB,yD,yE,e19,e24]
 clear hR hal hap e19 e24
 refine Par.Chain.done ?_
 have p0:=hX.cell n0
 have p1:=hX.cell n1
 have p2:=hX.cell n2
 have p3:=hX.cell n3
 have p4:=hX.cell n4
 have HBX:=Lib.hid (HB1.out.trans (Below.mono hX HB1.out.size))
 have hPr:=probable_t A3 c3 x3 X (G3.out X hX) L3.out
 have HPr:=Lib.hid hPr
 have HXE:=Lib.hid hX
 clear hPr n0 n1 n2 n3 n4 hX
 go_wp2_with fail
 refine HPr.out.mono ?_
 rintro e W2 ⟨⟨b3,rfl,hb3⟩,hB2⟩
 have HE2:Hid (Ext W1 W2):=Lib.hid (HXE.out.trans hB2)
 have HBW2:=Lib.hid (HBX.out.trans (hB2.mono HBX.out.size))
 cases b3
 · go_wp2
   go_ret
   exact ⟨⟨_,rfl⟩,HBW2.out⟩
 have H3:=Lib.hid (hb3 rfl)
 have hE2:Ext X W2:=hB2
 have q0:=hE2.cell p0
 have q1:=hE2.cell p1
 have q2:=hE2.cell p2
 have q3:=hE2.cell p3
 have q4:=hE2.cell p4
 have hPr:=probable_t A4 c4 x4 W2 (G4.out W2 HE2.out) L4.out
 have HPr4:=Lib.hid hPr
 clear hPr p0 p1 p2 p3 p4 hb3 hB2 hE2 HPr
 go_wp2_with fail
 refine HPr4.out.mono ?_
 rintro e W3 ⟨⟨b4,rfl,hb4⟩,hB3⟩
 have HE3:Hid (Ext W1 W3):=Lib.hid (HE2.out.trans hB3)
 have HBW3:=Lib.hid (HBW2.out.trans (hB3.mono HBW2.out.size))
 cases b4
 · go_wp2
   go_ret
   exact ⟨⟨_,rfl⟩,HBW3.out⟩
 have H4:=Lib.hid (hb4 rfl)
 have hE3:Ext W2 W3:=hB3
 have u0:=hE3.cell q0
 have u1:=hE3.cell q1
 have u2:=hE3.cell q2
 have u3:=hE3.cell q3
 have u4:=hE3.cell q4
 have K0:=Lib.hid (fun (X:World) (hX:Ext W3 X)=>G0.out X (HE3.out.trans hX))
 have K1:=Lib.hid (fun (X:World) (hX:Ext W3 X)=>G1.out X (HE3.out.trans hX))
 have K2:=Lib.hid (fun (X:World) (hX:Ext W3 X)=>G2.out X (HE3.out.trans hX))
 have K3:=Lib.hid (fun (X:World) (hX:Ext W3 X)=>G3.out X (HE3.out.trans hX))
 have K4:=Lib.hid (fun (X:World) (hX:Ext W3 X)=>G4.out X (HE3.out.trans hX))
 have KO:=Lib.hid (fun (X:World) (hX:Ext W3 X)=>HO.out X (HE3.out.trans hX))
 obtain ⟨bt,hbt⟩:∃ b,bitOf x1 0=b:=⟨_,rfl⟩
 obtain ⟨v3,hv3⟩:∃ v,cmpV x1 2=v:=⟨_,rfl⟩
 obtain ⟨v4,hv4⟩:∃ v,cmpV x1 x0=v:=⟨_,rfl⟩
 obtain ⟨v5,hv5⟩:∃ v,cmpV x2 x0=v:=⟨_,rfl⟩
 have Hbt:=Lib.hid hbt
 have Hv3:=Lib.hid hv3
 have Hv4:=Lib.hid hv4
 have Hv5:=Lib.hid hv5
 clear hbt hv3 hv4 hv5 q0 q1 q2 q3 q4 hb4 hB3 hE3 HPr4 G0 G1 G2 G3 G4 HO hn hn' hm hm' hv hv'
 by_cases g1:bt=0
 · have g1':((bt:Int)==0)=true:=by simpa using g1
   clear g1
   go_upto_region 7 with fail
   refine Par.region_ext (by kernel_rfl) 27 [0,1,3,7,15,31,63,31,255,511,1023,2047,4095,8191,4095,20479,65535,131071,262143,524287,1048575,2097151,1048575,5242879,16777215,33554431,67108863] [] (fun j f X=>match j with
    | 0=>f 0=.pointer (some ⟨s,1,none⟩)
    | 1=>f 1=.slice A1 (digs 4294967296 x1).length c1
    | 2=>f 2=.int .u64 (bt:Int)
    | 3=>f 3=.bool true
    | 4=>f 4=.bool true
    | 5=>f 5=undef
    | 6=>f 6=undef
    | 7=>f 7=undef
    | 8=>f 8=undef
    | 9=>f 9=undef
    | 10=>f 10=.bool true
    | 11=>f 11=.bool true
    | 12=>f 12=undef
    | 13=>f 13=undef
    | 14=>f 14=undef
    | 15=>f 15=undef
    | 16=>f 16=undef
    | 17=>f 17=undef
    | 18=>f 18=.bool true
    | 19=>f 19=.bool true
    | 20=>f 20=undef
    | 21=>f 21=undef
    | 22=>f 22=undef
    | 23=>f 23=undef
    | 24=>f 24=undef
    | 25=>f 25=undef
    | 26=>f 26=.bool true
    | _=>True) (by kernel_rfl) [(47,0),(48,1),(49,2),(50,3),(51,4),(52,5),(53,6),(54,7),(55,8),(56,9),(57,10),(58,11),(59,12),(60,13),(61,14),(62,15),(63,16),(64,17),(65,18),(66,19),(67,20),(68,21),(69,22),(70,23),(71,24),(72,25),(73,26)] (by kernel_rfl) ?_
   refine Par.v0 1 26 ?_
   refine Par.ld1 2 25 0 u1 ?_
   refine Par.c0 3 24 (fun f=>#[f 1,Value.int IntKind.i64 0]) (F':=119) (fun f X hX hR=>?_) ?_
   · have e1:f 1=_:=hR.out 1 rfl
     simp only [e1]
     refine (refBit_any _ A1 c1 x1 0 X (K1.out X hX) (by omega)).mono ?_
     rw [Hbt.out]
     rintro e w2 ⟨rfl,rfl⟩
     exact ⟨(.int .u64 (bt:Int)),rfl,(Ext.refl _),fun _ _=>rfl⟩
   refine Par.S 4 23 [(47,0),(48,1),(49,2)] (fun f X hX hR K hK=>?_) ?_
   · have e2:f 2=_:=hR.out 2 rfl
     simp only [yA,yB,yC,yD,yE,e2]
     refine ⟨?_⟩
     go_simp
     exact Par.k hK (s:=by simp only [yA,yB,yC,yD,yE,e2])
   refine Par.v1 5 22 3 ?_
   refine Par.sk 6 21 4 ?_
   refine Par.sk 7 20 4 ?_
   refine Par.sk 8 19 4 ?_
   refine Par.sk 9 18 4 ?_
   refine Par.sk 10 17 4 ?_
   refine Par.v2 11 16 4 9 ?_
   refine Par.v1 12 15 10 ?_
   refine Par.sk 13 14 11 ?_
   refine Par.sk 14 13 11 ?_
   refine Par.sk 15 12 11 ?_
   refine Par.sk 16 11 11 ?_
   refine Par.sk 17 10 11 ?_
   refine Par.sk 18 9 11 ?_
   refine Par.v2 19 8 11 17 ?_
   refine Par.v1 20 7 18 ?_
   refine Par.sk 21 6 19 ?_
   refine Par.sk 22 5 19 ?_
   refine Par.sk 23 4 19 ?_
   refine Par.sk 24 3 19 ?_
   refine Par.sk 25 2 19 ?_
   refine Par.sk 26 1 19 ?_
   refine Par.v2 27 0 19 25 ?_
   refine Par.AllOps.fin ⟨fun f X hX hR hal hap=>?_⟩
   have e26:f 26=_:=hR 26 (by decide)
   simp only [yA,yB,yD,yE,e26]
   clear hR hal hap e26
   refine Par.Chain.done ?_
   have HX:=Lib.hid (HBW3.out.trans (Below.mono hX HBW3.out.size))
   go_wp2
   go_ret
   exact ⟨⟨_,rfl⟩,HX.out⟩
 have g1':((bt:Int)==0)=false:=by simpa using g1
 have g1b:(bt==0)=false:=by simpa using g1
 have g1c:decide (bt=0)=false:=by simpa using g1
 by_cases g2:v3≤0
 · have g2':decide (v3≤0)=true:=by simpa using g2
   go_upto_region 7 with fail
   refine Par.region_ext (by kernel_rfl) 27 [0,1,3,7,15,31,63,31,255,511,1023,2047,4095,8191,4095,20479,65535,131071,262143,524287,1048575,2097151,1048575,5242879,16777215,33554431,67108863] [] (fun j f X=>match j with
    | 0=>f 0=.pointer (some ⟨s,1,none⟩)
    | 1=>f 1=.slice A1 (digs 4294967296 x1).length c1
    | 2=>f 2=.int .u64 (bt:Int)
    | 3=>f 3=.bool false
    | 4=>f 4=.bool false
    | 5=>f 5=.pointer (some ⟨s,1,none⟩)
    | 6=>f 6=.slice A1 (digs 4294967296 x1).length c1
    | 7=>∃ A c,f 7=.slice A (digs 4294967296 2).length c∧RU X A c (digs 4294967296 2)
    | 8=>f 8=.int .i64 v3
    | 9=>f 9=.bool true
    | 10=>f 10=.bool true
    | 11=>f 11=.bool true
    | 12=>f 12=undef
    | 13=>f 13=undef
    | 14=>f 14=undef
    | 15=>f 15=undef
    | 16=>f 16=undef
    | 17=>f 17=undef
    | 18=>f 18=.bool true
    | 19=>f 19=.bool true
    | 20=>f 20=undef
    | 21=>f 21=undef
    | 22=>f 22=undef
    | 23=>f 23=undef
    | 24=>f 24=undef
    | 25=>f 25=undef
    | 26=>f 26=.bool true
    | _=>True) (by kernel_rfl) [(47,0),(48,1),(49,2),(50,3),(51,4),(52,5),(53,6),(54,7),(55,8),(56,9),(57,10),(58,11),(59,12),(60,13),(61,14),(62,15),(63,16),(64,17),(65,18),(66,19),(67,20),(68,21),(69,22),(70,23),(71,24),(72,25),(73,26)] (by kernel_rfl) ?_
   refine Par.v0 1 26 ?_
   refine Par.ld1 2 25 0 u1 ?_
   refine Par.c0 3 24 (fun f=>#[f 1,Value.int IntKind.i64 0]) (F':=119) (fun f X hX hR=>?_) ?_
   · have e1:f 1=_:=hR.out 1 rfl
     simp only [e1]
     refine (refBit_any _ A1 c1 x1 0 X (K1.out X hX) (by omega)).mono ?_
     rw [Hbt.out]
     rintro e w2 ⟨rfl,rfl⟩
     exact ⟨(.int .u64 (bt:Int)),rfl,(Ext.refl _),fun _ _=>rfl⟩
   refine Par.S 4 23 [(47,0),(48,1),(49,2)] (fun f X hX hR K hK=>?_) ?_
   · have e2:f 2=_:=hR.out 2 rfl
     simp only [yA,yB,yC,yD,yE,e2]
     refine ⟨?_⟩
     go_simp
     exact Par.k hK (s:=by simp only [yA,yB,yC,yD,yE,e2])
   refine Par.v1 5 22 3 ?_
   refine Par.v1 6 21 4 ?_
   refine Par.S 7 20 [(47,0),(48,1),(49,2),(50,3),(51,4),(52,5),(54,7)] (fun f X hX hR K hK=>?_) ?_
   · have e4:f 4=_:=hR.out 4 rfl
     have e5:f 5=_:=hR.out 5 rfl
     have x0:=hX.cell u1
     simp only [yA,yB,yC,yD,yE,e4,e5]
     refine ⟨Par.want (by kernel_rfl) ?_⟩
     go_simp
     exact Par.k hK (s:=by simp only [yA,yB,yC,yD,yE,e4,e5])
   refine Par.c1 8 19 4 (fun _=>#[Value.int IntKind.u64 2]) (F':=121) (fun f X hX hR=>?_) ?_
   · refine (refOf_any 2 X (by omega)).mono ?_
     rintro e w2 ⟨A5,c5,rfl,hO,hB⟩
     exact ⟨(.slice A5 (digs 4294967296 2).length c5),rfl,hB,fun Y hY=>⟨A5,c5,rfl,RN.up hO.ru hY⟩⟩
   refine Par.S 9 18 [(47,0),(48,1),(49,2),(50,3),(51,4),(52,5),(53,6),(54,7)] (fun f X hX hR K hK=>?_) ?_
   · have e4:f 4=_:=hR.out 4 rfl
     have e6:f 6=_:=hR.out 6 rfl
     obtain ⟨A7,c7,(e7:f 7=_),r7⟩:=hR.out 7 rfl
     simp only [yA,yB,yC,yD,yE,e4,e6,e7]
     refine ⟨Par.want (by kernel_rfl) ?_⟩
     go_simp
     refine (refCmp_any _ _ A1 A7 c1 c7 x1 2 X (K1.out X hX) r7).mono ?_
     rw [Hv3.out]
     rintro e w2 ⟨rfl,d,rfl⟩
     exact hK.out _ (.int .i64 v3) _ (by simp only [yA,yB,yC,yD,yE,e4,e6,e7]) (extD X d) trivial (fun _ _=>rfl)
   refine Par.S 10 17 [(47,0),(48,1),(49,2),(50,3),(51,4),(52,5),(53,6),(54,7),(55,8)] (fun f X hX hR K hK=>?_) ?_
   · have e4:f 4=_:=hR.out 4 rfl
     have e8:f 8=_:=hR.out 8 rfl
     simp only [yA,yB,yC,yD,yE,e4,e8]
     refine ⟨Par.want (by kernel_rfl) ?_⟩
     go_simp
     exact Par.k hK (s:=by simp only [yA,yB,yC,yD,yE,e4,e8])
   refine Par.v2 11 16 4 9 ?_
   refine Par.v1 12 15 10 ?_
   refine Par.sk 13 14 11 ?_
   refine Par.sk 14 13 11 ?_
   refine Par.sk 15 12 11 ?_
   refine Par.sk 16 11 11 ?_
   refine Par.sk 17 10 11 ?_
   refine Par.sk 18 9 11 ?_
   refine Par.v2 19 8 11 17 ?_
   refine Par.v1 20 7 18 ?_
   refine Par.sk 21 6 19 ?_
   refine Par.sk 22 5 19 ?_
   refine Par.sk 23 4 19 ?_
   refine Par.sk 24 3 19 ?_
   refine Par.sk 25 2 19 ?_
   refine Par.sk 26 1 19 ?_
   refine Par.v2 27 0 19 25 ?_
   refine Par.AllOps.fin ⟨fun f X hX hR hal hap=>?_⟩
   obtain ⟨A7,c7,(e7:f 7=_),r7⟩:=hR 7 (by decide)
   have e26:f 26=_:=hR 26 (by decide)
   simp only [yA,yB,yD,yE,e7,e26]
   clear hR hal hap e7 e26
   refine Par.Chain.done ?_
   have HX:=Lib.hid (HBW3.out.trans (Below.mono hX HBW3.out.size))
   go_wp2
   go_ret
   exact ⟨⟨_,rfl⟩,HX.out⟩
 have g2':decide (v3≤0)=false:=by simpa using g2
 by_cases g3:0≤v4
 · have g3':decide (0≤v4)=true:=by simpa using g3
   go_upto_region 7 with fail
   refine Par.region_ext (by kernel_rfl) 27 [0,1,3,7,15,31,63,31,255,511,1023,2047,4095,8191,4095,20479,65535,131071,262143,524287,1048575,2097151,1048575,5242879,16777215,33554431,67108863] [] (fun j f X=>match j with
    | 0=>f 0=.pointer (some ⟨s,1,none⟩)
    | 1=>f 1=.slice A1 (digs 4294967296 x1).length c1
    | 2=>f 2=.int .u64 (bt:Int)
    | 3=>f 3=.bool false
    | 4=>f 4=.bool false
    | 5=>f 5=.pointer (some ⟨s,1,none⟩)
    | 6=>f 6=.slice A1 (digs 4294967296 x1).length c1
    | 7=>∃ A c,f 7=.slice A (digs 4294967296 2).length c∧RU X A c (digs 4294967296 2)
    | 8=>f 8=.int .i64 v3
    | 9=>f 9=.bool false
    | 10=>f 10=.bool false
    | 11=>f 11=.bool false
    | 12=>f 12=.pointer (some ⟨s,1,none⟩)
    | 13=>f 13=.slice A1 (digs 4294967296 x1).length c1
    | 14=>f 14=.pointer (some ⟨s,0,none⟩)
    | 15=>f 15=.slice A0 (digs 4294967296 x0).length c0
    | 16=>f 16=.int .i64 v4
    | 17=>f 17=.bool true
    | 18=>f 18=.bool true
    | 19=>f 19=.bool true
    | 20=>f 20=undef
    | 21=>f 21=undef
    | 22=>f 22=undef
    | 23=>f 23=undef
    | 24=>f 24=undef
    | 25=>f 25=undef
    | 26=>f 26=.bool true
    | _=>True) (by kernel_rfl) [(47,0),(48,1),(49,2),(50,3),(51,4),(52,5),(53,6),(54,7),(55,8),(56,9),(57,10),(58,11),(59,12),(60,13),(61,14),(62,15),(63,16),(64,17),(65,18),(66,19),(67,20),(68,21),(69,22),(70,23),(71,24),(72,25),(73,26)] (by kernel_rfl) ?_
   refine Par.v0 1 26 ?_
   refine Par.ld1 2 25 0 u1 ?_
   refine Par.c0 3 24 (fun f=>#[f 1,Value.int IntKind.i64 0]) (F':=119) (fun f X hX hR=>?_) ?_
   · have e1:f 1=_:=hR.out 1 rfl
     simp only [e1]
     refine (refBit_any _ A1 c1 x1 0 X (K1.out X hX) (by omega)).mono ?_
     rw [Hbt.out]
     rintro e w2 ⟨rfl,rfl⟩
     exact ⟨(.int .u64 (bt:Int)),rfl,(Ext.refl _),fun _ _=>rfl⟩
   refine Par.S 4 23 [(47,0),(48,1),(49,2)] (fun f X hX hR K hK=>?_) ?_
   · have e2:f 2=_:=hR.out 2 rfl
     simp only [yA,yB,yC,yD,yE,e2]
     refine ⟨?_⟩
     go_simp
     exact Par.k hK (s:=by simp only [yA,yB,yC,yD,yE,e2])
   refine Par.v1 5 22 3 ?_
   refine Par.v1 6 21 4 ?_
   refine Par.S 7 20 [(47,0),(48,1),(49,2),(50,3),(51,4),(52,5),(54,7)] (fun f X hX hR K hK=>?_) ?_
   · have e4:f 4=_:=hR.out 4 rfl
     have e5:f 5=_:=hR.out 5 rfl
     have x0:=hX.cell u1
     simp only [yA,yB,yC,yD,yE,e4,e5]
     refine ⟨Par.want (by kernel_rfl) ?_⟩
     go_simp
     exact Par.k hK (s:=by simp only [yA,yB,yC,yD,yE,e4,e5])
   refine Par.c1 8 19 4 (fun _=>#[Value.int IntKind.u64 2]) (F':=121) (fun f X hX hR=>?_) ?_
   · refine (refOf_any 2 X (by omega)).mono ?_
     rintro e w2 ⟨A5,c5,rfl,hO,hB⟩
     exact ⟨(.slice A5 (digs 4294967296 2).length c5),rfl,hB,fun Y hY=>⟨A5,c5,rfl,RN.up hO.ru hY⟩⟩
   refine Par.S 9 18 [(47,0),(48,1),(49,2),(50,3),(51,4),(52,5),(53,6),(54,7)] (fun f X hX hR K hK=>?_) ?_
   · have e4:f 4=_:=hR.out 4 rfl
     have e6:f 6=_:=hR.out 6 rfl
     obtain ⟨A7,c7,(e7:f 7=_),r7⟩:=hR.out 7 rfl
     simp only [yA,yB,yC,yD,yE,e4,e6,e7]
     refine ⟨Par.want (by kernel_rfl) ?_⟩
     go_simp
     refine (refCmp_any _ _ A1 A7 c1 c7 x1 2 X (K1.out X hX) r7).mono ?_
     rw [Hv3.out]
     rintro e w2 ⟨rfl,d,rfl⟩
     exact hK.out _ (.int .i64 v3) _ (by simp only [yA,yB,yC,yD,yE,e4,e6,e7]) (extD X d) trivial (fun _ _=>rfl)
   refine Par.S 10 17 [(47,0),(48,1),(49,2),(50,3),(51,4),(52,5),(53,6),(54,7),(55,8)] (fun f X hX hR K hK=>?_) ?_
   · have e4:f 4=_:=hR.out 4 rfl
     have e8:f 8=_:=hR.out 8 rfl
     simp only [yA,yB,yC,yD,yE,e4,e8]
     refine ⟨Par.want (by kernel_rfl) ?_⟩
     go_simp
     exact Par.k hK (s:=by simp only [yA,yB,yC,yD,yE,e4,e8])
   refine Par.v2 11 16 4 9 ?_
   refine Par.v1 12 15 10 ?_
   refine Par.v1 13 14 11 ?_
   refine Par.S 14 13 [(47,0),(48,1),(49,2),(50,3),(51,4),(52,5),(53,6),(54,7),(55,8),(56,9),(57,10),(58,11),(59,12),(61,14),(62,15)] (fun f X hX hR K hK=>?_) ?_
   · have e11:f 11=_:=hR.out 11 rfl
     have e12:f 12=_:=hR.out 12 rfl
     have x0:=hX.cell u1
     simp only [yA,yB,yC,yD,yE,e11,e12]
     refine ⟨Par.want (by kernel_rfl) ?_⟩
     go_simp
     exact Par.k hK (s:=by simp only [yA,yB,yC,yD,yE,e11,e12])
   refine Par.v1 15 12 11 ?_
   refine Par.S 16 11 [(47,0),(48,1),(49,2),(50,3),(51,4),(52,5),(53,6),(54,7),(55,8),(56,9),(57,10),(58,11),(59,12),(60,13),(61,14)] (fun f X hX hR K hK=>?_) ?_
   · have e11:f 11=_:=hR.out 11 rfl
     have e14:f 14=_:=hR.out 14 rfl
     have x0:=hX.cell u0
     simp only [yA,yB,yC,yD,yE,e11,e14]
     refine ⟨Par.want (by kernel_rfl) ?_⟩
     go_simp
     exact Par.k hK (s:=by simp only [yA,yB,yC,yD,yE,e11,e14])
   refine Par.S 17 10 [(47,0),(48,1),(49,2),(50,3),(51,4),(52,5),(53,6),(54,7),(55,8),(56,9),(57,10),(58,11),(59,12),(60,13),(61,14),(62,15)] (fun f X hX hR K hK=>?_) ?_
   · have e11:f 11=_:=hR.out 11 rfl
     have e13:f 13=_:=hR.out 13 rfl
     have e15:f 15=_:=hR.out 15 rfl
     simp only [yA,yB,yC,yD,yE,e11,e13,e15]
     refine ⟨Par.want (by kernel_rfl) ?_⟩
     go_simp
     refine (refCmp_any _ _ A1 A0 c1 c0 x1 x0 X (K1.out X hX) (K0.out X hX)).mono ?_
     rw [Hv4.out]
     rintro e w2 ⟨rfl,d,rfl⟩
     exact hK.out _ (.int .i64 v4) _ (by simp only [yA,yB,yC,yD,yE,e11,e13,e15]) (extD X d) trivial (fun _ _=>rfl)
   refine Par.S 18 9 [(47,0),(48,1),(49,2),(50,3),(51,4),(52,5),(53,6),(54,7),(55,8),(56,9),(57,10),(58,11),(59,12),(60,13),(61,14),(62,15),(63,16)] (fun f X hX hR K hK=>?_) ?_
   · have e11:f 11=_:=hR.out 11 rfl
     have e16:f 16=_:=hR.out 16 rfl
     simp only [yA,yB,yC,yD,yE,e11,e16]
     refine ⟨Par.want (by kernel_rfl) ?_⟩
     go_simp
     exact Par.k hK (s:=by simp only [yA,yB,yC,yD,yE,e11,e16])
   refine Par.v2 19 8 11 17 ?_
   refine Par.v1 20 7 18 ?_
   refine Par.sk 21 6 19 ?_
   refine Par.sk 22 5 19 ?_
   refine Par.sk 23 4 19 ?_
   refine Par.sk 24 3 19 ?_
   refine Par.sk 25 2 19 ?_
   refine Par.sk 26 1 19 ?_
   refine Par.v2 27 0 19 25 ?_
   refine Par.AllOps.fin ⟨fun f X hX hR hal hap=>?_⟩
   obtain ⟨A7,c7,(e7:f 7=_),r7⟩:=hR 7 (by decide)
   have e26:f 26=_:=hR 26 (by decide)
   simp only [yA,yB,yD,yE,e7,e26]
   clear hR hal hap e7 e26
   refine Par.Chain.done ?_
   have HX:=Lib.hid (HBW3.out.trans (Below.mono hX HBW3.out.size))
   go_wp2
   go_ret
   exact ⟨⟨_,rfl⟩,HX.out⟩
 have g3':decide (0≤v4)=false:=by simpa using g3
 by_cases g4:0≤v5
 · have g4':decide (0≤v5)=true:=by simpa using g4
   go_upto_region 7 with fail
   refine Par.region_ext (by kernel_rfl) 27 [0,1,3,7,15,31,63,31,255,511,1023,2047,4095,8191,4095,20479,65535,131071,262143,524287,1048575,2097151,1048575,5242879,16777215,33554431,67108863] [] (fun j f X=>match j with
    | 0=>f 0=.pointer (some ⟨s,1,none⟩)
    | 1=>f 1=.slice A1 (digs 4294967296 x1).length c1
    | 2=>f 2=.int .u64 (bt:Int)
    | 3=>f 3=.bool false
    | 4=>f 4=.bool false
    | 5=>f 5=.pointer (some ⟨s,1,none⟩)
    | 6=>f 6=.slice A1 (digs 4294967296 x1).length c1
    | 7=>∃ A c,f 7=.slice A (digs 4294967296 2).length c∧RU X A c (digs 4294967296 2)
    | 8=>f 8=.int .i64 v3
    | 9=>f 9=.bool false
    | 10=>f 10=.bool false
    | 11=>f 11=.bool false
    | 12=>f 12=.pointer (some ⟨s,1,none⟩)
    | 13=>f 13=.slice A1 (digs 4294967296 x1).length c1
    | 14=>f 14=.pointer (some ⟨s,0,none⟩)
    | 15=>f 15=.slice A0 (digs 4294967296 x0).length c0
    | 16=>f 16=.int .i64 v4
    | 17=>f 17=.bool false
    | 18=>f 18=.bool false
    | 19=>f 19=.bool false
    | 20=>f 20=.pointer (some ⟨s,2,none⟩)
    | 21=>f 21=.slice A2 (digs 4294967296 x2).length c2
    | 22=>f 22=.pointer (some ⟨s,0,none⟩)
    | 23=>f 23=.slice A0 (digs 4294967296 x0).length c0
    | 24=>f 24=.int .i64 v5
    | 25=>f 25=.bool true
    | 26=>f 26=.bool true
    | _=>True) (by kernel_rfl) [(47,0),(48,1),(49,2),(50,3),(51,4),(52,5),(53,6),(54,7),(55,8),(56,9),(57,10),(58,11),(59,12),(60,13),(61,14),(62,15),(63,16),(64,17),(65,18),(66,19),(67,20),(68,21),(69,22),(70,23),(71,24),(72,25),(73,26)] (by kernel_rfl) ?_
   refine Par.v0 1 26 ?_
   refine Par.ld1 2 25 0 u1 ?_
   refine Par.c0 3 24 (fun f=>#[f 1,Value.int IntKind.i64 0]) (F':=119) (fun f X hX hR=>?_) ?_
   · have e1:f 1=_:=hR.out 1 rfl
     simp only [e1]
     refine (refBit_any _ A1 c1 x1 0 X (K1.out X hX) (by omega)).mono ?_
     rw [Hbt.out]
     rintro e w2 ⟨rfl,rfl⟩
     exact ⟨(.int .u64 (bt:Int)),rfl,(Ext.refl _),fun _ _=>rfl⟩
   refine Par.S 4 23 [(47,0),(48,1),(49,2)] (fun f X hX hR K hK=>?_) ?_
   · have e2:f 2=_:=hR.out 2 rfl
     simp only [yA,yB,yC,yD,yE,e2]
     refine ⟨?_⟩
     go_simp
     exact Par.k hK (s:=by simp only [yA,yB,yC,yD,yE,e2])
   refine Par.v1 5 22 3 ?_
   refine Par.v1 6 21 4 ?_
   refine Par.S 7 20 [(47,0),(48,1),(49,2),(50,3),(51,4),(52,5),(54,7)] (fun f X hX hR K hK=>?_) ?_
   · have e4:f 4=_:=hR.out 4 rfl
     have e5:f 5=_:=hR.out 5 rfl
     have x0:=hX.cell u1
     simp only [yA,yB,yC,yD,yE,e4,e5]
     refine ⟨Par.want (by kernel_rfl) ?_⟩
     go_simp
     exact Par.k hK (s:=by simp only [yA,yB,yC,yD,yE,e4,e5])
   refine Par.c1 8 19 4 (fun _=>#[Value.int IntKind.u64 2]) (F':=121) (fun f X hX hR=>?_) ?_
   · refine (refOf_any 2 X (by omega)).mono ?_
     rintro e w2 ⟨A5,c5,rfl,hO,hB⟩
     exact ⟨(.slice A5 (digs 4294967296 2).length c5),rfl,hB,fun Y hY=>⟨A5,c5,rfl,RN.up hO.ru hY⟩⟩
   refine Par.S 9 18 [(47,0),(48,1),(49,2),(50,3),(51,4),(52,5),(53,6),(54,7)] (fun f X hX hR K hK=>?_) ?_
   · have e4:f 4=_:=hR.out 4 rfl
     have e6:f 6=_:=hR.out 6 rfl
     obtain ⟨A7,c7,(e7:f 7=_),r7⟩:=hR.out 7 rfl
     simp only [yA,yB,yC,yD,yE,e4,e6,e7]
     refine ⟨Par.want (by kernel_rfl) ?_⟩
     go_simp
     refine (refCmp_any _ _ A1 A7 c1 c7 x1 2 X (K1.out X hX) r7).mono ?_
     rw [Hv3.out]
     rintro e w2 ⟨rfl,d,rfl⟩
     exact hK.out _ (.int .i64 v3) _ (by simp only [yA,yB,yC,yD,yE,e4,e6,e7]) (extD X d) trivial (fun _ _=>rfl)
   refine Par.S 10 17 [(47,0),(48,1),(49,2),(50,3),(51,4),(52,5),(53,6),(54,7),(55,8)] (fun f X hX hR K hK=>?_) ?_
   · have e4:f 4=_:=hR.out 4 rfl
     have e8:f 8=_:=hR.out 8 rfl
     simp only [yA,yB,yC,yD,yE,e4,e8]
     refine ⟨Par.want (by kernel_rfl) ?_⟩
     go_simp
     exact Par.k hK (s:=by simp only [yA,yB,yC,yD,yE,e4,e8])
   refine Par.v2 11 16 4 9 ?_
   refine Par.v1 12 15 10 ?_
   refine Par.v1 13 14 11 ?_
   refine Par.S 14 13 [(47,0),(48,1),(49,2),(50,3),(51,4),(52,5),(53,6),(54,7),(55,8),(56,9),(57,10),(58,11),(59,12),(61,14),(62,15)] (fun f X hX hR K hK=>?_) ?_
   · have e11:f 11=_:=hR.out 11 rfl
     have e12:f 12=_:=hR.out 12 rfl
     have x0:=hX.cell u1
     simp only [yA,yB,yC,yD,yE,e11,e12]
     refine ⟨Par.want (by kernel_rfl) ?_⟩
     go_simp
     exact Par.k hK (s:=by simp only [yA,yB,yC,yD,yE,e11,e12])
   refine Par.v1 15 12 11 ?_
   refine Par.S 16 11 [(47,0),(48,1),(49,2),(50,3),(51,4),(52,5),(53,6),(54,7),(55,8),(56,9),(57,10),(58,11),(59,12),(60,13),(61,14)] (fun f X hX hR K hK=>?_) ?_
   · have e11:f 11=_:=hR.out 11 rfl
     have e14:f 14=_:=hR.out 14 rfl
     have x0:=hX.cell u0
     simp only [yA,yB,yC,yD,yE,e11,e14]
     refine ⟨Par.want (by kernel_rfl) ?_⟩
     go_simp
     exact Par.k hK (s:=by simp only [yA,yB,yC,yD,yE,e11,e14])
   refine Par.S 17 10 [(47,0),(48,1),(49,2),(50,3),(51,4),(52,5),(53,6),(54,7),(55,8),(56,9),(57,10),(58,11),(59,12),(60,13),(61,14),(62,15)] (fun f X hX hR K hK=>?_) ?_
   · have e11:f 11=_:=hR.out 11 rfl
     have e13:f 13=_:=hR.out 13 rfl
     have e15:f 15=_:=hR.out 15 rfl
     simp only [yA,yB,yC,yD,yE,e11,e13,e15]
     refine ⟨Par.want (by kernel_rfl) ?_⟩
     go_simp
     refine (refCmp_any _ _ A1 A0 c1 c0 x1 x0 X (K1.out X hX) (K0.out X hX)).mono ?_
     rw [Hv4.out]
     rintro e w2 ⟨rfl,d,rfl⟩
     exact hK.out _ (.int .i64 v4) _ (by simp only [yA,yB,yC,yD,yE,e11,e13,e15]) (extD X d) trivial (fun _ _=>rfl)
   refine Par.S 18 9 [(47,0),(48,1),(49,2),(50,3),(51,4),(52,5),(53,6),(54,7),(55,8),(56,9),(57,10),(58,11),(59,12),(60,13),(61,14),(62,15),(63,16)] (fun f X hX hR K hK=>?_) ?_
   · have e11:f 11=_:=hR.out 11 rfl
     have e16:f 16=_:=hR.out 16 rfl
     simp only [yA,yB,yC,yD,yE,e11,e16]
     refine ⟨Par.want (by kernel_rfl) ?_⟩
     go_simp
     exact Par.k hK (s:=by simp only [yA,yB,yC,yD,yE,e11,e16])
   refine Par.v2 19 8 11 17 ?_
   refine Par.v1 20 7 18 ?_
   refine Par.v1 21 6 19 ?_
   refine Par.S 22 5 [(47,0),(48,1),(49,2),(50,3),(51,4),(52,5),(53,6),(54,7),(55,8),(56,9),(57,10),(58,11),(59,12),(60,13),(61,14),(62,15),(63,16),(64,17),(65,18),(66,19),(67,20),(69,22),(70,23)] (fun f X hX hR K hK=>?_) ?_
   · have e19:f 19=_:=hR.out 19 rfl
     have e20:f 20=_:=hR.out 20 rfl
     have x0:=hX.cell u2
     simp only [yA,yB,yC,yD,yE,e19,e20]
     refine ⟨Par.want (by kernel_rfl) ?_⟩
     go_simp
     exact Par.k hK (s:=by simp only [yA,yB,yC,yD,yE,e19,e20])
   refine Par.v1 23 4 19 ?_
   refine Par.S 24 3 [(47,0),(48,1),(49,2),(50,3),(51,4),(52,5),(53,6),(54,7),(55,8),(56,9),(57,10),(58,11),(59,12),(60,13),(61,14),(62,15),(63,16),(64,17),(65,18),(66,19),(67,20),(68,21),(69,22)] (fun f X hX hR K hK=>?_) ?_
   · have e19:f 19=_:=hR.out 19 rfl
     have e22:f 22=_:=hR.out 22 rfl
     have x0:=hX.cell u0
     simp only [yA,yB,yC,yD,yE,e19,e22]
     refine ⟨Par.want (by kernel_rfl) ?_⟩
     go_simp
     exact Par.k hK (s:=by simp only [yA,yB,yC,yD,yE,e19,e22])
   refine Par.S 25 2 [(47,0),(48,1),(49,2),(50,3),(51,4),(52,5),(53,6),(54,7),(55,8),(56,9),(57,10),(58,11),(59,12),(60,13),(61,14),(62,15),(63,16),(64,17),(65,18),(66,19),(67,20),(68,21),(69,22),(70,23)] (fun f X hX hR K hK=>?_) ?_
   · have e19:f 19=_:=hR.out 19 rfl
     have e21:f 21=_:=hR.out 21 rfl
     have e23:f 23=_:=hR.out 23 rfl
     simp only [yA,yB,yC,yD,yE,e19,e21,e23]
     refine ⟨Par.want (by kernel_rfl) ?_⟩
     go_simp
     refine (refCmp_any _ _ A2 A0 c2 c0 x2 x0 X (K2.out X hX) (K0.out X hX)).mono ?_
     rw [Hv5.out]
     rintro e w2 ⟨rfl,d,rfl⟩
     exact hK.out _ (.int .i64 v5) _ (by simp only [yA,yB,yC,yD,yE,e19,e21,e23]) (extD X d) trivial (fun _ _=>rfl)
   refine Par.S 26 1 [(47,0),(48,1),(49,2),(50,3),(51,4),(52,5),(53,6),(54,7),(55,8),(56,9),(57,10),(58,11),(59,12),(60,13),(61,14),(62,15),(63,16),(64,17),(65,18),(66,19),(67,20),(68,21),(69,22),(70,23),(71,24)] (fun f X hX hR K hK=>?_) ?_
   · have e19:f 19=_:=hR.out 19 rfl
     have e24:f 24=_:=hR.out 24 rfl
     simp only [yA,yB,yC,yD,yE,e19,e24]
     refine ⟨Par.want (by kernel_rfl) ?_⟩
     go_simp
     exact Par.k hK (s:=by simp only [yA,yB,yC,yD,yE,e19,e24])
   refine Par.v2 27 0 19 25 ?_
   refine Par.AllOps.fin ⟨fun f X hX hR hal hap=>?_⟩
   obtain ⟨A7,c7,(e7:f 7=_),r7⟩:=hR 7 (by decide)
   have e26:f 26=_:=hR 26 (by decide)
   simp only [yA,yB,yD,yE,e7,e26]
   clear hR hal hap e7 e26
   refine Par.Chain.done ?_
   have HX:=Lib.hid (HBW3.out.trans (Below.mono hX HBW3.out.size))
   go_wp2
   go_ret
   exact ⟨⟨_,rfl⟩,HX.out⟩
 have g4':decide (0≤v5)=false:=by simpa using g4
 go_upto_region 7 with fail
 refine Par.region_ext (by kernel_rfl) 27 [0,1,3,7,15,31,63,31,255,511,1023,2047,4095,8191,4095,20479,65535,131071,262143,524287,1048575,2097151,1048575,5242879,16777215,33554431,67108863] [] (fun j f X=>match j with
  | 0=>f 0=.pointer (some ⟨s,1,none⟩)
  | 1=>f 1=.slice A1 (digs 4294967296 x1).length c1
  | 2=>f 2=.int .u64 (bt:Int)
  | 3=>f 3=.bool false
  | 4=>f 4=.bool false
  | 5=>f 5=.pointer (some ⟨s,1,none⟩)
  | 6=>f 6=.slice A1 (digs 4294967296 x1).length c1
  | 7=>∃ A c,f 7=.slice A (digs 4294967296 2).length c∧RU X A c (digs 4294967296 2)
  | 8=>f 8=.int .i64 v3
  | 9=>f 9=.bool false
  | 10=>f 10=.bool false
  | 11=>f 11=.bool false
  | 12=>f 12=.pointer (some ⟨s,1,none⟩)
  | 13=>f 13=.slice A1 (digs 4294967296 x1).length c1
  | 14=>f 14=.pointer (some ⟨s,0,none⟩)
  | 15=>f 15=.slice A0 (digs 4294967296 x0).length c0
  | 16=>f 16=.int .i64 v4
  | 17=>f 17=.bool false
  | 18=>f 18=.bool false
  | 19=>f 19=.bool false
  | 20=>f 20=.pointer (some ⟨s,2,none⟩)
  | 21=>f 21=.slice A2 (digs 4294967296 x2).length c2
  | 22=>f 22=.pointer (some ⟨s,0,none⟩)
  | 23=>f 23=.slice A0 (digs 4294967296 x0).length c0
  | 24=>f 24=.int .i64 v5
  | 25=>f 25=.bool false
  | 26=>f 26=.bool false
  | _=>True) (by kernel_rfl) [(47,0),(48,1),(49,2),(50,3),(51,4),(52,5),(53,6),(54,7),(55,8),(56,9),(57,10),(58,11),(59,12),(60,13),(61,14),(62,15),(63,16),(64,17),(65,18),(66,19),(67,20),(68,21),(69,22),(70,23),(71,24),(72,25),(73,26)] (by kernel_rfl) ?_
 refine Par.v0 1 26 ?_
 refine Par.ld1 2 25 0 u1 ?_
 refine Par.c0 3 24 (fun f=>#[f 1,Value.int IntKind.i64 0]) (F':=119) (fun f X hX hR=>?_) ?_
 · have e1:f 1=_:=hR.out 1 rfl
   simp only [e1]
   refine (refBit_any _ A1 c1 x1 0 X (K1.out X hX) (by omega)).mono ?_
   rw [Hbt.out]
   rintro e w2 ⟨rfl,rfl⟩
   exact ⟨(.int .u64 (bt:Int)),rfl,(Ext.refl _),fun _ _=>rfl⟩
 refine Par.S 4 23 [(47,0),(48,1),(49,2)] (fun f X hX hR K hK=>?_) ?_
 · have e2:f 2=_:=hR.out 2 rfl
   simp only [yA,yB,yC,yD,yE,e2]
   refine ⟨?_⟩
   go_simp
   exact Par.k hK (s:=by simp only [yA,yB,yC,yD,yE,e2])
 refine Par.v1 5 22 3 ?_
 refine Par.v1 6 21 4 ?_
 refine Par.S 7 20 [(47,0),(48,1),(49,2),(50,3),(51,4),(52,5),(54,7)] (fun f X hX hR K hK=>?_) ?_
 · have e4:f 4=_:=hR.out 4 rfl
   have e5:f 5=_:=hR.out 5 rfl
   have x0:=hX.cell u1
   simp only [yA,yB,yC,yD,yE,e4,e5]
   refine ⟨Par.want (by kernel_rfl) ?_⟩
   go_simp
   exact Par.k hK (s:=by simp only [yA,yB,yC,yD,yE,e4,e5])
 refine Par.c1 8 19 4 (fun _=>#[Value.int IntKind.u64 2]) (F':=121) (fun f X hX hR=>?_) ?_
 · refine (refOf_any 2 X (by omega)).mono ?_
   rintro e w2 ⟨A5,c5,rfl,hO,hB⟩
   exact ⟨(.slice A5 (digs 4294967296 2).length c5),rfl,hB,fun Y hY=>⟨A5,c5,rfl,RN.up hO.ru hY⟩⟩
 refine Par.S 9 18 [(47,0),(48,1),(49,2),(50,3),(51,4),(52,5),(53,6),(54,7)] (fun f X hX hR K hK=>?_) ?_
 · have e4:f 4=_:=hR.out 4 rfl
   have e6:f 6=_:=hR.out 6 rfl
   obtain ⟨A7,c7,(e7:f 7=_),r7⟩:=hR.out 7 rfl
   simp only [yA,yB,yC,yD,yE,e4,e6,e7]
   refine ⟨Par.want (by kernel_rfl) ?_⟩
   go_simp
   refine (refCmp_any _ _ A1 A7 c1 c7 x1 2 X (K1.out X hX) r7).mono ?_
   rw [Hv3.out]
   rintro e w2 ⟨rfl,d,rfl⟩
   exact hK.out _ (.int .i64 v3) _ (by simp only [yA,yB,yC,yD,yE,e4,e6,e7]) (extD X d) trivial (fun _ _=>rfl)
 refine Par.S 10 17 [(47,0),(48,1),(49,2),(50,3),(51,4),(52,5),(53,6),(54,7),(55,8)] (fun f X hX hR K hK=>?_) ?_
 · have e4:f 4=_:=hR.out 4 rfl
   have e8:f 8=_:=hR.out 8 rfl
   simp only [yA,yB,yC,yD,yE,e4,e8]
   refine ⟨Par.want (by kernel_rfl) ?_⟩
   go_simp
   exact Par.k hK (s:=by simp only [yA,yB,yC,yD,yE,e4,e8])
 refine Par.v2 11 16 4 9 ?_
 refine Par.v1 12 15 10 ?_
 refine Par.v1 13 14 11 ?_
 refine Par.S 14 13 [(47,0),(48,1),(49,2),(50,3),(51,4),(52,5),(53,6),(54,7),(55,8),(56,9),(57,10),(58,11),(59,12),(61,14),(62,15)] (fun f X hX hR K hK=>?_) ?_
 · have e11:f 11=_:=hR.out 11 rfl
   have e12:f 12=_:=hR.out 12 rfl
   have x0:=hX.cell u1
   simp only [yA,yB,yC,yD,yE,e11,e12]
   refine ⟨Par.want (by kernel_rfl) ?_⟩
   go_simp
   exact Par.k hK (s:=by simp only [yA,yB,yC,yD,yE,e11,e12])
 refine Par.v1 15 12 11 ?_
 refine Par.S 16 11 [(47,0),(48,1),(49,2),(50,3),(51,4),(52,5),(53,6),(54,7),(55,8),(56,9),(57,10),(58,11),(59,12),(60,13),(61,14)] (fun f X hX hR K hK=>?_) ?_
 · have e11:f 11=_:=hR.out 11 rfl
   have e14:f 14=_:=hR.out 14 rfl
   have x0:=hX.cell u0
   simp only [yA,yB,yC,yD,yE,e11,e14]
   refine ⟨Par.want (by kernel_rfl) ?_⟩
   go_simp
   exact Par.k hK (s:=by simp only [yA,yB,yC,yD,yE,e11,e14])
 refine Par.S 17 10 [(47,0),(48,1),(49,2),(50,3),(51,4),(52,5),(53,6),(54,7),(55,8),(56,9),(57,10),(58,11),(59,12),(60,13),(61,14),(62,15)] (fun f X hX hR K hK=>?_) ?_
 · have e11:f 11=_:=hR.out 11 rfl
   have e13:f 13=_:=hR.out 13 rfl
   have e15:f 15=_:=hR.out 15 rfl
   simp only [yA,yB,yC,yD,yE,e11,e13,e15]
   refine ⟨Par.want (by kernel_rfl) ?_⟩
   go_simp
   refine (refCmp_any _ _ A1 A0 c1 c0 x1 x0 X (K1.out X hX) (K0.out X hX)).mono ?_
   rw [Hv4.out]
   rintro e w2 ⟨rfl,d,rfl⟩
   exact hK.out _ (.int .i64 v4) _ (by simp only [yA,yB,yC,yD,yE,e11,e13,e15]) (extD X d) trivial (fun _ _=>rfl)
 refine Par.S 18 9 [(47,0),(48,1),(49,2),(50,3),(51,4),(52,5),(53,6),(54,7),(55,8),(56,9),(57,10),(58,11),(59,12),(60,13),(61,14),(62,15),(63,16)] (fun f X hX hR K hK=>?_) ?_
 · have e11:f 11=_:=hR.out 11 rfl
   have e16:f 16=_:=hR.out 16 rfl
   simp only [yA,yB,yC,yD,yE,e11,e16]
   refine ⟨Par.want (by kernel_rfl) ?_⟩
   go_simp
   exact Par.k hK (s:=by simp only [yA,yB,yC,yD,yE,e11,e16])
 refine Par.v2 19 8 11 17 ?_
 refine Par.v1 20 7 18 ?_
 refine Par.v1 21 6 19 ?_
 refine Par.S 22 5 [(47,0),(48,1),(49,2),(50,3),(51,4),(52,5),(53,6),(54,7),(55,8),(56,9),(57,10),(58,11),(59,12),(60,13),(61,14),(62,15),(63,16),(64,17),(65,18),(66,19),(67,20),(69,22),(70,23)] (fun f X hX hR K hK=>?_) ?_
 · have e19:f 19=_:=hR.out 19 rfl
   have e20:f 20=_:=hR.out 20 rfl
   have x0:=hX.cell u2
   simp only [yA,yB,yC,yD,yE,e19,e20]
   refine ⟨Par.want (by kernel_rfl) ?_⟩
   go_simp
   exact Par.k hK (s:=by simp only [yA,yB,yC,yD,yE,e19,e20])
 refine Par.v1 23 4 19 ?_
 refine Par.S 24 3 [(47,0),(48,1),(49,2),(50,3),(51,4),(52,5),(53,6),(54,7),(55,8),(56,9),(57,10),(58,11),(59,12),(60,13),(61,14),(62,15),(63,16),(64,17),(65,18),(66,19),(67,20),(68,21),(69,22)] (fun f X hX hR K hK=>?_) ?_
 · have e19:f 19=_:=hR.out 19 rfl
   have e22:f 22=_:=hR.out 22 rfl
   have x0:=hX.cell u0
   simp only [yA,yB,yC,yD,yE,e19,e22]
   refine ⟨Par.want (by kernel_rfl) ?_⟩
   go_simp
   exact Par.k hK (s:=by simp only [yA,yB,yC,yD,yE,e19,e22])
 refine Par.S 25 2 [(47,0),(48,1),(49,2),(50,3),(51,4),(52,5),(53,6),(54,7),(55,8),(56,9),(57,10),(58,11),(59,12),(60,13),(61,14),(62,15),(63,16),(64,17),(65,18),(66,19),(67,20),(68,21),(69,22),(70,23)] (fun f X hX hR K hK=>?_) ?_
 · have e19:f 19=_:=hR.out 19 rfl
   have e21:f 21=_:=hR.out 21 rfl
   have e23:f 23=_:=hR.out 23 rfl
   simp only [yA,yB,yC,yD,yE,e19,e21,e23]
   refine ⟨Par.want (by kernel_rfl) ?_⟩
   go_simp
   refine (refCmp_any _ _ A2 A0 c2 c0 x2 x0 X (K2.out X hX) (K0.out X hX)).mono ?_
   rw [Hv5.out]
   rintro e w2 ⟨rfl,d,rfl⟩
   exact hK.out _ (.int .i64 v5) _ (by simp only [yA,yB,yC,yD,yE,e19,e21,e23]) (extD X d) trivial (fun _ _=>rfl)
 refine Par.S 26 1 [(47,0),(48,1),(49,2),(50,3),(51,4),(52,5),(53,6),(54,7),(55,8),(56,9),(57,10),(58,11),(59,12),(60,13),(61,14),(62,15),(63,16),(64,17),(65,18),(66,19),(67,20),(68,21),(69,22),(70,23),(71,24)] (fun f X hX hR K hK=>?_) ?_
 · have e19:f 19=_:=hR.out 19 rfl
   have e24:f 24=_:=hR.out 24 rfl
   simp only [yA,yB,yC,yD,yE,e19,e24]
   refine ⟨Par.want (by kernel_rfl) ?_⟩
   go_simp
   exact Par.k hK (s:=by simp only [yA,yB,yC,yD,yE,e19,e24])
 refine Par.v2 27 0 19 25 ?_
 refine Par.AllOps.fin ⟨fun f X hX hR hal hap=>?_⟩
 obtain ⟨A7,c7,(e7:f 7=_),r7⟩:=hR 7 (by decide)
 have e26:f 26=_:=hR 26 (by decide)
 simp only [yA,yB,yD,yE,e7,e26]
 clear hR hal hap e7 e26
 refine Par.Chain.done ?_
 have y1:=hX.cell u1
 have y2:=hX.cell u2
 have y3:=hX.cell u3
 have y4:=hX.cell u4
 have HBX7:=Lib.hid (HBW3.out.trans (Below.mono hX HBW3.out.size))
 have HX7:=Lib.hid hX
 have hmu:=refMul_any _ _ A1 A2 c1 c2 x1 x2 X (K1.out X hX) (K2.out X hX) (fun _ hb=>hb) (fun _ hb=>hb) (by have:=L1.out;omega) (by have:=L2.out;omega)
 have HMu:=Lib.hid hmu
 have lm:=mul_len x1 x2
 have lm2:(digs 4294967296 (x1*x2)).length<90000:=by have:=L1.out;have:=L2.out;omega
 have LM:=Lib.hid lm2
 clear hmu lm lm2 hX u0 u1 u2 u3 u4 g1 g1' g1b g1c g2 g2' g3 g3' g4 g4'
 go_wp2_with fail
 refine HMu.out.mono ?_
 rintro e W4 ⟨A5,c5,rfl,hO5,hB4⟩
 have hE4:Ext X W4:=hB4
 have z3:=hE4.cell y3
 have z4:=hE4.cell y4
 have HE4:=Lib.hid (HX7.out.trans hE4)
 have HBW4:=Lib.hid (HBX7.out.trans (hB4.mono HBX7.out.size))
 have J5:=Lib.hid (fun (Y:World) (hY:Ext W4 Y)=>RN.up hO5.ru hY)
 have hsu:=refSub_any _ _ A3 Ao c3 co x3 1 W4 (K3.out W4 HE4.out) (KO.out W4 HE4.out) (fun _ hb=>hb) (fun _ hb=>hb) (by have:=L3.out;omega) (by have:=H3.out;omega)
 have HSu:=Lib.hid hsu
 clear hsu hO5 hB4 hE4 y1 y2 y3 y4 HMu
 go_wp2_with fail
 refine HSu.out.mono ?_
 rintro e W5 ⟨A6,c6,rfl,hO6,hB5⟩
 have hE5:Ext W4 W5:=hB5
 have w3:=hE5.cell z3
 have w4:=hE5.cell z4
 have HE5:=Lib.hid (HE4.out.trans hE5)
 have HBW5:=Lib.hid (HBW4.out.trans (hB5.mono HBW4.out.size))
 have hmo:=refMod_any A5 A6 c5 c6 (x1*x2) (x3 - 1) W5 (J5.out W5 hE5) hO6.ru LM.out (by have:=H3.out;omega)
 have HMo:=Lib.hid hmo
 have HE45:=Lib.hid hE5
 clear hmo hO6 hB5 hE5 z3 z4 HSu
 go_wp2_with fail
 refine HMo.out.mono ?_
 rintro e W6 ⟨A7,c7,rfl,hR7,hB6⟩
 have hE6:Ext W5 W6:=hB6
 have t4:=hE6.cell w4
 have HE6:=Lib.hid (HE5.out.trans hE6)
 have HE46:=Lib.hid (HE45.out.trans hE6)
 have HBW6:=Lib.hid (HBW5.out.trans (hB6.mono HBW5.out.size))
 have J7:=Lib.hid (fun (Y:World) (hY:Ext W6 Y)=>RN.up hR7 hY)
 have hsu:=refSub_any _ _ A4 Ao c4 co x4 1 W6 (K4.out W6 HE6.out) (KO.out W6 HE6.out) (fun _ hb=>hb) (fun _ hb=>hb) (by have:=L4.out;omega) (by have:=H4.out;omega)
 have HSu2:=Lib.hid hsu
 clear hsu hR7 hB6 hE6 w3 w4 HMo
 go_wp2_with fail
 refine HSu2.out.mono ?_
 rintro e W7 ⟨A8,c8,rfl,hO8,hB7⟩
 have hE7:Ext W6 W7:=hB7
 have HE7:=Lib.hid (HE6.out.trans hE7)
 have HE67:=Lib.hid hE7
 have HBW7:=Lib.hid (HBW6.out.trans (hB7.mono HBW6.out.size))
 have hmo:=refMod_any A5 A8 c5 c8 (x1*x2) (x4 - 1) W7 (J5.out W7 (HE46.out.trans hE7)) hO8.ru LM.out (by have:=H4.out;omega)
 have HMo2:=Lib.hid hmo
 clear hmo hO8 hB7 hE7 t4 HSu2
 go_wp2_with fail
 refine HMo2.out.mono ?_
 rintro e W8 ⟨A9,c9,rfl,hR9,hB8⟩
 have hE8:Ext W7 W8:=hB8
 have HE8:=Lib.hid (HE7.out.trans hE8)
 have HBW8:=Lib.hid (HBW7.out.trans (hB8.mono HBW7.out.size))
 have hC1:=refCmp_any _ _ A7 Ao c7 co (x1*x2 % (x3 - 1)) 1 W8 (J7.out W8 (HE67.out.trans hE8)) (KO.out W8 HE8.out)
 have HC1:=Lib.hid hC1
 have hC2:=fun d=>refCmp_any _ _ A9 Ao c9 co (x1*x2 % (x4 - 1)) 1 (W8.drewN d) (RN.up hR9 (extD W8 d)) (KO.out _ (HE8.out.trans (extD W8 d)))
 have HC2:=Lib.hid hC2
 clear hC1 hC2 hR9 hB8 hE8 HMo2
 obtain ⟨v6,hv6⟩:∃ v,cmpV (x1*x2 % (x3 - 1)) 1=v:=⟨_,rfl⟩
 obtain ⟨v7,hv7⟩:∃ v,cmpV (x1*x2 % (x4 - 1)) 1=v:=⟨_,rfl⟩
 have Hv6:=Lib.hid hv6
 have Hv7:=Lib.hid hv7
 clear hv6 hv7
 go_wp2_with fail
 refine HC1.out.mono ?_
 rw [Hv6.out]
 rintro e W9 ⟨rfl,d,rfl⟩
 have HBW9:=Lib.hid (below_drewN HBW8.out d)
 by_cases h6:v6=0
 rotate_left
 · have h6':(v6==0)=false:=by simpa using h6
   go_wp2
   go_ret
   exact ⟨⟨_,rfl⟩,HBW9.out⟩
 subst h6
 go_wp2_with fail
 refine (HC2.out d).mono ?_
 rw [Hv7.out]
 rintro e W10 ⟨rfl,d2,rfl⟩
 go_wp2
 go_ret
 exact ⟨⟨_,rfl⟩,below_drewN HBW8.out (d+d2)⟩
end Go.Proofs.YtendnkpiidhogaaGreat.At

namespace Go.Proofs.YtendnkpiidhogaaGreat.At
open Go.RowKit Go.Shelf
theorem set3 {w:World} {s:Nat} {t:TypeId} {a b c:Value} (h:w.heap[s]?=some (.cells #[a,b,c] t (0,0))) (u v x:Value):(((w.setCell ⟨s,0,none⟩ u).setCell ⟨s,1,none⟩ v).setCell ⟨s,2,none⟩ x).heap[s]?=some (.cells #[u,v,x] t (0,0)):=by
 simpa using bset (bset (bset h 0 u) 1 v) 2 x
theorem set3a {w:World} {s:Nat} {t:TypeId} {a b c:Value} (h:w.heap[s]?=some (.cells #[a,b,c] t (0,0))) (u v x:Value) (o:Obj):((((w.setCell ⟨s,0,none⟩ u).setCell ⟨s,1,none⟩ v).setCell ⟨s,2,none⟩ x).alloc o).heap[s]?=some (.cells #[u,v,x] t (0,0)) :=
 (Below.heap_alloc _ _ _ (blk_lt (set3 h u v x))).trans (set3 h u v x)
end Go.Proofs.YtendnkpiidhogaaGreat.At

namespace Go.Proofs.YtendnkpiidhogaaGreat.At
open Go.RowKit Go.Shelf
attribute [local go_sem] Oper.semAt_some
theorem OW.lower {w:World} {base b':Nat} {A:Option Addr} {c:Nat} {bs:List Nat} (h:OW w base A c bs) (hb:b'≤base):OW w b' A c bs:=by
 obtain ⟨⟨h1,h2⟩,h3⟩:=h
 refine ⟨⟨h1,?_⟩,h3⟩
 rcases h2 with h2 | ⟨g,cap,cur,e,hg,r⟩
 · exact .inl h2
 · exact .inr ⟨g,cap,cur,e,by omega,r⟩
theorem byte_of (z:Int):∃ b:Nat,b<256∧z % 256=(b:Int):=⟨(z % 256).toNat,by omega,by omega⟩
theorem digits_any (n:Nat) (w:World) (hn:n<268435456) :
 Calls Tryz.prog 240 #[.int .i64 n] w fun e w'=>∃ A c bs,e=.returned (.slice A (List.length bs) c)∧OW w' w.heap.size A c bs∧0<bs.length∧bs.length≤10∧Below w.heap.size w w':=by
 obtain ⟨b0,hb0,he0⟩:=byte_of (bits .and .i64 (n:Int) 127)
 have hO:=Lib.hid (OW.lit w b0 hb0)
 go_enter Tryz.func240,Tryz.ntmps240
 go_wp2
 go_loopw [0,3] (fun v s wr=>∃ (x:Nat) (A:Option Addr) (c:Nat) (bs:List Nat),v=.int .i64 (x:Int)∧s=.slice A bs.length c∧OW wr w.heap.size A c bs∧0<bs.length∧bs.length≤10∧x<128 ^ (10 - bs.length)∧Below w.heap.size w wr) (fun v _ _=>(intOf v).toNat)
 case atStart=>exact ⟨n / 128,_,1,[b0],by simp,rfl,hO.out,by simp,by simp,by simp;omega,(Below.refl _ w).alloc (Nat.le_refl _) _⟩
 case round =>
  clear hO he0 hb0
  obtain ⟨x,A,c,bs,rfl,rfl,hO,h0,hl,hx,hB⟩:=hrel
  by_cases hx0:0<x
  · obtain ⟨b,hb,hbe⟩:=byte_of (bits .or .i64 (bits .and .i64 (x:Int) 127) 128)
    have hl9:bs.length≤9:=by
     rcases Nat.lt_or_ge 9 bs.length with h | h
     · have:bs.length=10:=by omega
       rw [this] at hx
       simp at hx
       omega
     · exact h
    have hx':x / 128<128 ^ (10 - (bs.length+1)):=by
     rw [show 10 - bs.length=10 - (bs.length+1)+1 by omega,Nat.pow_succ] at hx
     exact Nat.div_lt_of_lt_mul (by rw [Nat.mul_comm];exact hx)
    have HX:=Lib.hid hx'
    have hs:=hB.size
    have HO:=Lib.hid (OW.lit wr b hb)
    have HR:=Lib.hid ((hO.rb (by omega)).below ((Below.refl _ wr).alloc (Nat.le_refl _) (.cells #[.int .u8 (b:Int)] 5)) fun q hq=>hq.2)
    have hi:(0:Int)<(x:Int):=by omega
    clear hx hx' hO
    go_wp2_with (at_builtin;refine app8 rfl (.tmp 18) (.tmp 19) rfl wr.heap.size (bs:=[b]) rfl HO.out rfl HR.out (by simp;omega) (by simp) ?_;intro A2 c2 w2 hw2 hb2)
    have HB:=Lib.hid ((hB.alloc hs (.cells #[.int .u8 (b:Int)] 5)).trans (hb2.mono hs))
    go_roundw
    case rel=>exact ⟨x / 128,A2,c2,b :: bs,by simp,rfl,OW.lower hw2 hs,by simp,by simp;omega,by simpa using HX.out,HB.out⟩
    case measure=>simp [intOf];omega
  · have hx0':x=0:=by omega
    subst hx0'
    go_wp2
    go_ret
    exact ⟨A,c,bs,rfl,hO,h0,hl,hB⟩
end Go.Proofs.YtendnkpiidhogaaGreat.At

namespace Go.Proofs.YtendnkpiidhogaaGreat.At
open Go.RowKit Go.Shelf
attribute [local go_sem] Oper.semAt_some
theorem OW.up {w X:World} {base:Nat} {A:Option Addr} {c:Nat} {bs:List Nat} (h:OW w base A c bs) (hY:Below w.heap.size w X):OW X base A c bs :=
 OW.ext h ⟨hY.os,hY.tape,hY.output,hY.size,fun k hk _=>hY.block k hk⟩
theorem oid_any (P:Nat→Prop) (g c:Nat) (l:List Int) (w:World) (hv:RI w P (some ⟨g,0,none⟩) c l) (hP:∀ b,P b→b<w.heap.size) (hl:3≤l.length∧l.length≤100) (h0:l.getD 0 0=1) (h1:0≤l.getD 1 0∧l.getD 1 0≤39) (ha:∀ k,0≤l.getD k 0∧l.getD k 0<268435456) :
 Calls Tryz.prog 235 #[.slice (some ⟨g,0,none⟩) l.length c] w fun e w'=>(∃ A1 n c1,e=.returned (.tuple #[.agg #[.int .i64 6,.slice A1 n c1,.slice none 0 0],.bool true]))∧Below w.heap.size w w':=by
 obtain ⟨hlc,hc⟩:=hv.cap
 have hB0:=(Below.refl w.heap.size w).alloc (Nat.le_refl _) (.cells #[.int .i64 0,.slice none 0 0,.slice none 0 0] 172)
 have hb0:=heap_alloc_new w (.cells #[.int .i64 0,.slice none 0 0,.slice none 0 0] 172)
 have hz0:(w.alloc (.cells #[.int .i64 0,.slice none 0 0,.slice none 0 0] 172)).heap.size=w.heap.size+1:=by simp
 obtain ⟨W0,hW0⟩:∃ W0,w.alloc (.cells #[.int .i64 0,.slice none 0 0,.slice none 0 0] 172)=W0:=⟨_,rfl⟩
 rw [hW0] at hB0 hb0 hz0
 have hv0:=hv.below hB0 hP
 obtain ⟨a,ea,hPg,x0⟩:=hv0.at_ (i:=0) (by omega)
 injection ea with ea
 subst ea
 obtain ⟨a',ea,_,x1⟩:=hv0.at_ (i:=1) (by omega)
 injection ea with ea
 subst ea
 rw [h0] at x0
 obtain ⟨y,hy⟩:∃ y,l.getD 1 0=y:=⟨_,rfl⟩
 rw [hy] at x1 h1
 simp [Addr.add] at x0 x1
 have y0:=x0
 have y1:=x1
 rw [←hW0] at y0 y1
 have HW:=Lib.hid hW0
 have HB0:=Lib.hid hB0
 have Hb0:=Lib.hid hb0
 have Hz0:=Lib.hid hz0
 have HA:=Lib.hid ha
 have Hy:=Lib.hid hy
 have k0:¬ (l.length:Int)<2:=by omega
 have k1:¬ (39:Int)<y:=by omega
 clear hB0 hb0 hz0 hW0 h0 ha hy
 go_enter Tryz.func235,Tryz.ntmps235
 go_wp2
 rw [HW.out]
 clear y0 y1
 go_loopw [33] (fun i wr=>∃ k:Nat,k≤l.length∧i=.int .i64 k∧∃ d,wr=W0.drewN d) (fun i _=>l.length - (intOf i).toNat)
 case atStart=>exact ⟨0,by omega,rfl,0,rfl⟩
 case round =>
  obtain ⟨k,hk,rfl,d,rfl⟩:=hrel
  by_cases hlt:k<l.length
  · obtain ⟨a,ea,_,hx⟩:=(hv0.keep (w':=W0.drewN d) fun _ _=>rfl).at_ hlt
    injection ea with ea
    subst ea
    have h1:=HA.out k
    obtain ⟨z,hz⟩:∃ z,l.getD k 0=z:=⟨_,rfl⟩
    rw [hz] at hx h1
    have hx':(W0.drewN d).cell? ⟨g,k,none⟩=some (.int .i64 z):=by
     have e:Addr.add ⟨g,0,none⟩ k=⟨g,k,none⟩:=by by_cases h:k=0 <;> simp [Addr.add,h]
     rw [←e];exact hx
    clear hx
    have Hz:=Lib.hid hz
    clear hz
    have k2:¬ z<0:=by omega
    have k3:¬ 268435456<z:=by omega
    go_wp2
    go_roundw
    case rel=>exact ⟨k+1,by omega,by go_num,d,rfl⟩
    case measure=>simp [intOf];omega
  · obtain rfl:k=l.length:=by omega
    have X0:(W0.drewN d).cell? ⟨g,0,none⟩=some (.int .i64 1):=x0
    have X1:(W0.drewN d).cell? ⟨g,1,none⟩=some (.int .i64 y):=x1
    obtain ⟨yn,hyn⟩:∃ yn:Nat,y=(yn:Int):=⟨y.toNat,by omega⟩
    subst hyn
    have HD:=fun X=>digits_any (40+yn) X (by omega)
    simp only [Int.natCast_add,Int.cast_ofNat_Int] at HD
    have HDD:=Lib.hid HD
    have hwr:IntKind.i64.wrap (40+(yn:Int))=40+(yn:Int):=by rw [IntKind.wrap_i64];omega
    clear k0 k1 hk hlt x0 x1 HD
    go_wp2_with fail
    refine Par.region_ext (by kernel_rfl) 10 [0,1,3,7,0,16,48,127,255,511] [] (fun j f X=>match j with
     | 0=>f 0=.slice (some ⟨g,0,none⟩) l.length c
     | 1=>f 1=.pointer (some ⟨g,0,none⟩)
     | 2=>f 2=.int .i64 1
     | 3=>f 3=.int .i64 40
     | 4=>f 4=.slice (some ⟨g,0,none⟩) l.length c
     | 5=>f 5=.pointer (some ⟨g,1,none⟩)
     | 6=>f 6=.int .i64 (yn:Int)
     | 7=>f 7=.int .i64 (40+(yn:Int))
     | 8=>∃ A8 c8 b8,f 8=.slice A8 (List.length b8) c8∧OW X W0.heap.size A8 c8 b8∧b8.length≤10
     | 9=>∃ A8 c8 b8,f 9=.slice A8 (List.length b8) c8∧OW X W0.heap.size A8 c8 b8∧b8.length≤10
     | _=>True) (by kernel_rfl) [(45,0),(46,1),(47,2),(48,3),(49,4),(50,5),(51,6),(52,7),(53,8),(6,9)] (by kernel_rfl) ?_
    refine Par.v0 1 9 ?_
    refine Par.S 2 8 [(45,0),(49,4),(50,5),(51,6)] (fun f X hX hR K hK=>?_) ?_
    · have e0:f 0=_:=hR.out 0 rfl
      have q1:0<l.length:=by omega
      simp only [yA,yB,yC,yD,yE,e0]
      refine ⟨?_⟩
      go_simp
      exact Par.k hK (s:=by simp only [yA,yB,yC,yD,yE,e0])
    refine Par.ld1 3 7 1 X0 ?_
    refine Par.v1 4 6 2 ?_
    refine Par.v0 5 5 ?_
    refine Par.S 6 4 [(45,0),(46,1),(47,2),(48,3),(49,4)] (fun f X hX hR K hK=>?_) ?_
    · have e4:f 4=_:=hR.out 4 rfl
      have q5:1<l.length:=by omega
      have q6:(1:Int)<(l.length:Int):=by omega
      simp only [yA,yB,yC,yD,yE,e4]
      refine ⟨?_⟩
      go_simp
      exact Par.k hK (s:=by simp only [yA,yB,yC,yD,yE,e4])
    refine Par.ld1 7 3 5 X1 ?_
    refine Par.v2 8 2 3 6 (hR:=fun _ _ h=>h.trans ((congrArg (Value.int .i64) hwr))) ?_
    refine Par.c0 9 1 (fun f=>#[f 7]) (F':=240) (fun f X hX hR=>?_) ?_
    · have e7:f 7=_:=hR.out 7 rfl
      simp only [e7]
      refine (HDD.out X).mono ?_
      rintro e w2 ⟨A8,c8,b8,rfl,hO8,-,hl8,hB⟩
      exact ⟨(.slice A8 b8.length c8),rfl,hB,fun Y hY=>⟨A8,c8,b8,rfl,OW.up (OW.lower hO8 hX.bsize) hY,hl8⟩⟩
    refine Par.S 10 0 [(45,0),(46,1),(47,2),(48,3),(49,4),(50,5),(51,6),(52,7),(53,8)] (fun f X hX hR K hK=>?_) ?_
    · obtain ⟨A8,c8,b8,(e8:f 8=_),r8,l8⟩:=hR.out 8 rfl
      simp only [yA,yB,yC,yD,yE,e8]
      refine ⟨?_⟩
      go_simp
      exact hK.out _ (.slice A8 b8.length c8) _ (by simp only [yA,yB,yC,yD,yE,e8]) (Ext.refl _) trivial (fun Y hY=>⟨A8,c8,b8,rfl,OW.up r8 hY,l8⟩)
    refine Par.AllOps.fin ⟨fun f X hX hR hal hap=>?_⟩
    obtain ⟨A8,c8,b8,(e8:f 8=_),r8,l8⟩:=hR 8 (by decide)
    obtain ⟨A9,c9,b9,(e9:f 9=_),r9,l9⟩:=hR 9 (by decide)
    simp only [yA,yB,yD,yE,e8,e9]
    clear hR hal hap e8 e9
    refine Par.Chain.done ?_
    have hXB:Below W0.heap.size W0 X:=Below.trans (below_drewN (Below.refl _ W0) d) hX
    have e9':=r9
    have HO9:=Lib.hid r9
    have HXB:=Lib.hid hXB
    clear r9 e9' hXB hX X0 X1 HDD hwr
    have m0:(0:Int)≤2:=by omega
    have m1:(2:Int)≤(l.length:Int):=by omega
    have m2:¬ (c:Int)=2:=by omega
    have m3:¬ c=2:=by omega
    have m4:(2:Int)≤(c:Int):=by omega
    go_wp2
    go_loopw [6,57] (fun s i wr=>∃ (k:Nat) (A6:Option Addr) (c6:Nat) (bs:List Nat),k+2≤l.length∧i=.int .i64 k∧s=.slice A6 bs.length c6∧OW wr W0.heap.size A6 c6 bs∧bs.length≤10+10*k∧Below W0.heap.size W0 wr) (fun _ i _=>l.length - (intOf i).toNat)
    case atStart=>exact ⟨0,A9,c9,b9,by omega,rfl,rfl,HO9.out,by omega,HXB.out⟩
    case round =>
     clear HO9 HXB l9 l8 r8
     obtain ⟨k,A6,c6,bs,hk,rfl,rfl,hO6,hl6,hB⟩:=hrel
     have hs:=hB.size
     by_cases hlt:k+2<l.length
     · obtain ⟨a,ea,_,hx⟩:=(hv0.below hB (fun b hb=>by have:=hP b hb;have:=Hz0.out;omega)).at_ (i:=k+2) hlt
       injection ea with ea
       subst ea
       have h1:=HA.out (k+2)
       obtain ⟨z,hz⟩:∃ z,l.getD (k+2) 0=z:=⟨_,rfl⟩
       rw [hz] at hx h1
       obtain ⟨zn,hzn⟩:∃ zn:Nat,z=(zn:Int):=⟨z.toNat,by omega⟩
       subst hzn
       have hx':wr.cell? ⟨g,2+k,none⟩=some (.int .i64 (zn:Int)):=by
        have e:Addr.add ⟨g,0,none⟩ (k+2)=⟨g,2+k,none⟩:=by simp [Addr.add];omega
        rw [←e];exact hx
       have HO6:=Lib.hid hO6
       have k1:k<l.length - 2:=by omega
       have k1':(k:Int)<((l.length - 2:Nat):Int):=by omega
       have HD:=Lib.hid (digits_any zn wr (by omega))
       clear hx hO6 hz
       go_wp2_with fail
       refine HD.out.mono ?_
       rintro e w2 ⟨A7,c7,b7,rfl,hO7,-,hl7,hB7⟩
       have HO7:=Lib.hid (hO7.rb (by omega))
       have HO8:=Lib.hid (OW.up HO6.out hB7)
       have HB7:=Lib.hid (hB.trans (hB7.mono hs))
       have hs7:=HB7.out.size
       clear hO7 hB7 HO6 HD
       go_wp2_with (at_builtin;refine app8 rfl (.tmp 61) (.tmp 63) rfl W0.heap.size (bs:=bs) rfl HO8.out rfl HO7.out (by omega) hs7 ?_;intro A2 c2 w3 hw3 hb3)
       have HB8:=Lib.hid (HB7.out.trans hb3)
       have HW3:=Lib.hid hw3
       clear hw3 hb3
       go_roundw
       case rel=>exact ⟨k+1,A2,c2,bs++b7,by omega,by go_num,by rw [List.length_append],HW3.out,by rw [List.length_append];omega,HB8.out⟩
       case measure=>simp [intOf];omega
     · have hk2:k=l.length - 2:=by omega
       have k1:¬ k<l.length - 2:=by omega
       have k1':¬ (k:Int)<((l.length - 2:Nat):Int):=by omega
       have hb1:=(hB.block w.heap.size (by have:=Hz0.out;omega)).trans Hb0.out
       have HBB:=Lib.hid (HB0.out.trans (hB.mono (by have:=Hz0.out;omega)))
       obtain ⟨s,hs0⟩:∃ s,w.heap.size=s:=⟨_,rfl⟩
       rw [hs0] at hb1 HBB
       have q0:=blk_cell hb1 0
       have q1:=blk_cell hb1 1
       have q2:=blk_cell hb1 2
       have p0:=blk_free hb1 0
       have p1:=blk_free hb1 1
       have p2:=blk_free hb1 2
       simp only [List.getElem?_toArray,List.getElem?_cons_zero,List.getElem?_cons_succ] at q0 q1 q2
       have r:=set3 hb1 (.int .i64 6) (.slice A6 bs.length c6) (.slice none 0 0)
       have r0:=blk_cell r 0
       have r1:=blk_cell r 1
       have r2:=blk_cell r 2
       simp only [List.getElem?_toArray,List.getElem?_cons_zero,List.getElem?_cons_succ] at r0 r1 r2
       have R0:=Lib.hid r0
       have R1:=Lib.hid r1
       have R2:=Lib.hid r2
       clear r r0 r1 r2 hb1 hO6 hB hk2
       go_wp2
       have r0:=R0.out
       have r1:=R1.out
       have r2:=R2.out
       refine bodyPost_ret (v:=.tuple #[.agg #[.int .i64 6,.slice A6 bs.length c6,.slice none 0 0],.bool true]) (by simp [results,Tryz.results235,go_sem,r0,r1,r2]) rfl ⟨⟨A6,_,c6,rfl⟩,?_⟩
       exact ((HBB.out.setCell (p:=⟨s,0,none⟩) (Nat.le_refl _) _).setCell (p:=⟨s,1,none⟩) (Nat.le_refl _) _).setCell (p:=⟨s,2,none⟩) (Nat.le_refl _) _
end Go.Proofs.YtendnkpiidhogaaGreat.At

namespace Go.Proofs.YtendnkpiidhogaaGreat.At
open Go.RowKit Go.Shelf
attribute [local go_sem] Oper.semAt_some
theorem name_any (P:Nat→Prop) (g c:Nat) (l:List Int) (w:World) (hv:RI w P (some ⟨g,0,none⟩) c l) (hP:∀ b,P b→b<w.heap.size) (hl:3≤l.length∧l.length≤100) (h0:l.getD 0 0=1) (h1:0≤l.getD 1 0∧l.getD 1 0≤39) (ha:∀ k,0≤l.getD k 0∧l.getD k 0<268435456) :
 Calls Tryz.prog 219 #[.slice (some ⟨g,0,none⟩) l.length c] w fun e w'=>(∃ A1 n c1,e=.returned (.agg #[.int .i64 6,.slice A1 n c1,.slice none 0 0]))∧Below w.heap.size w w':=by
 have hB:=(Below.refl w.heap.size w).alloc (Nat.le_refl _) (.cells #[.int .i64 0,.slice none 0 0,.slice none 0 0] 172)
 have hb:=heap_alloc_new w (.cells #[.int .i64 0,.slice none 0 0,.slice none 0 0] 172)
 have hz:(w.alloc (.cells #[.int .i64 0,.slice none 0 0,.slice none 0 0] 172)).heap.size=w.heap.size+1:=by simp
 have hO:=oid_any P g c l _ (hv.below hB hP) (fun b hb=>by have:=hP b hb;rw [hz];omega) hl h0 h1 ha
 have HB:=Lib.hid hB
 have H0:=Lib.hid hb
 have Hz:=Lib.hid hz
 have HO:=Lib.hid hO
 clear hB hb hz hO hv hP hl h0 h1 ha
 go_enter Tryz.func219,Tryz.ntmps219
 go_wp2_with fail
 obtain ⟨s,hs⟩:∃ s,w.heap.size=s:=⟨_,rfl⟩
 rw [hs] at HB H0 Hz ⊢
 have Hs:=Lib.hid hs
 clear hs
 generalize w.alloc (.cells #[.int .i64 0,.slice none 0 0,.slice none 0 0] 172)=W1 at *
 refine HO.out.mono ?_
 rintro e w2 ⟨⟨A1,n,c1,rfl⟩,hB2⟩
 have h2:=(hB2.block s (by have:=Hz.out;omega)).trans H0.out
 have hlt:s<w2.heap.size:=by have:=Hz.out;have:=hB2.size;omega
 have HB3:=Lib.hid (HB.out.trans (hB2.mono (by have:=Hz.out;omega)))
 have H2:=Lib.hid h2
 have q0:=blk_cell h2 0
 have q1:=blk_cell h2 1
 have q2:=blk_cell h2 2
 have p0:=blk_free h2 0
 have p1:=blk_free h2 1
 have p2:=blk_free h2 2
 simp only [List.getElem?_toArray,List.getElem?_cons_zero,List.getElem?_cons_succ] at q0 q1 q2
 clear h2 hB2 H0
 go_wp2
 have r:=set3a H2.out (.int .i64 6) (.slice A1 n c1) (.slice none 0 0) (.cells #[.int .i64 6,.slice A1 n c1,.slice none 0 0] 172)
 have r0:=blk_cell r 0
 have r1:=blk_cell r 1
 have r2:=blk_cell r 2
 simp only [List.getElem?_toArray,List.getElem?_cons_zero,List.getElem?_cons_succ] at r0 r1 r2
 refine bodyPost_ret (v:=.agg #[.int .i64 6,.slice A1 n c1,.slice none 0 0]) (by simp [results,Tryz.results219,go_sem,r0,r1,r2]) rfl ⟨⟨A1,n,c1,rfl⟩,?_⟩
 rw [Hs.out]
 exact (((HB3.out.setCell (p:=⟨s,0,none⟩) (by simp) _).setCell (p:=⟨s,1,none⟩) (by simp) _).setCell (p:=⟨s,2,none⟩) (by simp) _).alloc (by simp;omega) _
theorem all_small {l:List Int} (h:∀ x∈l,0≤x∧x<268435456) (k:Nat):0≤l.getD k 0∧l.getD k 0<268435456:=by
 rcases Nat.lt_or_ge k l.length with hk | hk
 · rw [List.getD_eq_getElem?_getD,List.getElem?_eq_getElem hk];exact h _ (List.getElem_mem hk)
 · rw [List.getD_eq_getElem?_getD,List.getElem?_eq_none hk];simp
theorem params_1 (w:World):Calls Tryz.prog 186 #[.int .i64 1] w fun e w'=>(∃ A1 n c1,e=.returned (.tuple #[.agg #[.int .i64 6,.slice A1 n c1,.slice none 0 0],.bool true]))∧Below w.heap.size w w':=by
 have hB:=((Below.refl w.heap.size w).alloc (Nat.le_refl _) (.cells #[.int .i64 0,.slice none 0 0,.slice none 0 0] 172)).alloc (by simp) (.cells #[.int .i64 1,.int .i64 2,.int .i64 840,.int .i64 10045,.int .i64 3,.int .i64 1,.int .i64 7] 3)
 have hb:=(Below.heap_alloc (w.alloc (.cells #[.int .i64 0,.slice none 0 0,.slice none 0 0] 172)) (.cells #[.int .i64 1,.int .i64 2,.int .i64 840,.int .i64 10045,.int .i64 3,.int .i64 1,.int .i64 7] 3) w.heap.size (by simp)).trans (heap_alloc_new w _)
 have hz:((w.alloc (.cells #[.int .i64 0,.slice none 0 0,.slice none 0 0] 172)).alloc (.cells #[.int .i64 1,.int .i64 2,.int .i64 840,.int .i64 10045,.int .i64 3,.int .i64 1,.int .i64 7] 3)).heap.size=w.heap.size+2:=by simp
 have hR:=RI.fresh (P:=fun b=>b<w.heap.size+2) (w.alloc (.cells #[.int .i64 0,.slice none 0 0,.slice none 0 0] 172)) #[.int .i64 1,.int .i64 2,.int .i64 840,.int .i64 10045,.int .i64 3,.int .i64 1,.int .i64 7] 3 [1,2,840,10045,3,1,7] 7 rfl rfl (by omega) (by simp)
 rw [World.size_alloc] at hR
 have hO:=name_any (fun b=>b<w.heap.size+2) (w.heap.size+1) 7 [1,2,840,10045,3,1,7] _ hR (fun b hb=>by rw [hz];exact hb) (by simp) rfl (by simp) (all_small (by simp))
 have HB:=Lib.hid hB
 have H0:=Lib.hid hb
 have Hz:=Lib.hid hz
 have HO:=Lib.hid hO
 clear hB hb hz hO hR
 go_enter Tryz.func186,Tryz.ntmps186
 go_wp2_with fail
 obtain ⟨s,hs⟩:∃ s,w.heap.size=s:=⟨_,rfl⟩
 rw [hs] at HB H0 Hz HO ⊢
 have Hs:=Lib.hid hs
 clear hs
 generalize (w.alloc (.cells #[.int .i64 0,.slice none 0 0,.slice none 0 0] 172)).alloc (.cells #[.int .i64 1,.int .i64 2,.int .i64 840,.int .i64 10045,.int .i64 3,.int .i64 1,.int .i64 7] 3)=W1 at *
 refine HO.out.mono ?_
 rintro e w2 ⟨⟨A1,n,c1,rfl⟩,hB2⟩
 have h2:=(hB2.block s (by have:=Hz.out;omega)).trans H0.out
 have hlt:s<w2.heap.size:=by have:=Hz.out;have:=hB2.size;omega
 have HB3:=Lib.hid (HB.out.trans (hB2.mono (by have:=Hz.out;omega)))
 have H2:=Lib.hid h2
 have q0:=blk_cell h2 0
 have q1:=blk_cell h2 1
 have q2:=blk_cell h2 2
 have p0:=blk_free h2 0
 have p1:=blk_free h2 1
 have p2:=blk_free h2 2
 simp only [List.getElem?_toArray,List.getElem?_cons_zero,List.getElem?_cons_succ] at q0 q1 q2
 clear h2 hB2 H0
 go_wp2
 have r:=set3 H2.out (.int .i64 6) (.slice A1 n c1) (.slice none 0 0)
 have r0:=blk_cell r 0
 have r1:=blk_cell r 1
 have r2:=blk_cell r 2
 simp only [List.getElem?_toArray,List.getElem?_cons_zero,List.getElem?_cons_succ] at r0 r1 r2
 refine bodyPost_ret (v:=.tuple #[.agg #[.int .i64 6,.slice A1 n c1,.slice none 0 0],.bool true]) (by simp [results,Tryz.results186,go_sem,r0,r1,r2]) rfl ⟨⟨A1,n,c1,rfl⟩,?_⟩
 rw [Hs.out]
 exact ((HB3.out.setCell (p:=⟨s,0,none⟩) (by simp) _).setCell (p:=⟨s,1,none⟩) (by simp) _).setCell (p:=⟨s,2,none⟩) (by simp) _
theorem params_2 (w:World):Calls Tryz.prog 186 #[.int .i64 2] w fun e w'=>(∃ A1 n c1,e=.returned (.tuple #[.agg #[.int .i64 6,.slice A1 n c1,.slice none 0 0],.bool true]))∧Below w.heap.size w w':=by
 have hB:=((Below.refl w.heap.size w).alloc (Nat.le_refl _) (.cells #[.int .i64 0,.slice none 0 0,.slice none 0 0] 172)).alloc (by simp) (.cells #[.int .i64 1,.int .i64 3,.int .i64 132,.int .i64 0,.int .i64 34] 3)
 have hb:=(Below.heap_alloc (w.alloc (.cells #[.int .i64 0,.slice none 0 0,.slice none 0 0] 172)) (.cells #[.int .i64 1,.int .i64 3,.int .i64 132,.int .i64 0,.int .i64 34] 3) w.heap.size (by simp)).trans (heap_alloc_new w _)
 have hz:((w.alloc (.cells #[.int .i64 0,.slice none 0 0,.slice none 0 0] 172)).alloc (.cells #[.int .i64 1,.int .i64 3,.int .i64 132,.int .i64 0,.int .i64 34] 3)).heap.size=w.heap.size+2:=by simp
 have hR:=RI.fresh (P:=fun b=>b<w.heap.size+2) (w.alloc (.cells #[.int .i64 0,.slice none 0 0,.slice none 0 0] 172)) #[.int .i64 1,.int .i64 3,.int .i64 132,.int .i64 0,.int .i64 34] 3 [1,3,132,0,34] 5 rfl rfl (by omega) (by simp)
 rw [World.size_alloc] at hR
 have hO:=name_any (fun b=>b<w.heap.size+2) (w.heap.size+1) 5 [1,3,132,0,34] _ hR (fun b hb=>by rw [hz];exact hb) (by simp) rfl (by simp) (all_small (by simp))
 have HB:=Lib.hid hB
 have H0:=Lib.hid hb
 have Hz:=Lib.hid hz
 have HO:=Lib.hid hO
 clear hB hb hz hO hR
 go_enter Tryz.func186,Tryz.ntmps186
 go_wp2_with fail
 obtain ⟨s,hs⟩:∃ s,w.heap.size=s:=⟨_,rfl⟩
 rw [hs] at HB H0 Hz HO ⊢
 have Hs:=Lib.hid hs
 clear hs
 generalize (w.alloc (.cells #[.int .i64 0,.slice none 0 0,.slice none 0 0] 172)).alloc (.cells #[.int .i64 1,.int .i64 3,.int .i64 132,.int .i64 0,.int .i64 34] 3)=W1 at *
 refine HO.out.mono ?_
 rintro e w2 ⟨⟨A1,n,c1,rfl⟩,hB2⟩
 have h2:=(hB2.block s (by have:=Hz.out;omega)).trans H0.out
 have hlt:s<w2.heap.size:=by have:=Hz.out;have:=hB2.size;omega
 have HB3:=Lib.hid (HB.out.trans (hB2.mono (by have:=Hz.out;omega)))
 have H2:=Lib.hid h2
 have q0:=blk_cell h2 0
 have q1:=blk_cell h2 1
 have q2:=blk_cell h2 2
 have p0:=blk_free h2 0
 have p1:=blk_free h2 1
 have p2:=blk_free h2 2
 simp only [List.getElem?_toArray,List.getElem?_cons_zero,List.getElem?_cons_succ] at q0 q1 q2
 clear h2 hB2 H0
 go_wp2
 have r:=set3 H2.out (.int .i64 6) (.slice A1 n c1) (.slice none 0 0)
 have r0:=blk_cell r 0
 have r1:=blk_cell r 1
 have r2:=blk_cell r 2
 simp only [List.getElem?_toArray,List.getElem?_cons_zero,List.getElem?_cons_succ] at r0 r1 r2
 refine bodyPost_ret (v:=.tuple #[.agg #[.int .i64 6,.slice A1 n c1,.slice none 0 0],.bool true]) (by simp [results,Tryz.results186,go_sem,r0,r1,r2]) rfl ⟨⟨A1,n,c1,rfl⟩,?_⟩
 rw [Hs.out]
 exact ((HB3.out.setCell (p:=⟨s,0,none⟩) (by simp) _).setCell (p:=⟨s,1,none⟩) (by simp) _).setCell (p:=⟨s,2,none⟩) (by simp) _
end Go.Proofs.YtendnkpiidhogaaGreat.At

namespace Go.Proofs.YtendnkpiidhogaaGreat.At
open Go.RowKit Go.Shelf
attribute [local go_sem] Oper.semAt_some
theorem p9:(128:Nat) ^ 9=9223372036854775808:=by decide
theorem pow10 {l x:Nat} (h0:0<l) (h:x<128 ^ (10 - l)):x<9223372036854775808 :=
 Nat.lt_of_lt_of_le h (p9▸Nat.pow_le_pow_right (by omega) (by omega))
theorem refOid_any (P:Nat→Prop) (g c:Nat) (l:List Int) (w:World) (hv:RI w P (some ⟨g,0,none⟩) c l) (hP:∀ b,P b→b<w.heap.size) (hl:3≤l.length∧l.length≤12) (h0:l.getD 0 0=1) (h1:0≤l.getD 1 0∧l.getD 1 0≤39) (ha:∀ k,0≤l.getD k 0∧l.getD k 0<268435400) :
 Calls Tryz.prog 236 #[.slice (some ⟨g,0,none⟩) l.length c] w fun e w'=>(∃ A1 bs c1,e=.returned (.tuple #[.agg #[.int .i64 6,.slice A1 (List.length bs) c1,.slice none 0 0],.bool true])∧RB w' (In w.heap.size w'.heap.size) A1 c1 bs∧bs.length≤120)∧Below w.heap.size w w':=by
 obtain ⟨hlc,hc⟩:=hv.cap
 have hB0:=(Below.refl w.heap.size w).alloc (Nat.le_refl _) (.cells #[.int .i64 0,.slice none 0 0,.slice none 0 0] 172)
 have hb0:=heap_alloc_new w (.cells #[.int .i64 0,.slice none 0 0,.slice none 0 0] 172)
 have hz0:(w.alloc (.cells #[.int .i64 0,.slice none 0 0,.slice none 0 0] 172)).heap.size=w.heap.size+1:=by simp
 have hv0:=hv.below hB0 hP
 obtain ⟨a,ea,hPg,x0⟩:=hv0.at_ (i:=0) (by omega)
 injection ea with ea
 subst ea
 obtain ⟨a',ea,_,x1⟩:=hv0.at_ (i:=1) (by omega)
 injection ea with ea
 subst ea
 rw [h0] at x0
 obtain ⟨y,hy⟩:∃ y,l.getD 1 0=y:=⟨_,rfl⟩
 rw [hy] at x1 h1
 simp only [show Addr.add ⟨g,0,none⟩ 0=⟨g,0,none⟩ by simp [Addr.add],show Addr.add ⟨g,0,none⟩ 1=⟨g,1,none⟩ by simp [Addr.add]] at x0 x1
 have HB0:=Lib.hid hB0
 have Hb0:=Lib.hid hb0
 have Hz0:=Lib.hid hz0
 have HA:=Lib.hid ha
 have HV0:=Lib.hid hv0
 have Hy:=Lib.hid hy
 have H0:=Lib.hid h0
 have k0:¬ (l.length:Int)<2:=by omega
 have k1:¬ (39:Int)<y:=by omega
 clear hB0 hb0 hz0 h0 ha hy hv0
 go_enter Tryz.func236,Tryz.ntmps236
 go_wp2
 generalize w.alloc (.cells #[.int .i64 0,.slice none 0 0,.slice none 0 0] 172)=W0 at *
 go_loopw [4,5] (fun s i wr=>∃ (k:Nat) (A6:Option Addr) (c6:Nat) (bs:List Nat),k≤l.length∧i=.int .i64 k∧s=.slice A6 bs.length c6∧OW wr W0.heap.size A6 c6 bs∧bs.length≤10*k∧Below W0.heap.size W0 wr) (fun _ i _=>l.length - (intOf i).toNat)
 case atStart=>exact ⟨0,none,0,[],by omega,rfl,rfl,⟨World.ownsRow_nil _ _ _ _,by simp⟩,by simp,Below.refl _ _⟩
 case round =>
  obtain ⟨k,A6,c6,bs,hk,rfl,rfl,hO6,hl6,hB⟩:=hrel
  have hs:=hB.size
  by_cases hlt:k<l.length
  · obtain ⟨a,ea,_,hx⟩:=(HV0.out.below hB (fun b hb=>by have:=hP b hb;have:=Hz0.out;omega)).at_ (i:=k) hlt
    injection ea with ea
    subst ea
    have h1':=HA.out k
    have X0:=(hB.cell (p:=⟨g,0,none⟩) (by have:=hP g hPg;have:=Hz0.out;show g<_;omega)).trans x0
    obtain ⟨z,hz⟩:∃ z,l.getD k 0=z:=⟨_,rfl⟩
    rw [hz] at hx h1'
    have Hz:=Lib.hid hz
    have hx':wr.cell? ⟨g,k,none⟩=some (.int .i64 z):=by
     have e:Addr.add ⟨g,0,none⟩ k=⟨g,k,none⟩:=by by_cases h:k=0 <;> simp [Addr.add,h]
     rw [←e];exact hx
    have z1:¬ z<0:=by omega
    have z2:¬ 268435456<z:=by omega
    clear hx hz
    obtain ⟨zn,hzn⟩:∃ zn:Nat,z=(zn:Int):=⟨z.toNat,by omega⟩
    subst hzn
    have HO6:=Lib.hid hO6
    clear hO6
    by_cases hk0:k=0
    · subst hk0
      go_wp2
      go_roundw
      case rel=>exact ⟨1,A6,c6,bs,by omega,by go_num,rfl,HO6.out,by omega,hB⟩
      case measure=>simp [intOf];omega
    have e0:((k:Int)==0)=false:=by simp;omega
    have q1:k<l.length:=hlt
    by_cases hk1:k=1
    · subst hk1
      obtain ⟨N,hN⟩:∃ N:Nat,zn+40=N:=⟨_,rfl⟩
      have hN1:(zn:Int)+40=(N:Int):=by omega
      have q2:(0:Int)<(l.length:Int):=by omega
      have q3:0<l.length:=by omega
      have hN2:IntKind.i64.wrap ((zn:Int)+40)=(N:Int):=by rw [IntKind.wrap_i64];omega
      obtain ⟨wo,rfl⟩:∃ wo,wo=wr:=⟨_,rfl⟩
      obtain ⟨b0,hb0',he0⟩:∃ b:Nat,b<256∧(N:Int) % 128=(b:Int):=⟨N % 128,by omega,by omega⟩
      have HL:=Lib.hid (OW.lit wo b0 hb0')
      have hN:N<268435456:=by omega
      go_wp2
      go_loopw [6,7] (fun v s wr2=>∃ (x:Nat) (A:Option Addr) (c:Nat) (bs:List Nat),v=.int .i64 (x:Int)∧s=.slice A bs.length c∧OW wr2 wo.heap.size A c bs∧0<bs.length∧bs.length≤10∧x<128 ^ (10 - bs.length)∧Below wo.heap.size wo wr2) (fun v _ _=>(intOf v).toNat)
      case atStart=>exact ⟨N / 128,_,1,[b0],by simp,rfl,HL.out,by simp,by simp,by simp;omega,(Below.refl _ wo).alloc (Nat.le_refl _) _⟩
      case round =>
       clear HL he0 hb0'
       obtain ⟨x,A,c3,b2,rfl,rfl,hO,h0,hl2,hx,hB2⟩:=hrel
       have hs2:=hB2.size
       by_cases hx0:0<x
       · obtain ⟨b,hb,hbe⟩:∃ b:Nat,b<256∧128+(x:Int) % 128=(b:Int):=⟨128+x % 128,by omega,by omega⟩
         have hl9:b2.length≤9:=by
          rcases Nat.lt_or_ge 9 b2.length with h | h
          · have:b2.length=10:=by omega
            rw [this] at hx
            simp at hx
            omega
          · exact h
         have hx':x / 128<128 ^ (10 - (b2.length+1)):=by
          rw [show 10 - b2.length=10 - (b2.length+1)+1 by omega,Nat.pow_succ] at hx
          exact Nat.div_lt_of_lt_mul (by rw [Nat.mul_comm];exact hx)
         have HX:=Lib.hid hx'
         have Hw2:=Lib.hid (show wrap64 ((x:Int) / 128)=(x:Int) / 128 by have:=pow10 h0 hx;rw [←IntWalk.i64_left,IntKind.wrap_i64];omega)
         have HO:=Lib.hid (OW.lit wr b hb)
         have HRb:=Lib.hid ((hO.rb (by omega)).below ((Below.refl _ wr).alloc (Nat.le_refl _) (.cells #[.int .u8 (b:Int)] 5)) fun q hq=>hq.2)
         have hi:(0:Int)<(x:Int):=by omega
         have HB2:=Lib.hid hB2
         clear hx hx' hO hB2
         go_wp2_with (at_builtin;refine app8 rfl (.tmp 77) (.tmp 78) rfl wr.heap.size (bs:=[b]) rfl HO.out rfl HRb.out (by simp;omega) (by simp) ?_;intro A2 c2 w2 hw2 hb2)
         have HB:=Lib.hid ((HB2.out.alloc hs2 (.cells #[.int .u8 (b:Int)] 5)).trans (hb2.mono hs2))
         go_roundw
         case rel=>exact ⟨x / 128,A2,c2,b :: b2,by rw [Hw2.out];simp,rfl,OW.lower hw2 hs2,by simp,by simp;omega,by simpa using HX.out,HB.out⟩
         case measure=>rw [Hw2.out];simp [intOf];omega
       · have hx0':x=0:=by omega
         subst hx0'
         have HR2:=Lib.hid (hO.rb (by omega))
         have HO8:=Lib.hid (OW.up HO6.out hB2)
         have HB2:=Lib.hid (hB.trans (hB2.mono hs))
         have hsz:=HB2.out.size
         clear hO hB2
         go_wp2_with (at_builtin;refine app8 rfl (.tmp 80) (.tmp 81) rfl W0.heap.size (bs:=bs) rfl HO8.out rfl HR2.out (by omega) hsz ?_;intro A2 c2 w3 hw3 hb3)
         have HB8:=Lib.hid (HB2.out.trans hb3)
         have HW3:=Lib.hid hw3
         clear hw3 hb3
         go_roundw
         case rel=>exact ⟨1+1,A2,c2,bs++b2,by omega,by go_num,by rw [List.length_append],HW3.out,by rw [List.length_append];omega,HB8.out⟩
         case measure=>simp [intOf];omega
    have e1:((k:Int)==1)=false:=by simp;omega
    obtain ⟨wo,rfl⟩:∃ wo,wo=wr:=⟨_,rfl⟩
    obtain ⟨b0,hb0',he0⟩:∃ b:Nat,b<256∧(zn:Int) % 128=(b:Int):=⟨zn % 128,by omega,by omega⟩
    have HL:=Lib.hid (OW.lit wo b0 hb0')
    have hN:zn<268435456:=by omega
    go_wp2
    go_loopw [6,7] (fun v s wr2=>∃ (x:Nat) (A:Option Addr) (c:Nat) (bs:List Nat),v=.int .i64 (x:Int)∧s=.slice A bs.length c∧OW wr2 wo.heap.size A c bs∧0<bs.length∧bs.length≤10∧x<128 ^ (10 - bs.length)∧Below wo.heap.size wo wr2) (fun v _ _=>(intOf v).toNat)
    case atStart=>exact ⟨zn / 128,_,1,[b0],by simp,rfl,HL.out,by simp,by simp,by simp;omega,(Below.refl _ wo).alloc (Nat.le_refl _) _⟩
    case round =>
     clear HL he0 hb0'
     obtain ⟨x,A,c3,b2,rfl,rfl,hO,h0,hl2,hx,hB2⟩:=hrel
     have hs2:=hB2.size
     by_cases hx0:0<x
     · obtain ⟨b,hb,hbe⟩:∃ b:Nat,b<256∧128+(x:Int) % 128=(b:Int):=⟨128+x % 128,by omega,by omega⟩
       have hl9:b2.length≤9:=by
        rcases Nat.lt_or_ge 9 b2.length with h | h
        · have:b2.length=10:=by omega
          rw [this] at hx
          simp at hx
          omega
        · exact h
       have hx':x / 128<128 ^ (10 - (b2.length+1)):=by
        rw [show 10 - b2.length=10 - (b2.length+1)+1 by omega,Nat.pow_succ] at hx
        exact Nat.div_lt_of_lt_mul (by rw [Nat.mul_comm];exact hx)
       have HX:=Lib.hid hx'
       have Hw2:=Lib.hid (show wrap64 ((x:Int) / 128)=(x:Int) / 128 by have:=pow10 h0 hx;rw [←IntWalk.i64_left,IntKind.wrap_i64];omega)
       have HO:=Lib.hid (OW.lit wr b hb)
       have HRb:=Lib.hid ((hO.rb (by omega)).below ((Below.refl _ wr).alloc (Nat.le_refl _) (.cells #[.int .u8 (b:Int)] 5)) fun q hq=>hq.2)
       have hi:(0:Int)<(x:Int):=by omega
       have HB2:=Lib.hid hB2
       clear hx hx' hO hB2
       go_wp2_with (at_builtin;refine app8 rfl (.tmp 77) (.tmp 78) rfl wr.heap.size (bs:=[b]) rfl HO.out rfl HRb.out (by simp;omega) (by simp) ?_;intro A2 c2 w2 hw2 hb2)
       have HB:=Lib.hid ((HB2.out.alloc hs2 (.cells #[.int .u8 (b:Int)] 5)).trans (hb2.mono hs2))
       go_roundw
       case rel=>exact ⟨x / 128,A2,c2,b :: b2,by rw [Hw2.out];simp,rfl,OW.lower hw2 hs2,by simp,by simp;omega,by simpa using HX.out,HB.out⟩
       case measure=>rw [Hw2.out];simp [intOf];omega
     · have hx0':x=0:=by omega
       subst hx0'
       have HR2:=Lib.hid (hO.rb (by omega))
       have HO8:=Lib.hid (OW.up HO6.out hB2)
       have HB2:=Lib.hid (hB.trans (hB2.mono hs))
       have hsz:=HB2.out.size
       clear hO hB2
       go_wp2_with (at_builtin;refine app8 rfl (.tmp 80) (.tmp 81) rfl W0.heap.size (bs:=bs) rfl HO8.out rfl HR2.out (by omega) hsz ?_;intro A2 c2 w3 hw3 hb3)
       have HB8:=Lib.hid (HB2.out.trans hb3)
       have HW3:=Lib.hid hw3
       clear hw3 hb3
       go_roundw
       case rel=>exact ⟨k+1,A2,c2,bs++b2,by omega,by go_num,by rw [List.length_append],HW3.out,by rw [List.length_append];omega,HB8.out⟩
       case measure=>simp [intOf];omega
  · obtain rfl:k=l.length:=by omega
    have hb1:=(hB.block w.heap.size (by have:=Hz0.out;omega)).trans Hb0.out
    have HBB:=Lib.hid (HB0.out.trans (hB.mono (by have:=Hz0.out;omega)))
    have HRb:=Lib.hid ((hO6.rb (by omega)).mono (P':=In W0.heap.size wr.heap.size) fun b hb=>hb)
    obtain ⟨s,hs0⟩:∃ s,w.heap.size=s:=⟨_,rfl⟩
    have hsW:s<W0.heap.size:=by have:=Hz0.out;omega
    rw [hs0] at hb1 HBB
    have q0:=blk_cell hb1 0
    have q1:=blk_cell hb1 1
    have q2:=blk_cell hb1 2
    have p0:=blk_free hb1 0
    have p1:=blk_free hb1 1
    have p2:=blk_free hb1 2
    simp only [List.getElem?_toArray,List.getElem?_cons_zero,List.getElem?_cons_succ] at q0 q1 q2
    have r:=set3 hb1 (.int .i64 6) (.slice A6 bs.length c6) (.slice none 0 0)
    have r0:=blk_cell r 0
    have r1:=blk_cell r 1
    have r2:=blk_cell r 2
    simp only [List.getElem?_toArray,List.getElem?_cons_zero,List.getElem?_cons_succ] at r0 r1 r2
    have R0:=Lib.hid r0
    have R1:=Lib.hid r1
    have R2:=Lib.hid r2
    clear r r0 r1 r2 hb1 hO6 hB
    go_wp2
    have r0:=R0.out
    have r1:=R1.out
    have r2:=R2.out
    refine bodyPost_ret (v:=.tuple #[.agg #[.int .i64 6,.slice A6 bs.length c6,.slice none 0 0],.bool true]) (by simp [results,Tryz.results236,go_sem,hs0,r0,r1,r2]) rfl ⟨⟨A6,bs,c6,rfl,?_,by omega⟩,?_⟩
    · refine (((HRb.out.setCell (p:=⟨s,0,none⟩) (fun h=>by have:=h.1;simp at this;omega) _).setCell (p:=⟨s,1,none⟩) (fun h=>by have:=h.1;simp at this;omega) _).setCell (p:=⟨s,2,none⟩) (fun h=>by have:=h.1;simp at this;omega) _).mono fun b hb=>⟨by have:=hb.1;have:=Hz0.out;omega,by have:=hb.2;simpa using this⟩
    · rw [hs0]
      exact ((HBB.out.setCell (p:=⟨s,0,none⟩) (Nat.le_refl _) _).setCell (p:=⟨s,1,none⟩) (Nat.le_refl _) _).setCell (p:=⟨s,2,none⟩) (Nat.le_refl _) _
end Go.Proofs.YtendnkpiidhogaaGreat.At

namespace Go.Proofs.YtendnkpiidhogaaGreat.At
open Go.RowKit Go.Shelf
attribute [local go_sem] Oper.semAt_some
theorem content_t (P:Nat→Prop) (A:Option Addr) (c:Nat) (bs:List Nat) (w:World) (h:RB w P A c bs) :
 Calls Tryz.prog 242 #[.int .i64 6,.slice A bs.length c] w fun e w'=>(∃ b:Bool,e=.returned (.bool b))∧Below w.heap.size w w':=by
 have hcap:=h.cap
 by_cases hn:bs.length=0
 · have hbs:bs=[]:=List.length_eq_zero_iff.1 hn
   subst hbs
   clear hn hcap h
   go_enter Tryz.func242,Tryz.ntmps242
   go_wp2
   go_ret
   exact ⟨by first | exact ⟨_,rfl⟩ | exact .inr rfl | exact .inl rfl,Below.refl _ _⟩
 obtain ⟨n,hl⟩:∃ n,bs.length=n+1:=⟨bs.length - 1,by omega⟩
 have H0:=fun (k:Nat) (hk:k<n+1)=>h.at_ (i:=k) (by omega)
 obtain ⟨ad,rfl,_,y0,_⟩:=h.at_ (i:=n) (by omega)
 have H:Hid (∀ k,k<n+1→∃ x:Nat,w.cell? (ad.add k)=some (.int .u8 (x:Int))):=Lib.hid fun k hk=>by
  obtain ⟨ad',ead,_,x0⟩:=H0 k hk
  injection ead with ead
  subst ead
  exact ⟨_,x0.1⟩
 clear H0
 obtain ⟨y,hy⟩:∃ y:Nat,bs[n]'(by omega)=y:=⟨_,rfl⟩
 rw [hy] at y0
 have e1:((n:Int)+1==0)=false:=by simp;omega
 have e2:(n:Int)+1 - 1=(n:Int):=by omega
 have e3:n<n+1:=by omega
 have e4:(0:Int)≤(n:Int):=by omega
 have e5:(n:Int)<(n:Int)+1:=by omega
 have e6:¬ (n:Int)+1=0:=by omega
 have e7:IntKind.i64.wrap (n:Int)=(n:Int):=by rw [IntKind.wrap_i64];omega
 have hn9:n<9223372036854775807:=by omega
 rw [hl]
 clear hy hn h hcap
 by_cases hy1:y<128
 rotate_left
 · have hy2:(128:Int)≤(y:Int):=by omega
   go_enter Tryz.func242,Tryz.ntmps242
   go_wp2
   go_ret
   exact ⟨by first | exact ⟨_,rfl⟩ | exact .inr rfl | exact .inl rfl,Below.refl _ _⟩
 have hy2:¬ (128:Int)≤(y:Int):=by omega
 go_enter Tryz.func242,Tryz.ntmps242
 go_wp2
 go_loopw [6] (fun i wr=>∃ k:Nat,k≤n+1∧i=.int .i64 k∧Below w.heap.size w wr∧(∀ k,k<n+1→∃ x:Nat,wr.cell? (ad.add k)=some (.int .u8 (x:Int)))) (fun i _=>n+1 - (intOf i).toNat)
 case atStart=>exact ⟨0,by omega,rfl,Below.refl _ _,H.out⟩
 case round =>
  obtain ⟨k,hk,rfl,hB,hc⟩:=hrel
  have HC:=Lib.hid hc
  have HB:=Lib.hid hB
  clear hc hB
  by_cases hlt:k<n+1
  · obtain ⟨x,x0⟩:=HC.out k hlt
    have q1:(k:Int)<(n:Int)+1:=by omega
    by_cases hx1:x=128
    · subst hx1
      by_cases hk0:k=0
      · have q2:((k:Int)==0)=true:=by simp;omega
        clear hk0
        go_wp2
        go_ret
        exact ⟨by first | exact ⟨_,rfl⟩ | exact .inr rfl | exact .inl rfl,HB.out⟩
      obtain ⟨j,hj⟩:∃ j,k - 1=j:=⟨_,rfl⟩
      obtain ⟨z,z0⟩:=HC.out j (by omega)
      have q2:((k:Int)==0)=false:=by simp;omega
      have q3:j<n+1:=by omega
      have q4:(j:Int)<(n:Int)+1:=by omega
      have q5:(k:Int) - 1=(j:Int):=by omega
      have q6:IntKind.i64.wrap (j:Int)=(j:Int):=by rw [IntKind.wrap_i64];omega
      clear hk0 hj
      by_cases hz1:z<128
      · have hz2:(z:Int)<128:=by omega
        go_wp2
        go_ret
        exact ⟨by first | exact ⟨_,rfl⟩ | exact .inr rfl | exact .inl rfl,HB.out⟩
      · have hz2:¬ (z:Int)<128:=by omega
        go_wp2
        go_roundw
        case rel=>exact ⟨k+1,by omega,by go_num,HB.out,HC.out⟩
        case measure=>simp [intOf];omega
    · have hx2:((x:Int)==128)=false:=by simp;omega
      have hx3:¬ (x:Int)=128:=by omega
      go_wp2
      go_roundw
      case rel=>exact ⟨k+1,by omega,by go_num,HB.out,HC.out⟩
      case measure=>simp [intOf];omega
  · have q1:¬ (k:Int)<(n:Int)+1:=by omega
    go_wp2
    go_ret
    exact ⟨by first | exact ⟨_,rfl⟩ | exact .inr rfl | exact .inl rfl,HB.out⟩
end Go.Proofs.YtendnkpiidhogaaGreat.At

namespace Go.Proofs.YtendnkpiidhogaaGreat.At
open Go.RowKit Go.Shelf
attribute [local go_sem] Oper.semAt_some
theorem count_t (P:Nat→Prop) (A:Option Addr) (c:Nat) (bs:List Nat) (w:World) (h:RB w P A c bs) (hP:∀ b,P b→b<w.heap.size) :
 Calls Tryz.prog 241 #[.agg #[.int .i64 6,.slice A bs.length c,.slice none 0 0],.int .i64 1] w fun e w'=>(∃ x:Int,e=.returned (.int .i64 x))∧Below w.heap.size w w':=by
 have hE:=(Below.refl w.heap.size w).alloc (Nat.le_refl _) (.cells #[.int .i64 6,.slice A bs.length c,.slice none 0 0] 172)
 have hc:=content_t P A c bs _ (h.below hE hP)
 have HC:=Lib.hid hc
 have HE:=Lib.hid hE
 clear hE hc
 go_enter Tryz.func241,Tryz.ntmps241
 go_wp2_with fail
 refine HC.out.mono ?_
 rintro e w1 ⟨⟨b,rfl⟩,hB1⟩
 have hB:=HE.out.trans (hB1.mono (by simp))
 cases b
 · go_wp2
   go_ret
   exact ⟨⟨_,rfl⟩,hB⟩
 · go_wp2
   go_ret
   exact ⟨⟨_,rfl⟩,hB⟩
theorem may11_t (P:Nat→Prop) (A:Option Addr) (c:Nat) (bs:List Nat) (w:World) (h:RB w P A c bs) (hP:∀ b,P b→b<w.heap.size) :
 Calls Tryz.prog 237 #[.agg #[.int .i64 6,.slice A bs.length c,.slice none 0 0]] w fun e w'=>(∃ b:Bool,e=.returned (.bool b))∧Below w.heap.size w w':=by
 have hE:=(Below.refl w.heap.size w).alloc (Nat.le_refl _) (.cells #[.int .i64 6,.slice A bs.length c,.slice none 0 0] 172)
 have hc:=count_t P A c bs _ (h.below hE hP) (fun b hb=>by have:=hP b hb;simp;omega)
 have HC:=Lib.hid hc
 have HE:=Lib.hid hE
 clear hE hc
 go_enter Tryz.func237,Tryz.ntmps237
 go_wp2_with fail
 refine HC.out.mono ?_
 rintro e w1 ⟨⟨x,rfl⟩,hB1⟩
 have hB:=HE.out.trans (hB1.mono (by simp))
 go_wp2
 go_ret
 exact ⟨⟨_,rfl⟩,hB⟩
theorem put11_t (P:Nat→Prop) (A:Option Addr) (c:Nat) (bs:List Nat) (w:World) (h:RB w P A c bs) (hP:∀ b,P b→b<w.heap.size) (hl:bs.length≤120) :
 Calls Tryz.prog 238 #[.agg #[.int .i64 6,.slice A bs.length c,.slice none 0 0]] w fun e w'=>(∃ A1 c1 b1,e=.returned (.slice A1 (List.length b1) c1)∧RB w' (fun b=>b<w'.heap.size) A1 c1 b1∧b1.length≤200)∧Below w.heap.size w w':=by
 have hE:=(((Below.refl w.heap.size w).alloc (Nat.le_refl _) (.cells #[.int .i64 6,.slice A bs.length c,.slice none 0 0] 172)).alloc (by simp) (.cells #[.int .u8 6] 5)).alloc (by simp;omega) (.cells #[.int .u8 (bs.length:Int)] 5)
 have hb:=h.below hE hP
 have hn1:(bs.length:Int)<128:=by omega
 have hn2:((bs.length:Int)) % 256=(bs.length:Int):=by omega
 have hz0:(w.alloc (.cells #[.int .i64 6,.slice A bs.length c,.slice none 0 0] 172)).heap.size=w.heap.size+1:=by simp
 have hz1:((w.alloc (.cells #[.int .i64 6,.slice A bs.length c,.slice none 0 0] 172)).alloc (.cells #[.int .u8 6] 5)).heap.size=w.heap.size+1+1:=by simp
 have hz2:(((w.alloc (.cells #[.int .i64 6,.slice A bs.length c,.slice none 0 0] 172)).alloc (.cells #[.int .u8 6] 5)).alloc (.cells #[.int .u8 (bs.length:Int)] 5)).heap.size=w.heap.size+1+1+1:=by simp
 have o6:OW ((w.alloc (.cells #[.int .i64 6,.slice A bs.length c,.slice none 0 0] 172)).alloc (.cells #[.int .u8 6] 5)) (w.alloc (.cells #[.int .i64 6,.slice A bs.length c,.slice none 0 0] 172)).heap.size (some ⟨(w.alloc (.cells #[.int .i64 6,.slice A bs.length c,.slice none 0 0] 172)).heap.size,0,none⟩) 1 [6]:=OW.lit (w.alloc (.cells #[.int .i64 6,.slice A bs.length c,.slice none 0 0] 172)) 6 (by omega)
 have oL:OW (((w.alloc (.cells #[.int .i64 6,.slice A bs.length c,.slice none 0 0] 172)).alloc (.cells #[.int .u8 6] 5)).alloc (.cells #[.int .u8 (bs.length:Int)] 5)) ((w.alloc (.cells #[.int .i64 6,.slice A bs.length c,.slice none 0 0] 172)).alloc (.cells #[.int .u8 6] 5)).heap.size (some ⟨((w.alloc (.cells #[.int .i64 6,.slice A bs.length c,.slice none 0 0] 172)).alloc (.cells #[.int .u8 6] 5)).heap.size,0,none⟩) 1 [bs.length]:=OW.lit ((w.alloc (.cells #[.int .i64 6,.slice A bs.length c,.slice none 0 0] 172)).alloc (.cells #[.int .u8 6] 5)) bs.length (by omega)
 have o7:OW (((w.alloc (.cells #[.int .i64 6,.slice A bs.length c,.slice none 0 0] 172)).alloc (.cells #[.int .u8 6] 5)).alloc (.cells #[.int .u8 (bs.length:Int)] 5)) (w.alloc (.cells #[.int .i64 6,.slice A bs.length c,.slice none 0 0] 172)).heap.size (some ⟨(w.alloc (.cells #[.int .i64 6,.slice A bs.length c,.slice none 0 0] 172)).heap.size,0,none⟩) 1 [6]:=OW.up o6 ((Below.refl _ _).alloc (Nat.le_refl _) _)
 have rL:=oL.rb (by simp)
 rw [hz0] at o7
 rw [hz1] at rL
 have HE:=Lib.hid hE
 have HBs:=Lib.hid hb
 have Hl:=Lib.hid hl
 have HP:=Lib.hid hP
 have HO7:=Lib.hid o7
 have HRL:=Lib.hid rL
 have hge:w.heap.size+1≤(((w.alloc (.cells #[.int .i64 6,.slice A bs.length c,.slice none 0 0] 172)).alloc (.cells #[.int .u8 6] 5)).alloc (.cells #[.int .u8 (bs.length:Int)] 5)).heap.size:=by simp
 have HGe:=Lib.hid hge
 clear hE hb h hl hP o6 oL o7 rL hz0 hz1 hz2 hge
 go_enter Tryz.func238,Tryz.ntmps238
 go_wp2_with (first
  | (at_builtin;refine app8 rfl (.tmp 37) (.tmp 41) rfl (w.heap.size+1) (bs:=[6]) rfl HO7.out rfl HRL.out (by simp) HGe.out ?_;intro A2 c2 w3 hw3 hb3;have HW3:=Lib.hid hw3;have HB3:=Lib.hid hb3;clear hw3 hb3)
  | (at_builtin;refine app8 rfl (.tmp 65) (.tmp 66) rfl (w.heap.size+1) (bs:=[6]++[bs.length]) rfl HW3.out rfl (HBs.out.below HB3.out (fun b hb=>by have:=HP.out b hb;omega)) (by have:=Hl.out;simp;omega) (by have:=HB3.out.size;have:=HGe.out;omega) ?_;intro A4 c4 w4 hw4 hb4;have HW4:=Lib.hid hw4;have HB4:=Lib.hid hb4;clear hw4 hb4))
 go_ret
 refine ⟨⟨A4,c4,([6]++[bs.length])++bs,by simp,(HW4.out.rb (by have:=Hl.out;simp;omega)).mono fun b hb=>hb.2,by have:=Hl.out;simp;omega⟩,?_⟩
 exact HE.out.trans ((HB3.out.trans HB4.out).mono (by omega))
end Go.Proofs.YtendnkpiidhogaaGreat.At
