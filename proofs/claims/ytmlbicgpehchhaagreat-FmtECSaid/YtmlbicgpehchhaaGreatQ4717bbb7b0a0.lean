/- Laws that the proof rests on. -/
import Derived.Test.YtmlbicgpehchhaaGreatQ997d480163b8
set_option maxRecDepth 100000
set_option maxHeartbeats 16000000
namespace Go.Proofs.YtmlbicgpehchhaaGreat
open Go.RowKit
def gQ (C:Crv) (bs:List Nat):Option (Option (Nat×Nat)) :=
 if bs=[0] then some none
 else if bs.length=1+2*C.size∧dg bs 0=4 then
  if onB C.M C.bb (kT ((bs.drop 1).take C.size)) (kT (bs.drop (1+C.size)))=true then some (some (kT ((bs.drop 1).take C.size),kT (bs.drop (1+C.size)))) else none
 else none
def PtV (w:World) (base:Nat) (v:Value):Option (Nat×Nat)→Prop
 | none=>v=vu
 | some p=>∃ A c A' c',v=.agg #[.bool false,.slice A (digs 18446744073709551616 p.1).length c,.slice A' (digs 18446744073709551616 p.2).length c']∧OB w base A c (digs 18446744073709551616 p.1)∧OB w base A' c' (digs 18446744073709551616 p.2)
theorem av {c:Int} {C:Crv} (hC:IsC c C) (P:Nat→Prop) (A:Option Addr) (cap:Nat) (bs:List Nat) (w:World) (h:RB w P A cap bs) (hP:∀ b,P b→b<w.heap.size) :
 Calls Tryz.prog 69 #[.int .i64 c,.slice A bs.length cap] w fun e w'=>∃ v,e=.returned (.tuple #[v,.bool (gQ C bs).isSome])∧PtV w' w.heap.size v ((gQ C bs).getD none)∧Ext w w':=by
 have hF:=hC.fine
 obtain ⟨s,hs⟩:=eV C.size
 have s1:32≤s:=by rw [←hs];exact hF.pos
 have s2:s≤48:=by rw [←hs];exact hF.small
 obtain ⟨r,hr⟩:=eV (gQ C bs)
 rw [hr]
 have Hr:=zF hr
 have Hs:=zF hs
 have HF:=zF hF
 obtain ⟨l1,l2,l3⟩:=h.cap
 obtain ⟨n,hn⟩:=eV bs.length
 rw [hn] at l1 l3
 rw [hn]
 have Hn:=zF hn
 have w1:IntKind.i64.wrap (2*(s:Int))=2*s:=wE _ (by omega)
 have w2:IntKind.i64.wrap (1+2*(s:Int))=1+2*s:=wE _ (by omega)
 clear hr hs hF hn
 by_cases h1:n=1
 · subst h1
   obtain ⟨x,rfl⟩:∃ x,bs=[x]:=by
    have:=Hn.out
    match bs,this with
    | [x],_=>exact ⟨x,rfl⟩
   obtain ⟨ad,rfl,hPb,hc,hx⟩:=h.at_ (i:=0) (by simp)
   have hc0:w.cell? ad=some (.int .u8 (x:Int)):=by rwa [show ad.add 0=ad by simp [Addr.add]] at hc
   by_cases hx0:x=0
   · subst hx0
     obtain rfl:r=some none:=by rw [←Hr.out];simp [gQ]
     go_enter Tryz.func69,Tryz.ntmps69
     go_wp2_with (first
      | (go_at_call 102;refine (ft hC _).mono ?_;rintro e wa ⟨k,rfl,hk,hE1⟩;have hca:=hE1.cell ((zR w _).cell hc0);have hrb:=hE1.at_ (zN w _);have hks:=hk.size;rw [Hs.out] at hks)
      | (go_at_call 113;refine (kt _).mono ?_;rintro e wb ⟨rfl,hE2⟩;have hrb2:=hE2.at_ hrb;obtain ⟨z0,z1,z2,f0,f1,f2⟩:=qc hrb2))
     exact xI rfl rfl rfl rfl (kw hrb2 _ _ _) ⟨vu,rfl,rfl,ky (((zR w _).trans hE1).trans hE2) (zG _) _ _ _⟩
   · have hx1:((x:Int)==0)=false:=by simp;omega
     have hx2:((1:Int) != 1+2*(s:Int))=true:=by simp;omega
     obtain rfl:r=none:=by rw [←Hr.out];simp [gQ,hx0];intro h;have:=Hs.out;omega
     go_enter Tryz.func69,Tryz.ntmps69
     go_wp2_with (first
      | (go_at_call 102;refine (ft hC _).mono ?_;rintro e wa ⟨k,rfl,hk,hE1⟩;have hca:=hE1.cell ((zR w _).cell hc0);have hrb:=hE1.at_ (zN w _);have hks:=hk.size;rw [Hs.out] at hks)
      | (go_at_call 113;refine (kt _).mono ?_;rintro e wb ⟨rfl,hE2⟩;have hrb2:=hE2.at_ hrb;obtain ⟨z0,z1,z2,f0,f1,f2⟩:=qc hrb2))
     exact xI rfl rfl rfl rfl (kw hrb2 _ _ _) ⟨vu,rfl,rfl,ky (((zR w _).trans hE1).trans hE2) (zG _) _ _ _⟩
 · have hn1:((n:Int)==1)=false:=by simp;omega
   by_cases h2:n=1+2*s
   · obtain ⟨ad,rfl,hPb,hc,hx⟩:=h.at_ (i:=0) (by rw [Hn.out];omega)
     have hn2:((n:Int) != 1+2*(s:Int))=false:=by simp;omega
     have hn3:0<n:=by omega
     obtain ⟨x,hxe⟩:=eV (bs[0]'(by rw [Hn.out];omega))
     rw [hxe] at hc hx
     have hdx:dg bs 0=x:=by rw [dg,q9 (by rw [Hn.out];omega)];exact hxe
     have hc0:w.cell? ad=some (.int .u8 (x:Int)):=by rwa [show ad.add 0=ad by simp [Addr.add]] at hc
     have Hdx:=zF hdx
     have H2:=zF h2
     clear hxe hdx h2 hc
     by_cases hx4:x=4
     · have hx1:((x:Int) != 4)=false:=by simp;omega
       go_enter Tryz.func69,Tryz.ntmps69
       go_upto_region 8 with (first
       | (go_at_call 102;refine (ft hC _).mono ?_;rintro e wa ⟨k,rfl,hk,hE1⟩;have hca:=hE1.cell ((zR w _).cell hc0);have hrb:=hE1.at_ (zN w _);have hks:=hk.size;rw [Hs.out] at hks)
       | (go_at_call 113;refine (kt _).mono ?_;rintro e wb ⟨rfl,hE2⟩;have hrb2:=hE2.at_ hrb;obtain ⟨z0,z1,z2,f0,f1,f2⟩:=qc hrb2))
       have hW:Ext w wa:=(zR w _).trans hE1
       obtain ⟨B1,hB1⟩:=eV ((bs.drop 1).take s)
       obtain ⟨B2,hB2⟩:=eV (bs.drop (1+s))
       have hlen1:B1.length=s:=by rw [←hB1,zz,jI,Hn.out,H2.out];omega
       have hlen2:B2.length=s:=by rw [←hB2,jI,Hn.out,H2.out];omega
       have hr1:=zF (fun X (hX:Ext wa X)=>show RB X P (some ⟨ad.block,ad.off+1,none⟩) (cap - 1) B1 by
        have:=(h.below (hW.trans hX) hP).mid (k:=1) (m:=1+s) (c':=cap - 1) (A':=some ⟨ad.block,ad.off+1,none⟩) (by omega) (by rw [Hn.out,H2.out];omega) (by have:=H2.out;omega) (by unfold maxLen;omega) (fun _=>by simp [Addr.add])
        rw [Nat.add_sub_cancel_left,hB1] at this
        exact this)
       have hr2:=zF (fun X (hX:Ext wa X)=>show RB X P (some (ad.add (1+s))) (cap - (1+s)) B2 by
        have:=(h.below (hW.trans hX) hP).mid (k:=1+s) (m:=bs.length) (c':=cap - (1+s)) (A':=some (ad.add (1+s))) (by rw [Hn.out,H2.out];omega) (zG _) (by rw [Hn.out];omega) (by unfold maxLen;omega) (fun _=>rfl)
        rw [zx (by rw [jI];omega),hB2] at this
        exact this)
       have hrr:gQ C bs=if onB C.M C.bb (kT B1) (kT B2)=true then some (some (kT B1,kT B2)) else none:=by
        rw [gQ,zr (fun e=>by have:=Hn.out;rw [e] at this;simp at this;omega),qE ⟨by have:=Hn.out;have:=Hs.out;have:=H2.out;omega,by have:=Hdx.out;omega⟩,Hs.out,hB1,hB2]
       rw [Hr.out] at hrr
       have Hrr:=zF hrr
       have L1:=zF hlen1
       have L2:=zF hlen2
       have HW:=zF hW
       have w3:IntKind.i64.wrap (1+(s:Int))=1+s:=wE _ (by omega)
       have hPw:∀ X:World,Ext wa X→∀ b,P b→b<X.heap.size:=fun X hX b hb=>zP (hP b hb) (HW.out.trans hX).bsize
       have HPw:=zF hPw
       have c1i:1+(s:Int)≤cap:=by have:=H2.out;omega
       have c0i:(1:Int)≤1+(s:Int):=by omega
       have c4i:1+(s:Int)≤n:=by have:=H2.out;omega
       have c5i:(0:Int)≤1+(s:Int):=by omega
       have c6:¬ cap=1:=by have:=H2.out;omega
       have c7:¬ cap=1+s:=by have:=H2.out;omega
       have c1:1+s≤cap:=by have:=H2.out;omega
       have c2:(1+(s:Int)).toNat=1+s:=by omega
       have c3:n - (1+s)=s:=by have:=H2.out;omega
       have c4:1+s≤n:=by have:=H2.out;omega
       clear hlen1 hlen2 hB1 hB2 hrr hW hPw
       refine zj (by kernel_rfl) 18 [0,0,2,6,14,30,63,127,0,0,512,1536,3584,7680,16128,32767,65535,0,262143] [17] (fun j f X=>match j with
        | 0=>f 0=.slice (some ad) n cap
        | 1=>f 1=.pointer (some ⟨k,0,none⟩)
        | 2=>f 2=.pointer (some ⟨k,0,none⟩)
        | 3=>f 3=.pointer (some ⟨k,0,none⟩)
        | 4=>f 4=.int .i64 (s:Int)
        | 5=>f 5=.int .i64 (1+(s:Int))
        | 6=>f 6=.slice (some ⟨ad.block,ad.off+1,none⟩) s (cap - 1)
        | 7=>∃ A1 k1,f 7=.slice A1 (digs 18446744073709551616 (kT B1)).length k1∧OB X w.heap.size A1 k1 (digs 18446744073709551616 (kT B1))
        | 8=>f 8=.slice (some ad) n cap
        | 9=>f 9=.pointer (some ⟨k,0,none⟩)
        | 10=>f 10=.pointer (some ⟨k,0,none⟩)
        | 11=>f 11=.pointer (some ⟨k,0,none⟩)
        | 12=>f 12=.int .i64 (s:Int)
        | 13=>f 13=.int .i64 (1+(s:Int))
        | 14=>f 14=.slice (some (ad.add (1+s))) s (cap - (1+s))
        | 15=>∃ A1 k1,f 15=.slice A1 (digs 18446744073709551616 (kT B2)).length k1∧OB X w.heap.size A1 k1 (digs 18446744073709551616 (kT B2))
        | 16=>f 16=.agg #[.bool false,f 7,f 15]
        | 17=>∃ b,f 17=.pointer (some ⟨b,0,none⟩)∧wa.heap.size≤b∧X.heap[b]?=some (.cells #[.bool false,.slice none 0 0,.slice none 0 0] 29 (0,0))
        | _=>True) (by kernel_rfl) [(42,0),(43,1),(44,2),(45,3),(46,4),(47,5),(48,6),(49,7),(50,8),(51,9),(52,10),(53,11),(54,12),(55,13),(56,14),(57,15),(58,16),(7,17)] (by kernel_rfl) ?_
       refine zT 1 17 ?_
       refine zT 2 16 ?_
       refine qL 3 15 1 ?_
       refine qL 4 14 2 ?_
       refine qG 5 13 3 hks ?_
       refine zt 6 12 [(42,0),(43,1),(44,2),(45,3),(46,4),(50,8),(51,9),(52,10),(53,11),(54,12),(55,13),(56,14),(7,17)] (fun f X hX hR K hK=>?_) ?_
       · have e4:f 4=_:=hR.out 4 rfl
         simp only [yZ,e4]
         refine ⟨?_⟩
         go_simp
         exact qe hK (s:=by simp only [yZ,e4])
       refine zt 7 11 [(42,0),(43,1),(44,2),(45,3),(46,4),(47,5),(50,8),(51,9),(52,10),(53,11),(54,12),(55,13),(56,14),(7,17)] (fun f X hX hR K hK=>?_) ?_
       · have e0:f 0=_:=hR.out 0 rfl
         have e5:f 5=_:=hR.out 5 rfl
         simp only [yZ,e0,e5]
         refine ⟨?_⟩
         go_simp
         exact qe hK (s:=by simp only [yZ,e0,e5])
       refine qC 8 10 (fun f=>#[f 6]) (F':=65) (fun f X hX hR=>?_) ?_
       · have e6:f 6=_:=hR.out 6 rfl
         simp only [e6]
         have hf:=xw P _ _ B1 X (hr1.out X hX) (HPw.out X hX) (by rw [L1.out];omega)
         rw [L1.out] at hf
         refine hf.mono ?_
         rintro e w2 ⟨A1,k1,rfl,hO,hB⟩
         exact ⟨_,rfl,hB,fun Y hY=>⟨A1,k1,rfl,(hO.mono (HW.out.trans hX).bsize).below hY (zG _)⟩⟩
       refine zT 9 9 ?_
       refine zT 10 8 ?_
       refine qL 11 7 9 ?_
       refine qL 12 6 10 ?_
       refine qG 13 5 11 hks ?_
       refine zt 14 4 [(42,0),(43,1),(44,2),(45,3),(46,4),(47,5),(48,6),(49,7),(50,8),(51,9),(52,10),(53,11),(54,12),(7,17)] (fun f X hX hR K hK=>?_) ?_
       · have e12:f 12=_:=hR.out 12 rfl
         simp only [yZ,e12]
         refine ⟨?_⟩
         go_simp
         exact qe hK (s:=by simp only [yZ,e12])
       refine zt 15 3 [(42,0),(43,1),(44,2),(45,3),(46,4),(47,5),(48,6),(49,7),(50,8),(51,9),(52,10),(53,11),(54,12),(55,13),(7,17)] (fun f X hX hR K hK=>?_) ?_
       · have e8:f 8=_:=hR.out 8 rfl
         have e13:f 13=_:=hR.out 13 rfl
         simp only [yZ,e8,e13]
         refine ⟨?_⟩
         go_simp
         exact qe hK (s:=by simp only [yZ,e8,e13])
       refine qC 16 2 (fun f=>#[f 14]) (F':=65) (fun f X hX hR=>?_) ?_
       · have e14:f 14=_:=hR.out 14 rfl
         simp only [e14]
         have hf:=xw P _ _ B2 X (hr2.out X hX) (HPw.out X hX) (by rw [L2.out];omega)
         rw [L2.out] at hf
         refine hf.mono ?_
         rintro e w2 ⟨A1,k1,rfl,hO,hB⟩
         exact ⟨_,rfl,hB,fun Y hY=>⟨A1,k1,rfl,(hO.mono (HW.out.trans hX).bsize).below hY (zG _)⟩⟩
       refine zt 17 1 [(42,0),(43,1),(44,2),(45,3),(46,4),(47,5),(48,6),(49,7),(50,8),(51,9),(52,10),(53,11),(54,12),(55,13),(56,14),(57,15),(7,17)] (fun f X hX hR K hK=>?_) ?_
       · obtain ⟨A7,k7,(e7:f 7=_),o7⟩:=hR.out 7 rfl
         obtain ⟨A15,k15,(e15:f 15=_),o15⟩:=hR.out 15 rfl
         simp only [yZ,e7,e15]
         refine ⟨?_⟩
         go_simp
         exact hK.out _ (.agg #[.bool false,f 7,f 15]) _ (by simp only [yZ,e7,e15]) (zd _) trivial (fun _ _=>rfl)
       refine ju 18 0 ?_
       refine yF ⟨fun f X hX hR hal hap=>?_⟩
       obtain ⟨A7,k7,(e7:f 7=_),o7⟩:=hR 7 (by decide)
       obtain ⟨A15,k15,(e15:f 15=_),o15⟩:=hR 15 (by decide)
       have e16:f 16=.agg #[.bool false,f 7,f 15]:=hR 16 (by decide)
       obtain ⟨b17,(e17:f 17=_),l17,h17⟩:=hR 17 (by decide)
       simp only [yZ,e7,e15,e16,e17]
       clear hR hal hap e7 e15 e16 e17
       refine zZ (fun K hK=>⟨zc (by kernel_rfl) (qo 29 (.tmp 7) (.tmp 58) rfl rfl rfl rfl h17 vG rfl (vO _ _ _ _ _ _ _) (fun Y1 g1 g2 g3=>hK.out _ _ ?_))⟩)
       refine zK ?_
       have hEY:Ext wa Y1:=g2.ext hX l17
       have p7:=o7.just g2 h17 (by decide)
       have p15:=o15.just g2 h17 (by decide)
       have hgl:w.heap.size<wa.heap.size:=ql hrb
       have hrY:Y1.heap[w.heap.size]?=some (.cells #[.bool false,.slice none 0 0,.slice none 0 0] 29 (0,0)):=g2.at_ (by omega) (hX.at_ hrb)
       have hkY:=hk.ext hEY
       obtain ⟨m,hm⟩:=eV (onB C.M C.bb (kT B1) (kT B2))
       have hon:=on_c hkY HF.out _ _ A7 A15 k7 k15 _ _ false p7.rn p15.rn (fun b hb=>hb.2) (fun b hb=>hb.2)
       rw [z7 (by omega),z7 (by omega),hm,Bool.false_or] at hon
       have hrr:=Hrr.out
       rw [hm] at hrr
       have Hon:=zF hon
       have Hk7:=zF p7
       have Hk15:=zF p15
       have HEY:=zF (HW.out.trans hEY)
       clear hm hon Hrr g2 g3 hX o7 o15 h17 l17 hEY p7 p15 hgl hkY w1 w2 w3 c0i c1i c4i c5i c1 c2 c3 c4 c6 c7 Hr
       obtain ⟨y0,y1,y2,q0,q1,q2⟩:=qc g1
       have Harm:=zF (fun wo (hEo:Ext Y1 wo)=>(⟨qc (hEo.at_ hrY),qc (hEo.at_ g1)⟩:_∧_))
       cases m
       · rw [zr (by decide)] at hrr
         subst hrr
         go_wp2_with (first
          | (go_at_call 108;refine Hon.out.mono ?_;rintro e wo ⟨rfl,hEo⟩;have hro:=hEo.at_ hrY)
          | (go_at_call 113;refine (kt _).mono ?_;rintro e wb ⟨rfl,hE2⟩;have hrb2:=hE2.at_ hro;obtain ⟨z0,z1,z2,f0,f1,f2⟩:=qc hrb2))
         exact xI rfl rfl rfl rfl (kw hrb2 _ _ _) ⟨vu,rfl,rfl,ky ((HEY.out.trans hEo).trans hE2) (zG _) _ _ _⟩
       · rw [qE rfl] at hrr
         subst hrr
         go_wp2_with (go_at_call 108;refine Hon.out.mono ?_;rintro e wo ⟨rfl,hEo⟩;have hro:=hEo.at_ hrY;obtain ⟨z0,z1,z2,f0,f1,f2⟩:=qc hro;obtain ⟨v0,v1,v2,u0,u1,u2⟩:=qc (hEo.at_ g1))
         exact xI rfl rfl rfl rfl (kw hro _ _ _) ⟨_,rfl,⟨A7,k7,A15,k15,rfl,(Hk7.out.below hEo (zG _)).just (fK _ _ _ _ _) hro (by decide),(Hk15.out.below hEo (zG _)).just (fK _ _ _ _ _) hro (by decide)⟩,ky (HEY.out.trans hEo) (zG _) _ _ _⟩
     · have hx1:((x:Int) != 4)=true:=by simp;omega
       obtain rfl:r=none:=by
        rw [←Hr.out,gQ,zr (fun e=>by have:=Hn.out;rw [e] at this;simp at this;omega),zr (fun e=>by have:=Hdx.out;omega)]
       go_enter Tryz.func69,Tryz.ntmps69
       go_wp2_with (first
       | (go_at_call 102;refine (ft hC _).mono ?_;rintro e wa ⟨k,rfl,hk,hE1⟩;have hca:=hE1.cell ((zR w _).cell hc0);have hrb:=hE1.at_ (zN w _);have hks:=hk.size;rw [Hs.out] at hks)
       | (go_at_call 113;refine (kt _).mono ?_;rintro e wb ⟨rfl,hE2⟩;have hrb2:=hE2.at_ hrb;obtain ⟨z0,z1,z2,f0,f1,f2⟩:=qc hrb2))
       exact xI rfl rfl rfl rfl (kw hrb2 _ _ _) ⟨vu,rfl,rfl,ky (((zR w _).trans hE1).trans hE2) (zG _) _ _ _⟩
   · have hn2:((n:Int) != 1+2*(s:Int))=true:=by simp;omega
     obtain rfl:r=none:=by
      rw [←Hr.out,gQ,zr (fun e=>by have:=Hn.out;rw [e] at this;simp at this;omega),zr (fun e=>by have:=Hn.out;have:=Hs.out;omega)]
     go_enter Tryz.func69,Tryz.ntmps69
     go_wp2_with (first
      | (go_at_call 102;refine (ft hC _).mono ?_;rintro e wa ⟨k,rfl,hk,hE1⟩;have hrb:=hE1.at_ (zN w _);have hks:=hk.size;rw [Hs.out] at hks)
      | (go_at_call 113;refine (kt _).mono ?_;rintro e wb ⟨rfl,hE2⟩;have hrb2:=hE2.at_ hrb;obtain ⟨z0,z1,z2,f0,f1,f2⟩:=qc hrb2))
     exact xI rfl rfl rfl rfl (kw hrb2 _ _ _) ⟨vu,rfl,rfl,ky (((zR w _).trans hE1).trans hE2) (zG _) _ _ _⟩
def ap (M x y z:Nat):Option (Nat×Nat):=if z % M=0 then none else let u1:=z ^ (M - 2);let u2:=mm M u1 u1;let u3:=mm M x u2;let u4:=mm M u2 u1;let u5:=mm M y u4;some (u3 % M,u5 % M)
theorem rV {P0:Nat→Prop} {k g size n inv M bb:Nat} {pl nl bl xl yl ml ol rl tl fl lx ly lz:List Nat} {Ap An Ab Ax Ay:Option Addr} {cp cn cb cx cy x y z:Nat} (w:World)
 (hk:Num w P0 k g size n inv M bb pl nl bl xl yl ml ol rl tl fl Ap An Ab Ax Ay cp cn cb cx cy) (hP0:∀ b,P0 b→b<w.heap.size) (hpl:pl.length<100000) (hj:FJ M n lx ly lz x y z) :
 Calls Tryz.prog 143 #[.pointer (some ⟨k,0,none⟩),JV lx ly lz] w fun e w'=>∃ v,e=.returned v∧PtV w' w.heap.size v (ap M x y z)∧Ext w w':=by
 obtain ⟨cs,hcs⟩:=eV ((nts (lx++ly++lz)).toArray)
 obtain ⟨W0,hW0⟩:=eW ((w.alloc (.cells cs 176)).alloc (.cells #[.bool false,.slice none 0 0,.slice none 0 0] 29))
 obtain ⟨q,hq⟩:=eV w.heap.size
 have hE0:Ext w W0:=by rw [hW0];exact (zR _ _).trans (zR _ _)
 obtain ⟨hpj,hrb,hz0⟩:=kW w (.cells cs 176) (.cells #[.bool false,.slice none 0 0,.slice none 0 0] 29)
 rw [←hW0,hq] at hpj hrb hz0
 have hpj:jk W0 q lx ly lz:=by rw [jk,hcs];exact hpj
 have hn:=zF (hk.ext hP0 hE0)
 have hP0':∀ b,P0 b→b<W0.heap.size:=fun b hb=>zP (hP0 b hb) hE0.bsize
 have k6:=hn.out.c_f
 have k1:=hn.out.c_p
 have hJ:=zF hj
 have HE0:=zF hE0
 have Hz0:=zF hz0
 have Hpv:=zF hk.pv
 have Hpl:=zF hpl
 have hM1:=hk.fr.ff.big
 have Hqs:=zF (show q≤W0.heap.size by omega)
 rw [show JV lx ly lz=.agg cs by rw [JV,hcs],hq]
 clear hE0 hz0 hk hP0 hj hcs hpl
 by_cases hz:z % M=0
 · have hzn:=zF hz
   rw [ap,qE hz]
   clear hz k6 k1
   go_enter Tryz.func143,Tryz.ntmps143
   go_upto_region 1 with fail
   rw [←hW0]
   have Hq:=zF hq
   have HW0:=zF hW0
   have hE:=zd W0
   clear hq hW0
   refine zX 3 [0,1,3] [] (fun j f X=>match j with
    | 0=>f 0=.pointer (some ⟨q,12,none⟩)
    | 1=>∃ o,f 1=EV o∧FE M n o z
    | 2=>f 2=.bool true
    | _=>True) (by kernel_rfl) [(10,0),(11,1),(12,2)] (by kernel_rfl) ?_
   refine zT 1 2 ?_
   refine lE 2 1 0 (fun _ hX=>wR ((hE.trans hX).at_ hpj) hJ.out.x.elt.six hJ.out.y.elt.six) hJ.out.z ?_
   refine qC 3 0 (fun f=>#[f 1]) (F':=152) (fun f X hX hR=>?_) ?_
   · obtain ⟨o1,(e1:f 1=_),h1⟩:=hR.out 1 rfl
     simp only [e1]
     refine (kd o1 X h1.elt.six).mono ?_
     rintro e w2 ⟨rfl,hB⟩
     rw [show decide (o1=[0,0,0,0,0,0])=true by rw [decide_eq_decide.2 (h1.zero_iff (hn.out.ext hP0' (hE.trans hX)).fr.ff)];exact qi hzn.out]
     exact ⟨(.bool true),rfl,hB,fun _ _=>rfl⟩
   refine yF ⟨fun f X hX hR hal hap=>?_⟩
   obtain ⟨o1,(e1:f 1=_),h1⟩:=hR 1 (by decide)
   have e2:f 2=_:=hR 2 (by decide)
   simp only [yZ,e1,e2]
   clear hR hal hap e1 e2
   refine zK ?_
   replace hE:=hE.trans hX
   clear hX
   rename World=>X1_
   go_upto_region 2 with fail
   have hb1:=hE.at_ hrb
   refine zX 1 [0,1] [] (fun j f X=>match j with
    | 0=>f 0=vu
    | _=>True) (by kernel_rfl) [(13,0)] (by kernel_rfl) ?_
   refine qC 1 0 (fun _=>#[]) (F':=113) (fun f X hX hR=>?_) ?_
   · refine (kt X).mono ?_
     rintro e w2 ⟨rfl,hB⟩
     exact ⟨vu,rfl,hB,fun _ _=>rfl⟩
   refine yF ⟨fun f X hX hR hal hap=>?_⟩
   have e0:f 0=_:=hR 0 (by decide)
   simp only [yZ,e0]
   clear hR hal hap e0
   refine zZ (fun K hK=>⟨zc (by kernel_rfl) (qo (cs':=#[.bool true,.slice none 0 0,.slice none 0 0]) (t:=29) 29 (.tmp 4) (.tmp 13) rfl rfl rfl rfl (hX.at_ hb1) vG rfl (vO _ _ _ _ _ _ _) (fun Y hY1 hY2 hY3=>hK.out _ _ ?_))⟩)
   refine zK ?_
   go_wp2
   exact ul rfl rfl rfl hY1 ⟨_,rfl,rfl,hY2.ext (HE0.out.trans (hE.trans hX)) (by have:=Hq.out;omega)⟩
 · have hzn:=zF hz
   obtain ⟨u1,E_u1⟩:=eG (z ^ (M - 2))
   obtain ⟨u2,E_u2⟩:=eG (mm M u1 u1)
   obtain ⟨u3,E_u3⟩:=eG (mm M x u2)
   obtain ⟨u4,E_u4⟩:=eG (mm M u2 u1)
   obtain ⟨u5,E_u5⟩:=eG (mm M y u4)
   have hres:ap M x y z=some (u3 % M,u5 % M):=by rw [ap,zr hz];simp only [E_u1.out,E_u2.out,E_u3.out,E_u4.out,E_u5.out]
   rw [hres]
   clear hres hz
   go_enter Tryz.func143,Tryz.ntmps143
   go_upto_region 1 with fail
   rw [←hW0]
   have Hq:=zF hq
   have HW0:=zF hW0
   have hE:=zd W0
   clear hq hW0
   refine zX 3 [0,1,3] [] (fun j f X=>match j with
    | 0=>f 0=.pointer (some ⟨q,12,none⟩)
    | 1=>∃ o,f 1=EV o∧FE M n o z
    | 2=>f 2=.bool false
    | _=>True) (by kernel_rfl) [(10,0),(11,1),(12,2)] (by kernel_rfl) ?_
   refine zT 1 2 ?_
   refine lE 2 1 0 (fun _ hX=>wR ((hE.trans hX).at_ hpj) hJ.out.x.elt.six hJ.out.y.elt.six) hJ.out.z ?_
   refine qC 3 0 (fun f=>#[f 1]) (F':=152) (fun f X hX hR=>?_) ?_
   · obtain ⟨o1,(e1:f 1=_),h1⟩:=hR.out 1 rfl
     simp only [e1]
     refine (kd o1 X h1.elt.six).mono ?_
     rintro e w2 ⟨rfl,hB⟩
     rw [show decide (o1=[0,0,0,0,0,0])=false by rw [decide_eq_decide.2 (h1.zero_iff (hn.out.ext hP0' (hE.trans hX)).fr.ff)];exact qp hzn.out]
     exact ⟨(.bool false),rfl,hB,fun _ _=>rfl⟩
   refine yF ⟨fun f X hX hR hal hap=>?_⟩
   obtain ⟨o1,(e1:f 1=_),h1⟩:=hR 1 (by decide)
   have e2:f 2=_:=hR 2 (by decide)
   simp only [yZ,e1,e2]
   clear hR hal hap e1 e2
   refine zK ?_
   replace hE:=hE.trans hX
   clear hX
   rename World=>X1_
   have k6':=hE.cell k6
   have k1':=hE.cell k1
   go_upto_region 4 with fail
   clear k6'
   refine zj (by kernel_rfl) 11 [0,1,3,7,0,31,63,127,127,255,1023] [] (fun j f X=>match j with
    | 0=>f 0=.pointer (some ⟨k,0,none⟩)
    | 1=>f 1=.pointer (some ⟨k,0,none⟩)
    | 2=>f 2=.pointer (some ⟨k,1,none⟩)
    | 3=>f 3=.slice Ap pl.length cp
    | 4=>∃ A1 c1,f 4=.slice A1 (digs 18446744073709551616 2).length c1∧OB X q A1 c1 (digs 18446744073709551616 2)
    | 5=>∃ A1 c1,f 5=.tuple #[.slice A1 (digs 18446744073709551616 (M - 2)).length c1,.bool true]∧OB X q A1 c1 (digs 18446744073709551616 (M - 2))
    | 6=>∃ A1 c1,f 6=.tuple #[.slice A1 (digs 18446744073709551616 (M - 2)).length c1,.bool true]∧OB X q A1 c1 (digs 18446744073709551616 (M - 2))
    | 7=>∃ A1 c1,f 7=.slice A1 (digs 18446744073709551616 (M - 2)).length c1∧OB X q A1 c1 (digs 18446744073709551616 (M - 2))
    | 8=>f 8=.bool true
    | 9=>∃ A1 c1,f 9=.slice A1 (digs 18446744073709551616 (M - 2)).length c1∧OB X q A1 c1 (digs 18446744073709551616 (M - 2))
    | 10=>f 10=.bool true
    | _=>True) (by kernel_rfl) [(19,0),(20,1),(21,2),(22,3),(23,4),(24,5),(18,6),(25,7),(26,8),(6,9),(7,10)] (by kernel_rfl) ?_
   refine zT 1 10 ?_
   refine qL 2 9 0 ?_
   refine qL 3 8 1 ?_
   refine qG 4 7 2 k1' ?_
   refine qC 5 6 (fun _=>#[Value.int IntKind.u64 2]) (F':=103) (fun f X hX hR=>?_) ?_
   · refine (ge 2 X (by omega)).mono ?_
     rintro e w2 ⟨A1,c1,rfl,hO,hB⟩
     exact ⟨_,rfl,hB,fun Y hY=>⟨A1,c1,rfl,(hO.mono (zU Hqs.out (hE.trans hX).bsize)).below hY (zG _)⟩⟩
   refine qC 6 5 (fun f=>#[f 3,f 4]) (F':=125) (fun f X hX hR=>?_) ?_
   · have e3:f 3=_:=hR.out 3 rfl
     obtain ⟨A4,c4,(e4:f 4=_),o4⟩:=hR.out 4 rfl
     simp only [e3,e4]
     refine (sL P0 _ Ap A4 cp c4 pl _ X (hn.out.ext hP0' (hE.trans hX)).p o4.rn (fun b hb=>zP (hP0' b hb) (hE.trans hX).bsize) (fun b hb=>hb.2) Hpl.out (by rw [Hpv.out,z7 (by omega)];omega)).mono ?_
     rw [Hpv.out,z7 (by omega)]
     rintro e w2 ⟨A1,c1,rfl,hO,hB⟩
     exact ⟨_,rfl,hB,fun Y hY=>⟨A1,c1,rfl,(hO.mono (zU Hqs.out (hE.trans hX).bsize)).below hY (zG _)⟩⟩
   refine zt 7 4 [(19,0),(20,1),(21,2),(22,3),(23,4),(24,5)] (fun f X hX hR K hK=>?_) ?_
   · obtain ⟨A5,c5,(e5:f 5=_),o5⟩:=hR.out 5 rfl
     simp only [yZ,e5]
     refine ⟨?_⟩
     go_simp
     exact hK.out _ _ _ (by simp only [yZ,e5]) (zd _) trivial (fun Y hY=>⟨A5,c5,rfl,o5.below (hY) (zG _)⟩)
   refine zt 8 3 [(19,0),(20,1),(21,2),(22,3),(23,4),(24,5),(18,6),(26,8)] (fun f X hX hR K hK=>?_) ?_
   · obtain ⟨A6,c6,(e6:f 6=_),o6⟩:=hR.out 6 rfl
     simp only [yZ,e6]
     refine ⟨?_⟩
     go_simp
     exact hK.out _ _ _ (by simp only [yZ,e6]) (zd _) trivial (fun Y hY=>⟨A6,c6,rfl,o6.below (hY) (zG _)⟩)
   refine zt 9 2 [(19,0),(20,1),(21,2),(22,3),(23,4),(24,5),(18,6),(25,7),(6,9)] (fun f X hX hR K hK=>?_) ?_
   · obtain ⟨A6,c6,(e6:f 6=_),o6⟩:=hR.out 6 rfl
     simp only [yZ,e6]
     refine ⟨?_⟩
     go_simp
     exact qe hK (s:=by simp only [yZ,e6])
   refine zt 10 1 [(19,0),(20,1),(21,2),(22,3),(23,4),(24,5),(18,6),(25,7),(26,8)] (fun f X hX hR K hK=>?_) ?_
   · obtain ⟨A7,c7,(e7:f 7=_),o7⟩:=hR.out 7 rfl
     simp only [yZ,e7]
     refine ⟨?_⟩
     go_simp
     exact hK.out _ _ _ (by simp only [yZ,e7]) (zd _) trivial (fun Y hY=>⟨A7,c7,rfl,o7.below (hY) (zG _)⟩)
   refine qL 11 0 8 ?_
   refine yF ⟨fun f X hX hR hal hap=>?_⟩
   obtain ⟨A4,c4,(e4:f 4=_),o4⟩:=hR 4 (by decide)
   obtain ⟨A5,c5,(e5:f 5=_),o5⟩:=hR 5 (by decide)
   obtain ⟨A6,c6,(e6:f 6=_),o6⟩:=hR 6 (by decide)
   obtain ⟨A7,c7,(e7:f 7=_),o7⟩:=hR 7 (by decide)
   obtain ⟨A9,c9,(e9:f 9=_),o9⟩:=hR 9 (by decide)
   simp only [yZ,e4,e5,e6,e7,e9]
   clear hR hal hap e4 e5 e6 e7 e9
   refine zK ?_
   replace hE:=hE.trans hX
   have hL:=o9
   rename World=>X4_
   clear hX k1' o4 o5 o6 o7 o9
   go_upto_region 5 with fail
   refine zX 6 [0,0,2,0,15,0,63] [5] (fun j f X=>match j with
    | 0=>f 0=.pointer (some ⟨g,0,none⟩)
    | 1=>f 1=.pointer (some ⟨q,12,none⟩)
    | 2=>∃ o,f 2=EV o∧FE M n o z
    | 3=>f 3=.slice A9 (digs 18446744073709551616 (M - 2)).length c9
    | 4=>∃ o,f 4=EV o∧FE M n o u1
    | 5=>∃ b,f 5=.pointer (some ⟨b,0,none⟩)∧X4_.heap.size≤b∧X.heap[b]?=some (.cells #[.int .u64 0,.int .u64 0,.int .u64 0,.int .u64 0,.int .u64 0,.int .u64 0] 147 (0,0))
    | _=>True) (by kernel_rfl) [(27,0),(28,1),(29,2),(30,3),(31,4),(8,5)] (by kernel_rfl) ?_
   refine zT 1 5 ?_
   refine zT 2 4 ?_
   refine lE 3 3 1 (fun _ hX=>wR ((hE.trans hX).at_ hpj) hJ.out.x.elt.six hJ.out.y.elt.six) hJ.out.z ?_
   refine zT 4 2 ?_
   refine qC 5 1 (fun f=>#[f 0,f 2,f 3]) (F':=180) (fun f X hX hR=>?_) ?_
   · have e0:f 0=_:=hR.out 0 rfl
     obtain ⟨o2,(e2:f 2=_),h2⟩:=hR.out 2 rfl
     have e3:f 3=_:=hR.out 3 rfl
     simp only [e0,e2,e3]
     refine (pA X (hn.out.ext hP0' (hE.trans hX)).fr hn.out.fr.fone z (M - 2) h2 _ A9 c9 _ (hL.below hX (zG _)).rn (fun b hb=>hb.2) (z7 (by omega) _)).mono ?_
     rw [E_u1.out]
     rintro e w2 ⟨o,rfl,ho,hB⟩
     exact ⟨(EV o),rfl,hB,fun Y hY=>⟨o,rfl,ho⟩⟩
   refine ju 6 0 ?_
   refine yF ⟨fun f X hX hR hal hap=>?_⟩
   obtain ⟨o2,(e2:f 2=_),h2⟩:=hR 2 (by decide)
   obtain ⟨o4,(e4:f 4=_),h4⟩:=hR 4 (by decide)
   obtain ⟨br5_5,(e5:f 5=_),lr5_5,hr5_5⟩:=hR 5 (by decide)
   simp only [yZ,e2,e4,e5]
   clear hR hal hap e2 e4 e5
   refine zZ (fun K hK=>⟨zc (by kernel_rfl) (qW (.tmp 8) (.tmp 31) rfl rfl rfl rfl (hr5_5) kI h4.elt.six (fun Y2_6 hl2_6=>hK.out _ _ ?_))⟩)
   refine zK ?_
   have vbr5_5:VE Y2_6 M n br5_5 u1:=(hl2_6.mk' h4)
   have lb_vbr5_5:=zU hE.bsize lr5_5
   have hE':Ext W0 Y2_6:=(hl2_6.ext (hE.trans hX) (zU hE.bsize lr5_5))
   clear hE hX hl2_6 h2 h4 
   have hE:=hE'
   clear hE'
   go_upto_region 6 with fail
   refine zX 5 [0,0,0,7,0,31] [4] (fun j f X=>match j with
    | 0=>f 0=.pointer (some ⟨g,0,none⟩)
    | 1=>∃ o,f 1=EV o∧FE M n o u1
    | 2=>∃ o,f 2=EV o∧FE M n o u1
    | 3=>∃ o,f 3=EV o∧FE M n o u2
    | 4=>∃ b,f 4=.pointer (some ⟨b,0,none⟩)∧Y2_6.heap.size≤b∧X.heap[b]?=some (.cells #[.int .u64 0,.int .u64 0,.int .u64 0,.int .u64 0,.int .u64 0,.int .u64 0] 147 (0,0))
    | _=>True) (by kernel_rfl) [(32,0),(33,1),(34,2),(35,3),(9,4)] (by kernel_rfl) ?_
   refine zT 1 4 ?_
   refine lX 2 3 (fun X hX=>let ⟨o,hbl,ho⟩:=vbr5_5.ext hX;⟨o,hbl.range,ho⟩) ?_
   refine lX 3 2 (fun X hX=>let ⟨o,hbl,ho⟩:=vbr5_5.ext hX;⟨o,hbl.range,ho⟩) ?_
   refine fc 4 1 0 1 2 (fun X hX _ _ h h'=>ja X (hn.out.ext hP0' (hE.trans hX)).fr.ff h h') E_u2.out ?_
   refine ju 5 0 ?_
   refine yF ⟨fun f X hX hR hal hap=>?_⟩
   obtain ⟨o1,(e1:f 1=_),h1⟩:=hR 1 (by decide)
   obtain ⟨o2,(e2:f 2=_),h2⟩:=hR 2 (by decide)
   obtain ⟨o3,(e3:f 3=_),h3⟩:=hR 3 (by decide)
   obtain ⟨br6_4,(e4:f 4=_),lr6_4,hr6_4⟩:=hR 4 (by decide)
   simp only [yZ,e1,e2,e3,e4]
   clear hR hal hap e1 e2 e3 e4
   refine zZ (fun K hK=>⟨zc (by kernel_rfl) (qW (.tmp 9) (.tmp 35) rfl rfl rfl rfl (hr6_4) kI h3.elt.six (fun Y3_5 hl3_5=>hK.out _ _ ?_))⟩)
   refine zK ?_
   have d_br5_5_br6_4:br5_5≠br6_4:=by have:=(let ⟨_,h,_⟩:=vbr5_5;h.lt:br5_5<Y2_6.heap.size);omega
   replace vbr5_5:=(hl3_5.ve d_br5_5_br6_4 (vbr5_5.ext hX))
   have vbr6_4:VE Y3_5 M n br6_4 u2:=(hl3_5.mk' h3)
   have lb_vbr6_4:=zU hE.bsize lr6_4
   have hE':Ext W0 Y3_5:=(hl3_5.ext (hE.trans hX) (zU hE.bsize lr6_4))
   clear hE hX hl3_5 h1 h2 h3
   have hE:=hE'
   clear hE'
   have hb1:=hE.at_ hrb
   go_upto_region 7 with fail
   refine zj (by kernel_rfl) 18 [0,0,0,4,0,30,63,0,0,0,512,0,0,0,14463,32639,65535,131071,262143] [] (fun j f X=>match j with
    | 0=>f 0=.pointer (some ⟨g,0,none⟩)
    | 1=>f 1=.pointer (some ⟨g,0,none⟩)
    | 2=>f 2=.pointer (some ⟨q,0,none⟩)
    | 3=>∃ o,f 3=EV o∧FE M n o x
    | 4=>∃ o,f 4=EV o∧FE M n o u2
    | 5=>∃ o,f 5=EV o∧FE M n o u3
    | 6=>∃ A1 c1,f 6=.slice A1 (digs 18446744073709551616 (u3 % M)).length c1∧OB X q A1 c1 (digs 18446744073709551616 (u3 % M))
    | 7=>f 7=.pointer (some ⟨g,0,none⟩)
    | 8=>f 8=.pointer (some ⟨g,0,none⟩)
    | 9=>f 9=.pointer (some ⟨q,6,none⟩)
    | 10=>∃ o,f 10=EV o∧FE M n o y
    | 11=>f 11=.pointer (some ⟨g,0,none⟩)
    | 12=>∃ o,f 12=EV o∧FE M n o u2
    | 13=>∃ o,f 13=EV o∧FE M n o u1
    | 14=>∃ o,f 14=EV o∧FE M n o u4
    | 15=>∃ o,f 15=EV o∧FE M n o u5
    | 16=>∃ A1 c1,f 16=.slice A1 (digs 18446744073709551616 (u5 % M)).length c1∧OB X q A1 c1 (digs 18446744073709551616 (u5 % M))
    | 17=>∃ A1 c1 A2 c2,f 17=.agg #[.bool false,.slice A1 (digs 18446744073709551616 (u3 % M)).length c1,.slice A2 (digs 18446744073709551616 (u5 % M)).length c2]∧OB X q A1 c1 (digs 18446744073709551616 (u3 % M))∧OB X q A2 c2 (digs 18446744073709551616 (u5 % M))
    | _=>True) (by kernel_rfl) [(36,0),(37,1),(38,2),(39,3),(40,4),(41,5),(42,6),(43,7),(44,8),(45,9),(46,10),(47,11),(48,12),(49,13),(50,14),(51,15),(52,16),(53,17)] (by kernel_rfl) ?_
   refine zT 1 17 ?_
   refine zT 2 16 ?_
   refine zT 3 15 ?_
   refine lE 4 14 2 (fun _ hX=>jk.rx ((hE.trans hX).at_ hpj)) hJ.out.x ?_
   refine lX 5 13 (fun X hX=>let ⟨o,hbl,ho⟩:=vbr6_4.ext hX;⟨o,hbl.range,ho⟩) ?_
   refine fc 6 12 1 3 4 (fun X hX _ _ h h'=>ja X (hn.out.ext hP0' (hE.trans hX)).fr.ff h h') E_u3.out ?_
   refine qC 7 11 (fun f=>#[f 0,f 5]) (F':=181) (fun f X hX hR=>?_) ?_
   · have e0:f 0=_:=hR.out 0 rfl
     obtain ⟨o5,(e5:f 5=_),h5⟩:=hR.out 5 rfl
     simp only [e0,e5]
     refine (rM X (hn.out.ext hP0' (hE.trans hX)).fr h5).mono ?_
     rintro e w2 ⟨A1,c1,rfl,hO,hB⟩
     exact ⟨_,rfl,hB,fun Y hY=>⟨A1,c1,rfl,(hO.mono (zU Hqs.out (hE.trans hX).bsize)).below hY (zG _)⟩⟩
   refine zT 8 10 ?_
   refine zT 9 9 ?_
   refine zT 10 8 ?_
   refine lE 11 7 9 (fun _ hX=>jk.ry ((hE.trans hX).at_ hpj) hJ.out.x.elt.six) hJ.out.y ?_
   refine zT 12 6 ?_
   refine lX 13 5 (fun X hX=>let ⟨o,hbl,ho⟩:=vbr6_4.ext hX;⟨o,hbl.range,ho⟩) ?_
   refine lX 14 4 (fun X hX=>let ⟨o,hbl,ho⟩:=vbr5_5.ext hX;⟨o,hbl.range,ho⟩) ?_
   refine fc 15 3 11 12 13 (fun X hX _ _ h h'=>ja X (hn.out.ext hP0' (hE.trans hX)).fr.ff h h') E_u4.out ?_
   refine fc 16 2 8 10 14 (fun X hX _ _ h h'=>ja X (hn.out.ext hP0' (hE.trans hX)).fr.ff h h') E_u5.out ?_
   refine qC 17 1 (fun f=>#[f 7,f 15]) (F':=181) (fun f X hX hR=>?_) ?_
   · have e7:f 7=_:=hR.out 7 rfl
     obtain ⟨o15,(e15:f 15=_),h15⟩:=hR.out 15 rfl
     simp only [e7,e15]
     refine (rM X (hn.out.ext hP0' (hE.trans hX)).fr h15).mono ?_
     rintro e w2 ⟨A1,c1,rfl,hO,hB⟩
     exact ⟨_,rfl,hB,fun Y hY=>⟨A1,c1,rfl,(hO.mono (zU Hqs.out (hE.trans hX).bsize)).below hY (zG _)⟩⟩
   refine zt 18 0 [(36,0),(37,1),(38,2),(39,3),(40,4),(41,5),(42,6),(43,7),(44,8),(45,9),(46,10),(47,11),(48,12),(49,13),(50,14),(51,15),(52,16)] (fun f X hX hR K hK=>?_) ?_
   · obtain ⟨A6,c6,(e6:f 6=_),o6⟩:=hR.out 6 rfl
     obtain ⟨A16,c16,(e16:f 16=_),o16⟩:=hR.out 16 rfl
     simp only [yZ,e6,e16]
     refine ⟨?_⟩
     go_simp
     exact hK.out _ _ _ (by simp only [yZ,e6,e16]) (zd _) trivial (fun Y hY=>⟨A6,c6,A16,c16,rfl,o6.below hY (zG _),o16.below hY (zG _)⟩)
   refine yF ⟨fun f X hX hR hal hap=>?_⟩
   obtain ⟨o3,(e3:f 3=_),h3⟩:=hR 3 (by decide)
   obtain ⟨o4,(e4:f 4=_),h4⟩:=hR 4 (by decide)
   obtain ⟨o5,(e5:f 5=_),h5⟩:=hR 5 (by decide)
   obtain ⟨A6,c6,(e6:f 6=_),o6⟩:=hR 6 (by decide)
   obtain ⟨o10,(e10:f 10=_),h10⟩:=hR 10 (by decide)
   obtain ⟨o12,(e12:f 12=_),h12⟩:=hR 12 (by decide)
   obtain ⟨o13,(e13:f 13=_),h13⟩:=hR 13 (by decide)
   obtain ⟨o14,(e14:f 14=_),h14⟩:=hR 14 (by decide)
   obtain ⟨o15,(e15:f 15=_),h15⟩:=hR 15 (by decide)
   obtain ⟨A16,c16,(e16:f 16=_),o16⟩:=hR 16 (by decide)
   obtain ⟨A17,c17,B17,d17,(e17:f 17=_),o17,p17⟩:=hR 17 (by decide)
   simp only [yZ,e3,e4,e5,e6,e10,e12,e13,e14,e15,e16,e17]
   clear hR hal hap e3 e4 e5 e6 e10 e12 e13 e14 e15 e16 e17
   refine zZ (fun K hK=>⟨zc (by kernel_rfl) (qo (cs':=#[.bool false,.slice A17 (digs 18446744073709551616 (u3 % M)).length c17,.slice B17 (digs 18446744073709551616 (u5 % M)).length d17]) (t:=29) 29 (.tmp 4) (.tmp 53) rfl rfl rfl rfl (hX.at_ hb1) vG rfl (vO _ _ _ _ _ _ _) (fun Y hY1 hY2 hY3=>hK.out _ _ ?_))⟩)
   refine zK ?_
   go_wp2
   exact ul rfl rfl rfl hY1 ⟨_,rfl,⟨A17,c17,B17,d17,rfl,o17.just hY2 (hX.at_ hb1) (by decide),p17.just hY2 (hX.at_ hb1) (by decide)⟩,hY2.ext (HE0.out.trans (hE.trans hX)) (by have:=Hq.out;omega)⟩
def APt (w:World) (v:Value) (inf:Bool) (x y:Nat):Prop:=∃ (A A':Option Addr) (c c':Nat) (a b:List Nat),v=.agg #[.bool inf,.slice A a.length c,.slice A' b.length c']∧RU w A c a∧RU w A' c' b∧val 18446744073709551616 a=x∧val 18446744073709551616 b=y
theorem APt.ext {w X:World} {v:Value} {inf:Bool} {x y:Nat} (h:APt w v inf x y) (hE:Ext w X):APt X v inf x y:=by
 obtain ⟨A,A',c,c',a,b,rfl,ha,hb,hx,hy⟩:=h
 exact ⟨A,A',c,c',a,b,rfl,zb ha hE,zb hb hE,hx,hy⟩
theorem APt.inf_ (w:World):APt w vu true 0 0:=⟨none,none,0,0,[],[],rfl,RN.nil_ _ _,RN.nil_ _ _,rfl,rfl⟩
theorem PtV.pt {w:World} {base:Nat} {v:Value} {o:Option (Nat×Nat)} (h:PtV w base v o):APt w v o.isNone (o.elim 0 (·.1)) (o.elim 0 (·.2)):=by
  cases o with
  | none=>cases h;exact APt.inf_ w
  | some p =>
    obtain ⟨A,c,A',c',rfl,h1,h2⟩:=h
    exact ⟨A,A',c,c',_,_,rfl,h1.ru,h2.ru,z7 (by omega) _,z7 (by omega) _⟩
theorem PtV.ext {w X:World} {base:Nat} {v:Value} {o:Option (Nat×Nat)} (h:PtV w base v o) (hE:Ext w X):PtV X base v o:=by
  cases o with
  | none=>exact h
  | some p =>
    obtain ⟨A,c,A',c',rfl,h1,h2⟩:=h
    exact ⟨A,c,A',c',rfl,h1.below hE (zG _),h2.below hE (zG _)⟩
theorem PtV.mono {w:World} {base base':Nat} {v:Value} {o:Option (Nat×Nat)} (h:PtV w base v o) (hb:base'≤base):PtV w base' v o:=by
  cases o with
  | none=>exact h
  | some p =>
    obtain ⟨A,c,A',c',rfl,h1,h2⟩:=h
    exact ⟨A,c,A',c',rfl,h1.mono hb,h2.mono hb⟩
def JAt (C:Crv) (v:Value) (p:Nat×Nat×Nat):Prop:=∃ lx ly lz,v=JV lx ly lz∧FJ C.M C.n lx ly lz p.1 p.2.1 p.2.2
def upP (inf:Bool) (x y:Nat):Nat×Nat×Nat:=if inf then (1,1,0) else (x,y,1)
def bV (M:Nat) (p q:Nat×Nat×Nat):Nat×Nat×Nat:=dh M p.1 p.2.1 p.2.2 q.1 q.2.1 q.2.2
def dR (M:Nat) (p:Nat×Nat×Nat):Nat×Nat×Nat:=fE M p.1 p.2.1 p.2.2
def cW (M:Nat) (p:Nat×Nat×Nat):Option (Nat×Nat):=ap M p.1 p.2.1 p.2.2
def onQ (C:Crv) (inf:Bool) (x y:Nat):Bool:=inf || onB C.M C.bb x y
theorem mY {M bb x y:Nat} (h:onB M bb x y=true):x<M∧y<M:=by
 simp only [onB,Bool.and_eq_true,decide_eq_true_eq] at h
 exact h.1
theorem mX {C:Crv} {inf:Bool} {x y:Nat} (h:onQ C inf x y=true) (hi:inf=false):x<C.M∧y<C.M:=by
 subst hi
 exact mY h
section
variable {C:Crv} {w:World} {k:Nat} {v u:Value}
theorem oH (h:OfC C w k) (hC:C.Fine) {inf:Bool} {x y:Nat} (hv:APt w v inf x y):Calls Tryz.prog 108 #[.pointer (some ⟨k,0,none⟩),v] w fun e w'=>e=.returned (.bool (onQ C inf x y))∧Ext w w':=by
 obtain ⟨A,A',c,c',a,b,rfl,ha,hb,rfl,rfl⟩:=hv
 exact on_c h hC _ _ A A' c c' a b inf ha hb (fun _ h=>h) (fun _ h=>h)
theorem up_j (h:OfC C w k) {inf:Bool} {x y:Nat} (hv:APt w v inf x y) (ho:onQ C inf x y=true):Calls Tryz.prog 139 #[.pointer (some ⟨k,0,none⟩),v] w fun e w'=>∃ o,e=.returned o∧JAt C o (upP inf x y)∧Ext w w':=by
 obtain ⟨A,A',c,c',a,b,rfl,ha,hb,rfl,rfl⟩:=hv
 obtain ⟨P0,g,inv,ml,ol,rl,tl,fl,Ap,An,Ab,Ax,Ay,cp,cn,cb,cx,cy,hn,hP⟩:=h
 refine (pG _ _ A A' c c' a b inf w hn hP ha hb (fun _ h=>h) (fun _ h=>h) (fun hi=>(mX ho hi).1) (fun hi=>(mX ho hi).2)).mono ?_
 rintro e w' ⟨ox,oy,oz,rfl,hf,hE⟩
 refine ⟨_,rfl,⟨ox,oy,oz,rfl,?_⟩,hE⟩
 cases inf <;> exact hf
theorem rW (h:OfC C w k) {p:Nat×Nat×Nat} (hv:JAt C v p):Calls Tryz.prog 142 #[.pointer (some ⟨k,0,none⟩),v] w fun e w'=>∃ o,e=.returned o∧JAt C o (dR C.M p)∧Ext w w':=by
 obtain ⟨lx,ly,lz,rfl,hf⟩:=hv
 obtain ⟨P0,g,inv,ml,ol,rl,tl,fl,Ap,An,Ab,Ax,Ay,cp,cn,cb,cx,cy,hn,hP⟩:=h
 refine (dP w hn hP hf).mono ?_
 rintro e w' ⟨ox,oy,oz,rfl,hf',hE⟩
 exact ⟨_,rfl,⟨ox,oy,oz,rfl,hf'⟩,hE⟩
theorem tj (h:OfC C w k) {p q:Nat×Nat×Nat} (hv:JAt C v p) (hu:JAt C u q):Calls Tryz.prog 140 #[.pointer (some ⟨k,0,none⟩),v,u] w fun e w'=>∃ o,e=.returned o∧JAt C o (bV C.M p q)∧Ext w w':=by
 obtain ⟨lx,ly,lz,rfl,hf⟩:=hv
 obtain ⟨mx,my,mz,rfl,hg⟩:=hu
 obtain ⟨P0,g,inv,ml,ol,rl,tl,fl,Ap,An,Ab,Ax,Ay,cp,cn,cb,cx,cy,hn,hP⟩:=h
 refine (tY w hn hP hf hg).mono ?_
 rintro e w' ⟨ox,oy,oz,rfl,hf',hE⟩
 exact ⟨_,rfl,⟨ox,oy,oz,rfl,hf'⟩,hE⟩
theorem zAY (h:OfC C w k) {p:Nat×Nat×Nat} (hpl:C.pl.length<100000) (hv:JAt C v p):Calls Tryz.prog 143 #[.pointer (some ⟨k,0,none⟩),v] w fun e w'=>∃ o,e=.returned o∧PtV w' w.heap.size o (cW C.M p)∧Ext w w':=by
 obtain ⟨lx,ly,lz,rfl,hf⟩:=hv
 obtain ⟨P0,g,inv,ml,ol,rl,tl,fl,Ap,An,Ab,Ax,Ay,cp,cn,cb,cx,cy,hn,hP⟩:=h
 exact rV w hn hP hpl hf
end
theorem IsC.plen {c:Int} {C:Crv} (h:IsC c C):C.pl.length<100000:=by
 rcases h with ⟨_,rfl⟩ | ⟨_,rfl⟩ <;> decide
def RPv (w:World) (v:Value) (bi:Bool) (x y:Nat):Prop:=∃ (A A':Option Addr) (c c':Nat),v=.agg #[.bool bi,.slice A (digs 4294967296 x).length c,.slice A' (digs 4294967296 y).length c']∧RU w A c (digs 4294967296 x)∧RU w A' c' (digs 4294967296 y)
theorem RPv.ext {w X:World} {v:Value} {bi:Bool} {x y:Nat} (h:RPv w v bi x y) (hE:Ext w X):RPv X v bi x y:=by
 obtain ⟨A,A',c,c',rfl,h1,h2⟩:=h
 exact ⟨A,A',c,c',rfl,zb h1 hE,zb h2 hE⟩
theorem RPv.inf_ (w:World):RPv w vu true 0 0:=⟨none,none,0,0,by rw [qY];rfl,RN.nil0 _,RN.nil0 _⟩
theorem RPU.pv {w:World} {v:Value} {o:Option (Nat×Nat)} (h:RPU w v o):RPv w v o.isNone (o.elim 0 (·.1)) (o.elim 0 (·.2)):=by
 cases o with
 | none=>cases h;exact RPv.inf_ w
 | some p =>
  obtain ⟨A,c,A',c',rfl,h1,h2⟩:=h
  exact ⟨A,A',c,c',rfl,h1,h2⟩
def APn (w:World) (v:Value) (bi:Bool) (a b:List Nat):Prop:=∃ (A A':Option Addr) (c c':Nat),v=.agg #[.bool bi,.slice A a.length c,.slice A' b.length c']∧RU w A c a∧RU w A' c' b
theorem APn.ext {w X:World} {v:Value} {bi:Bool} {a b:List Nat} (h:APn w v bi a b) (hE:Ext w X):APn X v bi a b:=by
 obtain ⟨A,A',c,c',rfl,h1,h2⟩:=h
 exact ⟨A,A',c,c',rfl,zb h1 hE,zb h2 hE⟩
theorem APn.pt {w:World} {v:Value} {bi:Bool} {a b:List Nat} (h:APn w v bi a b):APt w v bi (val 18446744073709551616 a) (val 18446744073709551616 b):=by
 obtain ⟨A,A',c,c',rfl,h1,h2⟩:=h
 exact ⟨A,A',c,c',a,b,rfl,h1,h2,rfl,rfl⟩
theorem sU {C:Crv} {v:Value} (w:World) (hc:RC w C v):Calls Tryz.prog 40 #[v] w fun e w'=>∃ o,e=.returned o∧RPv w' o false (val 18446744073709551616 C.xl) (val 18446744073709551616 C.yl)∧Ext w w':=by
 obtain ⟨Ap,An,Ab,Ax,Ay,cp,cn,cb,cx,cy,rfl,hP,hN,hB,hX1,hY1⟩:=hc
 obtain ⟨W0,hW0⟩:=eW ((w.alloc (.cells #[.slice Ap (digs 4294967296 C.M).length cp,.slice An (digs 4294967296 (val 18446744073709551616 C.nl)).length cn,.slice Ab (digs 4294967296 C.bb).length cb,.slice Ax (digs 4294967296 (val 18446744073709551616 C.xl)).length cx,.slice Ay (digs 4294967296 (val 18446744073709551616 C.yl)).length cy,.int .i64 (C.size:Int)] 73)).alloc (.cells #[.bool false,.slice none 0 0,.slice none 0 0] 32))
 obtain ⟨q,hq⟩:=eV w.heap.size
 have hE0:Ext w W0:=by rw [hW0];exact (zR _ _).trans (zR _ _)
 obtain ⟨hcb,hrb,hz0⟩:=kW w (.cells #[.slice Ap (digs 4294967296 C.M).length cp,.slice An (digs 4294967296 (val 18446744073709551616 C.nl)).length cn,.slice Ab (digs 4294967296 C.bb).length cb,.slice Ax (digs 4294967296 (val 18446744073709551616 C.xl)).length cx,.slice Ay (digs 4294967296 (val 18446744073709551616 C.yl)).length cy,.int .i64 (C.size:Int)] 73) (.cells #[.bool false,.slice none 0 0,.slice none 0 0] 32)
 rw [←hW0,hq] at hcb hrb hz0
 have c3:=zH hcb 3
 have c4:=zH hcb 4
 simp only [zI,zJ,zL] at c3 c4
 have HX:=zF (zb hX1 hE0)
 have HY:=zF (zb hY1 hE0)
 have HE0:=zF hE0
 clear hP hN hB hX1 hY1 hE0 hz0 hcb
 go_enter Tryz.func40,Tryz.ntmps40
 go_upto_region 1 with fail
 rw [←hW0]
 have Hq:=zF hq
 clear hW0 hq
 refine zX 5 [0,1,0,4,15,31] [] (fun j f X=>match j with
  | 0=>f 0=.pointer (some ⟨q,3,none⟩)
  | 1=>f 1=.slice Ax (digs 4294967296 (val 18446744073709551616 C.xl)).length cx
  | 2=>f 2=.pointer (some ⟨q,4,none⟩)
  | 3=>f 3=.slice Ay (digs 4294967296 (val 18446744073709551616 C.yl)).length cy
  | 4=>f 4=.agg #[.bool false,.slice Ax (digs 4294967296 (val 18446744073709551616 C.xl)).length cx,.slice Ay (digs 4294967296 (val 18446744073709551616 C.yl)).length cy]
  | _=>True) (by kernel_rfl) [(3,0),(4,1),(5,2),(6,3),(7,4)] (by kernel_rfl) ?_
 refine zT 1 4 ?_
 refine qG 2 3 0 c3 ?_
 refine zT 3 2 ?_
 refine qG 4 1 2 c4 ?_
 refine vv 5 0 1 3 ?_
 refine yF ⟨fun f X hX hR hal hap=>?_⟩
 have e4:f 4=_:=hR 4 (by decide)
 simp only [yZ,e4]
 clear hR hal hap e4
 refine zZ (fun K hK=>⟨zc (by kernel_rfl) (qo (cs':=#[.bool false,.slice Ax (digs 4294967296 (val 18446744073709551616 C.xl)).length cx,.slice Ay (digs 4294967296 (val 18446744073709551616 C.yl)).length cy]) (t:=32) 32 (.tmp 2) (.tmp 7) rfl rfl rfl rfl (hX.at_ hrb) uP rfl (vO _ _ _ _ _ _ _) (fun Y hY1 hY2 hY3=>hK.out _ _ ?_))⟩)
 refine zK ?_
 go_wp2
 exact yq rfl rfl rfl hY1 ⟨_,rfl,⟨_,_,_,_,rfl,(zb HX.out hX).offJ hY2 (hX.at_ hrb) (by kernel_rfl),(zb HY.out hX).offJ hY2 (hX.at_ hrb) (by kernel_rfl)⟩,hY2.ext (HE0.out.trans hX) (by have:=Hq.out;omega)⟩
theorem ris_n {p r:Value} {bi bj:Bool} {a b:List Nat} {u v:Nat} (w:World) (hp:APn w p bi a b) (hr:RPv w r bj u v):Calls Tryz.prog 18 #[p,r] w fun e w'=>e=.returned (.bool (bi==bj && decide (a=digs 18446744073709551616 u) && decide (b=digs 18446744073709551616 v)))∧Ext w w':=by
 obtain ⟨A,A',c,c',rfl,ha,hb⟩:=hp
 obtain ⟨B,B',k,k',rfl,hu,hv⟩:=hr
 obtain ⟨W0,hW0⟩:=eW ((w.alloc (.cells #[.bool bi,.slice A a.length c,.slice A' b.length c'] 29)).alloc (.cells #[.bool bj,.slice B (digs 4294967296 u).length k,.slice B' (digs 4294967296 v).length k'] 32))
 obtain ⟨q,hq⟩:=eV w.heap.size
 have hE0:Ext w W0:=by rw [hW0];exact (zR _ _).trans (zR _ _)
 obtain ⟨h1,h2,hz0⟩:=kW w (.cells #[.bool bi,.slice A a.length c,.slice A' b.length c'] 29) (.cells #[.bool bj,.slice B (digs 4294967296 u).length k,.slice B' (digs 4294967296 v).length k'] 32)
 rw [←hW0,hq] at h1 h2 hz0
 have p0:=zH h1 0
 have p1:=zH h1 1
 have p2:=zH h1 2
 have r0:=zH h2 0
 have r1:=zH h2 1
 have r2:=zH h2 2
 simp only [zI,zJ,zL] at p0 p1 p2 r0 r1 r2
 have Ha:=zF (zb ha hE0)
 have Hb:=zF (zb hb hE0)
 have Hu:=zF (zb hu hE0)
 have Hv:=zF (zb hv hE0)
 have HE0:=zF hE0
 obtain ⟨z1,hz1⟩:∃ z,decide (a=digs 18446744073709551616 u)=z:=⟨_,rfl⟩
 obtain ⟨z2,hz2⟩:∃ z,decide (b=digs 18446744073709551616 v)=z:=⟨_,rfl⟩
 rw [hz1,hz2]
 have Hz1:=zF hz1
 have Hz2:=zF hz2
 obtain ⟨z0,hz⟩:∃ z,(bi==bj)=z:=⟨_,rfl⟩
 rw [hz]
 have hbeq:(bi==bj)=z0:=hz
 have Hz:=zF hz
 clear ha hb hu hv hE0 hz0 h1 h2 hz1 hz2 hz
 cases z0
 case false =>
  go_enter Tryz.func18,Tryz.ntmps18
  go_upto_region 1 with fail
  rw [←hW0]
  have Hq:=zF hq
  clear hW0 hq
  refine zX 20 [0,1,0,4,15,31,63,127,63,319,1023,2047,4095,8191,16383,8191,40959,131071,262143,524287] [] (fun j f X=>match j with
   | 0=>f 0=.pointer (some ⟨q,0,none⟩)
   | 1=>f 1=.bool bi
   | 2=>f 2=.pointer (some ⟨q+1,0,none⟩)
   | 3=>f 3=.bool bj
   | 4=>f 4=.bool false
   | 5=>f 5=.bool false
   | 6=>f 6=undef
   | 7=>f 7=undef
   | 8=>f 8=undef
   | 9=>f 9=undef
   | 10=>f 10=undef
   | 11=>f 11=.bool false
   | 12=>f 12=.bool false
   | 13=>f 13=undef
   | 14=>f 14=undef
   | 15=>f 15=undef
   | 16=>f 16=undef
   | 17=>f 17=undef
   | 18=>f 18=.bool false
   | 19=>f 19=.bool false
   | _=>True) (by kernel_rfl) [(5,0),(6,1),(7,2),(8,3),(9,4),(10,5),(11,6),(12,7),(13,8),(14,9),(15,10),(16,11),(17,12),(18,13),(19,14),(20,15),(21,16),(22,17),(23,18),(4,19)] (by kernel_rfl) ?_
  refine zT 1 19 ?_
  refine qG 2 18 0 p0 ?_
  refine zT 3 17 ?_
  refine qG 4 16 2 r0 ?_
  refine zt 5 15 [(5,0),(6,1),(7,2),(8,3)] (fun f X hX hR K hK=>?_) ?_
  · have e1:f 1=_:=hR.out 1 rfl
    have e3:f 3=_:=hR.out 3 rfl
    have hbe:=Hz.out
    simp only [yZ,e1,e3]
    refine ⟨?_⟩
    go_simp
    exact qe hK (s:=by simp only [yZ,e1,e3])
  refine qL 6 14 4 ?_
  refine jl 7 13 5 ?_
  refine jl 8 12 5 ?_
  refine jl 9 11 5 ?_
  refine jl 10 10 5 ?_
  refine jl 11 9 5 ?_
  refine vv 12 8 5 10 ?_
  refine qL 13 7 11 ?_
  refine jl 14 6 12 ?_
  refine jl 15 5 12 ?_
  refine jl 16 4 12 ?_
  refine jl 17 3 12 ?_
  refine jl 18 2 12 ?_
  refine vv 19 1 12 17 ?_
  refine qL 20 0 18 ?_
  refine yF ⟨fun f X hX hR hal hap=>?_⟩
  have e19:f 19=_:=hR 19 (by decide)
  simp only [yZ,e19]
  clear hR hal hap e19
  refine zK ?_
  go_wp2
  go_ret
  exact ⟨rfl,HE0.out.trans hX⟩
 case true =>
  cases z1
  case false =>
   go_enter Tryz.func18,Tryz.ntmps18
   go_upto_region 1 with fail
   rw [←hW0]
   have Hq:=zF hq
   clear hW0 hq
   refine zX 20 [0,1,0,4,15,31,63,127,63,319,1023,2047,4095,8191,16383,8191,40959,131071,262143,524287] [] (fun j f X=>match j with
    | 0=>f 0=.pointer (some ⟨q,0,none⟩)
    | 1=>f 1=.bool bi
    | 2=>f 2=.pointer (some ⟨q+1,0,none⟩)
    | 3=>f 3=.bool bj
    | 4=>f 4=.bool true
    | 5=>f 5=.bool true
    | 6=>f 6=.pointer (some ⟨q,1,none⟩)
    | 7=>f 7=.slice A a.length c
    | 8=>f 8=.pointer (some ⟨q+1,1,none⟩)
    | 9=>f 9=.slice B (digs 4294967296 u).length k
    | 10=>f 10=.bool false
    | 11=>f 11=.bool false
    | 12=>f 12=.bool false
    | 13=>f 13=undef
    | 14=>f 14=undef
    | 15=>f 15=undef
    | 16=>f 16=undef
    | 17=>f 17=undef
    | 18=>f 18=.bool false
    | 19=>f 19=.bool false
    | _=>True) (by kernel_rfl) [(5,0),(6,1),(7,2),(8,3),(9,4),(10,5),(11,6),(12,7),(13,8),(14,9),(15,10),(16,11),(17,12),(18,13),(19,14),(20,15),(21,16),(22,17),(23,18),(4,19)] (by kernel_rfl) ?_
   refine zT 1 19 ?_
   refine qG 2 18 0 p0 ?_
   refine zT 3 17 ?_
   refine qG 4 16 2 r0 ?_
   refine zt 5 15 [(5,0),(6,1),(7,2),(8,3)] (fun f X hX hR K hK=>?_) ?_
   · have e1:f 1=_:=hR.out 1 rfl
     have e3:f 3=_:=hR.out 3 rfl
     have hbe:=Hz.out
     simp only [yZ,e1,e3]
     refine ⟨?_⟩
     go_simp
     exact qe hK (s:=by simp only [yZ,e1,e3])
   refine qL 6 14 4 ?_
   refine qL 7 13 5 ?_
   refine zt 8 12 [(5,0),(6,1),(7,2),(8,3),(9,4),(10,5),(11,6),(13,8),(14,9)] (fun f X hX hR K hK=>?_) ?_
   · have e5:f 5=_:=hR.out 5 rfl
     have e6:f 6=_:=hR.out 6 rfl
     have x0:=hX.cell p1
     simp only [yZ,e5,e6]
     refine ⟨zc (by kernel_rfl) ?_⟩
     go_simp
     exact qe hK (s:=by simp only [yZ,e5,e6])
   refine qL 9 11 5 ?_
   refine zt 10 10 [(5,0),(6,1),(7,2),(8,3),(9,4),(10,5),(11,6),(12,7),(13,8)] (fun f X hX hR K hK=>?_) ?_
   · have e5:f 5=_:=hR.out 5 rfl
     have e8:f 8=_:=hR.out 8 rfl
     have x0:=hX.cell r1
     simp only [yZ,e5,e8]
     refine ⟨zc (by kernel_rfl) ?_⟩
     go_simp
     exact qe hK (s:=by simp only [yZ,e5,e8])
   refine Par.c1 11 9 5 (fun f=>#[f 7,f 9]) (F':=16) (fun f X hX hR=>?_) ?_
   · have e7:f 7=_:=hR.out 7 rfl
     have e9:f 9=_:=hR.out 9 rfl
     simp only [e7,e9]
     refine (fM _ _ A B c k a u X (zb Ha.out hX) (zb Hu.out hX) (fun _ h=>h) (fun _ h=>h)).mono ?_
     rw [Hz1.out]
     rintro e w2 ⟨rfl,hB⟩
     exact ⟨_,rfl,hB,fun _ _=>rfl⟩
   refine vv 12 8 5 10 ?_
   refine qL 13 7 11 ?_
   refine jl 14 6 12 ?_
   refine jl 15 5 12 ?_
   refine jl 16 4 12 ?_
   refine jl 17 3 12 ?_
   refine jl 18 2 12 ?_
   refine vv 19 1 12 17 ?_
   refine qL 20 0 18 ?_
   refine yF ⟨fun f X hX hR hal hap=>?_⟩
   have e19:f 19=_:=hR 19 (by decide)
   simp only [yZ,e19]
   clear hR hal hap e19
   refine zK ?_
   go_wp2
   go_ret
   exact ⟨rfl,HE0.out.trans hX⟩
  case true =>
   go_enter Tryz.func18,Tryz.ntmps18
   go_upto_region 1 with fail
   rw [←hW0]
   have Hq:=zF hq
   clear hW0 hq
   refine zX 20 [0,1,0,4,15,31,63,127,63,319,1023,2047,4095,8191,16383,8191,40959,131071,262143,524287] [] (fun j f X=>match j with
    | 0=>f 0=.pointer (some ⟨q,0,none⟩)
    | 1=>f 1=.bool bi
    | 2=>f 2=.pointer (some ⟨q+1,0,none⟩)
    | 3=>f 3=.bool bj
    | 4=>f 4=.bool true
    | 5=>f 5=.bool true
    | 6=>f 6=.pointer (some ⟨q,1,none⟩)
    | 7=>f 7=.slice A a.length c
    | 8=>f 8=.pointer (some ⟨q+1,1,none⟩)
    | 9=>f 9=.slice B (digs 4294967296 u).length k
    | 10=>f 10=.bool true
    | 11=>f 11=.bool true
    | 12=>f 12=.bool true
    | 13=>f 13=.pointer (some ⟨q,2,none⟩)
    | 14=>f 14=.slice A' b.length c'
    | 15=>f 15=.pointer (some ⟨q+1,2,none⟩)
    | 16=>f 16=.slice B' (digs 4294967296 v).length k'
    | 17=>f 17=.bool z2
    | 18=>f 18=.bool z2
    | 19=>f 19=.bool z2
    | _=>True) (by kernel_rfl) [(5,0),(6,1),(7,2),(8,3),(9,4),(10,5),(11,6),(12,7),(13,8),(14,9),(15,10),(16,11),(17,12),(18,13),(19,14),(20,15),(21,16),(22,17),(23,18),(4,19)] (by kernel_rfl) ?_
   refine zT 1 19 ?_
   refine qG 2 18 0 p0 ?_
   refine zT 3 17 ?_
   refine qG 4 16 2 r0 ?_
   refine zt 5 15 [(5,0),(6,1),(7,2),(8,3)] (fun f X hX hR K hK=>?_) ?_
   · have e1:f 1=_:=hR.out 1 rfl
     have e3:f 3=_:=hR.out 3 rfl
     have hbe:=Hz.out
     simp only [yZ,e1,e3]
     refine ⟨?_⟩
     go_simp
     exact qe hK (s:=by simp only [yZ,e1,e3])
   refine qL 6 14 4 ?_
   refine qL 7 13 5 ?_
   refine zt 8 12 [(5,0),(6,1),(7,2),(8,3),(9,4),(10,5),(11,6),(13,8),(14,9)] (fun f X hX hR K hK=>?_) ?_
   · have e5:f 5=_:=hR.out 5 rfl
     have e6:f 6=_:=hR.out 6 rfl
     have x0:=hX.cell p1
     simp only [yZ,e5,e6]
     refine ⟨zc (by kernel_rfl) ?_⟩
     go_simp
     exact qe hK (s:=by simp only [yZ,e5,e6])
   refine qL 9 11 5 ?_
   refine zt 10 10 [(5,0),(6,1),(7,2),(8,3),(9,4),(10,5),(11,6),(12,7),(13,8)] (fun f X hX hR K hK=>?_) ?_
   · have e5:f 5=_:=hR.out 5 rfl
     have e8:f 8=_:=hR.out 8 rfl
     have x0:=hX.cell r1
     simp only [yZ,e5,e8]
     refine ⟨zc (by kernel_rfl) ?_⟩
     go_simp
     exact qe hK (s:=by simp only [yZ,e5,e8])
   refine Par.c1 11 9 5 (fun f=>#[f 7,f 9]) (F':=16) (fun f X hX hR=>?_) ?_
   · have e7:f 7=_:=hR.out 7 rfl
     have e9:f 9=_:=hR.out 9 rfl
     simp only [e7,e9]
     refine (fM _ _ A B c k a u X (zb Ha.out hX) (zb Hu.out hX) (fun _ h=>h) (fun _ h=>h)).mono ?_
     rw [Hz1.out]
     rintro e w2 ⟨rfl,hB⟩
     exact ⟨_,rfl,hB,fun _ _=>rfl⟩
   refine vv 12 8 5 10 ?_
   refine qL 13 7 11 ?_
   refine qL 14 6 12 ?_
   refine zt 15 5 [(5,0),(6,1),(7,2),(8,3),(9,4),(10,5),(11,6),(12,7),(13,8),(14,9),(15,10),(16,11),(17,12),(18,13),(20,15),(21,16)] (fun f X hX hR K hK=>?_) ?_
   · have e12:f 12=_:=hR.out 12 rfl
     have e13:f 13=_:=hR.out 13 rfl
     have x0:=hX.cell p2
     simp only [yZ,e12,e13]
     refine ⟨zc (by kernel_rfl) ?_⟩
     go_simp
     exact qe hK (s:=by simp only [yZ,e12,e13])
   refine qL 16 4 12 ?_
   refine zt 17 3 [(5,0),(6,1),(7,2),(8,3),(9,4),(10,5),(11,6),(12,7),(13,8),(14,9),(15,10),(16,11),(17,12),(18,13),(19,14),(20,15)] (fun f X hX hR K hK=>?_) ?_
   · have e12:f 12=_:=hR.out 12 rfl
     have e15:f 15=_:=hR.out 15 rfl
     have x0:=hX.cell r2
     simp only [yZ,e12,e15]
     refine ⟨zc (by kernel_rfl) ?_⟩
     go_simp
     exact qe hK (s:=by simp only [yZ,e12,e15])
   refine Par.c1 18 2 12 (fun f=>#[f 14,f 16]) (F':=16) (fun f X hX hR=>?_) ?_
   · have e14:f 14=_:=hR.out 14 rfl
     have e16:f 16=_:=hR.out 16 rfl
     simp only [e14,e16]
     refine (fM _ _ A' B' c' k' b v X (zb Hb.out hX) (zb Hv.out hX) (fun _ h=>h) (fun _ h=>h)).mono ?_
     rw [Hz2.out]
     rintro e w2 ⟨rfl,hB⟩
     exact ⟨_,rfl,hB,fun _ _=>rfl⟩
   refine vv 19 1 12 17 ?_
   refine qL 20 0 18 ?_
   refine yF ⟨fun f X hX hR hal hap=>?_⟩
   have e19:f 19=_:=hR 19 (by decide)
   simp only [yZ,e19]
   clear hR hal hap e19
   refine zK ?_
   go_wp2
   go_ret
   exact ⟨rfl,HE0.out.trans hX⟩
def IsU (c:Int) (C:Crv):Prop:=IsC c C∨(c≠1∧c≠2∧C=c0)
structure Crv.Norm (C:Crv):Prop where
 p:digs 18446744073709551616 C.M=C.pl
 n:digs 18446744073709551616 (val 18446744073709551616 C.nl)=C.nl
 x:digs 18446744073709551616 (val 18446744073709551616 C.xl)=C.xl
 y:digs 18446744073709551616 (val 18446744073709551616 C.yl)=C.yl
def Crv.inf (C:Crv):Bool:=C.size==0
theorem IsC.inf {c:Int} {C:Crv} (h:IsC c C):C.inf=false:=by
 rcases h with ⟨_,rfl⟩ | ⟨_,rfl⟩ <;> rfl
theorem nK {c:Int} {C:Crv} (h:IsU c C) (w:World):Calls Tryz.prog 37 #[.int .i64 c] w fun e w'=>∃ v,e=.returned v∧RC w' C v∧Ext w w':=by
 rcases h with h | ⟨h1,h2,rfl⟩
 · exact bF h w
 · exact uo h1 h2 w
theorem sf {c:Int} {C:Crv} (h:IsU c C) (w:World):Calls Tryz.prog 138 #[.int .i64 c] w fun e w'=>∃ A cc,e=.returned (.slice A C.nl.length cc)∧RU w' A cc C.nl∧Ext w w':=by
 rcases h with h | ⟨h1,h2,rfl⟩
 · exact sg h w
 · exact (oG h1 h2 w).mono fun e w' ⟨h,hE⟩=>⟨none,0,h,RN.nil_ _ _,hE⟩
def z85:Array Value:=Array.replicate 288 (.int .u64 0)
theorem tG:(Tryz.prog.info? 178).map (·.size)=some 288:=by kernel_rfl
theorem pC:z85.size=288:=by kernel_rfl
def JRow (C:Crv) (X:World) (b i:Nat) (p:Nat×Nat×Nat):Prop:=∃ x y z,X.rangeAt b (18*i) (nts (x++y++z))∧FJ C.M C.n x y z p.1 p.2.1 p.2.2
structure vN (C:Crv) (X:World) (b:Nat) (t:Nat→Nat×Nat×Nat) (n:Nat):Prop where
 blk:∃ cs:Array Value,X.heap[b]?=some (.cells cs 178 (0,0))∧cs.size=288
 row:∀ i,i<n→JRow C X b i (t i)
section
variable {C:Crv} {X Y:World} {b n:Nat} {t:Nat→Nat×Nat×Nat}
theorem vN.lt (h:vN C X b t n):b<X.heap.size:=by
 obtain ⟨cs,hb,_⟩:=h.blk
 exact ql hb
theorem vN.same (h:vN C X b t n) (hb:Y.heap[b]?=X.heap[b]?):vN C Y b t n:=by
 obtain ⟨cs,h1,h2⟩:=h.blk
 refine ⟨⟨cs,hb.trans h1,h2⟩,fun i hi=>?_⟩
 obtain ⟨x,y,z,hr,hf⟩:=h.row i hi
 exact ⟨x,y,z,fun j v hv=>(zS hb).trans (hr j v hv),hf⟩
theorem vN.ext (h:vN C X b t n) (hE:Ext X Y):vN C Y b t n:=h.same (Below.block hE b h.lt)
theorem vN.just {g:Nat} (h:vN C X b t n) (hj:kD g X Y) (hg:b≠g):vN C Y b t n:=h.same (hj.block b h.lt hg)
theorem aU {x y z:List Nat} {M m:Nat} {p:Nat×Nat×Nat} (h:FJ M m x y z p.1 p.2.1 p.2.2):(nts (x++y++z)).length=18:=by
 rw [qX,zk,zk,h.x.elt.six,h.y.elt.six,h.z.elt.six]
theorem fR {op:Oper} {a:Act} {K:Act→World→Prop} {Q:Exit→Act→World→Prop} (x:Operand) (ho:op.op=.load 176 x) {i:Nat} (h:vN C X b t n) (hi:i<n) {o:Nat} (hoi:18*i=o) (hx:a.eval x=.pointer (some ⟨b,o,none⟩)) (hK:∀ v,JAt C v (t i)→K (a.put op.dst v) X):op.wp Tryz.prog a X K Q:=by
 obtain ⟨lx,ly,lz,hr,hf⟩:=h.row i hi
 subst hoi
 exact wp_load_mid 176 x ho b (18*i) hx _ _ hr Tryz.underlying176 rfl (by rw [aU hf];exact uQ) (hK _ ⟨lx,ly,lz,rfl,hf⟩)
theorem nJ {T:TypeId} (b:Nat):∀ (vs:List Value) (o:Nat) (X:World) (cs:Array Value),X.heap[b]?=some (.cells cs T (0,0))→∃ ds:Array Value,(X.setCells b o vs).heap[b]?=some (.cells ds T (0,0))∧ds.size=cs.size
  | [],_,X,cs,h=>⟨cs,h,rfl⟩
  | v :: vs, o, X, cs, h => by
    obtain ⟨ds,h1,h2⟩:=nJ b vs (o+1) (X.setCell ⟨b,o,none⟩ v) _ (jf h o v)
    exact ⟨ds,h1,by rw [h2];simp⟩
theorem ug (b:Nat):∀ (vs:List Value) (o:Nat) (X:World),kD b X (X.setCells b o vs)∧(X.setCells b o vs).heap.size=X.heap.size
  | [],_,X=>⟨kD.refl b X,rfl⟩
  | v :: vs, o, X => by
    obtain ⟨h1,h2⟩:=ug b vs (o+1) (X.setCell ⟨b,o,none⟩ v)
    exact ⟨((kD.refl b X).set o v).trans h1,h2.trans (by simp [World.setCell])⟩
theorem ns {op:Oper} {a:Act} {K:Act→World→Prop} {Q:Exit→Act→World→Prop} (x y:Operand) (ho:op.op=.store 176 x y) (hd:op.dst=none) (h:vN C X b t n) (hn:n<16) {v:Value} (hv:JAt C v (t n)) {o:Nat} (hoi:18*n=o) (hx:a.eval x=.pointer (some ⟨b,o,none⟩)) (hy:a.eval y=v)
 (hK:∀ Y,vN C Y b t (n+1)→kD b X Y→Y.heap.size=X.heap.size→K a Y):op.wp Tryz.prog a X K Q:=by
 obtain ⟨lx,ly,lz,rfl,hf⟩:=hv
 obtain ⟨cs,hb,hs⟩:=h.blk
 subst hoi
 have hl:=aU hf
 have ht:X.there b (18*n) (nts (lx++ly++lz)).toArray.size:=fun j hj=>by
  rw [jL,hl] at hj
  refine ⟨?_,zp hb _⟩
  rw [zH hb]
  simp [hs]
  omega
 refine wp_store_mid 176 x y ho b (18*n) _ hx hy ht (by rw [jL,hl];exact uQ) (bU _) ?_
 rw [hd]
 obtain ⟨h1,h2⟩:=ug b (nts (lx++ly++lz)) (18*n) X
 refine hK _ ⟨?_,fun i hi=>?_⟩ h1 h2
 · obtain ⟨ds,h3,h4⟩:=nJ b (nts (lx++ly++lz)) (18*n) X cs hb
   exact ⟨ds,h3,h4.trans hs⟩
 · rcases qB i n with hlt | hge
   · obtain ⟨mx,my,mz,hr,hg⟩:=h.row i hlt
     exact ⟨mx,my,mz,World.rangeAt_setCells_apart hr _ _ _ (.inr (.inl (by rw [aU hg];omega))),hg⟩
   · obtain rfl:i=n:=by omega
     exact ⟨lx,ly,lz,World.rangeAt_setCells_same _ _ _ _ (by rwa [jL] at ht),hf⟩
end
theorem six3 {l:List Nat} (h:l.length=18):∃ a0 a1 a2 a3 a4 a5 a6 a7 a8 a9 b0 b1 b2 b3 b4 b5 b6 b7,l=[a0,a1,a2,a3,a4,a5,a6,a7,a8,a9,b0,b1,b2,b3,b4,b5,b6,b7]:=by
 match l,h with
 | [a0,a1,a2,a3,a4,a5,a6,a7,a8,a9,b0,b1,b2,b3,b4,b5,b6,b7],_=>exact ⟨_,_,_,_,_,_,_,_,_,_,_,_,_,_,_,_,_,_,rfl⟩
theorem nj {x y:List Nat} (hx:x.length=18) (hy:y.length=18):Tryz.prog.built 178 [(0,.agg (nts x).toArray),(1,.agg (nts y).toArray)]=some (nts (x++y++List.replicate 252 0)).toArray:=by
 obtain ⟨a0,a1,a2,a3,a4,a5,a6,a7,a8,a9,b0,b1,b2,b3,b4,b5,b6,b7,rfl⟩:=six3 hx
 obtain ⟨c0,c1,c2,c3,c4,c5,c6,c7,c8,c9,d0,d1,d2,d3,d4,d5,d6,d7,rfl⟩:=six3 hy
 kernel_rfl
theorem mK {C:Crv} {op:Oper} {a:Act} {X:World} {K:Act→World→Prop} {Q:Exit→Act→World→Prop} (p q:Operand) (ho:op.op=.build 178 #[(0,p),(1,q)]) {v u:Value} {x y:Nat×Nat×Nat} (hp:a.eval p=v) (hq:a.eval q=u) (hv:JAt C v x) (hu:JAt C u y)
 (hK:∀ cs:Array Value,cs.size=288→cs.all (·.oneCell')=true→(∀ W b,W.heap[b]?=some (.cells cs 178 (0,0))→∀ t:Nat→Nat×Nat×Nat,t 0=x→t 1=y→vN C W b t 2)→K (a.put op.dst (.agg cs)) X):op.wp Tryz.prog a X K Q:=by
 obtain ⟨x1,x2,x3,rfl,hf⟩:=hv
 obtain ⟨y1,y2,y3,rfl,hg⟩:=hu
 have hlx:(x1++x2++x3).length=18:=by have:=aU hf;rwa [qX] at this
 have hly:(y1++y2++y3).length=18:=by have:=aU hg;rwa [qX] at this
 have hb:(#[(0,p),(1,q)].map fun (i,x)=>(i,a.eval x)).toList=[(0,.agg (nts (x1++x2++x3)).toArray),(1,.agg (nts (y1++y2++y3)).toArray)]:=by simp [hp,hq,JV]
 have hs:(x1++x2++x3++(y1++y2++y3)++List.replicate 252 0).length=288:=by rw [zk,zk,hlx,hly,List.length_replicate]
 refine wp_build 178 #[(0,p),(1,q)] ho (by rw [hb,nj hlx hly];rfl) ?_
 rw [hb,nj hlx hly,wh]
 refine hK _ (by rw [jL,qX,hs]) (bU _) fun W b h t h0 h1=>⟨⟨_,h,by rw [jL,qX,hs]⟩,fun i hi=>?_⟩
 have key:∀ pre l post:List Nat,x1++x2++x3++(y1++y2++y3)++List.replicate 252 0=pre++l++post→W.rangeAt b pre.length (nts l):=fun pre l post e j v hv=>by
  rw [zH h,e,zI,yg,yg,kH,List.getElem?_append_right (by rw [qX];omega),qX,Nat.add_sub_cancel_left,List.getElem?_append_left,hv]
  exact (List.getElem?_eq_some_iff.1 hv).1
 rcases (show i=0∨i=1 by omega) with rfl | rfl
 · rw [h0]
   exact ⟨x1,x2,x3,by have:=key [] (x1++x2++x3) _ (by rw [List.nil_append,kH]);simpa using this,hf⟩
 · rw [h1]
   exact ⟨y1,y2,y3,by have:=key (x1++x2++x3) (y1++y2++y3) _ rfl;rwa [hlx] at this,hg⟩
theorem oE {X:World} {base b:Nat} {v:Value} {o:Option (Nat×Nat)} (h:PtV X base v o):∃ x0 x1 x2,v=.agg #[x0,x1,x2]∧(#[x0,x1,x2]:Array Value).all (·.oneCell')=true∧∀ Y,kD b X Y→(∃ cs,X.heap[b]?=some (.cells cs 29 (0,0)))→PtV Y base v o:=by
  cases o with
  | none=>cases h;exact ⟨_,_,_,rfl,vO _ _ _ _ _ _ _,fun _ _ _=>rfl⟩
  | some p =>
    obtain ⟨A,c,A',c',rfl,h1,h2⟩:=h
    exact ⟨_,_,_,rfl,vO _ _ _ _ _ _ _,fun Y hj ⟨cs,hb⟩=>⟨A,c,A',c',rfl,h1.just hj hb (by decide),h2.just hj hb (by decide)⟩⟩
end Go.Proofs.YtmlbicgpehchhaaGreat
namespace Go.Proofs.YtmlbicgpehchhaaGreat
open Go.RowKit Go.Shelf
attribute [local go_sem] Oper.semAt_some
def sK (M:Nat) (p:Nat×Nat×Nat):Nat→Nat×Nat×Nat
 | 0=>(1,1,0)
 | 1=>p
 | k+2=>bV M (sK M p (k+1)) p
def vg (M:Nat) (p:Nat×Nat×Nat) (E:Nat):Nat→(Nat×Nat×Nat)×Nat
 | 0=>((1,1,0),0)
 | k+1=>if (kC E k).1 % 4=0 then (bV M (dR M (vg M p E k).1) (sK M p (2*(vg M p E k).2+(kC E k).2)),0) else (dR M (vg M p E k).1,2*(vg M p E k).2+(kC E k).2)
def dd (C:Crv) (bi:Bool) (x y E:Nat):Option (Option (Nat×Nat)):=if onQ C bi x y=true then (if qa E≤4096 then some (cW C.M (vg C.M (upP bi x y) E (qa E)).1) else none) else none
theorem nN {X:World} {b:Nat} {u:Value} {T:TypeId} (h:X.heap[b]?=some (.cells #[u] T (0,0))) (v:Value):(X.setCell ⟨b,0,none⟩ v).heap[b]?=some (.cells #[v] T (0,0))∧kD b X (X.setCell ⟨b,0,none⟩ v) :=
 ⟨by simpa using jf h 0 v,(kD.refl b X).set 0 v⟩
def uD (C:Crv) (X:World) (b:Nat) (p:Nat×Nat×Nat):Prop:=∃ x y z,jk X b x y z∧FJ C.M C.n x y z p.1 p.2.1 p.2.2
theorem jk.lt' {X:World} {b:Nat} {x y z:List Nat} (h:jk X b x y z):b<X.heap.size:=ql h
theorem uD.ext {C:Crv} {X Y:World} {b:Nat} {p:Nat×Nat×Nat} (h:uD C X b p) (hE:Ext X Y):uD C Y b p:=let ⟨x,y,z,h1,h2⟩:=h;⟨x,y,z,hE.at_ h1,h2⟩
theorem rX (M:Nat) (p:Nat×Nat×Nat) (E:Nat):∀ k,k<qa E→(vg M p E k).2*2 ^ ((qa E - 1 - k) % 4)<8
 | 0,_=>by rw [show (vg M p E 0).2=0 from rfl];omega
 | k+1,h=>by
  have ih:=rX M p E k (by omega)
  have hb:(kC E k).2<2:=qS _ (by omega)
  have hi:(kC E k).1=qa E - 1 - k:=rfl
  simp only [vg]
  split
  · simp
  · rename_i hne
    rw [hi] at hne
    obtain ⟨i,hi'⟩:=eV (qa E - 1 - k)
    rw [hi'] at ih hne
    rw [show qa E - 1 - (k+1)=i - 1 by omega]
    have hr:i % 4=1∨i % 4=2∨i % 4=3:=by omega
    show (2*(vg M p E k).2+(kC E k).2)*_<8
    rcases hr with hr | hr | hr
    · rw [hr] at ih
      rw [show (i - 1) % 4=0 by omega]
      omega
    · rw [hr] at ih
      rw [show (i - 1) % 4=1 by omega]
      omega
    · rw [hr] at ih
      rw [show (i - 1) % 4=2 by omega]
      omega
theorem tL {M:Nat} {p:Nat×Nat×Nat} {E k:Nat} (h:k<qa E):(vg M p E k).2<8:=jc (Nat.le_mul_of_pos_right _ (qN (by omega))) (rX M p E k h)
theorem zAI {fn:Func} {tm:Array Value} {W:World} {p u:Tmp} {g:Nat} {ty:TypeId} {fr:Nat×Nat} {x0 x1 x2 v:Value} (hr:fn.results=#[.cell p 29,.tmp u]) (hp:tm.getD p undef=.pointer (some ⟨g,0,none⟩)) (hu:tm.getD u undef=v)
 (hg:W.heap[g]?=some (.cells #[x0,x1,x2] ty fr)):(results fn tm).run Tryz.prog W=.ok (.tuple #[.agg #[x0,x1,x2],v]) W:=by
 rw [results_cell_tmp hr,hp]
 have h1:(asAddr (.pointer (some ⟨g,0,none⟩)):Sem Addr).run Tryz.prog W=.ok ⟨g,0,none⟩ W:=rfl
 rw [h1,qk,run_loadVar_row W g ty 29 #[x0,x1,x2] fr _ hg Tryz.underlying29 rfl vG,qk,hu]
theorem uD.just {C:Crv} {X Y:World} {b g:Nat} {p:Nat×Nat×Nat} (h:uD C X b p) (hj:kD g X Y) (hb:b≠g):uD C Y b p:=let ⟨x,y,z,h1,h2⟩:=h;⟨x,y,z,hj.at_ hb h1,h2⟩
theorem OB.put {X:World} {base D:Nat} {A:Option Addr} {c:Nat} {l:List Nat} {o o':Obj} (h:OB X base A c l) (hD:X.heap[D]?=some o) (hc:o.isCells=false):OB (X.putObj D o') base A c l:=by
 obtain ⟨h1,h2,h3,h4⟩:=h
 refine ⟨h1,h2,h3,fun hl=>?_⟩
 obtain ⟨g,cur,e,hg,hgc,hr⟩:=h4 hl
 refine ⟨g,cur,e,hg,(jG (fun e=>?_)).trans hgc,hr⟩
 subst e
 rw [hD] at hgc
 cases hgc
 cases hc
theorem PtV.put {X:World} {base D:Nat} {v:Value} {p:Option (Nat×Nat)} {o':Obj} (h:PtV X base v p) (hD:X.heap[D]?=some (.deferred (some []))):PtV (X.putObj D o') base v p:=by
 cases p with
 | none=>exact h
 | some p =>
  obtain ⟨A,c,A',c',rfl,h1,h2⟩:=h
  exact ⟨A,c,A',c',rfl,h1.put hD rfl,h2.put hD rfl⟩
structure MK (n0 t bo be:Nat) (w3 V Z:World):Prop where
 keeps:jR n0 (n0+2) 0 V Z
 stay:xg t n0 V Z
 below:Below bo w3 Z
 tab:Z.heap[be]?=V.heap[be]?
 size:n0≤Z.heap.size
theorem MK.ext {n0 t bo be:Nat} {w3 V Z Z':World} (h:MK n0 t bo be w3 V Z) (hE:Ext Z Z') (hbe:be<n0) (hbo:bo≤n0):MK n0 t bo be w3 V Z' :=
 ⟨h.keeps.trans (jR.below hE (zG _)),xg.trans h.stay (hE.stay h.size),h.below.trans (Below.mono hE (by have:=h.size;omega)),(Below.block hE be (by have:=h.size;omega)).trans h.tab,zU h.size hE.bsize⟩
theorem MK.just {n0 t bo be g:Nat} {w3 V Z Z':World} {cs:Array Value} {T:TypeId} {fr:Nat×Nat} (h:MK n0 t bo be w3 V Z) (hj:kD g Z Z') (hg:Z.heap[g]?=some (.cells cs T fr)) (hgt:g<t) (hgb:bo≤g) (hne:be≠g) (hbe:be<n0) (hbo:bo≤n0):MK n0 t bo be w3 V Z' :=
 ⟨h.keeps.trans (jR.just hj hg),xg.trans h.stay (hj.stay hgt h.size),h.below.trans (hj.below hgb (by have:=h.size;omega)),(hj.block be (by have:=h.size;omega) hne).trans h.tab,zU h.size hj.size⟩
theorem uD.below {C:Crv} {X Y:World} {b B:Nat} {p:Nat×Nat×Nat} (h:uD C X b p) (hB:Below B X Y) (hb:b<B):uD C Y b p:=let ⟨x,y,z,h1,h2⟩:=h;⟨x,y,z,(hB.block b hb).trans h1,h2⟩
theorem mul_c {c:Int} {C:Crv} (hC:IsC c C) {p:Value} {bi:Bool} {x y E:Nat} {An:Option Addr} {cn:Nat} {n:List Nat} (w:World) (hp:APt w p bi x y) (hn:RU w An cn n) (hE:val 18446744073709551616 n=E) :
 Calls Tryz.prog 100 #[.int .i64 c,.slice An n.length cn,p] w fun e w'=>∃ o,e=.returned (.tuple #[o,.bool (dd C bi x y E).isSome])∧PtV w' w.heap.size o (dd C bi x y E).join∧Ext w w':=by
 obtain ⟨A,A',ca,cb,a,b,rfl,ha,hb,hx,hy⟩:=hp
 have hp:APt w (.agg #[.bool bi,.slice A a.length ca,.slice A' b.length cb]) bi x y:=⟨A,A',ca,cb,a,b,rfl,ha,hb,hx,hy⟩
 obtain ⟨W0,hW0⟩:=eW ((w.alloc (.cells #[.bool bi,.slice A a.length ca,.slice A' b.length cb] 29)).alloc (.cells #[.bool false,.slice none 0 0,.slice none 0 0] 29))
 obtain ⟨q,hq⟩:=eV w.heap.size
 have hE0:Ext w W0:=by rw [hW0];exact (zR _ _).trans (zR _ _)
 obtain ⟨h1,h3,hz0⟩:=kW w (.cells #[.bool bi,.slice A a.length ca,.slice A' b.length cb] 29) (.cells #[.bool false,.slice none 0 0,.slice none 0 0] 29)
 rw [←hW0,hq] at h1 h3 hz0
 have hp0:=zF (hp.ext hE0)
 have HE0:=zF hE0
 have Hz0:=zF hz0
 have HC:=zF hC
 have HN:=zF (zb hn hE0)
 have HE:=zF hE
 rw [hq]
 obtain ⟨res,hres⟩:=eV (dd C bi x y E)
 rw [hres]
 have Hres:=zF hres
 clear hp hE0 hz0 hC hres ha hb hx hy hn hE
 obtain ⟨o1,ho1⟩:=eV (onQ C bi x y)
 have Ho1:=zF ho1
 obtain ⟨nb,hnb⟩:=eV (qa E)
 have Hnb:=zF hnb
 clear ho1 hnb
 cases o1
 case false =>
  obtain rfl:res=none:=by rw [←Hres.out,dd,zr (by rw [Ho1.out];decide)]
  go_enter Tryz.func100,Tryz.ntmps100
  go_upto_region 1 with fail
  rw [←hW0]
  have Hq:=zF hq
  clear hW0 hq
  go_upto_region 2 with (go_at_call 102;refine (ft HC.out _).mono ?_;rintro e wa ⟨k1,rfl,hk1,hE1⟩)
  obtain ⟨b2,hb2⟩:=eV wa.heap.size
  have h2:=zN wa (.cells #[.pointer (some ⟨k1,0,none⟩)] 143)
  have hA:=zR wa (.cells #[.pointer (some ⟨k1,0,none⟩)] 143)
  rw [hb2] at h2
  have hz1:(wa.alloc (.cells #[.pointer (some ⟨k1,0,none⟩)] 143)).heap.size=b2+1:=by rw [zu,hb2]
  generalize hW1:wa.alloc (.cells #[.pointer (some ⟨k1,0,none⟩)] 143)=W1 at *
  rw [hb2]
  have Hk1:=zF (hk1.ext hA)
  have HE1:=zF (hE1.trans hA)
  have Hz1:=zF hz1
  have HB2:=zF (show q+2≤b2 by have:=hE1.bsize;have:=Hz0.out;omega)
  replace h1:=HE1.out.at_ h1
  replace h3:=HE1.out.at_ h3
  have ck:=zH h2 0
  simp only [zI,zJ] at ck
  clear hk1 hE1 hA hz1 hb2 hW1
  refine zX 9 [0,0,3,7,15,31,63,127,255] [] (fun j f X=>match j with
   | 0=>f 0=.pointer (some ⟨k1,0,none⟩)
   | 1=>f 1=.agg #[.bool bi,.slice A a.length ca,.slice A' b.length cb]
   | 2=>f 2=.bool false
   | 3=>f 3=.bool true
   | 4=>f 4=.bool true
   | 5=>f 5=undef
   | 6=>f 6=undef
   | 7=>f 7=undef
   | 8=>f 8=.bool true
   | _=>True) (by kernel_rfl) [(17,0),(18,1),(19,2),(20,3),(21,4),(22,5),(23,6),(24,7),(25,8)] (by kernel_rfl) ?_
  refine Par.ld0 1 8 ck ?_
  refine lV0 2 7 h1 vG ?_
  refine qC 3 6 (fun f=>#[f 0,f 1]) (F':=108) (fun f X hX hR=>?_) ?_
  · have e0:f 0=_:=hR.out 0 rfl
    have e1:f 1=_:=hR.out 1 rfl
    simp only [e0,e1]
    refine (oH (Hk1.out.ext hX) HC.out.fine (hp0.out.ext (HE1.out.trans hX))).mono ?_
    rw [Ho1.out]
    rintro e w2 ⟨rfl,hB⟩
    exact ⟨_,rfl,hB,fun _ _=>rfl⟩
  refine qL 4 5 2 ?_
  refine qL 5 4 3 ?_
  refine jl 6 3 4 ?_
  refine jl 7 2 4 ?_
  refine jl 8 1 4 ?_
  refine vv 9 0 4 7 ?_
  refine yF ⟨fun f X hX hR hal hap=>?_⟩
  have e8:f 8=_:=hR 8 (by decide)
  simp only [yZ,e8]
  clear hR hal hap e8
  refine zK ?_
  have hb1:=hX.at_ h3
  go_wp2_with (go_at_call 113;refine (kt _).mono ?_;rintro e wb ⟨rfl,hE2⟩;have hrb2:=hE2.at_ hb1;obtain ⟨z0,z1,z2,f0,f1,f2⟩:=qc hrb2)
  exact xI rfl rfl rfl rfl (kw hrb2 _ _ _) ⟨_,rfl,rfl,ky (((HE0.out.trans HE1.out).trans hX).trans hE2) (by have:=Hq.out;omega) _ _ _⟩
 case true =>
  by_cases hbits:nb≤4096
  case neg =>
   obtain rfl:res=none:=by rw [←Hres.out,dd,qE Ho1.out,zr (by rw [Hnb.out];exact hbits)]
   have Hgt:=zF (show (4096:Int)<(nb:Int) by omega)
   go_enter Tryz.func100,Tryz.ntmps100
   go_upto_region 1 with fail
   rw [←hW0]
   have Hq:=zF hq
   clear hW0 hq
   go_upto_region 2 with (go_at_call 102;refine (ft HC.out _).mono ?_;rintro e wa ⟨k1,rfl,hk1,hE1⟩)
   obtain ⟨b2,hb2⟩:=eV wa.heap.size
   have h2:=zN wa (.cells #[.pointer (some ⟨k1,0,none⟩)] 143)
   have hA:=zR wa (.cells #[.pointer (some ⟨k1,0,none⟩)] 143)
   rw [hb2] at h2
   have hz1:(wa.alloc (.cells #[.pointer (some ⟨k1,0,none⟩)] 143)).heap.size=b2+1:=by rw [zu,hb2]
   generalize hW1:wa.alloc (.cells #[.pointer (some ⟨k1,0,none⟩)] 143)=W1 at *
   rw [hb2]
   have Hk1:=zF (hk1.ext hA)
   have HE1:=zF (hE1.trans hA)
   have Hz1:=zF hz1
   have HB2:=zF (show q+2≤b2 by have:=hE1.bsize;have:=Hz0.out;omega)
   replace h1:=HE1.out.at_ h1
   replace h3:=HE1.out.at_ h3
   have ck:=zH h2 0
   simp only [zI,zJ] at ck
   clear hk1 hE1 hA hz1 hb2 hW1
   refine zX 9 [0,0,3,7,15,31,63,127,255] [] (fun j f X=>match j with
    | 0=>f 0=.pointer (some ⟨k1,0,none⟩)
    | 1=>f 1=.agg #[.bool bi,.slice A a.length ca,.slice A' b.length cb]
    | 2=>f 2=.bool true
    | 3=>f 3=.bool false
    | 4=>f 4=.bool false
    | 5=>f 5=.slice An n.length cn
    | 6=>f 6=.int .i64 (nb:Int)
    | 7=>f 7=.bool true
    | 8=>f 8=.bool true
    | _=>True) (by kernel_rfl) [(17,0),(18,1),(19,2),(20,3),(21,4),(22,5),(23,6),(24,7),(25,8)] (by kernel_rfl) ?_
   refine Par.ld0 1 8 ck ?_
   refine lV0 2 7 h1 vG ?_
   refine qC 3 6 (fun f=>#[f 0,f 1]) (F':=108) (fun f X hX hR=>?_) ?_
   · have e0:f 0=_:=hR.out 0 rfl
     have e1:f 1=_:=hR.out 1 rfl
     simp only [e0,e1]
     refine (oH (Hk1.out.ext hX) HC.out.fine (hp0.out.ext (HE1.out.trans hX))).mono ?_
     rw [Ho1.out]
     rintro e w2 ⟨rfl,hB⟩
     exact ⟨_,rfl,hB,fun _ _=>rfl⟩
   refine qL 4 5 2 ?_
   refine qL 5 4 3 ?_
   refine qL 6 3 4 ?_
   refine Par.c1 7 2 4 (fun f=>#[f 5]) (F':=84) (fun f X hX hR=>?_) ?_
   · have e5:f 5=_:=hR.out 5 rfl
     simp only [e5]
     refine (xZ _ An cn n X (zb HN.out (HE1.out.trans hX))).mono ?_
     rw [HE.out,Hnb.out]
     rintro e w2 ⟨rfl,rfl⟩
     exact ⟨_,rfl,(zd _),fun _ _=>rfl⟩
   refine zt 8 1 [(17,0),(18,1),(19,2),(20,3),(21,4),(22,5),(23,6)] (fun f X hX hR K hK=>?_) ?_
   · have e4:f 4=_:=hR.out 4 rfl
     have e6:f 6=_:=hR.out 6 rfl
     have hgt:decide ((4096:Int)<(nb:Int))=true:=qi (by have:=Hgt.out;omega)
     have hgn:decide (4096<nb)=true:=qi (by have:=Hgt.out;omega)
     simp only [yZ,e4,e6]
     refine ⟨zc (by kernel_rfl) ?_⟩
     go_simp
     exact qe hK (s:=by simp only [yZ,e4,e6])
   refine vv 9 0 4 7 ?_
   refine yF ⟨fun f X hX hR hal hap=>?_⟩
   have e8:f 8=_:=hR 8 (by decide)
   simp only [yZ,e8]
   clear hR hal hap e8
   refine zK ?_
   have hb1:=hX.at_ h3
   go_wp2_with (go_at_call 113;refine (kt _).mono ?_;rintro e wb ⟨rfl,hE2⟩;have hrb2:=hE2.at_ hb1;obtain ⟨z0,z1,z2,f0,f1,f2⟩:=qc hrb2)
   exact xI rfl rfl rfl rfl (kw hrb2 _ _ _) ⟨_,rfl,rfl,ky (((HE0.out.trans HE1.out).trans hX).trans hE2) (by have:=Hq.out;omega) _ _ _⟩
  case pos =>
   obtain rfl:res=some (cW C.M (vg C.M (upP bi x y) E nb).1):=by rw [←Hres.out,dd,qE Ho1.out,qE (by rw [Hnb.out];exact hbits),Hnb.out]
   have Hgt:=zF (show ¬ (4096:Int)<(nb:Int) by omega)
   refine (callsIn_wide (n:=6)).1 ?_
   refine callsIn_of_wp_marks Tryz.func100 rfl trivial ?_ rfl
   simp only [Tryz.ntmps100,jL,jA,List.length_nil,Nat.reduceAdd,Nat.reduceSub,Array.replicate_succ,Array.replicate_zero,List.push_toArray,List.append_toArray,List.nil_append,List.cons_append]
   refine wpIn_wide.2 ?_
   go_upto_region 1 with fail
   rw [←hW0]
   have Hq:=zF hq
   clear hW0 hq
   go_upto_region 2 with (go_at_call 102;refine (ft HC.out _).mono ?_;rintro e wa ⟨k1,rfl,hk1,hE1⟩)
   obtain ⟨b2,hb2⟩:=eV wa.heap.size
   have h2:=zN wa (.cells #[.pointer (some ⟨k1,0,none⟩)] 143)
   have hA:=zR wa (.cells #[.pointer (some ⟨k1,0,none⟩)] 143)
   rw [hb2] at h2
   have hz1:(wa.alloc (.cells #[.pointer (some ⟨k1,0,none⟩)] 143)).heap.size=b2+1:=by rw [zu,hb2]
   generalize hW1:wa.alloc (.cells #[.pointer (some ⟨k1,0,none⟩)] 143)=W1 at *
   rw [hb2]
   have Hk1:=zF (hk1.ext hA)
   have HE1:=zF (hE1.trans hA)
   have Hz1:=zF hz1
   have HB2:=zF (show q+2≤b2 by have:=hE1.bsize;have:=Hz0.out;omega)
   replace h1:=HE1.out.at_ h1
   replace h3:=HE1.out.at_ h3
   have ck:=zH h2 0
   simp only [zI,zJ] at ck
   clear hk1 hE1 hA hz1 hb2 hW1
   refine zX 9 [0,0,3,7,15,31,63,127,255] [] (fun j f X=>match j with
    | 0=>f 0=.pointer (some ⟨k1,0,none⟩)
    | 1=>f 1=.agg #[.bool bi,.slice A a.length ca,.slice A' b.length cb]
    | 2=>f 2=.bool true
    | 3=>f 3=.bool false
    | 4=>f 4=.bool false
    | 5=>f 5=.slice An n.length cn
    | 6=>f 6=.int .i64 (nb:Int)
    | 7=>f 7=.bool false
    | 8=>f 8=.bool false
    | _=>True) (by kernel_rfl) [(17,0),(18,1),(19,2),(20,3),(21,4),(22,5),(23,6),(24,7),(25,8)] (by kernel_rfl) ?_
   refine Par.ld0 1 8 ck ?_
   refine lV0 2 7 h1 vG ?_
   refine qC 3 6 (fun f=>#[f 0,f 1]) (F':=108) (fun f X hX hR=>?_) ?_
   · have e0:f 0=_:=hR.out 0 rfl
     have e1:f 1=_:=hR.out 1 rfl
     simp only [e0,e1]
     refine (oH (Hk1.out.ext hX) HC.out.fine (hp0.out.ext (HE1.out.trans hX))).mono ?_
     rw [Ho1.out]
     rintro e w2 ⟨rfl,hB⟩
     exact ⟨_,rfl,hB,fun _ _=>rfl⟩
   refine qL 4 5 2 ?_
   refine qL 5 4 3 ?_
   refine qL 6 3 4 ?_
   refine Par.c1 7 2 4 (fun f=>#[f 5]) (F':=84) (fun f X hX hR=>?_) ?_
   · have e5:f 5=_:=hR.out 5 rfl
     simp only [e5]
     refine (xZ _ An cn n X (zb HN.out (HE1.out.trans hX))).mono ?_
     rw [HE.out,Hnb.out]
     rintro e w2 ⟨rfl,rfl⟩
     exact ⟨_,rfl,(zd _),fun _ _=>rfl⟩
   refine zt 8 1 [(17,0),(18,1),(19,2),(20,3),(21,4),(22,5),(23,6)] (fun f X hX hR K hK=>?_) ?_
   · have e4:f 4=_:=hR.out 4 rfl
     have e6:f 6=_:=hR.out 6 rfl
     have hgt:decide ((4096:Int)<(nb:Int))=false:=qp (by have:=Hgt.out;omega)
     have hgn:decide (4096<nb)=false:=qp (by have:=Hgt.out;omega)
     simp only [yZ,e4,e6]
     refine ⟨zc (by kernel_rfl) ?_⟩
     go_simp
     exact qe hK (s:=by simp only [yZ,e4,e6])
   refine vv 9 0 4 7 ?_
   refine yF ⟨fun f X hX hR hal hap=>?_⟩
   have e8:f 8=_:=hR 8 (by decide)
   simp only [yZ,e8]
   clear hR hal hap e8
   refine zK ?_
   have HX:=zF hX
   rename World=>X2
   replace ck:=hX.cell ck
   replace h1:=hX.at_ h1
   replace h3:=hX.at_ h3
   clear hX h2
   go_upto_region 4 with fail
   obtain ⟨pt,hpt⟩:=eV (sK C.M (upP bi x y))
   have ht0:pt 0=(1,1,0):=by rw [←hpt];rfl
   have ht1:pt 1=upP bi x y:=by rw [←hpt];rfl
   have hts:∀ k,1≤k→pt (k+1)=bV C.M (pt k) (pt 1):=by
    intro k hk
    obtain ⟨k,rfl⟩:∃ m,k=m+1:=⟨k - 1,by omega⟩
    rw [←hpt]
    rfl
   have Hpt:=zF hpt
   have Ht0:=zF ht0
   have Ht1:=zF ht1
   have Hts:=zF hts
   clear hpt ht0 ht1 hts
   refine zj (by kernel_rfl) 4 [0,0,3,0,15] [3] (fun j f X=>match j with
    | 0=>f 0=.pointer (some ⟨k1,0,none⟩)
    | 1=>f 1=vu
    | 2=>∃ v,f 2=v∧JAt C v (1,1,0)
    | 3=>∃ b,f 3=.pointer (some ⟨b,0,none⟩)∧X2.heap.size≤b∧X.heap[b]?=some (.cells #[.int .u64 0,.int .u64 0,.int .u64 0,.int .u64 0,.int .u64 0,.int .u64 0,.int .u64 0,.int .u64 0,.int .u64 0,.int .u64 0,.int .u64 0,.int .u64 0,.int .u64 0,.int .u64 0,.int .u64 0,.int .u64 0,.int .u64 0,.int .u64 0] 176 (0,0))
    | _=>True) (by kernel_rfl) [(27,0),(28,1),(29,2),(9,3)] (by kernel_rfl) ?_
   refine Par.ld0 1 3 ck ?_
   refine qC 2 2 (fun _=>#[]) (F':=113) (fun f X hX hR=>?_) ?_
   · refine (kt X).mono ?_
     rintro e w2 ⟨rfl,hB⟩
     exact ⟨vu,rfl,hB,fun _ _=>rfl⟩
   refine qC 3 1 (fun f=>#[f 0,f 1]) (F':=139) (fun f X hX hR=>?_) ?_
   · have e0:f 0=_:=hR.out 0 rfl
     have e1:f 1=_:=hR.out 1 rfl
     simp only [e0,e1]
     refine (up_j (Hk1.out.ext (HX.out.trans hX)) (APt.inf_ X) rfl).mono ?_
     rintro e w2 ⟨o,rfl,hj,hB⟩
     exact ⟨_,rfl,hB,fun _ _=>⟨_,rfl,hj⟩⟩
   refine ju 4 0 ?_
   refine yF ⟨fun f X hX hR hal hap=>?_⟩
   obtain ⟨v2,(e2:f 2=_),j2⟩:=hR 2 (by decide)
   obtain ⟨bo3,(e3:f 3=_),lo3,ho3⟩:=hR 3 (by decide)
   simp only [yZ,e2,e3]
   clear hR hal hap e2 e3
   obtain ⟨ox,oy,oz,ev,hf⟩:=j2
   subst ev
   refine zZ (fun K hK=>⟨zc (by kernel_rfl) (ke (x:=ox) (y:=oy) (z:=oz) (.tmp 9) (.tmp 29) rfl rfl rfl rfl ho3 rfl hf.x.elt.six hf.y.elt.six hf.z.elt.six (fun Y hY1 hY2 hY3=>hK.out _ _ ?_))⟩)
   refine zK ?_
   have hXY:=hY2.ext hX lo3
   have hbo:q+2≤bo3:=by have:=HX.out.bsize;have:=HE1.out.bsize;have:=Hz0.out;omega
   have hJo:uD C Y bo3 (pt 0):=⟨ox,oy,oz,hY1,by rw [Ht0.out];exact hf⟩
   replace ck:=hXY.cell ck
   replace h1:=hXY.at_ h1
   replace h3:=hXY.at_ h3
   have HXY:=zF (HX.out.trans hXY)
   have lo:=zU HX.out.bsize lo3
   have zY:bo3<Y.heap.size:=hY1.lt'
   clear hX hY1 hY2 hY3 ho3 lo3 hf hXY
   rename World=>V4
   go_upto_region 5 with fail
   refine zj (by kernel_rfl) 6 [0,0,0,6,15,0,63] [5] (fun j f X=>match j with
    | 0=>∃ v,f 0=v∧JAt C v (pt 0)
    | 1=>f 1=.pointer (some ⟨k1,0,none⟩)
    | 2=>f 2=.agg #[.bool bi,.slice A a.length ca,.slice A' b.length cb]
    | 3=>∃ v,f 3=v∧JAt C v (pt 1)
    | 4=>∃ cs:Array Value,f 4=.agg cs∧cs.size=288∧cs.all (·.oneCell')=true∧(∀ (W:World) (b:Nat),W.heap[b]?=some (.cells cs 178 (0,0))→vN C W b pt 2)
    | 5=>∃ b,f 5=.pointer (some ⟨b,0,none⟩)∧V4.heap.size≤b∧X.heap[b]?=some (.cells z85 178 (0,0))
    | _=>True) (by kernel_rfl) [(30,0),(31,1),(32,2),(33,3),(34,4),(10,5)] (by kernel_rfl) ?_
   refine zt 1 5 [(31,1),(32,2),(33,3),(10,5)] (fun f X hX hR K hK=>?_) ?_
   · obtain ⟨jx,jy,jz,hjb,hjf⟩:=hJo.ext hX
     simp only [yZ]
     refine ⟨jg (v:=JV jx jy jz) (t:=176) 176 (.tmp 9) rfl rfl hjb Tryz.underlying176 rfl (by rw [hjf.sz];exact uQ) rfl ?_⟩
     exact hK.out _ (JV jx jy jz) _ (by simp only [yZ]) (zd _) trivial (fun _ _=>⟨_,rfl,⟨jx,jy,jz,rfl,hjf⟩⟩)
   refine Par.ld0 2 4 ck ?_
   refine lV0 3 3 h1 vG ?_
   refine qC 4 2 (fun f=>#[f 1,f 2]) (F':=139) (fun f X hX hR=>?_) ?_
   · have e1:f 1=_:=hR.out 1 rfl
     have e2:f 2=_:=hR.out 2 rfl
     simp only [e1,e2]
     refine (up_j (Hk1.out.ext (HXY.out.trans hX)) (hp0.out.ext ((HE1.out.trans HXY.out).trans hX)) Ho1.out).mono ?_
     rintro e w2 ⟨o,rfl,hj,hB⟩
     exact ⟨o,rfl,hB,fun _ _=>⟨_,rfl,by rw [Ht1.out];exact hj⟩⟩
   refine zt 5 1 [(30,0),(31,1),(32,2),(33,3),(10,5)] (fun f X hX hR K hK=>?_) ?_
   · obtain ⟨v0,(e0:f 0=_),j0⟩:=hR.out 0 rfl
     obtain ⟨v3,(e3:f 3=_),j3⟩:=hR.out 3 rfl
     simp only [yZ,e0,e3]
     refine ⟨mK (.tmp 30) (.tmp 33) rfl rfl rfl j0 j3 (fun cs h1 h2 h3=>?_)⟩
     exact hK.out _ (.agg cs) _ (by simp only [yZ,e0,e3]) (zd _) trivial (fun _ _=>⟨cs,rfl,h1,h2,fun W b hb=>h3 W b hb pt rfl rfl⟩)
   refine ju 6 0 ?_
   refine yF ⟨fun f X hX hR hal hap=>?_⟩
   obtain ⟨v0,(e0:f 0=_),j0⟩:=hR 0 (by decide)
   obtain ⟨v3,(e3:f 3=_),j3⟩:=hR 3 (by decide)
   obtain ⟨cs,(e4:f 4=_),hs4,ho4,ht4⟩:=hR 4 (by decide)
   obtain ⟨be5,(e5:f 5=_),le5,he5⟩:=hR 5 (by decide)
   simp only [yZ,e0,e3,e4,e5]
   clear hR hal hap e0 e3 e4 e5
   refine zZ (fun K hK=>⟨zc (by kernel_rfl) (qo (cs':=cs) (t:=178) 178 (.tmp 10) (.tmp 34) rfl rfl rfl rfl he5 (by rw [hs4];exact tG) (by rw [hs4,pC]) ho4 (fun Y hY1 hY2 hY3=>hK.out _ _ ?_))⟩)
   refine zK ?_
   have hT2:vN C Y be5 pt 2:=ht4 Y be5 hY1
   have hXZ:=hY2.ext hX le5
   have zE:be5<Y.heap.size:=ql hY1
   have zoe:bo3<be5:=by omega
   have HXZ:=zF (HXY.out.trans hXZ)
   replace ck:=hXZ.cell ck
   replace hJo:=hJo.ext hXZ
   replace h3:=hXZ.at_ h3
   clear hX hY1 hY2 hY3 he5 le5 hXZ j0 j3 ht4 hs4 ho4 h1 zY HXY
   rename World=>V5
   have hb2o:b2<bo3:=by have:=Hz1.out;omega
   go_wp2
   go_loopw [11] (fun iv wr=>∃ k:Nat,iv=.int .i64 (k:Int)∧2≤k∧k≤16∧vN C wr be5 pt k∧Below be5 V5 wr) (fun iv _=>(16 - intOf iv).toNat)
   case atStart=>exact ⟨2,by go_num,by omega,by omega,hT2,zQ _ _⟩
   case round =>
    obtain ⟨k,rfl,hk2,hk16,hT,hB⟩:=hrel
    by_cases hlt:k<16
    · obtain ⟨m,hm⟩:∃ m,k=m+1:=⟨k - 1,by omega⟩
      have e1:(k:Int) - 1=(m:Int):=by omega
      have k1':(k:Int)<16:=by omega
      have k2':(m:Int)<16:=by omega
      have ckr:=(hB.cell (p:=⟨b2,0,none⟩) (by show b2<be5;omega)).trans ck
      have HEr:=zF (show Ext W1 wr from kU HXZ.out (Below.mono hB (by have:=Hz1.out;omega)))
      have hsz:=hT.lt
      have Hpk:=zF (show pt k=bV C.M (pt m) (pt 1) by rw [hm];exact Hts.out m (by omega))
      clear hm
      go_upto_region 9 with fail
      refine zj (by kernel_rfl) 10 [0,0,0,4,12,28,0,64,254,511,1023] [] (fun j f X=>match j with
       | 0=>f 0=.int .i64 (k:Int)
       | 1=>f 1=.pointer (some ⟨k1,0,none⟩)
       | 2=>f 2=.int .i64 (k:Int)
       | 3=>f 3=.int .i64 (m:Int)
       | 4=>f 4=.pointer (some ⟨be5,m*18,none⟩)
       | 5=>∃ v,f 5=v∧JAt C v (pt m)
       | 6=>f 6=.pointer (some ⟨be5,18,none⟩)
       | 7=>∃ v,f 7=v∧JAt C v (pt 1)
       | 8=>∃ v,f 8=v∧JAt C v (pt k)
       | 9=>f 9=.pointer (some ⟨be5,k*18,none⟩)
       | _=>True) (by kernel_rfl) [(39,0),(40,1),(41,2),(42,3),(43,4),(44,5),(45,6),(46,7),(47,8),(48,9)] (by kernel_rfl) ?_
      refine zT 1 9 ?_
      refine Par.ld0 2 8 ckr ?_
      refine zT 3 7 ?_
      refine zt 4 6 [(39,0),(40,1),(41,2),(45,6),(46,7)] (fun f X hX hR K hK=>?_) ?_
      · have e2:f 2=_:=hR.out 2 rfl
        have ew:IntKind.i64.wrap (m:Int)=(m:Int):=wE _ (by omega)
        simp only [yZ,e2]
        refine ⟨?_⟩
        go_simp
        exact qe hK (s:=by simp only [yZ,e2])
      refine zt 5 5 [(39,0),(40,1),(41,2),(42,3),(45,6),(46,7)] (fun f X hX hR K hK=>?_) ?_
      · have e3:f 3=_:=hR.out 3 rfl
        simp only [yZ,e3]
        refine ⟨?_⟩
        go_simp
        exact qe hK (s:=by simp only [yZ,e3])
      refine zt 6 4 [(39,0),(40,1),(41,2),(42,3),(43,4),(45,6),(46,7)] (fun f X hX hR K hK=>?_) ?_
      · have e4:f 4=_:=hR.out 4 rfl
        simp only [yZ,e4]
        refine ⟨fR (.tmp 43) rfl (hT.ext hX) (i:=m) (by omega) (zh _ _) rfl (fun v hv=>?_)⟩
        exact hK.out _ v _ (by simp only [yZ,e4]) (zd _) trivial (fun _ _=>⟨_,rfl,hv⟩)
      refine zT 7 3 ?_
      refine zt 8 2 [(39,0),(40,1),(41,2),(42,3),(43,4),(44,5),(45,6)] (fun f X hX hR K hK=>?_) ?_
      · have e6:f 6=_:=hR.out 6 rfl
        simp only [yZ,e6]
        refine ⟨fR (.tmp 45) rfl (hT.ext hX) (i:=1) (by omega) rfl rfl (fun v hv=>?_)⟩
        exact hK.out _ v _ (by simp only [yZ,e6]) (zd _) trivial (fun _ _=>⟨_,rfl,hv⟩)
      refine qC 9 1 (fun f=>#[f 1,f 5,f 7]) (F':=140) (fun f X hX hR=>?_) ?_
      · have e1:f 1=_:=hR.out 1 rfl
        obtain ⟨v5,(e5:f 5=_),j5⟩:=hR.out 5 rfl
        obtain ⟨v7,(e7:f 7=_),j7⟩:=hR.out 7 rfl
        simp only [e1,e5,e7]
        refine (tj (Hk1.out.ext (HEr.out.trans hX)) j5 j7).mono ?_
        rintro e w2 ⟨o,rfl,hj,hB⟩
        exact ⟨o,rfl,hB,fun _ _=>⟨_,rfl,by rw [Hpk.out];exact hj⟩⟩
      refine zt 10 0 [(39,0),(40,1),(41,2),(42,3),(43,4),(44,5),(45,6),(46,7),(47,8)] (fun f X hX hR K hK=>?_) ?_
      · have e0:f 0=_:=hR.out 0 rfl
        simp only [yZ,e0]
        refine ⟨?_⟩
        go_simp
        exact qe hK (s:=by simp only [yZ,e0])
      refine yF ⟨fun f X hX hR hal hap=>?_⟩
      obtain ⟨v5,(e5:f 5=_),j5⟩:=hR 5 (by decide)
      obtain ⟨v7,(e7:f 7=_),j7⟩:=hR 7 (by decide)
      obtain ⟨v8,(e8:f 8=_),j8⟩:=hR 8 (by decide)
      have e9:f 9=_:=hR 9 (by decide)
      simp only [yZ,e5,e7,e8,e9]
      clear hR hal hap e5 e7 e8 e9
      refine zZ (fun K hK=>⟨ns (.tmp 48) (.tmp 47) rfl rfl (hT.ext hX) hlt j8 (zh _ _) rfl rfl (fun Y hY1 hY2 hY3=>hK.out _ _ ?_)⟩)
      refine zK ?_
      have hBY:Below be5 V5 Y:=(hB.trans (Below.mono hX (by omega))).trans (hY2.below (zG _) (by have:=hX.bsize;omega))
      have HBY:=zF hBY
      have HTY:=zF hY1
      have hkw:IntKind.i64.wrap ((k:Int)+1)=(k:Int)+1:=wE _ (by omega)
      clear hX hY1 hY2 hY3 j5 j7 j8 hBY hT hB ckr
      go_wp2
      go_roundw
      case rel=>exact ⟨k+1,by go_num,by omega,by omega,HTY.out,HBY.out⟩
      case measure=>simp [intOf];omega
    · have hkk:k=16:=by omega
      rw [show (k:Int)=16 by omega]
      rw [hkk] at hT
      have k1':¬ (16:Int)<16:=by omega
      clear hlt hk2 hk16 hkk
      have HT:=zF hT
      have HBr:=zF hB
      have hJr:uD C wr bo3 (pt 0):=hJo.below hB zoe
      have h3r:=(hB.block (q+1) (by omega)).trans h3
      have ckr:=(hB.cell (p:=⟨b2,0,none⟩) (by show b2<be5;omega)).trans ck
      clear hT hB hJo h3 ck
      have HEr:=zF (show Ext W1 wr from kU HXZ.out (Below.mono HBr.out (by have:=Hz1.out;omega)))
      obtain ⟨bd,hbd⟩:=eV wr.heap.size
      have d0:=zN wr (.cells #[.int .u64 0] 135)
      have hA6:=zR wr (.cells #[.int .u64 0] 135)
      rw [hbd] at d0
      have hz6:(wr.alloc (.cells #[.int .u64 0] 135)).heap.size=bd+1:=by rw [zu,hbd]
      have zbe:be5<bd:=by have:=HT.out.lt;omega
      go_upto_region 11 with fail
      generalize hW6:wr.alloc (.cells #[.int .u64 0] 135)=W6 at *
      replace ckr:=hA6.cell ckr
      replace h3r:=hA6.at_ h3r
      replace hJr:=hJr.ext hA6
      have HT6:=zF (HT.out.ext hA6)
      have HE6:=zF (HEr.out.trans hA6)
      have heach:=ak _ An cn n W6 (zb HN.out (HE1.out.trans HE6.out)) (fun b hb=>hb)
      rw [HE.out,hz6] at heach
      have Heach:=zF heach
      have hW6z:=zF hz6
      clear heach hA6 hbd hz6 hW6 HT HBr HEr
      go_wp2_with (go_at_call 141;refine Heach.out.mono ?_;rintro e' w3 ⟨Ae',ce',rfl,be,hOe,hB3⟩)
      obtain ⟨t,ht⟩:=eV (bd+1)
      rw [ht] at be hOe hB3
      rw [ht]
      have hbdt:bd<t:=by omega
      have hbot:bo3<t:=by omega
      have zn:t<w3.heap.size:=ql be
      have hbe:=zH be 0
      simp only [zI,zJ] at hbe
      have hseq:=aj t t w3.heap.size (In t w3.heap.size) Ae' ce' (digs 18446744073709551616 E) w3 (fun b hb=>hb) (zG _) zn (zG _) hbe hOe.rn
      rw [z7 (by omega),Hnb.out] at hseq
      have Hseq:=zF hseq
      have hE3:Ext W6 w3:=by rw [←ht,←hW6z.out] at hB3;exact hB3
      have HE3:=zF (HE6.out.trans hE3)
      have c3:=hE3.cell ckr
      have hJ3:=hJr.ext hE3
      have hT3:=HT6.out.ext hE3
      have hd3:=hE3.at_ d0
      have h33:=hE3.at_ h3r
      clear hseq Heach hbe be hOe hB3 hE3 ckr hJr d0 h3r HT6 ht
      have hI0:uD C w3 bo3 (vg C.M (upP bi x y) E 0).1:=by rw [show (vg C.M (upP bi x y) E 0).1=pt 0 by rw [Ht0.out];rfl];exact hJ3
      have hInv:OwnFrom w3.heap.size (fun (k:Nat) X=>uD C X bo3 (vg C.M (upP bi x y) E k).1∧X.heap[bd]?=some (.cells #[.int .u64 ((vg C.M (upP bi x y) E k).2:Int)] 135 (0,0))∧vN C X be5 pt 16∧Below bo3 w3 X):=by
       rintro k X X' row ⟨⟨jx,jy,jz,g1,g2⟩,g3,g4,g5⟩ hg' hr
       have hr':=fun r e=>(hr r e).2
       obtain ⟨cs',g6,g7⟩:=g4.blk
       exact ⟨⟨jx,jy,jz,(grownBy_keeps_cells hg' hr' g1 rfl).trans g1,g2⟩,(grownBy_keeps_cells hg' hr' g3 rfl).trans g3,g4.same (grownBy_keeps_cells hg' hr' g6 rfl),ownFrom_below (by omega) (by omega) k X X' row g5 hg' hr⟩
      refine (wpIn_wide (n:=6)).1 ?_
      refine' dj (by omega) (gf:=179) (lb:=#[.pointer (some ⟨t,0,none⟩)]) rfl (enters_of Tryz.func179 (by kernel_rfl) rfl)
       Hseq.out (fun h k=>xg.trans h k) (fun X l o o' hl ho _ _=>⟨by simp,fun i _ hi=>jG (by omega)⟩) uw (zQ _ _) (fun _=>rfl)
       (fun k X=>uD C X bo3 (vg C.M (upP bi x y) E k).1∧X.heap[bd]?=some (.cells #[.int .u64 ((vg C.M (upP bi x y) E k).2:Int)] 135 (0,0))∧vN C X be5 pt 16∧Below bo3 w3 X) (fun k X=>uD C X bo3 (vg C.M (upP bi x y) E k).1∧X.heap[bd]?=some (.cells #[.int .u64 ((vg C.M (upP bi x y) E k).2:Int)] 135 (0,0))∧vN C X be5 pt 16∧Below bo3 w3 X) (fun _ _ _=>False)
       hInv hInv (fun _ _ _ _ _ h=>h.elim) (fun _ _ _ _=>trivial) (fun B k A C' _ _ hi ht=>?hIT) (fun h=>by cases h) ⟨hI0,hd3,hT3,zQ _ _⟩ _ ?assign ?body ?done ?stop
      case hIT=>exact ui (I:=fun k X=>uD C X bo3 (vg C.M (upP bi x y) E k).1∧X.heap[bd]?=some (.cells #[.int .u64 ((vg C.M (upP bi x y) E k).2:Int)] 135 (0,0))∧vN C X be5 pt 16∧Below bo3 w3 X) (B:=w3.heap.size) hInv hi ht
      case assign =>
       intro l k X K hK
       gi_wp2
       exact hK
      case body =>
       rintro l k V ⟨⟨jx,jy,jz,hjb,hjf⟩,hdV,hTV,h5⟩ hlt _
       have zV:=h5.size
       have hd8:=tL (M:=C.M) (p:=upP bi x y) (E:=E) (k:=k) (by rw [Hnb.out];exact hlt)
       have hstep:vg C.M (upP bi x y) E (k+1)=if (kC E k).1 % 4=0 then (bV C.M (dR C.M (vg C.M (upP bi x y) E k).1) (sK C.M (upP bi x y) (2*(vg C.M (upP bi x y) E k).2+(kC E k).2)),0) else (dR C.M (vg C.M (upP bi x y) E k).1,2*(vg C.M (upP bi x y) E k).2+(kC E k).2):=rfl
       rw [Hpt.out] at hstep
       have hb2':(kC E k).2<2:=qS _ (by omega)
       have hi1:(kC E k).1≤4096:=by show qa E - 1 - k≤4096;rw [Hnb.out];omega
       obtain ⟨so,hso⟩:=eV ((vg C.M (upP bi x y) E k).1)
       obtain ⟨d,hd⟩:=eV ((vg C.M (upP bi x y) E k).2)
       obtain ⟨bt,hbt⟩:=eV ((kC E k).2)
       obtain ⟨ii,hii⟩:=eV ((kC E k).1)
       obtain ⟨d2,hd2⟩:=eV (2*d+bt)
       rw [hso,hd,hbt,hii,hd2] at hstep
       rw [hso] at hjf
       rw [hd] at hdV hd8
       rw [hbt] at hb2'
       rw [hii] at hi1
       rw [hbt,hii]
       have Hstep:=zF hstep
       have Hd2:=zF hd2
       have HEV:=zF (show Ext W1 V from kU HE3.out (Below.mono h5 lo))
       have hd16:d2<16:=by omega
       have hM0:MK w3.heap.size t bo3 be5 w3 V V:=⟨jR.refl _ _ _ _,xg.refl _ _ _,h5,rfl,zV⟩
       have HM0:=zF hM0
       have Hjf:=zF hjf
       have HTV:=zF hTV
       have cV:V.cell? ⟨b2,0,none⟩=some (.pointer (some ⟨k1,0,none⟩)):=(h5.cell (p:=⟨b2,0,none⟩) (by show b2<bo3;omega)).trans c3
       clear hstep hd2 hso hd hbt hii hM0 hjf hTV h5
       gi_upto_region 14 with fail
       refine Par.xt 3 [0,0,3,7] [] (fun j f X=>match j with
        | 0=>f 0=.pointer (some ⟨k1,0,none⟩)
        | 1=>f 1=JV jx jy jz
        | 2=>∃ v,f 2=v∧JAt C v (dR C.M so)
        | _=>True) (by kernel_rfl) [(53,0),(54,1),(55,2)] (by kernel_rfl) (by kernel_rfl) ?_
       refine zt 1 2 [(54,1)] (fun f X hX hR K hK=>?_) ?_
       · have x0:=hX.cell cV
         simp only [yZ]
         refine ⟨?_⟩
         go_simp
         exact qe hK (s:=by simp only [yZ])
       refine zt 2 1 [(53,0)] (fun f X hX hR K hK=>?_) ?_
       · simp only [yZ]
         refine ⟨jg (v:=JV jx jy jz) (t:=176) 176 (.tmp 9) rfl rfl (hX.at_ hjb) Tryz.underlying176 rfl (by rw [Hjf.out.sz];exact uQ) rfl ?_⟩
         exact hK.out _ (JV jx jy jz) _ (by simp only [yZ]) (zd _) trivial (fun _ _=>rfl)
       refine zt 3 0 [(53,0),(54,1)] (fun f X hX hR K hK=>?_) ?_
       · have e0:f 0=_:=hR.out 0 rfl
         have e1:f 1=_:=hR.out 1 rfl
         simp only [yZ,e0,e1]
         refine ⟨?_⟩
         go_simp
         refine (rW (Hk1.out.ext (HEV.out.trans hX)) ⟨jx,jy,jz,rfl,Hjf.out⟩).mono ?_
         rintro e w2 ⟨o,rfl,hj,hB⟩
         exact hK.out _ o _ (by simp only [yZ,e0,e1]) hB trivial (fun _ _=>⟨_,rfl,hj⟩)
       refine yF ⟨fun f X hX hR hal hap=>?_⟩
       have e0:f 0=_:=hR 0 (by decide)
       have e1:f 1=_:=hR 1 (by decide)
       obtain ⟨v2,(e2:f 2=_),j2⟩:=hR 2 (by decide)
       simp only [yZ,e0,e1,e2]
       clear hR hal hap e0 e1 e2
       obtain ⟨ox,oy,oz,ev,hf⟩:=j2
       subst ev
       refine zZ (fun K hK=>⟨zc (by kernel_rfl) (ke (x:=ox) (y:=oy) (z:=oz) (.tmp 9) (.tmp 55) rfl rfl rfl rfl (hX.at_ hjb) Hjf.out.sz hf.x.elt.six hf.y.elt.six hf.z.elt.six (fun Y hY1 hY2 hY3=>hK.out _ _ ?_))⟩)
       refine zK ?_
       refine ⟨nofun,?_⟩
       have hM1:=(HM0.out.ext hX (by omega) (by omega)).just hY2 (hX.at_ hjb) (by omega) (zG _) (by omega) (by omega) (by omega)
       have hdY:=hY2.at_ (by omega) (hX.at_ hdV)
       have HM1:=zF hM1
       have HJ1:=zF (show uD C Y bo3 (dR C.M so) from ⟨ox,oy,oz,hY1,hf⟩)
       have HdY:=zF hdY
       have cd:=zH hdY 0
       have fd:=zp hdY 0
       simp only [zI,zJ] at cd
       have hw1:IntKind.u64.wrap (2*(d:Int))=2*(d:Int):=qg _ (by omega)
       have hw2:IntKind.u64.wrap (2*(d:Int)+(bt:Int))=(d2:Int):=by rw [qg _ (by omega)];have:=Hd2.out;omega
       clear hM1 hdY hX hY1 hY2 hY3 hf hjb hdV cV
       gi_upto_region 16 with fail
       obtain ⟨hdV2,hj2⟩:=nN HdY.out (.int .u64 (d2:Int))
       have hM2:=HM1.out.just hj2 HdY.out (by omega) (by omega) (by omega) (by omega) (by omega)
       have hJ2:=HJ1.out.just hj2 (by omega)
       generalize hV2:Y.setCell ⟨bd,0,none⟩ (.int .u64 (d2:Int))=V2 at *
       have HM2:=zF hM2
       have HJ2:=zF hJ2
       have HdV2:=zF hdV2
       clear hM2 hJ2 hj2 hV2 cd fd hw1 hw2
       by_cases hi4:ii % 4=0
       · have hst:vg C.M (upP bi x y) E (k+1)=(bV C.M (dR C.M so) (pt d2),0):=by rw [Hstep.out,qE hi4]
         have Hst:=zF hst
         have hr4:(ii:Int) % 4=0:=by omega
         have hr5:(ii:Int).tmod 4=0:=by rw [IntWalk.rem_in _ _ (by omega)];exact hr4
         have hTV2:=zF (HTV.out.same HM2.out.tab)
         have cV2:V2.cell? ⟨b2,0,none⟩=some (.pointer (some ⟨k1,0,none⟩)):=(HM2.out.below.cell (p:=⟨b2,0,none⟩) (by show b2<bo3;omega)).trans c3
         have cd2:=zH hdV2 0
         simp only [zI,zJ] at cd2
         have HE2:=zF (show Ext W1 V2 from kU HE3.out (Below.mono HM2.out.below lo))
         obtain ⟨mx,my,mz,hmb,hmf⟩:=HJ2.out
         have Hmf:=zF hmf
         clear hst hmf
         gi_upto_region 17 with fail
         clear hr4 hr5
         refine Par.dZ (by kernel_rfl) 6 [0,0,0,4,12,31,63] [] (fun j f X=>match j with
          | 0=>f 0=.pointer (some ⟨k1,0,none⟩)
          | 1=>f 1=JV mx my mz
          | 2=>f 2=.int .u64 (d2:Int)
          | 3=>f 3=.pointer (some ⟨be5,d2*18,none⟩)
          | 4=>∃ v,f 4=v∧JAt C v (pt d2)
          | 5=>∃ v,f 5=v∧JAt C v (bV C.M (dR C.M so) (pt d2))
          | _=>True) (by kernel_rfl) [(63,0),(64,1),(65,2),(66,3),(67,4),(68,5)] (by kernel_rfl) (by kernel_rfl) ?_
         refine zt 1 5 [(64,1),(65,2),(66,3),(67,4)] (fun f X hX hR K hK=>?_) ?_
         · have x0:=hX.cell cV2
           simp only [yZ]
           refine ⟨?_⟩
           go_simp
           exact qe hK (s:=by simp only [yZ])
         refine zt 2 4 [(63,0),(65,2),(66,3),(67,4)] (fun f X hX hR K hK=>?_) ?_
         · simp only [yZ]
           refine ⟨jg (v:=JV mx my mz) (t:=176) 176 (.tmp 9) rfl rfl (hX.at_ hmb) Tryz.underlying176 rfl (by rw [Hmf.out.sz];exact uQ) rfl ?_⟩
           exact hK.out _ (JV mx my mz) _ (by simp only [yZ]) (zd _) trivial (fun _ _=>rfl)
         refine zt 3 3 [(63,0),(64,1)] (fun f X hX hR K hK=>?_) ?_
         · have x0:=hX.cell cd2
           simp only [yZ]
           refine ⟨?_⟩
           go_simp
           exact qe hK (s:=by simp only [yZ])
         refine zt 4 2 [(63,0),(64,1),(65,2)] (fun f X hX hR K hK=>?_) ?_
         · have e2:f 2=_:=hR.out 2 rfl
           have hd17:(d2:Int)<16:=by omega
           simp only [yZ,e2]
           refine ⟨?_⟩
           go_simp
           exact qe hK (s:=by simp only [yZ,e2])
         refine zt 5 1 [(63,0),(64,1),(65,2),(66,3)] (fun f X hX hR K hK=>?_) ?_
         · have e3:f 3=_:=hR.out 3 rfl
           simp only [yZ,e3]
           refine ⟨fR (.tmp 66) rfl (hTV2.out.ext hX) (i:=d2) hd16 (zh _ _) rfl (fun v hv=>?_)⟩
           exact hK.out _ v _ (by simp only [yZ,e3]) (zd _) trivial (fun _ _=>⟨_,rfl,hv⟩)
         refine zt 6 0 [(63,0),(64,1),(65,2),(66,3),(67,4)] (fun f X hX hR K hK=>?_) ?_
         · have e0:f 0=_:=hR.out 0 rfl
           have e1:f 1=_:=hR.out 1 rfl
           obtain ⟨v4,(e4:f 4=_),j4⟩:=hR.out 4 rfl
           simp only [yZ,e0,e1,e4]
           refine ⟨?_⟩
           go_simp
           refine (tj (Hk1.out.ext (HE2.out.trans hX)) ⟨mx,my,mz,rfl,Hmf.out⟩ j4).mono ?_
           rintro e w2 ⟨o,rfl,hj,hB⟩
           exact hK.out _ o _ (by simp only [yZ,e0,e1,e4]) hB trivial (fun _ _=>⟨_,rfl,hj⟩)
         refine yF ⟨fun f X hX hR hal hap=>?_⟩
         have e0:f 0=_:=hR 0 (by decide)
         have e1:f 1=_:=hR 1 (by decide)
         have e2:f 2=_:=hR 2 (by decide)
         have e3:f 3=_:=hR 3 (by decide)
         obtain ⟨v4,(e4:f 4=_),j4⟩:=hR 4 (by decide)
         obtain ⟨v5,(e5:f 5=_),j5⟩:=hR 5 (by decide)
         simp only [yZ,e0,e1,e2,e3,e4,e5]
         clear hR hal hap e0 e1 e2 e3 e4 e5
         obtain ⟨ux,uy,uz,ev,hf⟩:=j5
         subst ev
         refine zZ (fun K hK=>⟨zc (by kernel_rfl) (ke (x:=ux) (y:=uy) (z:=uz) (.tmp 9) (.tmp 68) rfl rfl rfl rfl (hX.at_ hmb) Hmf.out.sz hf.x.elt.six hf.y.elt.six hf.z.elt.six (fun Y hY1 hY2 hY3=>hK.out _ _ ?_))⟩)
         refine zK ?_
         refine ⟨nofun,?_⟩
         have hM3:=(HM2.out.ext hX (by omega) (by omega)).just hY2 (hX.at_ hmb) (by omega) (zG _) (by omega) (by omega) (by omega)
         have hd3':=hY2.at_ (by omega) (hX.at_ hdV2)
         have hJ3':uD C Y bo3 (bV C.M (dR C.M so) (pt d2)):=⟨ux,uy,uz,hY1,hf⟩
         obtain ⟨hd4,hj4⟩:=nN hd3' (.int .u64 0)
         have hM4:=hM3.just hj4 hd3' (by omega) (by omega) (by omega) (by omega) (by omega)
         have hJ4:=hJ3'.just hj4 (by omega)
         have cd:=zH hd3' 0
         have fd:=zp hd3' 0
         simp only [zI,zJ] at cd
         have HM4:=zF hM4
         have HJ4:=zF hJ4
         have Hd4:=zF hd4
         clear hM3 hM4 hJ3' hJ4 hd3' hd4 hj4 hX hY1 hY2 hY3 hf hmb cV2 cd2 hdV2
         gi_wp2
         exact ⟨HM4.out.keeps,HM4.out.stay,by rw [Hst.out];exact HJ4.out,by rw [Hst.out];exact Hd4.out,HTV.out.same HM4.out.tab,HM4.out.below⟩
       · have hst:vg C.M (upP bi x y) E (k+1)=(dR C.M so,d2):=by rw [Hstep.out,zr hi4]
         have Hst:=zF hst
         have hr4:¬ (ii:Int) % 4=0:=by omega
         have hr5:¬ (ii:Int).tmod 4=0:=by rw [IntWalk.rem_in _ _ (by omega)];exact hr4
         clear hst hdV2
         gi_wp2
         exact ⟨HM2.out.keeps,HM2.out.stay,by rw [Hst.out];exact HJ2.out,by rw [Hst.out];exact HdV2.out,HTV.out.same HM2.out.tab,HM2.out.below⟩
      case done =>
       rintro D V hD ⟨⟨jx,jy,jz,hjb,hjf⟩,hdV,hTV,h5⟩ hKD
       have HEV:=zF (show Ext W1 V from kU HE3.out (Below.mono h5 lo))
       have cV:V.cell? ⟨b2,0,none⟩=some (.pointer (some ⟨k1,0,none⟩)):=(h5.cell (p:=⟨b2,0,none⟩) (by show b2<bo3;omega)).trans c3
       have hrV:=(h5.block (q+1) (by omega)).trans h33
       have Hjf:=zF hjf
       have HEX:=zF ((HE0.out.trans HE1.out).trans HEV.out)
       obtain ⟨rs,hrs⟩:=eV ((vg C.M (upP bi x y) E nb).1)
       rw [hrs] at Hjf
       have Hrs:=zF hrs
       clear hjf hTV hdV hrs h5
       go_upto_region 19 with fail
       refine zX 3 [0,0,3,7,15] [] (fun j f X=>match j with
        | 0=>f 0=.pointer (some ⟨k1,0,none⟩)
        | 1=>f 1=JV jx jy jz
        | 2=>∃ v,f 2=v∧PtV X q v (cW C.M rs)
        | _=>True) (by kernel_rfl) [(69,0),(70,1),(71,2)] (by kernel_rfl) ?_
       refine Par.ld0 1 2 cV ?_
       refine zt 2 1 [(69,0)] (fun f X hX hR K hK=>?_) ?_
       · simp only [yZ]
         refine ⟨jg (v:=JV jx jy jz) (t:=176) 176 (.tmp 9) rfl rfl (hX.at_ hjb) Tryz.underlying176 rfl (by rw [Hjf.out.sz];exact uQ) rfl ?_⟩
         exact hK.out _ (JV jx jy jz) _ (by simp only [yZ]) (zd _) trivial (fun _ _=>rfl)
       refine qC 3 0 (fun f=>#[f 0,f 1]) (F':=143) (fun f X hX hR=>?_) ?_
       · have e0:f 0=_:=hR.out 0 rfl
         have e1:f 1=_:=hR.out 1 rfl
         simp only [e0,e1]
         refine (zAY (Hk1.out.ext (HEV.out.trans hX)) HC.out.plen ⟨jx,jy,jz,rfl,Hjf.out⟩).mono ?_
         rintro e w2 ⟨o,rfl,hj,hB⟩
         exact ⟨o,rfl,hB,fun Y hY=>⟨_,rfl,(hj.mono (by have:=HEX.out.bsize;have:=hX.bsize;have:=Hq.out;omega)).ext hY⟩⟩
       refine yF ⟨fun f X hX hR hal hap=>?_⟩
       obtain ⟨v2,(e2:f 2=_),j2⟩:=hR 2 (by decide)
       simp only [yZ,e2]
       clear hR hal hap e2
       obtain ⟨x0,x1,x2,ev,hone,hst⟩:=oE (b:=q+1) j2
       subst ev
       refine zZ (fun K hK=>⟨zc (by kernel_rfl) (qo (cs':=#[x0,x1,x2]) (t:=29) 29 (.tmp 6) (.tmp 71) rfl rfl rfl rfl (hX.at_ hrV) vG rfl hone (fun Y hY1 hY2 hY3=>hK.out _ _ ?_))⟩)
       refine zZ (fun K hK=>⟨zc (by kernel_rfl) ?_⟩)
       go_simp
       refine hK.out _ _ ?_
       refine zK ?_
       go_wp2
       have hKY:Y.heap[D]?=some (.deferred (some [])):=hY2.at_ (by omega) (hX.at_ hKD)
       have hrY:(Y.putObj D (.deferred none)).heap[q+1]?=some (.cells #[x0,x1,x2] 29 (0,0)):=(jG (by omega)).trans hY1
       have hEY:Ext w Y:=hY2.ext (HEX.out.trans hX) (by have:=Hq.out;omega)
       have hst':PtV Y q (.agg #[x0,x1,x2]) (cW C.M rs):=hst Y hY2 ⟨_,hX.at_ hrV⟩
       have hpo:PtV (Y.putObj D (.deferred none)) q (.agg #[x0,x1,x2]) (cW C.M rs):=hst'.put hKY
       refine ⟨by simp,.inl ⟨_,_,rfl,run_takeDeferred hKY,_,zAI rfl rfl rfl hrY,⟨_,rfl,by rw [Hrs.out];exact hpo,kU hEY (belowK_b (w:=w) (zG _) Y D _ _ (by have:=Hq.out;omega) hKY rfl rfl)⟩⟩⟩
      case stop=>exact fun _ _ _ _ _ _ _ h _=>h.elim
end Go.Proofs.YtmlbicgpehchhaaGreat
namespace Go.Proofs.YtmlbicgpehchhaaGreat.Ec
open Go.RowKit
def vK (C:Crv) (x:Nat):Bool:=decide (0<x) && decide (x<val 18446744073709551616 C.nl)
theorem oJ {x:Nat} : (0:Int)<(qa x:Int)↔0<x:=by
 by_cases h:x=0
 · subst h;simp [uq]
 · have:=(wL h).2.2
   omega
theorem rS {c:Int} {C:Crv} (hC:IsU c C) (P:Nat→Prop) (A:Option Addr) (cap:Nat) (l:List Nat) (w:World) (h:RN w P A cap l) (hP:∀ b,P b→b<w.heap.size) :
 Calls Tryz.prog 98 #[.int .i64 c,.slice A l.length cap] w fun e w'=>e=.returned (.bool (vK C (val 18446744073709551616 l)))∧Ext w w':=by
 have HB:=zF (xZ P A cap l w h)
 have HO:=zF (sf hC w)
 have HC:=zF (fun X (hX:Ext w X) A' c'=>fun (h2:RU X A' c' C.nl)=>wj P (fun b=>b<X.heap.size) A A' cap c' l C.nl X (h.below hX hP) h2)
 unfold vK
 obtain ⟨x,hx⟩:=eV (val 18446744073709551616 l)
 rw [hx] at HB HC ⊢
 obtain ⟨n,hn⟩:=eV (val 18446744073709551616 C.nl)
 simp only [hn] at HC
 rw [hn]
 clear hx hn h hP
 by_cases h0:0<x
 · have k0:(0:Int)<(qa x:Int):=oJ.2 h0
   have Hx:=zF h0
   clear h0
   go_enter Tryz.func98,Tryz.ntmps98
   go_wp2_with fail
   refine HB.out.mono ?_
   rintro e w1 ⟨rfl,rfl⟩
   go_wp2_with fail
   refine HO.out.mono ?_
   rintro e w1 ⟨A',c',rfl,h2,hE⟩
   have HC2:=zF (HC.out w1 hE A' c' h2)
   have HE:=zF hE
   clear h2 hE
   go_wp2_with fail
   refine HC2.out.mono ?_
   rintro e w2 ⟨rfl,d,rfl⟩
   obtain ⟨z,hz⟩:=eV (kh x n)
   have Hz:=zF (show (decide (0<x) && decide (x<n))=decide (z<0) by
    rw [←hz,qi Hx.out,Bool.true_and]
    unfold kh
    by_cases h1:x<n
    · rw [qE h1,qi h1];rfl
    · rw [zr h1,qp h1];split <;> rfl)
   rw [hz]
   clear hz
   go_wp2
   go_ret
   exact ⟨by rw [Hz.out];rfl,HE.out.trans (xC _ _)⟩
 · obtain rfl:x=0:=by omega
   have k0:¬ (0:Int)<(qa 0:Int):=by simp [uq]
   clear h0
   go_enter Tryz.func98,Tryz.ntmps98
   go_wp2_with fail
   refine HB.out.mono ?_
   rintro e w1 ⟨rfl,rfl⟩
   go_wp2
   go_ret
   exact ⟨rfl,zd _⟩
def fj (C:Crv) (x:Nat):Option (Option (Nat×Nat)):=if vK C x=true then dd C false (val 18446744073709551616 C.xl) (val 18446744073709551616 C.yl) x else none
theorem aJ (w:World):Calls Tryz.prog 99 #[] w fun e w'=>e=.returned vu∧Ext w w':=by
 go_enter Tryz.func99,Tryz.ntmps99
 go_wp2
 exact ul rfl rfl rfl (zN w _) ⟨rfl,zR _ _⟩
theorem PtV.mono {w:World} {base base':Nat} {v:Value} {o:Option (Nat×Nat)} (h:PtV w base v o) (hb:base'≤base):PtV w base' v o:=by
 cases o with
 | none=>exact h
 | some p=>obtain ⟨A,c,A',c',h0,h1,h2⟩:=h;exact ⟨A,c,A',c',h0,h1.mono hb,h2.mono hb⟩
theorem fi {c:Int} {C:Crv} (hC:IsU c C) (P:Nat→Prop) (A:Option Addr) (cap:Nat) (l:List Nat) (w:World) (h:RN w P A cap l) (hP:∀ b,P b→b<w.heap.size) :
    Calls Tryz.prog 42 #[.int .i64 c,.slice A l.length cap] w fun e w'=>∃ o,e=.returned (.tuple #[o,.bool (fj C (val 18446744073709551616 l)).isSome])∧PtV w' w.heap.size o (fj C (val 18446744073709551616 l)).join∧Ext w w':=by
  obtain ⟨W0,hW0⟩:=eW (w.alloc (.cells #[.bool false,.slice none 0 0,.slice none 0 0] 29))
  have hr:=zN w (.cells #[.bool false,.slice none 0 0,.slice none 0 0] 29)
  have hE0:=zR w (.cells #[.bool false,.slice none 0 0,.slice none 0 0] 29)
  have hz:W0.heap.size=w.heap.size+1:=by rw [hW0];simp
  rw [←hW0] at hr hE0
  have HM:=zF (rS hC P A cap l W0 (h.below hE0 hP) (fun b hb=>zP (hP b hb) hE0.bsize))
  have HU:=zF (fun X (hX:Ext w X)=>(show RU X A cap l from (h.below hX hP).ru (fun b hb=>zP (hP b hb) hX.bsize)))
  obtain ⟨x,hx⟩:=eV (val 18446744073709551616 l)
  rw [hx] at HM ⊢
  have Hx:=zF hx
  have hp0:vK C x=false→fj C x=none:=fun h=>by unfold fj;rw [h];rfl
  have hp1:vK C x=true→fj C x=dd C false (val 18446744073709551616 C.xl) (val 18446744073709551616 C.yl) x:=fun h=>by unfold fj;rw [h];rfl
  have hcu:vK C x=true→IsC c C:=fun h=>by
    rcases hC with h1 | ⟨_,_,rfl⟩
    · exact h1
    · simp [vK,c0] at h
  obtain ⟨m,hm⟩:=eV (vK C x)
  rw [hm] at HM hp0 hp1 hcu
  obtain ⟨q,hq⟩:=eV w.heap.size
  rw [hq] at hr hz ⊢
  have Hq:=zF hq
  have HE0:=zF hE0
  have Hz:=zF hz
  clear h hP hx hm hq hE0 hz
  cases m
  · rw [hp0 rfl]
    clear hp0 hp1 hcu HU
    go_enter Tryz.func42,Tryz.ntmps42
    go_upto_region 1 with fail
    rw [←hW0,Hq.out]
    clear hW0
    go_wp2_with fail
    refine HM.out.mono ?_
    rintro e w1 ⟨rfl,hE1⟩
    have hr1:=hE1.at_ hr
    have HE1:=zF (HE0.out.trans hE1)
    clear hr hE1
    go_wp2_with fail
    refine (aJ _).mono ?_
    rintro e w2 ⟨rfl,hE2⟩
    have hr2:=hE2.at_ hr1
    obtain ⟨z0,z1,z2,f0,f1,f2⟩:=qc hr2
    have HE2:=zF (HE1.out.trans hE2)
    clear hr1 hE2
    unfold vu
    go_wp2
    exact xI rfl rfl rfl rfl (kw hr2 _ _ _) ⟨_,rfl,rfl,ky HE2.out (by rw [Hq.out];exact zG _) _ _ _⟩
  · rw [hp1 rfl]
    have hC:=hcu rfl
    have HBa:=zF (fun X=>zAa hC X)
    have HMu:=zF (fun X (hX:Ext w X) v (hv:APt X v false (val 18446744073709551616 C.xl) (val 18446744073709551616 C.yl))=>mul_c hC X hv (HU.out X hX) Hx.out)
    obtain ⟨R,hRR⟩:=eV (dd C false (val 18446744073709551616 C.xl) (val 18446744073709551616 C.yl) x)
    simp only [hRR] at HMu
    rw [hRR]
    clear hp0 hp1 hcu hC HU hRR
    go_enter Tryz.func42,Tryz.ntmps42
    go_upto_region 1 with fail
    rw [←hW0,Hq.out]
    clear hW0
    go_wp2_with fail
    refine HM.out.mono ?_
    rintro e w1 ⟨rfl,hE1⟩
    have hr1:=hE1.at_ hr
    have HE1:=zF (HE0.out.trans hE1)
    clear hr hE1
    go_wp2_with fail
    refine (HBa.out _).mono ?_
    rintro e w2 ⟨A2,c2,A3,c3,rfl,h2,h3,hE2⟩
    have hr2:=hE2.at_ hr1
    have HE2:=zF (HE1.out.trans hE2)
    have HM2:=zF (HMu.out w2 HE2.out _ ⟨A2,A3,c2,c3,C.xl,C.yl,rfl,h2,h3,rfl,rfl⟩)
    clear hr1 hE2 h2 h3
    go_wp2_with fail
    refine HM2.out.mono ?_
    rintro e w3 ⟨o,rfl,hv,hE3⟩
    have hr3:=hE3.at_ hr2
    have hq2:q≤w2.heap.size:=by have:=HE2.out.bsize;have:=Hq.out;omega
    obtain ⟨z0,z1,z2,f0,f1,f2⟩:=qc hr3
    have HE3:=zF (HE2.out.trans hE3)
    have hv:=PtV.mono hv hq2
    clear hr2 hE3 HM2 hq2
    obtain ⟨b,hb⟩:=eV R.isSome
    obtain ⟨J,hJ⟩:=eV R.join
    rw [hb]
    rw [hJ] at hv
    have Hbb:=zF hb
    have HJ:=zF hJ
    clear hb hJ
    cases J with
    | none =>
      obtain rfl:o=vu:=hv
      unfold vu
      go_wp2
      exact xI rfl rfl rfl rfl (kw hr3 _ _ _) ⟨_,by rw [Hbb.out];rfl,by rw [HJ.out];rfl,ky HE3.out (by rw [Hq.out];exact zG _) _ _ _⟩
    | some p =>
      obtain ⟨A5,c5,A6,c6,rfl,h5,h6⟩:=hv
      have H5:=zF h5
      have H6:=zF h6
      clear h5 h6
      go_wp2
      exact xI rfl rfl rfl rfl (kw hr3 _ _ _) ⟨_,by rw [Hbb.out];rfl,by rw [HJ.out];exact ⟨A5,c5,A6,c6,rfl,H5.out.just (fK _ _ _ _ _) hr3 (by decide),H6.out.just (fK _ _ _ _ _) hr3 (by decide)⟩,ky HE3.out (by rw [Hq.out];exact zG _) _ _ _⟩
end Go.Proofs.YtmlbicgpehchhaaGreat.Ec
