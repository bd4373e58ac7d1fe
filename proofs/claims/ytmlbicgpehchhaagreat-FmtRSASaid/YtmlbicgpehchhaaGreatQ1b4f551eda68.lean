/- Laws that the proof rests on. -/
import Derived.Test.YtmlbicgpehchhaaGreatQ26bb57074374
set_option maxRecDepth 100000
set_option maxHeartbeats 16000000
namespace Go.Proofs.YtmlbicgpehchhaaGreat.Ec
open Go.RowKit
def cS (C:Crv) (x:Nat):Option (Option (Nat×Nat)):=if um C x=true then aB C false (val 18446744073709551616 C.xl) (val 18446744073709551616 C.yl) x else none
theorem oC (w:World):Calls Tryz.prog 99 #[] w fun e w'=>e=.returned uq∧Ext w w':=by
 go_enter Tryz.func99,Tryz.ntmps99;go_wp2;exact oe rfl rfl rfl (zP w _) ⟨rfl,zb _ _⟩
theorem PtV.mono {w:World}{base base':Nat}{v:Value}{o:Option (Nat×Nat)}(h:PtV w base v o) (hb:base'≤base):PtV w base' v o:=by
 cases o with
 | none=>exact h
 | some p=>obtain ⟨A,c,A',c',h0,h1,h2⟩:=h;exact ⟨A,c,A',c',h0,h1.mono hb,h2.mono hb⟩
theorem cR {c:Int}{C:Crv}(hC:IsU c C) (P:Nat→Prop) (A:Option Addr) (cap:Nat) (l:List Nat) (w:World) (h:RN w P A cap l) (hP:∀ b,P b→b<w.heap.size) :
   Calls Tryz.prog 42 #[.int .i64 c,.slice A l.length cap] w fun e w'=>∃ o,e=.returned (.tuple #[o,.bool (cS C (val 18446744073709551616 l)).isSome])∧PtV w' w.heap.size o (cS C (val 18446744073709551616 l)).join∧Ext w w':=by
 obtain ⟨W0,hW0⟩:=eW (w.alloc (.cells #[.bool false,.slice none 0 0,.slice none 0 0] 29));have hr:=zP w (.cells #[.bool false,.slice none 0 0,.slice none 0 0] 29);have hE0:=zb w (.cells #[.bool false,.slice none 0 0,.slice none 0 0] 29);have hz:W0.heap.size=w.heap.size+1:=by rw [hW0];simp
 rw [←hW0] at hr hE0;have HM:=zF (zA1 hC P A cap l W0 (h.below hE0 hP) (fun b hb=>zR (hP b hb) hE0.bsize));have HU:=zF (fun X (hX:Ext w X)=>(show RU X A cap l from (h.below hX hP).ru (fun b hb=>zR (hP b hb) hX.bsize)));obtain ⟨x,hx⟩:=eV (val 18446744073709551616 l);rw [hx] at HM ⊢;have Hx:=zF hx;have hp0:um C x=false→cS C x=none:=fun h=>by unfold cS;rw [h];rfl
 have hp1:um C x=true→cS C x=aB C false (val 18446744073709551616 C.xl) (val 18446744073709551616 C.yl) x:=fun h=>by unfold cS;rw [h];rfl
 have hcu:um C x=true→IsC c C:=fun h=>by
   rcases hC with h1 | ⟨_,_,rfl⟩
   · exact h1
   · simp [um,c0] at h
 obtain ⟨m,hm⟩:=eV (um C x);rw [hm] at HM hp0 hp1 hcu;obtain ⟨q,hq⟩:=eV w.heap.size;rw [hq] at hr hz ⊢;have Hq:=zF hq;have HE0:=zF hE0;have Hz:=zF hz;clear h hP hx hm hq hE0 hz;cases m
 · rw [hp0 rfl];clear hp0 hp1 hcu HU;go_enter Tryz.func42,Tryz.ntmps42;go_upto_region 1 with fail;rw [←hW0,Hq.out];clear hW0;go_wp2_with fail;refine HM.out.mono ?_;rintro e w1 ⟨rfl,hE1⟩;have hr1:=hE1.at_ hr;have HE1:=zF (HE0.out.trans hE1);clear hr hE1;go_wp2_with fail;refine (oC _).mono ?_;rintro e w2 ⟨rfl,hE2⟩;have hr2:=hE2.at_ hr1;obtain ⟨z0,z1,z2,f0,f1,f2⟩:=gI hr2;have HE2:=zF (HE1.out.trans hE2);clear hr1 hE2;unfold uq;go_wp2;exact bR rfl rfl rfl rfl (cT hr2 _ _ _) ⟨_,rfl,rfl,cW HE2.out (by rw [Hq.out];exact zH _) _ _ _⟩
 · rw [hp1 rfl];have hC:=hcu rfl;have HBa:=zF (fun X=>zCu hC X);have HMu:=zF (fun X (hX:Ext w X) v (hv:APt X v false (val 18446744073709551616 C.xl) (val 18446744073709551616 C.yl))=>mul_c hC X hv (HU.out X hX) Hx.out);obtain ⟨R,hRR⟩:=eV (aB C false (val 18446744073709551616 C.xl) (val 18446744073709551616 C.yl) x);simp only [hRR] at HMu;rw [hRR];clear hp0 hp1 hcu hC HU hRR;go_enter Tryz.func42,Tryz.ntmps42;go_upto_region 1 with fail;rw [←hW0,Hq.out];clear hW0;go_wp2_with fail;refine HM.out.mono ?_;rintro e w1 ⟨rfl,hE1⟩;have hr1:=hE1.at_ hr;have HE1:=zF (HE0.out.trans hE1);clear hr hE1;go_wp2_with fail;refine (HBa.out _).mono ?_;rintro e w2 ⟨A2,c2,A3,c3,rfl,h2,h3,hE2⟩;have hr2:=hE2.at_ hr1;have HE2:=zF (HE1.out.trans hE2);have HM2:=zF (HMu.out w2 HE2.out _ ⟨A2,A3,c2,c3,C.xl,C.yl,rfl,h2,h3,rfl,rfl⟩);clear hr1 hE2 h2 h3;go_wp2_with fail;refine HM2.out.mono ?_;rintro e w3 ⟨o,rfl,hv,hE3⟩;have hr3:=hE3.at_ hr2;have hq2:q≤w2.heap.size:=by have:=HE2.out.bsize;have:=Hq.out;omega
   obtain ⟨z0,z1,z2,f0,f1,f2⟩:=gI hr3;have HE3:=zF (HE2.out.trans hE3);have hv:=PtV.mono hv hq2;clear hr2 hE3 HM2 hq2;obtain ⟨b,hb⟩:=eV R.isSome;obtain ⟨J,hJ⟩:=eV R.join;rw [hb];rw [hJ] at hv;have Hbb:=zF hb;have HJ:=zF hJ;clear hb hJ;cases J with
   | none =>
     obtain rfl:o=uq:=hv;unfold uq;go_wp2;exact bR rfl rfl rfl rfl (cT hr3 _ _ _) ⟨_,by rw [Hbb.out];rfl,by rw [HJ.out];rfl,cW HE3.out (by rw [Hq.out];exact zH _) _ _ _⟩
   | some p =>
     obtain ⟨A5,c5,A6,c6,rfl,h5,h6⟩:=hv;have H5:=zF h5;have H6:=zF h6;clear h5 h6;go_wp2;exact bR rfl rfl rfl rfl (cT hr3 _ _ _) ⟨_,by rw [Hbb.out];rfl,by rw [HJ.out];exact ⟨A5,c5,A6,c6,rfl,H5.out.just (rX _ _ _ _ _) hr3 (by decide),H6.out.just (rX _ _ _ _ _) hr3 (by decide)⟩,cW HE3.out (by rw [Hq.out];exact zH _) _ _ _⟩
end Go.Proofs.YtmlbicgpehchhaaGreat.Ec
namespace Go.Proofs.YtmlbicgpehchhaaGreat.Ec
open Go.RowKit Go.Shelf Der
attribute [local go_sem] Oper.semAt_some
def algT (oc:List Nat):DN:=.mk 48 [] [.mk 6 ss [],.mk 6 oc []]
def ecT (x n:Nat):DN:=.mk 48 [] [.mk 2 [1] [],.mk 4 (bytesOf x n) []]
def bS (C:Crv) (oc:List Nat) (x:Nat):Option (List Nat):=if um C x=true then xw (algT oc) (ecT x C.size) else none
theorem zB8 {c:Int}{C:Crv}(h:IsC c C):onQ C false (val 18446744073709551616 C.xl) (val 18446744073709551616 C.yl)=true:=by
 rcases h with ⟨_,rfl⟩ | ⟨_,rfl⟩ <;> kernel_rfl
theorem oL {c:Int}{C:Crv}(hC:IsC c C){x:Nat}(h:um C x=true):zo x≤8*C.size:=by
 have hl:val 18446744073709551616 C.nl<2 ^ (8*C.size):=by
  rcases hC with ⟨_,rfl⟩ | ⟨_,rfl⟩ <;> decide +kernel
 unfold um at h;simp only [wN,vg] at h;exact kh (Nat.lt_trans h.2 hl)
theorem zAP {c:Int}{C:Crv}(hC:IsC c C) (x:Nat):(cS C x).isSome=um C x:=by
 unfold cS;by_cases h:um C x=true
 · have h1:=oL hC h;have h2:C.size≤48:=hC.fine.small;rw [qK h,h];unfold aB;rw [qK (zB8 hC),qK (by omega)];rfl
 · rw [qA h];cases hm:um C x
   · rfl
   · exact absurd hm h
theorem PtV.shape {w:World}{base:Nat}{v:Value}{o:Option (Nat×Nat)}(h:PtV w base v o):∃ b A n c A' n' c',v=.agg #[.bool b,.slice A n c,.slice A' n' c']:=by
 cases o with
 | none=>exact ⟨_,_,_,_,_,_,_,h⟩
 | some p=>obtain ⟨A,c,A',c',rfl,_,_⟩:=h;exact ⟨_,_,_,_,_,_,_,rfl⟩
theorem mg {c:Int}{C:Crv}{oc:List Nat}(hC:IsC c C) (hn:IsN c oc) (P:Nat→Prop) (A:Option Addr) (cap:Nat) (l:List Nat) (w:World) (h:RN w P A cap l) (hP:∀ b,P b→b<w.heap.size) :
 Calls Tryz.prog 11 #[.int .i64 c,.slice A l.length cap] w fun e w'=>WrB (bS C oc (val 18446744073709551616 l)) e w'∧Below w.heap.size w w':=by
 have hlt:∀ {X:World},Ext w X→∀ b,P b→b<X.heap.size:=fun hX b hb=>zR (hP b hb) hX.bsize
 have HPu:=zF (fun X (hX:Ext w X)=>cR (.inl hC) P A cap l X (h.below hX hP) (hlt hX))
 have HBy:=zF (fun X (hX:Ext w X) (hm:um C (val 18446744073709551616 l)=true)=>dK P A cap l C.size X (h.below hX hP) (hlt hX) (by have:=hC.fine.small;omega) (oL hC hm))
 obtain ⟨x,hx⟩:=eV (val 18446744073709551616 l)
 simp only [hx] at HPu HBy
 rw [hx]
 simp only [zAP hC] at HPu
 have HPa:=zF (nm hn w)
 have HSz:=zF (fun X=>zCS hC X)
 obtain ⟨R,hR⟩:=eV (bS C oc x)
 rw [hR]
 have h0:um C x=false→none=R:=fun h=>by rw [←hR];unfold bS;rw [h];rfl
 have h1:um C x=true→xw (algT oc) (ecT x C.size)=R:=fun h=>by rw [←hR];unfold bS;rw [h];rfl
 obtain ⟨m,hm⟩:=eV (um C x)
 simp only [hm] at HPu HBy h0 h1
 obtain ⟨L,hL⟩:=eV oc.length
 obtain ⟨n,hnn⟩:=eV C.size
 rw [hL] at HPa
 rw [hnn] at h1
 simp only [hnn] at HBy HSz
 have HL:=zF hL
 have HX0:=zF h0
 have HX1:=zF h1
 clear h hP hlt hx hR hm hL hnn h0 h1 hC hn
 go_enter Tryz.func11,Tryz.ntmps11
 go_wp2_with fail
 refine HPa.out.mono ?_
 rintro e w1 ⟨⟨Ac,cc,rfl,hr⟩,hB1⟩
 obtain ⟨b,hb⟩:=eV w1.heap.size
 have hq:=zP w1 (.cells #[.int .i64 6,.slice Ac L cc,.slice none 0 0] 80)
 have hE1:Ext w1 (w1.alloc (.cells #[.int .i64 6,.slice Ac L cc,.slice none 0 0] 80)):=zb _ _
 have HE1:Hid (Ext w (w1.alloc (.cells #[.int .i64 6,.slice Ac L cc,.slice none 0 0] 80))):=zF (zI hB1 hE1)
 have HR1:Hid (RB (w1.alloc (.cells #[.int .i64 6,.slice Ac L cc,.slice none 0 0] 80)) (Al (w1.alloc (.cells #[.int .i64 6,.slice Ac L cc,.slice none 0 0] 80))) Ac cc oc):=zF (RB.al hr hE1 (fun q hq=>hq.2) hE1.bsize)
 rw [hb] at hq
 have Hq:=zF hq
 have Hb:=zF hb
 clear hr hB1 hE1 hq hb HPa
 go_upto_region 2 with fail
 rw [Hb.out]
 generalize w1.alloc (.cells #[.int .i64 6,.slice Ac L cc,.slice none 0 0] 80)=W1 at *
 have HPu1:=zF (HPu.out W1 HE1.out)
 go_wp2_with fail
 refine HPu1.out.mono ?_
 rintro e w2 ⟨o,rfl,hv,hE2⟩
 obtain ⟨bi,C1,g1,k1,C2,g2,k2,rfl⟩:=Ec.PtV.shape (w:=w2) (base:=W1.heap.size) (o:=(cS C x).join) hv
 have hA2:Ext w2 (w2.alloc (.cells #[.bool bi,.slice C1 g1 k1,.slice C2 g2 k2] 29)):=zb _ _
 have HE2:Hid (Ext W1 (w2.alloc (.cells #[.bool bi,.slice C1 g1 k1,.slice C2 g2 k2] 29))):=zF (zI hE2 hA2)
 clear hv hE2 hA2 HPu1 HPu
 go_upto_region 3 with fail
 generalize w2.alloc (.cells #[.bool bi,.slice C1 g1 k1,.slice C2 g2 k2] 29)=W2 at *
 cases m
 · have hR:=HX0.out rfl;subst hR;go_wp2;go_ret2;exact ⟨⟨_,_,rfl,vn _ _⟩,zI HE1.out HE2.out⟩
 have hR:=HX1.out rfl
 subst hR
 go_wp2_with fail
 refine (HSz.out W2).mono ?_
 rintro e w3 ⟨rfl,hE3⟩
 have HE3:=zF (zI HE2.out hE3)
 have HBy3:=zF (HBy.out w3 (zI HE1.out HE3.out) (by first | trivial | rfl))
 clear hE3 HBy HSz HE2 HX0 HX1
 go_wp2_with fail
 refine HBy3.out.mono ?_
 rintro e w4 ⟨A4,rfl,hr4,hB4⟩
 have HE4:=zF (zI HE3.out hB4)
 have HR4:=zF (hr4.mono (fun q hq=>hq.2:∀ q,In w3.heap.size w4.heap.size q→Al w4 q))
 have hq4:=HE4.out.at_ Hq.out
 have q0:=zJ hq4 0
 have q1:=zJ hq4 1
 have q2:=zJ hq4 2
 simp only [zK,zL,zS] at q0 q1 q2
 have hlf:=wi (tag:=6) (jk HR1.out HE4.out) (by decide)
 rw [HL.out] at hlf
 have HAl:=zF (tT _ _ w4 hlf)
 clear hr4 hB4 hq4 hlf HBy3 HE3
 go_wp2_with fail
 refine HAl.out.mono ?_
 rintro e w5 ⟨⟨v5,rfl,hd5⟩,hB5⟩
 obtain ⟨x5,D1,m1,j1,D2,m2,j2,rfl⟩:=hd5.shape
 have HD5:=zF hd5
 have HE5:=zF (zI HE4.out hB5)
 have HR5:=zF (jk HR4.out hB5)
 clear hd5 hB5 q0 q1 q2 HAl HR4 HE4
 go_wp2_with fail
 refine (zAa w5).mono ?_
 rintro e w6 ⟨⟨A6,c6,rfl,hr6⟩,hB6⟩
 have HE6:=zF (zI HE5.out hB6)
 have HR6:=zF (hr6.mono (fun q hq=>hq.2:∀ q,In w5.heap.size w6.heap.size q→Al w6 q))
 have HD6:=zF (HD5.out.al hB6)
 have HK6:=zF (jk HR5.out hB6)
 clear hr6 hB6 HD5 HR5 HE5
 go_wp2_with fail
 refine (cj A4 n n w6).mono ?_
 rintro e w7 ⟨rfl,hB7⟩
 have HE7:=zF (zI HE6.out hB7)
 have HR7:=zF (jk HR6.out hB7)
 have HD7:=zF (HD6.out.al hB7)
 have HK7:=zF (jk HK6.out hB7)
 clear hB7 HR6 HD6 HK6 HE6
 obtain ⟨g,hg⟩:=eV w7.heap.size
 have hA8:Ext w7 (w7.alloc (.cells #[.int .i64 2,.slice A6 1 c6,.slice none 0 0,.int .i64 4,.slice A4 n n,.slice none 0 0] 80)):=zb _ _
 have hrs:RS (w7.alloc (.cells #[.int .i64 2,.slice A6 1 c6,.slice none 0 0,.int .i64 4,.slice A4 n n,.slice none 0 0] 80)) (Al (w7.alloc (.cells #[.int .i64 2,.slice A6 1 c6,.slice none 0 0,.int .i64 4,.slice A4 n n,.slice none 0 0] 80))) 3 (some ⟨w7.heap.size,0,none⟩) 2 2 [.int .i64 2,.slice A6 1 c6,.slice none 0 0,.int .i64 4,.slice A4 n n,.slice none 0 0]:=jM #[.int .i64 2,.slice A6 1 c6,.slice none 0 0,.int .i64 4,.slice A4 n n,.slice none 0 0] 80 3 2 rfl (by unfold maxLen;omega) (by simp [Al])
 rw [hg] at hrs
 have hlf:=wi (tag:=4) (jk HK7.out hA8) (by decide)
 rw [jp] at hlf
 have HT8:=zF (show RD _ (Al (w7.alloc (.cells #[.int .i64 2,.slice A6 1 c6,.slice none 0 0,.int .i64 4,.slice A4 n n,.slice none 0 0] 80))) (ecT x n) (.agg #[.int .i64 48,.slice none 0 0,.slice (some ⟨g,0,none⟩) 2 2]) from RD.seq hrs (jg (wi (jk HR7.out hA8) (by decide)) (jg hlf RDs.nil_)) rfl)
 have HD8:=zF (HD7.out.al hA8)
 have HE8:=zF (zI HE7.out hA8)
 have Hg:=zF hg
 clear hA8 hrs hlf hg HR7 HD7 HK7 HE7
 go_wp2_with fail
 rw [Hg.out]
 generalize w7.alloc (.cells #[.int .i64 2,.slice A6 1 c6,.slice none 0 0,.int .i64 4,.slice A4 n n,.slice none 0 0] 80)=W8 at *
 refine (ug _ 2 2 W8).mono ?_
 rintro e w9 ⟨rfl,hB9⟩
 have HI:=zF (oV _ _ _ _ w9 (HD8.out.al hB9) (HT8.out.al hB9))
 have HE9:=zF (zI HE8.out hB9)
 clear hB9 HT8 HD8 HE8
 go_wp2_with fail
 refine HI.out.mono ?_
 rintro e w10 ⟨⟨A10,c10,rfl,hr10⟩,hB10⟩
 have HR10:=zF hr10
 have HE10:=zF (show Ext w w10 from zI HE1.out (zI HE9.out hB10))
 clear hr10 hB10 HI
 go_wp2
 go_ret2
 exact ⟨⟨A10,c10,rfl,HR10.out⟩,HE10.out⟩
end Go.Proofs.YtmlbicgpehchhaaGreat.Ec
namespace Go.Proofs.YtmlbicgpehchhaaGreat.Der
theorem mI {n:Nat}(h0:0<n) (h:n<16777216):(1≤(beB n).length∧(beB n).length≤3)∧(beB n).getD 0 0≠0∧be 0 (beB n)=n:=by
 have h1:n≠0:=by omega
 by_cases a:n / 256=0
 · have e:beB n=[n % 256]:=by simp [beB,up8,h1,a]
   rw [e];simp [be];omega
 by_cases b:n / 256 / 256=0
 · have e:beB n=[n / 256 % 256,n % 256]:=by simp only [beB,up8,h1,a,b,if_true,if_false]
   rw [e];simp [be];omega
 · have c:n / 256 / 256 / 256=0:=by omega
   have e:beB n=[n / 256 / 256 % 256,n / 256 % 256,n % 256]:=by simp only [beB,up8,h1,a,b,c,if_true,if_false]
   rw [e];simp [be];omega
theorem mF {t:Nat}{b rest:List Nat} : fA t b.length (b++rest)=some (t,b,rest):=by
 unfold fA;rw [qA (by simp),List.take_left',List.drop_left'] <;> rfl
theorem oY {tag:Nat}{b rest:List Nat}(h:b.length<16777216):vY (hdB tag b++rest)=some (tag % 256,b,rest):=by
 by_cases h1:b.length<128
 · unfold hdB aC;rw [qK h1];show vY (tag % 256 :: b.length :: (b++rest))=_;rw [vY,qK h1];exact mF
 · obtain ⟨⟨k1,k3⟩,z,hb⟩:=mI (n:=b.length) (by omega) h;unfold hdB aC;rw [qA h1];show vY (tag % 256 :: (128+(beB b.length).length) :: ((beB b.length++b)++rest))=_;have hk:128+(beB b.length).length - 128=(beB b.length).length:=by omega
   have ht:((beB b.length++b)++rest).take (beB b.length).length=beB b.length:=by rw [kT];exact List.take_left' rfl
   have hd:((beB b.length++b)++rest).drop (beB b.length).length=b++rest:=by rw [kT];exact List.drop_left' rfl
   have hg:((beB b.length++b)++rest).getD 0 0=(beB b.length).getD 0 0:=by
    rw [kT,zh,List.getElem?_append_left (by omega),←zh]
   rw [vY,qA (by omega),hk,ht,hd,hg,hb,qA (by simp only [zt];omega),qA h1];exact mF
theorem si {tag:Nat}{b:List Nat}(h:jh tag b=true):tag % 256=tag∧tag≠48:=by
 unfold jh at h;split at h
 · omega
 split at h
 · omega
 split at h
 · omega
 split at h
 · omega
 split at h
 · omega
 · cases h
theorem zA0 (t:DN):1≤(enc t).length:=by
 obtain ⟨tag,bs,kids⟩:=t;rw [enc];simp [hdB]
mutual
theorem oF:∀ {d left l:Nat}{t:DN}{rest:List Nat},uL d left t=some l→(enc t).length<16777216→ji d left (enc t++rest)=some (t,rest,l)
 | 0,left,l,.mk tag bs kids,rest,h,hl=>by rw [uL,qK (.inr rfl)] at h;cases h
 | d + 1, left, l, .mk tag bs kids, rest, h, hl => by
   rw [uL] at h;rw [enc] at hl ⊢;have hh:=fo tag (if tag=48 then ke kids else bs);by_cases h0:left=0
   · rw [qK (.inl h0)] at h;cases h
   rw [qA (by omega)] at h;by_cases ht:tag=48
   · subst ht;rw [qA (by simp)] at h;rw [qK rfl] at hl hh ⊢;split at h
     · cases h
     · rename_i hb;have hbs:bs=[]:=uc fun h=>hb h;subst hbs;rw [jU] at h;rw [oE h0 (oY (by omega)),oQ (acc:=[]) h (by omega) (zH _)];rfl
   · rw [qK ht] at h;rw [qA ht] at hl hh ⊢;split at h
     · cases h
     · rename_i hb;have hk:kids=[]:=uc fun h=>hb (.inl h);have hp:jh tag bs=true:=by
         cases hp:jh tag bs
         · exact absurd (.inr hp) hb
         · rfl
       subst hk;cases h;have h2:=oY (tag:=tag) (b:=bs) (rest:=rest) (by omega);rw [(si hp).1] at h2;rw [aX h0 h2 ht,hp];rfl
theorem oQ:∀ {d left l f:Nat}{ks acc:List DN},xk d left ks=some l→(ke ks).length<16777216→(ke ks).length≤f→vL (ji d) f left acc (ke ks)=some (acc++ks,l)
 | d, left, l, f, [], acc, h, hl, hf => by
   rw [xk] at h;cases h;rw [ke,bH,List.append_nil]
 | d, left, l, f, x :: r, acc, h, hl, hf => by
   rw [xk] at h;rw [ke] at hl hf ⊢;rw [zt] at hl hf;have hx:=zA0 x;cases hm:uL d left x with
   | none=>rw [hm] at h;cases h
   | some l1 =>
     rw [hm] at h;obtain ⟨f',rfl⟩:∃ f',f=f'+1:=⟨f - 1,by omega⟩
     rw [bG (by intro e;have:=congrArg List.length e;rw [zt,jI] at this;omega) (oF hm (by omega)),oQ h (by omega) (by omega),kT];rfl
end
theorem nf {t:DN}{b:List Nat}(h:vR t=some b):vr b=some (t,b.length):=by
 unfold vR at h;split at h
 · cases h
 rename_i hc;split at h
 · cases h
 rename_i hl;cases h;have hs:(uL 16 1024 t).isSome=true:=by
  rw [zAh];cases hx:(vI 1 t).isSome
  · exact absurd hx hc
  · rfl
 obtain ⟨l,hm⟩:=Option.isSome_iff_exists.1 hs;have hn:=oF (rest:=[]) hm (by omega);rw [List.append_nil] at hn;unfold vr;rw [hn];simp only [jI,Nat.sub_zero];rw [qA hl]
end Go.Proofs.YtmlbicgpehchhaaGreat.Der
namespace Go.Proofs.YtmlbicgpehchhaaGreat.Der
open Go.RowKit Go.Shelf
attribute [local go_sem] Oper.semAt_some
def atT:DN→List Nat→DN
  | t,[]=>t
  | .mk _ _ kids, i :: p => match kids[i]? with
    | none=>.mk 0 [] []
    | some k=>atT k p
theorem m9 (t:DN):atT t []=t:=by cases t;rfl
theorem mw {tag:Nat}{bs:List Nat}{kids:List DN}{i:Nat}{p:List Nat}(h:i<kids.length):atT (.mk tag bs kids) (i :: p)=atT kids[i] p:=by
 rw [atT,qO h]
theorem rK {tag:Nat}{bs:List Nat}{kids:List DN}{i:Nat}{p:List Nat}(h:kids.length≤i):atT (.mk tag bs kids) (i :: p)=.mk 0 [] []:=by
 rw [atT,qx h]
theorem bc (t:DN) (v:Value) (Pp:Nat→Prop) (Ap:Option Addr) (cp:Nat) (path:List Nat) (w:World) (h:RD w (Al w) t v) (hp:RZ w Pp Ap cp (path.map fun (i:Nat)=>(i:Int))) (hPp:∀ q,Pp q→q<w.heap.size) (hsm:∀ i∈path,i<1000) :
 Calls Tryz.prog 64 #[v,.slice Ap path.length cp] w fun e w'=>(∃ v',e=.returned v'∧RD w' (Al w') (atT t path) v')∧Below w.heap.size w w':=by
 obtain ⟨xi,B1,n1,d1,B2,n2,d2,rfl⟩:=h.shape
 obtain ⟨W0,hW0⟩:=eW ((w.alloc (.cells #[.int .i64 xi,.slice B1 n1 d1,.slice B2 n2 d2] 80)).alloc (.cells #[.int .i64 0,.slice none 0 0,.slice none 0 0] 80))
 obtain ⟨s,hs⟩:=eV w.heap.size
 obtain ⟨hq0,hq1,hz⟩:=aL w (.cells #[.int .i64 xi,.slice B1 n1 d1,.slice B2 n2 d2] 80) (.cells #[.int .i64 0,.slice none 0 0,.slice none 0 0] 80)
 have hE:Below s w W0:=by rw [hW0,←hs];exact ((zO _ w).alloc (zH _) _).alloc (by simp) _
 rw [←hW0,hs] at hq0 hq1 hz
 have hd:RD W0 (fun q=>q<s) t (.agg #[.int .i64 xi,.slice B1 n1 d1,.slice B2 n2 d2]):=(h.below (hs▸hE) fun q hq=>hq).mono fun q hq=>by unfold Al at hq;omega
 have hpz:RZ W0 (fun q=>q<s) Ap cp (path.map fun (i:Nat)=>(i:Int)):=RS.mono (RZ.below hp (hs▸hE) hPp) fun q hq=>by have:=hPp q hq;omega
 obtain ⟨T,hT⟩:=eV (atT t path)
 rw [hT,hs]
 have hlen:path.length≤cp∧cp≤9223372036854775807:=⟨by have:=hp.1;rwa [List.length_map] at this,hp.2.1⟩
 have HE:=zF hE
 have Hz:=zF hz
 have HD:=zF hd
 have HPz:=zF hpz
 have Hs:=zF hs
 have HT:=zF hT
 have Hsm:=zF hsm
 have Hq0:=zF hq0
 have Hq1:=zF hq1
 obtain ⟨hlen1,hlen2⟩:=hlen
 clear h hE hz hd hpz hs hT hp hPp hsm hq0 hq1
 go_enter Tryz.func64,Tryz.ntmps64
 go_upto_region 1 with fail
 rw [←hW0]
 clear hW0
 simp only [qL,Hs.out]
 go_wp2
 go_loopw [9] (fun i wr=>∃ (j:Nat) (cur:DN) (x:Int) (B1:Option Addr) (n1 d1:Nat) (B2:Option Addr) (n2 d2:Nat),j≤path.length∧i=.int .i64 (j:Int)∧atT cur (path.drop j)=T∧wr.heap[s]?=some (.cells #[.int .i64 x,.slice B1 n1 d1,.slice B2 n2 d2] 80 (0,0))∧wr.heap[s+1]?=some (.cells #[.int .i64 0,.slice none 0 0,.slice none 0 0] 80 (0,0))∧RD wr (fun q=>q<s) cur (.agg #[.int .i64 x,.slice B1 n1 d1,.slice B2 n2 d2])∧Below s w wr∧wr.heap.size=s+2) (fun i _=>path.length - (intOf i).toNat)
 case atStart=>exact ⟨0,t,xi,B1,n1,d1,B2,n2,d2,by omega,rfl,HT.out,Hq0.out,Hq1.out,HD.out,HE.out,Hz.out⟩
 case round =>
  obtain ⟨j,cur,x,C1,m1,e1,C2,m2,e2,hj,rfl,hat,hc0,hc1,hd,hB,hz⟩:=hrel;have Hat:=zF hat;have Hc0:=zF hc0;have Hc1:=zF hc1;have Hd:=zF hd;have HB:=zF hB;have Hz2:=zF hz;clear HD HT Hq0 Hq1 hat hd hB hz;obtain ⟨z0,z1,z2,f0,f1,f2⟩:=jn hc0;obtain ⟨y0,y1,y2,g0,g1,g2⟩:=jn hc1;clear hc0 hc1;by_cases hlt:j<path.length;rotate_left
  · obtain rfl:j=path.length:=by omega
    have q1:¬ (path.length:Int)<(path.length:Int):=by omega
    have hT:=Hat.out;rw [yG (zH _),m9] at hT;subst hT;go_wp2;have hk:∀ b,b≠s+1→(((wr.setCell ⟨s+1,0,none⟩ (.int .i64 x)).setCell ⟨s+1,1,none⟩ (.slice C1 m1 e1)).setCell ⟨s+1,2,none⟩ (.slice C2 m2 e2)).heap[b]?=wr.heap[b]?:=fun b hb=>(zN _ _ _ _ hb).trans ((zN _ _ _ _ hb).trans (zN _ _ _ _ hb));refine uE rfl rfl rfl (xM Hc1.out _ _ _) ⟨⟨_,rfl,(RD.keep (fun p hp=>zT (hk _ (by omega))) Hd.out).mono fun q hq=>?_⟩,?_⟩
    · unfold Al;simp [World.setCell];have:=Hz2.out;omega
    · exact ((HB.out.setCell (p:=⟨s+1,0,none⟩) (by simp) _).setCell (p:=⟨s+1,1,none⟩) (by simp) _).setCell (p:=⟨s+1,2,none⟩) (by simp) _
  have q1:(j:Int)<(path.length:Int):=by omega
  have hpr:RZ wr (fun q=>q<s) Ap cp (path.map fun (i:Nat)=>(i:Int)):=RZ.keep HPz.out fun p hp=>zT ((HB.out.block _ hp).trans (HE.out.block _ hp).symm);obtain ⟨ad,rfl,hab,hci⟩:=hpr.at_ (i:=j) (by simpa using hlt);obtain ⟨i,hi⟩:=eV (path[j]);have hgi:(path.map fun (i:Nat)=>(i:Int)).getD j 0=(i:Int):=by
   rw [←hi,zh,wn,qO hlt];rfl
  rw [hgi] at hci;have hat:=Hat.out;rw [qa hlt,hi] at hat;obtain ⟨tag,bs,kids⟩:=cur;obtain ⟨A',c',Ak,ck,cs,he,hb',h48,hk',hds'⟩:=Hd.out.open_;injection he with he
  simp only [Array.mk.injEq,List.cons.injEq,Value.int.injEq,Value.slice.injEq,and_true,true_and] at he;obtain ⟨rfl,⟨rfl,rfl,rfl⟩,rfl,rfl,rfl⟩:=he;have hkl:=hk'.1;have hkc:e2≤9223372036854775807:=hk'.2.1;clear hpr hgi hi Hat hb' h48 hab;by_cases hik:kids.length≤i
  · have hT:(DN.mk 0 [] [])=T:=hat▸(rK hik).symm;subst hT;have q2:(kids.length:Int)≤(i:Int):=by omega
    clear hat hk' hds' Hd;go_wp2;refine uE rfl rfl rfl (xM Hc1.out _ _ _) ⟨⟨_,rfl,wi (tag:=0) (vn _ _) (by decide)⟩,?_⟩;exact ((HB.out.setCell (p:=⟨s+1,0,none⟩) (by simp) _).setCell (p:=⟨s+1,1,none⟩) (by simp) _).setCell (p:=⟨s+1,2,none⟩) (by simp) _
  · have q2:¬ (kids.length:Int)≤(i:Int):=by omega
    have hik2:i<kids.length:=by omega
    have hik3:(i:Int)<(kids.length:Int):=by omega
    rw [mw hik2] at hat;obtain ⟨ad2,x2,B1,n1,d1,B2,n2,d2,rfl,x0,x1,x22,hrd⟩:=bI hk' hds' hik2;have Hat2:=zF hat;have Hrd:=zF hrd;clear hat hk' hds' Hd hrd;go_wp2;go_roundw;case rel =>
     have hk:∀ b,b≠s→(((wr.setCell ⟨s,0,none⟩ (.int .i64 x2)).setCell ⟨s,1,none⟩ (.slice B1 n1 d1)).setCell ⟨s,2,none⟩ (.slice B2 n2 d2)).heap[b]?=wr.heap[b]?:=fun b hb=>(zN _ _ _ _ hb).trans ((zN _ _ _ _ hb).trans (zN _ _ _ _ hb));exact ⟨j+1,kids[i],x2,B1,n1,d1,B2,n2,d2,by omega,by go_num,Hat2.out,xM Hc0.out _ _ _,(hk _ (by omega)).trans Hc1.out,RD.keep (fun p hp=>zT (hk _ (by omega))) Hrd.out,((HB.out.setCell (p:=⟨s,0,none⟩) (by simp) _).setCell (p:=⟨s,1,none⟩) (by simp) _).setCell (p:=⟨s,2,none⟩) (by simp) _,by simpa [World.setCell] using Hz2.out⟩
    case measure=>simp [intOf];omega
def jr (b:List Nat):DN:=match vr b with
 | none=>.mk 0 [] []
 | some (t,_)=>t
def kK:DN→List Nat
 | .mk _ bs _=>bs
theorem cB (P:Nat→Prop) (A:Option Addr) (c:Nat) (b:List Nat) (w:World) (hb:RB w P A c b) (hP:∀ q,P q→q<w.heap.size) :
   Calls Tryz.prog 68 #[.slice A b.length c] w fun e w'=>(∃ v ok,e=.returned (.tuple #[v,.bool ok])∧RD w' (In w.heap.size w'.heap.size) (jr b) v)∧Below w.heap.size w w':=by
 refine (ag P A c b w hb hP).mono ?_;rintro e w' ⟨h,hB⟩;refine ⟨?_,hB⟩;unfold jr;cases hr:vr b with
 | none=>rw [hr] at h;exact ⟨_,false,h,wi (tag:=0) (vn _ _) (by decide)⟩
 | some p =>
   obtain ⟨t,n⟩:=p;rw [hr] at h;obtain ⟨v,rfl,hd⟩:=h;exact ⟨v,_,rfl,hd⟩
theorem RD.in_ {w w':World}{lo:Nat}{t:DN}{v:Value}(h:RD w (In lo w.heap.size) t v) (hb:Below w.heap.size w w'):RD w' (In lo w'.heap.size) t v:=(h.below hb fun q hq=>hq.2).mono fun q hq=>⟨hq.1,zR hq.2 hb.size⟩
theorem RD.all {w:World}{lo:Nat}{t:DN}{v:Value}(h:RD w (In lo w.heap.size) t v):RD w (Al w) t v:=h.mono fun q hq=>hq.2
theorem RD.bytes {w:World}{P:Nat→Prop}{t:DN}{x:Int}{B1 B2:Option Addr}{n1 d1 n2 d2:Nat}(h:RD w P t (.agg #[.int .i64 x,.slice B1 n1 d1,.slice B2 n2 d2])):n1=(kK t).length∧RB w P B1 d1 (kK t):=by
 obtain ⟨tag,bs,kids⟩:=t;obtain ⟨A',c',Ak,ck,cs,he,hb,_⟩:=h.open_;injection he with he
 simp only [Array.mk.injEq,List.cons.injEq,Value.int.injEq,Value.slice.injEq,and_true,true_and] at he;obtain ⟨rfl,⟨rfl,rfl,rfl⟩,rfl,rfl,rfl⟩:=he;exact ⟨rfl,hb⟩
theorem n7 {W Y:World}{s:Nat}{a0 a1 a2:Value}{ty:TypeId}{u0 u1 u2:Value}(hY:((W.setCell ⟨s,0,none⟩ u0).setCell ⟨s,1,none⟩ u1).setCell ⟨s,2,none⟩ u2=Y) (ha:W.heap[s]?=some (.cells #[a0,a1,a2] ty (0,0))) :
 (∀ b,b≠s→Y.heap[b]?=W.heap[b]?)∧Y.heap.size=W.heap.size∧Y.heap[s]?=some (.cells #[u0,u1,u2] ty (0,0))∧∀ B,B≤s→Below B W Y:=by
 subst hY
 refine ⟨fun b hb=>(zN _ _ _ _ hb).trans ((zN _ _ _ _ hb).trans (zN _ _ _ _ hb)),by simp [World.setCell],xM ha u0 u1 u2,fun B hB=>?_⟩
 exact (((zO B W).setCell (p:=⟨s,0,none⟩) hB u0).setCell (p:=⟨s,1,none⟩) hB u1).setCell (p:=⟨s,2,none⟩) hB u2
theorem ap (P:Nat→Prop) (A:Option Addr) (c:Nat) (b:List Nat) (w:World) (hb:RB w P A c b) (hP:∀ q,P q→q<w.heap.size) :
 Calls Tryz.prog 62 #[.slice A b.length c] w fun e w'=>(∃ v1 v2,e=.returned (.tuple #[v1,v2])∧RD w' (Al w') (jr b) v1∧RD w' (Al w') (jr (kK (atT (jr b) [2]))) v2)∧Below w.heap.size w w':=by
 obtain ⟨W0,hW0⟩:=eW ((w.alloc (.cells #[.int .i64 0,.slice none 0 0,.slice none 0 0] 80)).alloc (.cells #[.int .i64 0,.slice none 0 0,.slice none 0 0] 80))
 obtain ⟨s,hs⟩:=eV w.heap.size
 obtain ⟨hq0,hq1,hz⟩:=aL w (.cells #[.int .i64 0,.slice none 0 0,.slice none 0 0] 80) (.cells #[.int .i64 0,.slice none 0 0,.slice none 0 0] 80)
 have hE:Below s w W0:=by rw [hW0,←hs];exact ((zO _ w).alloc (zH _) _).alloc (by simp) _
 rw [←hW0,hs] at hq0 hq1 hz
 have HRd:=zF (cB P A c b W0 (hb.below (hs▸hE) hP) (fun q hq=>by have:=hP q hq;omega))
 have hf:∀ (a b c:Value) (w:World),Sem.run Tryz.prog (Instr.field 80 (.agg #[a,b,c]) 1) w=.ok b w:=fun _ _ _ _=>by kernel_rfl
 have HE:=zF hE
 have Hz:=zF hz
 have Hs:=zF hs
 have Hq0:=zF hq0
 have Hq1:=zF hq1
 obtain ⟨T1,hT1⟩:=eV (jr b)
 rw [hT1] at HRd ⊢
 rw [hs]
 clear hb hP hq0 hq1 hE hz hs hT1
 go_enter Tryz.func62,Tryz.ntmps62
 go_upto_region 1 with fail
 rw [←hW0]
 clear hW0
 simp only [qL,Hs.out]
 go_wp2_with fail
 refine HRd.out.mono ?_
 rintro e w1 ⟨⟨v1,ok1,rfl,hd1⟩,hB1⟩
 obtain ⟨x1,B1,n1,d1,B2,n2,d2,rfl⟩:=hd1.shape
 obtain ⟨b4,hb4⟩:=eV w1.heap.size
 have hA:Below w1.heap.size w1 (w1.alloc (.cells #[.int .i64 x1,.slice B1 n1 d1,.slice B2 n2 d2] 80)):=(zO _ w1).alloc (zH _) _
 have hq4:=zP w1 (.cells #[.int .i64 x1,.slice B1 n1 d1,.slice B2 n2 d2] 80)
 rw [hb4] at hq4
 have HD1:=zF (hd1.in_ hA)
 have Hq4:=zF hq4
 have HB2:=zF (hB1.trans (Below.mono hA hB1.size))
 have Hs1:=zF (show W0.heap.size≤w1.heap.size from hB1.size)
 have Hs2:=zF (show (w1.alloc (.cells #[.int .i64 x1,.slice B1 n1 d1,.slice B2 n2 d2] 80)).heap.size=w1.heap.size+1 by simp)
 have Hb4:=zF hb4
 clear hd1 hB1 hA hq4 hb4 HRd
 go_upto_region 2 with fail
 rw [Hb4.out]
 generalize w1.alloc (.cells #[.int .i64 x1,.slice B1 n1 d1,.slice B2 n2 d2] 80)=W2 at *
 obtain ⟨z0,z1,z2,f0,f1,f2⟩:=jn Hq4.out
 have hA3:Ext W2 (W2.alloc (.cells #[.int .i64 2] 3)):=zb _ _
 have hrz:RZ (W2.alloc (.cells #[.int .i64 2] 3)) (Al (W2.alloc (.cells #[.int .i64 2] 3))) (some ⟨W2.heap.size,0,none⟩) 1 ([2].map fun (i:Nat)=>(i:Int)):=jM (w:=W2) (P:=Al (W2.alloc (.cells #[.int .i64 2] 3))) #[.int .i64 2] 3 1 1 rfl (by unfold maxLen;omega) (by simp [Al])
 have HAt:=zF (bc T1 _ _ _ 1 [2] _ (RD.al HD1.out.all hA3) hrz (fun q hq=>hq) (by simp))
 have HE3:=zF hA3
 clear hA3 hrz
 go_wp2_with fail
 refine HAt.out.mono ?_
 rintro e w3 ⟨⟨v3,rfl,hd3⟩,hB3⟩
 have HE4:=zF (zI HE3.out hB3)
 obtain ⟨T3,hT3⟩:=eV (atT T1 [2])
 rw [hT3] at hd3
 obtain ⟨x3,C1,k1,g1,C2,k2,g2,rfl⟩:=hd3.shape
 obtain ⟨rfl,hr3⟩:=hd3.bytes
 have HR3:=zF (cB _ C1 g1 _ w3 hr3 (fun q hq=>hq))
 have HT3:=zF hT3
 clear hd3 hB3 hr3 hT3 HE3 HAt z0 z1 z2 f0 f1 f2
 go_wp2_with fail
 refine HR3.out.mono ?_
 rintro e w5 ⟨⟨v5,ok5,rfl,hd5⟩,hB5⟩
 obtain ⟨x5,D1,m1,j1,D2,m2,j2,rfl⟩:=hd5.shape
 obtain ⟨b6,hb6⟩:=eV w5.heap.size
 have hA6:Ext w5 (w5.alloc (.cells #[.int .i64 x5,.slice D1 m1 j1,.slice D2 m2 j2] 80)):=zb _ _
 have HE6:=zF (zI HE4.out (zI hB5 hA6))
 have HD5:=zF (hd5.in_ hA6)
 have Hs3:=zF (show W2.heap.size≤w3.heap.size from HE4.out.bsize)
 have Hs5:=zF (show w3.heap.size≤w5.heap.size from hB5.size)
 have Hs6:=zF (show (w5.alloc (.cells #[.int .i64 x5,.slice D1 m1 j1,.slice D2 m2 j2] 80)).heap.size=w5.heap.size+1 by simp)
 have hq6:=zP w5 (.cells #[.int .i64 x5,.slice D1 m1 j1,.slice D2 m2 j2] 80)
 rw [hb6] at hq6
 have Hq6:=zF hq6
 have Hb6:=zF hb6
 clear hd5 hB5 hA6 hq6 hb6 HR3
 go_upto_region 3 with fail
 rw [Hb6.out]
 generalize w5.alloc (.cells #[.int .i64 x5,.slice D1 m1 j1,.slice D2 m2 j2] 80)=W6 at *
 have hs6:s+2≤W6.heap.size:=by have:=HE6.out.bsize;have:=HB2.out.size;have:=Hz.out;omega
 have e0:=Hz.out
 have e1:=Hs1.out
 have e2:=Hs2.out
 have e3:=Hs3.out
 have e4:=Hs5.out
 have e5:=Hs6.out
 have e6:=Hb4.out
 have e7:=Hb6.out
 have hB6:Below (s+2) W0 W6:=by rw [←e0];exact HB2.out.trans (Below.mono HE6.out HB2.out.size)
 have hqa:=(hB6.block s (by omega)).trans Hq0.out
 have hqb:=(hB6.block (s+1) (by omega)).trans Hq1.out
 have hq46:=HE6.out.at_ Hq4.out
 obtain ⟨p0,p1,p2,r0,r1,r2⟩:=jn hqa
 obtain ⟨s0,s1,s2,t0,t1,t2⟩:=jn hqb
 obtain ⟨z0,z1,z2,f0,f1,f2⟩:=jn hq46
 obtain ⟨y0,y1,y2,g0,g1,g2⟩:=jn Hq6.out
 have u1:b4≠s:=by omega
 have u2:b6≠s:=by omega
 have Hqa:=zF hqa
 have Hqb:=zF hqb
 have HB6:=zF hB6
 have Hsz:=zF (show s+2≤W6.heap.size by omega)
 clear hqa hqb hq46 e0 e1 e2 e3 e4 e5 e6 e7 hB6
 go_region
 go_wp2
 generalize hY1:((W6.setCell ⟨s,0,none⟩ (.int .i64 x1)).setCell ⟨s,1,none⟩ (.slice B1 n1 d1)).setCell ⟨s,2,none⟩ (.slice B2 n2 d2)=Y1
 obtain ⟨k1,z1,a1,w1'⟩:=n7 hY1 Hqa.out
 clear hY1
 generalize hY2:((Y1.setCell ⟨s+1,0,none⟩ (.int .i64 x5)).setCell ⟨s+1,1,none⟩ (.slice D1 m1 j1)).setCell ⟨s+1,2,none⟩ (.slice D2 m2 j2)=Y2
 obtain ⟨k2,z2,a2,w2'⟩:=n7 hY2 ((k1 (s+1) (by omega)).trans Hqb.out)
 clear hY2
 have hk:∀ b,b≠s→b≠s+1→Y2.drew.heap[b]?=W6.heap[b]?:=fun b h1 h2=>(k2 b h2).trans (k1 b h1)
 have hsz:Y2.drew.heap.size=W6.heap.size:=z2.trans z1
 have hYa:Y2.drew.heap[s]?=some (.cells #[.int .i64 x1,.slice B1 n1 d1,.slice B2 n2 d2] 80 (0,0)):=(k2 s (by omega)).trans a1
 have hYb:Y2.drew.heap[s+1]?=some (.cells #[.int .i64 x5,.slice D1 m1 j1,.slice D2 m2 j2] 80 (0,0)):=a2
 have hBY:Below s W6 Y2.drew:=qR ((w1' s (zH _)).trans (w2' s (Nat.le_succ _))) 1
 clear k1 z1 a1 w1' k2 z2 a2 w2'
 generalize Y2.drew=Y at *
 have i0:=zJ hYa 0
 have i1:=zJ hYa 1
 have i2:=zJ hYa 2
 have i3:=zJ hYb 0
 have i4:=zJ hYb 1
 have i5:=zJ hYb 2
 simp only [zK,zL,zS] at i0 i1 i2 i3 i4 i5
 have e0:=Hz.out
 have e1:=Hs1.out
 have e2:=Hs2.out
 have e3:=Hs3.out
 have e4:=Hs5.out
 try rw [jE]
 refine qS (v:=.tuple #[.agg #[.int .i64 x1,.slice B1 n1 d1,.slice B2 n2 d2],.agg #[.int .i64 x5,.slice D1 m1 j1,.slice D2 m2 j2]]) (by simp [results,Tryz.results62,go_sem,i0,i1,i2,i3,i4,i5]) rfl ⟨⟨_,_,rfl,?_,?_⟩,?_⟩
 · have h1:=RD.in_ HD1.out HE6.out;exact (RD.keep (fun p hp=>zT (hk _ (by have:=hp.1;omega) (by have:=hp.1;omega))) h1).mono fun q hq=>by have:=hq.2;unfold Al;omega
 · rw [HT3.out];exact (RD.keep (fun p hp=>zT (hk _ (by have:=hp.1;omega) (by have:=hp.1;omega))) HD5.out).mono fun q hq=>by have:=hq.2;unfold Al;omega
 · exact HE.out.trans ((HB6.out.mono (by omega)).trans hBY)
end Go.Proofs.YtmlbicgpehchhaaGreat.Der
namespace Go.Proofs.YtmlbicgpehchhaaGreat.Ec
open Go.RowKit Go.Shelf Der
attribute [local go_sem] Oper.semAt_some
theorem zBs {c:Int}(g1:c≠1) (g2:c≠2) (P:Nat→Prop) (A:Option Addr) (cap:Nat) (l:List Nat) (w:World) (h:RN w P A cap l) (hP:∀ b,P b→b<w.heap.size) :
 Calls Tryz.prog 11 #[.int .i64 c,.slice A l.length cap] w fun e w'=>WrB none e w'∧Below w.heap.size w w':=by
 have HPu:=zF (fun X (hX:Ext w X)=>cR (C:=c0) (.inr ⟨g1,g2,rfl⟩) P A cap l X (h.below hX hP) (fun b hb=>zR (hP b hb) hX.bsize))
 have HPa:=zF (sj c w g1 g2)
 clear h hP g1 g2
 go_enter Tryz.func11,Tryz.ntmps11
 go_wp2_with fail
 refine HPa.out.mono ?_
 rintro e w1 ⟨rfl,hB1⟩
 have HE1:Hid (Ext w (w1.alloc (.cells #[.int .i64 0,.slice none 0 0,.slice none 0 0] 80))):=zF (zI hB1 (zb _ _))
 clear hB1 HPa
 go_upto_region 2 with fail
 generalize w1.alloc (.cells #[.int .i64 0,.slice none 0 0,.slice none 0 0] 80)=W1 at *
 have HPu1:=zF (HPu.out W1 HE1.out)
 go_wp2_with fail
 refine HPu1.out.mono ?_
 rintro e w2 ⟨o,rfl,hv,hE2⟩
 obtain ⟨bi,C1,g1,k1,C2,g2,k2,rfl⟩:=Ec.PtV.shape (w:=w2) (base:=W1.heap.size) (o:=(cS c0 (val 18446744073709551616 l)).join) hv
 have HE2:Hid (Ext W1 (w2.alloc (.cells #[.bool bi,.slice C1 g1 k1,.slice C2 g2 k2] 29))):=zF (zI hE2 (zb _ _))
 generalize (cS c0 (val 18446744073709551616 l)).isSome=ok
 clear hv hE2 HPu1 HPu
 go_upto_region 3 with fail
 generalize w2.alloc (.cells #[.bool bi,.slice C1 g1 k1,.slice C2 g2 k2] 29)=W2 at *
 go_wp2
 go_ret2
 exact ⟨⟨_,_,rfl,vn _ _⟩,zI HE1.out HE2.out⟩
end Go.Proofs.YtmlbicgpehchhaaGreat.Ec
namespace Go.Proofs.YtmlbicgpehchhaaGreat.Der
open Go.RowKit Go.Shelf
attribute [local go_sem] Oper.semAt_some
theorem mU (P:Nat→Prop) (A:Option Addr) (c:Nat) (B:List Nat) (w:World) (h:RB w P A c B) (hP:∀ q,P q→q<w.heap.size) (hl:B.length≤1000000) :
 Calls Tryz.prog 60 #[.slice A B.length c] w fun e w'=>(∃ A1 c1,e=.returned (.agg #[.int .i64 3,.slice A1 (0 :: B).length c1,.slice none 0 0])∧RB w' (Al w') A1 c1 (0 :: B))∧Below w.heap.size w w':=by
 obtain ⟨W0,hW0⟩:=eW (w.alloc (.cells #[.int .i64 0,.slice none 0 0,.slice none 0 0] 80))
 obtain ⟨s,hs⟩:=eV w.heap.size
 have hq:=zP w (.cells #[.int .i64 0,.slice none 0 0,.slice none 0 0] 80)
 have hE:Below s w W0:=by rw [hW0,←hs];exact (zO _ w).alloc (zH _) _
 have hz:W0.heap.size=s+1:=by rw [hW0,←hs];simp
 rw [←hW0,hs] at hq
 have HO:=zF (OW.lit W0 0 (by omega))
 have hA:Below W0.heap.size W0 (W0.alloc (.cells #[.int .u8 ((0:Nat):Int)] 5)):=(zO _ W0).alloc (zH _) _
 have HRB:=zF ((h.below (hs▸hE) hP).below hA (fun q hq=>by have:=hP q hq;omega))
 have HA:=zF hA
 have HE:=zF hE
 have Hz:=zF hz
 have Hs:=zF hs
 have Hq:=zF hq
 have Hl:=zF hl
 rw [hs]
 have c0:((0:Nat):Int)=0:=rfl
 rw [c0] at HO HRB HA
 clear h hP hA hE hz hs hq hl c0
 go_enter Tryz.func60,Tryz.ntmps60
 go_upto_region 1 with fail
 rw [←hW0,Hs.out]
 clear hW0
 go_wp2_with (at_builtin;refine yr rfl (.tmp 3) (.tmp 4) rfl W0.heap.size (bs:=[0]) (cs:=B) rfl HO.out rfl HRB.out (by have:=Hl.out;simp;omega) HA.out.size ?_)
 intro A1 c1 w3 hw3 hb3
 have HW3:=zF hw3
 have hB3:=HA.out.trans hb3
 have hq3:=(hB3.block s (by have:=Hz.out;omega)).trans Hq.out
 obtain ⟨p0,p1,p2,r0,r1,r2⟩:=jn hq3
 have HB3:=zF hB3
 have Hq3:=zF hq3
 clear hw3 hb3 hB3 hq3
 go_wp2
 have hr:=HW3.out.rb (by have:=Hl.out;simp;omega)
 have HF:=zF (HE.out.trans (HB3.out.mono (show s≤W0.heap.size by have:=Hz.out;omega)))
 refine uE rfl rfl rfl (xM Hq3.out _ _ _) ⟨⟨A1,c1,by first | rfl | simp,?_⟩,?_⟩
 · refine (hr.keep fun p hp=>zT ?_).mono fun q hq=>by have:=hq.2;simpa [Al,World.setCell] using this
   have hq:p.block≠s:=by have:=hp.1;have:=Hz.out;omega
   exact (zN _ _ _ _ hq).trans ((zN _ _ _ _ hq).trans (zN _ _ _ _ hq))
 · exact ((HF.out.setCell (p:=⟨s,0,none⟩) (by simp) _).setCell (p:=⟨s,1,none⟩) (by simp) _).setCell (p:=⟨s,2,none⟩) (by simp) _
def fL (t:DN):List Nat:=(kK (atT t [1])).drop 1
theorem zAs (t:DN) (v:Value) (w:World) (h:RD w (Al w) t v) :
 Calls Tryz.prog 70 #[v] w fun e w'=>(∃ A1 c1,e=.returned (.slice A1 (fL t).length c1)∧RB w' (Al w') A1 c1 (fL t))∧Below w.heap.size w w':=by
 obtain ⟨xi,B1,n1,d1,B2,n2,d2,rfl⟩:=h.shape
 obtain ⟨s,hs⟩:=eV w.heap.size
 obtain ⟨W0,hW0⟩:=eW (w.alloc (.cells #[.int .i64 xi,.slice B1 n1 d1,.slice B2 n2 d2] 80))
 have hE:Ext w W0:=by rw [hW0];exact zb _ _
 have hq:=zP w (.cells #[.int .i64 xi,.slice B1 n1 d1,.slice B2 n2 d2] 80)
 rw [←hW0,hs] at hq
 have hA3:Ext W0 (W0.alloc (.cells #[.int .i64 1] 3)):=zb _ _
 have hrz:RZ (W0.alloc (.cells #[.int .i64 1] 3)) (Al (W0.alloc (.cells #[.int .i64 1] 3))) (some ⟨W0.heap.size,0,none⟩) 1 ([1].map fun (i:Nat)=>(i:Int)):=jM (w:=W0) (P:=Al (W0.alloc (.cells #[.int .i64 1] 3))) #[.int .i64 1] 3 1 1 rfl (by unfold maxLen;omega) (by simp [Al])
 have HAt:=zF (bc t _ _ _ 1 [1] _ (h.al (zI hE hA3)) hrz (fun q hq=>hq) (by simp))
 obtain ⟨T,hT⟩:=eV (atT t [1])
 unfold fL
 rw [hT] at HAt ⊢
 obtain ⟨bs,hbs⟩:=eV (kK T)
 rw [hbs]
 have Hbs:=zF hbs
 clear hbs
 obtain ⟨z0,z1,z2,f0,f1,f2⟩:=jn hq
 have HE:=zF (zI hE hA3)
 have Hs:=zF hs
 clear h hE hq hA3 hrz hs hT
 go_enter Tryz.func70,Tryz.ntmps70
 go_upto_region 1 with fail
 rw [←hW0,Hs.out]
 clear hW0
 go_wp2_with fail
 refine HAt.out.mono ?_
 rintro e w3 ⟨⟨v3,rfl,hd3⟩,hB3⟩
 obtain ⟨x3,C1,k1,g1,C2,k2,g2,rfl⟩:=hd3.shape
 obtain ⟨hk,hr3⟩:=hd3.bytes
 obtain ⟨b,hb⟩:=eV w3.heap.size
 have hA:Ext w3 (w3.alloc (.cells #[.int .i64 x3,.slice C1 k1 g1,.slice C2 k2 g2] 80)):=zb _ _
 have hq3:=zP w3 (.cells #[.int .i64 x3,.slice C1 k1 g1,.slice C2 k2 g2] 80)
 rw [hb] at hq3
 have HR:=zF (jk hr3 hA)
 have HX:=zF (zI HE.out (zI hB3 hA))
 have Hb:=zF hb
 rw [Hbs.out] at HR hk
 have Hk:=zF hk
 clear hd3 hB3 hA hr3 hb hk z0 z1 z2 f0 f1 f2 HAt HE
 go_upto_region 2 with fail
 rw [Hb.out]
 generalize w3.alloc (.cells #[.int .i64 x3,.slice C1 k1 g1,.slice C2 k2 g2] 80)=W4 at *
 obtain ⟨y0,y1,y2,f0,f1,f2⟩:=jn hq3
 clear hq3
 by_cases hp:0<k1
 · have hp':(0:Int)<(k1:Int):=by omega
   obtain ⟨A5,s5,q5⟩:=yf HR.out Hk.out.symm (k:=1) (m:=k1 - 1) (by omega);have c1':((1:Nat):Int)=1:=rfl;rw [c1'] at s5;have Q5:=zF q5;clear q5 c1';go_wp2;go_ret;exact ⟨⟨A5,g1 - 1,by rw [jC,←Hk.out];rfl,Q5.out⟩,HX.out⟩
 · have hp':¬ (0:Int)<(k1:Int):=by omega
   have hnil:bs=[]:=qC (by have:=Hk.out;omega);have Hnil:=zF hnil;clear hnil;go_wp2;go_ret;exact ⟨⟨none,0,by rw [Hnil.out];rfl,by rw [Hnil.out];exact vn _ _⟩,HX.out⟩
theorem tH {c:Int}{oc:List Nat}(hn:IsN c oc) (w:World) :
 Calls Tryz.prog 35 #[.int .i64 c] w fun e w'=>WrB (vR (.mk 6 oc [])) e w'∧Below w.heap.size w w':=by
 have HPa:=zF (nm hn w)
 obtain ⟨L,hL⟩:=eV oc.length
 rw [hL] at HPa
 have HL:=zF hL
 clear hL hn
 go_enter Tryz.func35,Tryz.ntmps35
 go_wp2_with fail
 refine HPa.out.mono ?_
 rintro e w1 ⟨⟨Ac,cc,rfl,hr⟩,hB1⟩
 obtain ⟨b,hb⟩:=eV w1.heap.size
 have hq:=zP w1 (.cells #[.int .i64 6,.slice Ac L cc,.slice none 0 0] 80)
 have hE1:Ext w1 (w1.alloc (.cells #[.int .i64 6,.slice Ac L cc,.slice none 0 0] 80)):=zb _ _
 have hlf:=wi (tag:=6) (RB.al hr hE1 (fun q hq=>hq.2) hE1.bsize) (by decide)
 rw [HL.out] at hlf
 rw [hb] at hq
 have HW:=zF ((xB _ _ _ _ hlf (fun q hq=>hq)).mono fun e w' h=>(⟨h.1.b,h.2⟩:WrB (vR (.mk 6 oc [])) e w'∧Below _ _ w'))
 have HE1:=zF (zI hB1 hE1)
 have Hb:=zF hb
 clear hr hB1 hE1 hlf hb HPa
 go_upto_region 2 with fail
 rw [Hb.out]
 generalize w1.alloc (.cells #[.int .i64 6,.slice Ac L cc,.slice none 0 0] 80)=W1 at *
 obtain ⟨z0,z1,z2,f0,f1,f2⟩:=jn hq
 go_wp2_with fail
 refine HW.out.mono ?_
 rintro e w2 ⟨⟨A2,c2,rfl,hr2⟩,hB2⟩
 have HR:=zF hr2
 have HB:=zF (zI HE1.out hB2)
 clear hr2 hB2 HW
 go_wp2
 go_ret2
 exact ⟨⟨A2,c2,rfl,HR.out⟩,HB.out⟩
def vl (z:Int) (bs:List Nat):Int:=if z=6∧bs=gO then 1 else if z=6∧bs=gN then 2 else 0
theorem dC (P:Nat→Prop) (z:Int) (A Ak:Option Addr) (c nk ck:Nat) (bs:List Nat) (w:World) (hb:RB w P A c bs) (hP:∀ q,P q→q<w.heap.size):Calls Tryz.prog 63 #[.agg #[.int .i64 z,.slice A bs.length c,.slice Ak nk ck]] w fun e w'=>e=.returned (.int .i64 (vl z bs))∧Below w.heap.size w w':=by
 have hB:=((zO w.heap.size w).alloc (zH _) (.cells #[.int .i64 z,.slice A bs.length c,.slice Ak nk ck] 80)).alloc (by simp) (.cells #[.int .i64 1,.int .i64 2] 3);have hb':=(zx (w.alloc (.cells #[.int .i64 z,.slice A bs.length c,.slice Ak nk ck] 80)) (.cells #[.int .i64 1,.int .i64 2] 3) w.heap.size (by simp)).trans (zP w _);have hc:=zP (w.alloc (.cells #[.int .i64 z,.slice A bs.length c,.slice Ak nk ck] 80)) (.cells #[.int .i64 1,.int .i64 2] 3);rw [qL] at hc;have HB:=zF hB;have Hb:=zF hb';have Hc:=zF hc;have HR:=zF hb;have HP:=zF hP;clear hB hb hc hb' hP;obtain ⟨s,hs⟩:=eV w.heap.size;rw [hs] at HB Hb Hc HP;have Hs:=zF hs;clear hs;go_enter Tryz.func63,Tryz.ntmps63;go_wp2;rw [Hs.out];go_loopw [9] (fun i wr=>∃ y:Int,i=.int .i64 y∧Below s w wr∧wr.heap[s]?=some (.cells #[.int .i64 z,.slice A bs.length c,.slice Ak nk ck] 80 (0,0))∧wr.heap[s+1]?=some (.cells #[.int .i64 1,.int .i64 2] 3 (0,0))∧(z=6→y≠0→bs≠gO)∧(y=2→z=6→bs≠gN)∧(y=0∨y=1∨y=2)) (fun i _=>2 - (intOf i).toNat);case atStart=>exact ⟨0,rfl,HB.out,Hb.out,Hc.out,fun _ h=>absurd rfl h,fun h=>absurd h (by decide),.inl rfl⟩
 case round =>
  clear HB Hb Hc;obtain ⟨y,rfl,hB,hb,hc,hn1,hn2,hz⟩:=hrel;have HN1:=zF hn1;have HN2:=zF hn2;clear hn1 hn2;have x0:=zJ hc 0;have x1:=zJ hc 1;simp only [zK,zL,zS] at x0 x1;have hl1:=qw hc;have hs1:=hB.size;have HB:=zF hB;have Hb:=zF hb;have Hc:=zF hc;clear hB hb hc;rcases hz with rfl | rfl | rfl
  · go_wp2_with fail;refine (nr wr).mono ?_;rintro e w2 ⟨⟨A1,c1,rfl,hr1⟩,hB2⟩;have h2:=(hB2.block s (by omega)).trans Hb.out;have h3:=(hB2.block (s+1) hl1).trans Hc.out;have hlt:s<w2.heap.size:=by have:=hB2.size;omega
    have hlt3:s+1<w2.heap.size:=by have:=hB2.size;omega
    have q0:=zJ h2 0;have q1:=zJ h2 1;simp only [zK,zL,zS] at q0 q1;have HB3:=zF (HB.out.trans (hB2.mono (by omega)));have H2:=zF h2;have H3:=zF h3;have Hr1:=zF (hr1.keep (w':=w2.alloc (.cells #[.int .i64 6,.slice A1 8 c1,.slice none 0 0] 80)) fun p hp=>zT (zx _ _ _ hp.2));have HR2:=zF (HR.out.keep (w':=w2.alloc (.cells #[.int .i64 6,.slice A1 8 c1,.slice none 0 0] 80)) fun p hp=>zT ((zx _ _ _ (by have:=HP.out _ hp;omega)).trans ((hB2.block _ (by have:=HP.out _ hp;omega)).trans (HB.out.block _ (HP.out _ hp)))));clear h2 h3 hB2 x0 x1 hr1;by_cases h6:z=6
    · subst h6;have he:=yq _ _ A A1 c c1 bs gO _ HR2.out Hr1.out;rw [show gO.length=8 from rfl] at he;obtain ⟨d,hd⟩:∃ d,decide (bs=gO)=d:=⟨_,rfl⟩
      rw [hd] at he;have HE:=zF he;have Hd:=zF hd;clear he hd;go_wp2_with fail;refine HE.out.mono ?_;rintro e w3 ⟨rfl,rfl⟩;cases d
      · have hno:bs≠gO:=by simpa using Hd.out
        have Hno:=zF hno;clear hno;go_wp2;go_roundw;case rel=>exact ⟨1,by go_num,HB3.out.alloc (by omega) _,(zx _ _ _ hlt).trans H2.out,(zx _ _ _ hlt3).trans H3.out,fun _ _=>Hno.out,fun h=>absurd h (by decide),.inr (.inl rfl)⟩
        case measure=>first | (simp [intOf];done) | (simp [intOf];decide)
      · have hyes:bs=gO:=by simpa using Hd.out
        have HW:Hid (vl 6 bs=1):=zF (by rw [hyes];decide);clear hyes;go_wp2;go_ret;exact ⟨(by rw [HW.out];rfl),by rw [Hs.out];exact HB3.out.alloc (by omega) _⟩
    · have h6':(z==6)=false:=by simpa using h6
      have H6:=zF h6;clear h6;go_wp2;go_roundw;case rel=>exact ⟨1,by go_num,HB3.out.alloc (by omega) _,(zx _ _ _ hlt).trans H2.out,(zx _ _ _ hlt3).trans H3.out,fun h=>absurd h H6.out,fun h=>absurd h (by decide),.inr (.inl rfl)⟩
      case measure=>first | (simp [intOf];done) | (simp [intOf];decide)
  · go_wp2_with fail;refine (np wr).mono ?_;rintro e w2 ⟨⟨A1,c1,rfl,hr1⟩,hB2⟩;have h2:=(hB2.block s (by omega)).trans Hb.out;have h3:=(hB2.block (s+1) hl1).trans Hc.out;have hlt:s<w2.heap.size:=by have:=hB2.size;omega
    have hlt3:s+1<w2.heap.size:=by have:=hB2.size;omega
    have q0:=zJ h2 0;have q1:=zJ h2 1;simp only [zK,zL,zS] at q0 q1;have HB3:=zF (HB.out.trans (hB2.mono (by omega)));have H2:=zF h2;have H3:=zF h3;have Hr1:=zF (hr1.keep (w':=w2.alloc (.cells #[.int .i64 6,.slice A1 5 c1,.slice none 0 0] 80)) fun p hp=>zT (zx _ _ _ hp.2));have HR2:=zF (HR.out.keep (w':=w2.alloc (.cells #[.int .i64 6,.slice A1 5 c1,.slice none 0 0] 80)) fun p hp=>zT ((zx _ _ _ (by have:=HP.out _ hp;omega)).trans ((hB2.block _ (by have:=HP.out _ hp;omega)).trans (HB.out.block _ (HP.out _ hp)))));clear h2 h3 hB2 x0 x1 hr1;by_cases h6:z=6
    · subst h6;have he:=yq _ _ A A1 c c1 bs gN _ HR2.out Hr1.out;rw [show gN.length=5 from rfl] at he;obtain ⟨d,hd⟩:∃ d,decide (bs=gN)=d:=⟨_,rfl⟩
      rw [hd] at he;have HE:=zF he;have Hd:=zF hd;clear he hd;go_wp2_with fail;refine HE.out.mono ?_;rintro e w3 ⟨rfl,rfl⟩;cases d
      · have hno:bs≠gN:=by simpa using Hd.out
        have Hno:=zF hno;clear hno;go_wp2;go_roundw;case rel=>exact ⟨2,by go_num,HB3.out.alloc (by omega) _,(zx _ _ _ hlt).trans H2.out,(zx _ _ _ hlt3).trans H3.out,fun h _=>HN1.out h (by decide),fun _ _=>Hno.out,.inr (.inr rfl)⟩
        case measure=>first | (simp [intOf];done) | (simp [intOf];decide)
      · have hyes:bs=gN:=by simpa using Hd.out
        have HW:Hid (vl 6 bs=2):=zF (by rw [hyes];decide);clear hyes;go_wp2;go_ret;exact ⟨(by rw [HW.out];rfl),by rw [Hs.out];exact HB3.out.alloc (by omega) _⟩
    · have h6':(z==6)=false:=by simpa using h6
      have H6:=zF h6;clear h6;go_wp2;go_roundw;case rel=>exact ⟨2,by go_num,HB3.out.alloc (by omega) _,(zx _ _ _ hlt).trans H2.out,(zx _ _ _ hlt3).trans H3.out,fun h=>absurd h H6.out,fun _ h=>absurd h H6.out,.inr (.inr rfl)⟩
      case measure=>first | (simp [intOf];done) | (simp [intOf];decide)
  · have hw:vl z bs=0:=by
     unfold vl;rw [qA (fun h=>HN1.out h.1 (by decide) h.2),qA (fun h=>HN2.out rfl h.1 h.2)]
    have HW:=zF hw;clear hw;go_wp2;go_ret;exact ⟨(by rw [HW.out];rfl),by rw [Hs.out];exact HB.out⟩
end Go.Proofs.YtmlbicgpehchhaaGreat.Der
namespace Go.Proofs.YtmlbicgpehchhaaGreat.Der
open Go.RowKit Go.Shelf Ec
mutual
def smT (N:Nat):DN→Prop
 | .mk _ bs ks=>bs.length≤N∧uH N ks
def uH (N:Nat):List DN→Prop
 | []=>True
 | k :: ks=>smT N k∧uH N ks
end
mutual
theorem fV {N M:Nat}(h:N≤M):∀ {t:DN},smT N t→smT M t
 | .mk _ _ _, ht => by
   unfold smT at ht ⊢;exact ⟨zQ ht.1 h,dG h ht.2⟩
theorem dG {N M:Nat}(h:N≤M):∀ {ks:List DN},uH N ks→uH M ks
 | [],_=>by unfold uH;trivial
 | k :: ks, ht => by
   unfold uH at ht ⊢;exact ⟨fV h ht.1,dG h ht.2⟩
end
theorem aM {N:Nat} : ∀ {ks:List DN}{k:DN},uH N ks→smT N k→uH N (ks++[k])
 | [], k, _, h => by
   rw [kI,uH,uH];exact ⟨h,trivial⟩
 | x :: ks, k, h, hk => by
   rw [kN,uH];rw [uH] at h;exact ⟨h.1,aM h.2 hk⟩
theorem nU {N:Nat} : ∀ {ks:List DN}{i:Nat}(h:i<ks.length),uH N ks→smT N ks[i]
 | x :: ks,0,_,hs=>by rw [uH] at hs;exact hs.1
 | x :: ks, i + 1, h, hs => by
   rw [uH] at hs;exact nU (ks:=ks) (i:=i) (by simpa using h) hs.2
theorem sB {rd:Nat→List Nat→Option (DN×List Nat×Nat)}{N:Nat}(hr:∀ {left b k r l},rd left b=some (k,r,l)→r.length≤b.length∧smT b.length k):∀ {f left:Nat}{acc:List DN}{b:List Nat}{ks:List DN}{l:Nat},b.length≤N→uH N acc→vL rd f left acc b=some (ks,l)→uH N ks
 | 0, left, acc, b, ks, l, _, ha, e => by
   unfold vL at e;split at e
   · cases e;exact ha
   · cases e
 | f + 1, left, acc, b, ks, l, hb, ha, e => by
   unfold vL at e;split at e
   · cases e;exact ha
   split at e
   · cases e
   rename_i k r l' hk;have:=hr hk;exact sB hr (zQ this.1 hb) (aM ha (fV hb this.2)) e
theorem rh:∀ {d left:Nat}{b:List Nat}{k:DN}{r:List Nat}{l:Nat},ji d left b=some (k,r,l)→smT (b.length - r.length) k
 | 0,_,_,_,_,_,e=>by simp [ji] at e
 | d + 1, left, b, k, r, l, e => by
   rw [ji] at e;split at e
   · cases e
   split at e
   · cases e
   rename_i t h r' hh;have:=oX hh;split at e
   · split at e
     · cases e;rw [smT,uH];exact ⟨by omega,trivial⟩
     · cases e
   · split at e
     · cases e
     · rename_i hk;cases e;rw [smT];refine ⟨by simp,dG (by omega) (sB (N:=h.length) (rd:=ji d) (fun {left b k r l} hx=>⟨by have:=gQ hx;omega,fV (by omega) (rh hx)⟩) (zH _) (by rw [uH];trivial) hk)⟩
theorem zBD {N:Nat} : ∀ {p:List Nat}{t:DN},smT N t→smT N (atT t p)
 | [],t,h=>by rw [m9];exact h
 | i :: p, .mk tag bs kids, h => by
   by_cases hi:i<kids.length
   · rw [mw hi];rw [smT] at h;exact zBD (nU hi h.2)
   · rw [rK (by omega),smT,uH];exact ⟨by simp,trivial⟩
theorem zAI (b:List Nat):smT 65536 (jr b):=by
 unfold jr vr;split
 · rw [smT,uH];exact ⟨by simp,trivial⟩
 · rename_i t n h;split at h
   · cases h
   · rename_i t' r l hn;split at h
     · cases h
     · cases h;exact fV (by omega) (rh hn)
theorem ba (b p:List Nat):(kK (atT (jr b) p)).length≤65536:=by
 have h:=zBD (p:=p) (zAI b);cases ht:atT (jr b) p;rw [ht,smT] at h;exact h.1
def cI:DN→Int
 | .mk tag bs _=>vl tag bs
theorem zAl (t:DN) (v:Value) (w:World) (h:RD w (Al w) t v):Calls Tryz.prog 63 #[v] w fun e w'=>e=.returned (.int .i64 (cI t))∧Below w.heap.size w w':=by
 obtain ⟨tag,bs,kids⟩:=t;obtain ⟨A',c',Ak,ck,cs,rfl,hb,_⟩:=h.open_;exact dC (Al w) tag A' Ak c' _ ck bs w hb (fun q hq=>hq)
def kEC (c:Int) (x:Nat):Option (List Nat):=if c=1 then bS zB4 gO x else if c=2 then bS c384 gN x else none
theorem zBt (c:Int) (P:Nat→Prop) (A:Option Addr) (cap:Nat) (l:List Nat) (w:World) (h:RN w P A cap l) (hP:∀ b,P b→b<w.heap.size) :
 Calls Tryz.prog 11 #[.int .i64 c,.slice A l.length cap] w fun e w'=>WrB (kEC c (val 18446744073709551616 l)) e w'∧Below w.heap.size w w':=by
 unfold kEC
 by_cases h1:c=1
 · rw [qK h1];exact mg (.inl ⟨h1,rfl⟩) (.inl ⟨h1,rfl⟩) P A cap l w h hP
 rw [qA h1]
 by_cases h2:c=2
 · rw [qK h2];exact mg (.inr ⟨h2,rfl⟩) (.inr ⟨h2,rfl⟩) P A cap l w h hP
 rw [qA h2]
 exact zBs h1 h2 P A cap l w h hP
end Go.Proofs.YtmlbicgpehchhaaGreat.Der
namespace Go.Proofs.YtmlbicgpehchhaaGreat.Der
open Go.RowKit Go.Shelf
attribute [local go_sem] Oper.semAt_some
theorem zBE {w:World}{g b0 m c:Nat}{P:Nat→Prop}{A:Option Addr}{cs:List Nat}(hq:w.heap[g]?=some (.cells #[.int .u8 (b0:Int)] 5 (0,0))) (hb:b0<256) (hr:RB w P A c cs) (hm:cs.length=m) (h0:0<m) (hl:m≤1000000) :
 ∃ A' c' w',(∀ ty,(Builtin.append_ #[34,34] ty #[.slice (some ⟨g,0,none⟩) 1 1,.slice A m c]).run Tryz.prog w=.ok (.slice A' (1+m) c') w')∧Ext w w'∧RB w' (Al w') A' c' (b0 :: cs):=by
 obtain ⟨i0,hi,hz0,hz1,hz2⟩:=wM au
 subst hm
 obtain ⟨ad,rfl,_,hc⟩:=hr.1.2.2.2 h0
 have hs:(bys cs).length=cs.length:=by simp [bys]
 have hn:Builtin.nextslicecap (1+cs.length) 1*i0.bytes≤281474976710656:=growslice_fits (by omega) (by rw [hz2];omega)
 have hX:∀ (o:Obj),Ext w (w.drew.alloc o):=fun o=>(qR (zO _ w) 1).alloc (zH _) o
 have hge:=grownCap_ge w (1+cs.length) 1 5
 have hcm:grownCap w (1+cs.length) 1 5≤maxLen:=grownCap_le_maxLen w (1+cs.length) 1 5 (by unfold maxLen;omega)
 refine ⟨_,_,_,fun ty=>run_append_grow (P:=Tryz.prog) w 34 ty 5 i0 (.int .u8 0) Tryz.underlying34 hi hz0 ⟨g,0,none⟩ 1 1 [.int .u8 (b0:Int)] (by rw [hz1];rfl) (fun j v hj=>?_) ad cs.length c (bys cs) (by rw [hs,hz1,jS]) hc (by omega) (by omega) hn,hX _,?_⟩
 · rcases j with _ | j
   · cases hj;have:=zJ hq 0;simpa [Addr.add] using this
   · simp at hj
 · refine ⟨⟨by rw [qh];omega,hcm,by simp [bys],fun _=>⟨_,rfl,?_,fun j v hj=>?_⟩⟩,fun b h=>?_,by rw [qh];omega⟩
   · unfold Al;simp
   · have hk:=zJ (zP w.drew (.cells ([Value.int .u8 (b0:Int)].toArray++(bys cs).toArray++Builtin.zeroCells (Value.int .u8 0).cells (grownCap w (1+cs.length) 1 5 - (1+cs.length))) 5)) j;have e:(⟨w.heap.size,0,none⟩:Addr).add j=⟨w.drew.heap.size,j,none⟩:=by simp [Addr.add];exact fun h=>h.symm
     have hb2:bys (b0 :: cs)=Value.int .u8 (b0:Int) :: bys cs:=rfl;rw [hb2] at hj;rw [e,hk,←hj];have hlt:j<(Value.int .u8 (b0:Int) :: bys cs).length:=by
      rcases zz j (Value.int .u8 (b0:Int) :: bys cs).length with h | h
      · exact h
      · rw [qx h] at hj;cases hj
     have h2 : [Value.int .u8 (b0:Int)].toArray++(bys cs).toArray=(Value.int .u8 (b0:Int) :: bys cs).toArray:=by simp
     rw [h2,Array.getElem?_append_left (by simpa using hlt)];simp
   · rcases List.mem_cons.1 h with h | h
     · subst h;exact hb
     · exact hr.2.1 b h
theorem zCN {o:Oper}{a:Act}{w w':World}{K:Act→World→Prop}{Q:Exit→Act→World→Prop}{v1 v2 v:Value}(s x:Operand) (ho:o.op=.call { callee:=.builtin .append,args:=#[s,x],argTypes:=#[34,34] }) (hs:a.eval s=v1) (hx:a.eval x=v2)
 (hrun:(Builtin.append_ #[34,34] o.type #[v1,v2]).run Tryz.prog w=.ok v w') (h:K (a.put o.dst v) w'):o.wp Tryz.prog a w K Q:=by
 unfold Oper.wp execOp
 simp only [ho,resolve,invoke,builtin,vh,Sem.run_pure,qy,List.map_toArray,wI,wm,hs,hx,hrun]
 exact h
def xK (ta:DN) (B:List Nat):Option (List Nat):=vR (.mk 48 [] [ta,.mk 3 (0 :: B) []])
theorem zAA (ta:DN) (va:Value) (A:Option Addr) (c:Nat) (B:List Nat) (w:World) (ha:RD w (Al w) ta va) (hb:RB w (Al w) A c B) (h0:0<B.length) (hl:B.length≤1000000) :
 Calls Tryz.prog 58 #[va,.slice A B.length c] w fun e w'=>WrB (xK ta B) e w'∧Below w.heap.size w w':=by
 obtain ⟨xi,B1,n1,d1,B2,n2,d2,rfl⟩:=ha.shape
 obtain ⟨W0,hW0⟩:=eW (w.alloc (.cells #[.int .i64 xi,.slice B1 n1 d1,.slice B2 n2 d2] 80))
 obtain ⟨s,hs⟩:=eV w.heap.size
 have hq0:=zP w (.cells #[.int .i64 xi,.slice B1 n1 d1,.slice B2 n2 d2] 80)
 have hE:Ext w W0:=by rw [hW0];exact zb _ _
 rw [←hW0,hs] at hq0
 have HD:=zF (ha.al hE)
 have HR:=zF (jk hb hE)
 obtain ⟨N,hN⟩:=eV B.length
 rw [hN] at h0 hl ⊢
 have HN:=zF hN
 obtain ⟨R,hR⟩:=eV (xK ta B)
 rw [hR]
 unfold xK at hR
 have HRT:=zF hR
 obtain ⟨bs,hbs⟩:=eV (R.getD [])
 obtain ⟨ok,hok⟩:=eV R.isSome
 obtain ⟨M,hM⟩:=eV bs.length
 have Hbs:=zF hbs
 have Hok:=zF hok
 have HM:=zF hM
 have HE:=zF hE
 have Hs:=zF hs
 have H0:=zF h0
 have Hl:=zF hl
 clear ha hb hE hs hR hbs hok hM hN h0 hl
 go_enter Tryz.func58,Tryz.ntmps58
 go_upto_region 1 with fail
 rw [←hW0,Hs.out]
 clear hW0
 refine z8 (by kernel_rfl) 12 [0,0,0,6,14,31,63,127,255,255,1023,2047] [] (fun j f X=>match j with
  | 0=>f 0=.agg #[.int .i64 xi,.slice B1 n1 d1,.slice B2 n2 d2]
  | 1=>∃ b,f 1=.slice (some ⟨b,0,none⟩) 1 1∧X.heap[b]?=some (.cells #[.int .u8 ((0:Nat):Int)] 5 (0,0))
  | 2=>f 2=.slice A N c
  | 3=>∃ A1 c1,f 3=.slice A1 (1+N) c1∧RB X (Al X) A1 c1 (0 :: B)
  | 4=>∃ A1 c1,f 4=.agg #[.int .i64 3,.slice A1 (1+N) c1,.slice none 0 0]∧RB X (Al X) A1 c1 (0 :: B)
  | 5=>∃ b A1 c1,f 5=.slice (some ⟨b,0,none⟩) 2 2∧RS X (Al X) 3 (some ⟨b,0,none⟩) 2 2 [.int .i64 xi,.slice B1 n1 d1,.slice B2 n2 d2,.int .i64 3,.slice A1 (1+N) c1,.slice none 0 0]∧RB X (Al X) A1 c1 (0 :: B)
  | 6=>∃ b A1 c1,f 6=.agg #[.int .i64 48,.slice none 0 0,.slice (some ⟨b,0,none⟩) 2 2]∧RS X (Al X) 3 (some ⟨b,0,none⟩) 2 2 [.int .i64 xi,.slice B1 n1 d1,.slice B2 n2 d2,.int .i64 3,.slice A1 (1+N) c1,.slice none 0 0]∧RB X (Al X) A1 c1 (0 :: B)
  | 7=>∃ A1 c1,f 7=.tuple #[.slice A1 M c1,.bool ok]∧RB X (Al X) A1 c1 bs
  | 8=>∃ A1 c1,f 8=.slice A1 M c1∧RB X (Al X) A1 c1 bs
  | 9=>f 9=.bool ok
  | 10=>∃ A1 c1,f 10=.slice A1 M c1∧RB X (Al X) A1 c1 bs
  | 11=>f 11=.bool ok
  | _=>True) (by kernel_rfl) [(6,0),(7,1),(8,2),(9,3),(10,4),(11,5),(12,6),(13,7),(14,8),(15,9),(4,10),(5,11)] (by kernel_rfl) ?_
 refine qH 1 11 [(7,1),(8,2),(9,3),(10,4)] (fun f X hX hR K hK=>?_) ?_
 · simp only [yZ];refine ⟨zZ (by kernel_rfl) (vf 80 (.tmp 2) rfl rfl (hX.at_ hq0) Tryz.underlying80 rfl yo rfl ?_)⟩;exact jA hK (s:=by simp only [yZ])
 refine qH 2 10 [(6,0),(8,2)] (fun f X hX hR K hK=>?_) ?_
 · simp only [yZ];refine ⟨?_⟩;go_simp;exact hK.out _ (.slice (some ⟨X.heap.size,0,none⟩) 1 1) _ (by simp only [yZ]) (zb _ _) trivial (fun Y hY=>⟨_,rfl,hY.at_ (zP _ _)⟩)
 refine zf 3 9 ?_
 refine qH 4 8 [(6,0),(7,1),(8,2)] (fun f X hX hR K hK=>?_) ?_
 · obtain ⟨b1,(e1:f 1=_),r1⟩:=hR.out 1 rfl;have e2:f 2=_:=hR.out 2 rfl;simp only [yZ,e1,e2];obtain ⟨A4,c4,w4,h4,hE4,hr4⟩:=zBE r1 (by omega) (jk HR.out hX) HN.out H0.out Hl.out;refine ⟨zZ (by kernel_rfl) (zCN (.tmp 7) (.tmp 8) rfl rfl rfl (h4 _) ?_)⟩;exact hK.out _ (.slice A4 (1+N) c4) _ (by simp only [yZ,e1,e2]) hE4 trivial (fun Y hY=>⟨_,_,rfl,jk hr4 hY⟩)
 refine qH 5 7 [(6,0),(7,1),(8,2),(9,3)] (fun f X hX hR K hK=>?_) ?_
 · obtain ⟨A3,c3,(e3:f 3=_),r3⟩:=hR.out 3 rfl;simp only [yZ,e3];refine ⟨?_⟩;go_simp;exact hK.out _ (.agg #[.int .i64 3,.slice A3 (1+N) c3,.slice none 0 0]) _ (by simp only [yZ,e3]) (zy _) trivial (fun Y hY=>⟨_,_,rfl,jk r3 hY⟩)
 refine qH 6 6 [(6,0),(7,1),(8,2),(9,3),(10,4)] (fun f X hX hR K hK=>?_) ?_
 · have e0:f 0=_:=hR.out 0 rfl;obtain ⟨A4,c4,(e4:f 4=_),r4⟩:=hR.out 4 rfl;simp only [yZ,e0,e4];refine ⟨?_⟩;go_simp;exact hK.out _ (.slice (some ⟨X.heap.size,0,none⟩) 2 2) _ (by simp only [yZ,e0,e4]) (zb _ _) trivial (fun Y hY=>⟨_,A4,c4,rfl,RS.al (jM (w:=X) (P:=Al (X.alloc (.cells #[.int .i64 xi,.slice B1 n1 d1,.slice B2 n2 d2,.int .i64 3,.slice A4 (1+N) c4,.slice none 0 0] 80))) #[.int .i64 xi,.slice B1 n1 d1,.slice B2 n2 d2,.int .i64 3,.slice A4 (1+N) c4,.slice none 0 0] 80 3 2 rfl (by unfold maxLen;omega) (by simp [Al])) hY,jk r4 ((zb _ _).trans hY)⟩)
 refine qJ 7 5 (fun f=>#[f 5]) (F':=47) (fun f X hX hR=>?_) ?_
 · obtain ⟨b5,A5,c5,(e5:f 5=_),s5,r5⟩:=hR.out 5 rfl;simp only [e5];refine (ug (some ⟨b5,0,none⟩) 2 2 X).mono ?_;rintro e w' ⟨rfl,hB⟩;exact ⟨(.agg #[.int .i64 48,.slice none 0 0,.slice (some ⟨b5,0,none⟩) 2 2]),rfl,hB,fun Y hY=>⟨b5,A5,c5,rfl,RS.al s5 (zI hB hY),jk r5 (zI hB hY)⟩⟩
 refine qJ 8 4 (fun f=>#[f 6]) (F':=85) (fun f X hX hR=>?_) ?_
 · obtain ⟨b6,A6,c6,(e6:f 6=_),s6,r6⟩:=hR.out 6 rfl;simp only [e6];have hlf:=wi (tag:=3) r6 (by decide);have hNN:(0 :: B).length=1+N:=by rw [qh,HN.out,kL]
   rw [hNN] at hlf;have hT:RD X (Al X) (.mk 48 [] [ta,.mk 3 (0 :: B) []]) (.agg #[.int .i64 48,.slice none 0 0,.slice (some ⟨b6,0,none⟩) 2 2]):=RD.seq s6 (jg (HD.out.al hX) (jg hlf RDs.nil_)) rfl;refine (xB (Al X) _ _ X hT (fun q hq=>hq)).mono ?_;rintro e w' ⟨hW,hB⟩;have hW:=WrP.b hW;rw [HRT.out] at hW;obtain ⟨A7,c7,rfl,hr7⟩:=hW;rw [Hok.out,Hbs.out,HM.out];rw [Hbs.out] at hr7;exact ⟨(.tuple #[.slice A7 M c7,.bool ok]),rfl,hB,fun Y hY=>⟨A7,c7,rfl,jk hr7 hY⟩⟩
 refine qH 9 3 [(6,0),(7,1),(8,2),(9,3),(10,4),(11,5),(12,6),(13,7),(15,9)] (fun f X hX hR K hK=>?_) ?_
 · obtain ⟨A7,c7,(e7:f 7=_),r7⟩:=hR.out 7 rfl;simp only [yZ,e7];refine ⟨?_⟩;go_simp;exact hK.out _ (.slice A7 M c7) _ (by simp only [yZ,e7]) (zy _) trivial (fun Y hY=>⟨A7,c7,rfl,jk r7 hY⟩)
 refine qH 10 2 [(6,0),(7,1),(8,2),(9,3),(10,4),(11,5),(12,6),(13,7),(14,8)] (fun f X hX hR K hK=>?_) ?_
 · obtain ⟨A7,c7,(e7:f 7=_),r7⟩:=hR.out 7 rfl;simp only [yZ,e7];refine ⟨?_⟩;go_simp;exact jA hK (s:=by simp only [yZ,e7])
 refine qH 11 1 [(6,0),(7,1),(8,2),(9,3),(10,4),(11,5),(12,6),(13,7),(14,8),(15,9)] (fun f X hX hR K hK=>?_) ?_
 · obtain ⟨A8,c8,(e8:f 8=_),r8⟩:=hR.out 8 rfl;simp only [yZ,e8];refine ⟨?_⟩;go_simp;exact hK.out _ (.slice A8 M c8) _ (by simp only [yZ,e8]) (zy _) trivial (fun Y hY=>⟨A8,c8,rfl,jk r8 hY⟩)
 refine qM 12 0 9 ?_
 refine yF ⟨fun f X hX hR hal hap=>?_⟩
 obtain ⟨b1,(e1:f 1=_),r1⟩:=hR 1 (by decide)
 obtain ⟨A3,c3,(e3:f 3=_),r3⟩:=hR 3 (by decide)
 obtain ⟨A4,c4,(e4:f 4=_),r4⟩:=hR 4 (by decide)
 obtain ⟨b5,A5,c5,(e5:f 5=_),s5,r5⟩:=hR 5 (by decide)
 obtain ⟨b6,A6,c6,(e6:f 6=_),s6,r6⟩:=hR 6 (by decide)
 obtain ⟨A7,c7,(e7:f 7=_),r7⟩:=hR 7 (by decide)
 obtain ⟨A8,c8,(e8:f 8=_),r8⟩:=hR 8 (by decide)
 obtain ⟨A10,c10,(e10:f 10=_),r10⟩:=hR 10 (by decide)
 have e11:f 11=_:=hR 11 (by decide)
 simp only [yZ,e1,e3,e4,e5,e6,e7,e8,e10,e11]
 clear hR hal hap e1 e3 e4 e5 e6 e7 e8 e10 e11
 refine zU ?_
 have HX:=zF (zI HE.out hX)
 have Hr10:=zF r10
 clear r10 hX
 go_wp2
 go_ret2
 exact ⟨⟨A10,c10,by rw [Hbs.out,HM.out,Hok.out];rfl,by rw [Hbs.out];exact Hr10.out⟩,by have:=HX.out;unfold Ext at this;rwa [Hs.out] at this⟩
def fe (n e:Nat):DN:=.mk 48 [] [wR n,wR e]
def ui (n e:Nat):Option (List Nat):=if n=0∨e=0 then none else (vR (fe n e)).bind (xK jX)
theorem ti {t:DN}{b:List Nat}(h:vR t=some b):0<b.length:=by
 unfold vR at h;split at h
 · cases h
 split at h
 · cases h
 · cases h;have:=zA0 t;omega
theorem om {A:Option Addr}{c:Nat}{a:List Nat}{x:Nat}{w:World}(h:RU w A c a) (hx:val 18446744073709551616 a=x) (hb:zo x≤524287) :
 Calls Tryz.prog 73 #[.slice A a.length c] w fun e w'=>(∃ A1 c1,e=.returned (.agg #[.int .i64 2,.slice A1 (ja x).length c1,.slice none 0 0])∧RB w' (Al w') A1 c1 (ja x))∧Ext w w':=by
 refine (mh _ A c a x w h jq (by omega) hx).mono ?_
 rintro e w' ⟨⟨A1,c1,rfl,hr⟩,hB⟩
 exact ⟨⟨A1,c1,rfl,hr.mono (fun q hq=>hq.2)⟩,hB⟩
theorem nZ {A:Option Addr}{c x:Nat}{w:World}(h:RU w A c (digs 4294967296 x)) (hb:zo x≤524287) :
 Calls Tryz.prog 82 #[.slice A (digs 4294967296 x).length c] w fun e w'=>(∃ A1 c1,e=.returned (.agg #[.int .i64 2,.slice A1 (ja x).length c1,.slice none 0 0])∧RB w' (Al w') A1 c1 (ja x))∧Ext w w':=by
 refine (fG _ A c x w h jq hb).mono ?_
 rintro e w' ⟨⟨A1,c1,rfl,hr⟩,hB⟩
 exact ⟨⟨A1,c1,rfl,hr.mono (fun q hq=>hq.2)⟩,hB⟩
theorem uM (t:Nat) (b:List Nat) (h:b.length<16777216):(hdB t b).length≤b.length+6:=by
 unfold hdB aC;split
 · simp
 · have:=(mI (n:=b.length) (by omega) h).1.2;simp only [qh,zt];omega
theorem zBb {n e:Nat}(hn:zo n≤524287) (he:zo e≤524287):(enc (fe n e)).length≤10000000:=by
 have h:∀ x,zo x≤524287→(ja x).length≤65536:=fun x hx=>by unfold ja;rw [jp];omega
 have h1:=h n hn;have h2:=h e he;unfold fe wR;rw [enc,qK rfl,ke,ke,ke,enc,enc,qA (by decide),qA (by decide)];have a1:=uM 2 (ja n) (by omega);have a2:=uM 2 (ja e) (by omega);have a3:=uM 48 (hdB 2 (ja n)++(hdB 2 (ja e)++[])) (by simp only [zt,jI];omega);simp only [zt,jI] at a3;omega
theorem ah {v:Value}{n ee d p q:Nat}(w:World) (hk:RK w v n ee d p q) (hn:zo n≤524287) (he:zo ee≤524287) :
 Calls Tryz.prog 23 #[v] w fun ev w'=>WrB (ui n ee) ev w'∧Below w.heap.size w w':=by
 obtain ⟨A0,A1,A2,A3,A4,c0,c1,c2,c3,c4,l0,l1,l2,l3,l4,rfl,h0,h1,h2,h3,h4⟩:=hk
 obtain ⟨W0,hW0⟩:=eW (w.alloc (.cells #[.slice A0 l0.length c0,.slice A1 l1.length c1,.slice A2 l2.length c2,.slice A3 l3.length c3,.slice A4 l4.length c4] 48))
 obtain ⟨s,hs⟩:=eV w.heap.size
 have hq0:=zP w (.cells #[.slice A0 l0.length c0,.slice A1 l1.length c1,.slice A2 l2.length c2,.slice A3 l3.length c3,.slice A4 l4.length c4] 48)
 have hE:Ext w W0:=by rw [hW0];exact zb _ _
 rw [←hW0,hs] at hq0
 have H0:=fun X (hX:Ext W0 X)=>h0.ext (zI hE hX)
 have H1:=fun X (hX:Ext W0 X)=>h1.ext (zI hE hX)
 obtain ⟨R,hR⟩:=eV (ui n ee)
 have hR0:R=if n=0∨ee=0 then none else (vR (fe n ee)).bind (xK jX):=by rw [←hR];rfl
 rw [hR]
 obtain ⟨L0,hL0⟩:=eV ((ja n).length)
 obtain ⟨L1,hL1⟩:=eV ((ja ee).length)
 obtain ⟨Rk,hRk⟩:=eV (vR (fe n ee))
 rw [hRk] at hR0
 obtain ⟨bs,hbs⟩:=eV (Rk.getD [])
 obtain ⟨ok,hok⟩:=eV Rk.isSome
 obtain ⟨M,hM⟩:=eV bs.length
 have hpos:ok=true→Rk=some bs∧0<M∧M≤65536:=fun h=>by
  rw [←hok] at h;obtain ⟨y,hy⟩:=Option.isSome_iff_exists.1 h;rw [←hM,←hbs,hy];rw [hy] at hRk;exact ⟨rfl,ti hRk,fP hRk⟩
 have hno:ok=false→Rk=none:=fun h=>by
  rw [←hok] at h;cases Rk with
  | none=>rfl
  | some y=>cases h
 obtain ⟨nb,hnb⟩:=eV (zo n)
 obtain ⟨eb,heb⟩:=eV (zo ee)
 have HB0:=zF (fun X (hX:Ext W0 X)=>(hnb▸dE (H0 X hX).1 (H0 X hX).2.1:Calls Tryz.prog 84 #[.slice A0 l0.length c0] X fun e w'=>e=.returned (.int .i64 (nb:Int))∧Ext X w'))
 have HB1:=zF (fun X (hX:Ext W0 X)=>(heb▸dE (H1 X hX).1 (H1 X hX).2.1:Calls Tryz.prog 84 #[.slice A1 l1.length c1] X fun e w'=>e=.returned (.int .i64 (eb:Int))∧Ext X w'))
 have HI0:=zF (fun X (hX:Ext W0 X)=>(hL0▸om (H0 X hX).1 (H0 X hX).2.1 hn:Calls Tryz.prog 73 #[.slice A0 l0.length c0] X fun e w'=>(∃ A1 c1,e=.returned (.agg #[.int .i64 2,.slice A1 L0 c1,.slice none 0 0])∧RB w' (Al w') A1 c1 (ja n))∧Ext X w'))
 have HI1:=zF (fun X (hX:Ext W0 X)=>(hL1▸om (H1 X hX).1 (H1 X hX).2.1 he:Calls Tryz.prog 73 #[.slice A1 l1.length c1] X fun e w'=>(∃ A1 c1,e=.returned (.agg #[.int .i64 2,.slice A1 L1 c1,.slice none 0 0])∧RB w' (Al w') A1 c1 (ja ee))∧Ext X w'))
 obtain ⟨z1,hz1⟩:∃ b,((nb:Int)==0)=b:=⟨_,rfl⟩
 obtain ⟨z2,hz2⟩:∃ b,((eb:Int)==0)=b:=⟨_,rfl⟩
 have nz:∀ {x k:Nat},zo x=k→(((k:Int)==0)=true↔x=0):=fun {x k} h=>by
  subst h;rw [wT];constructor
  · intro h;exact uc fun h0=>by have:=(kC h0).2.2;omega
  · rintro rfl;rfl
 have g1:z1=decide (n=0):=by rw [←hz1,wh,nz hnb,decide_eq_true_iff]
 have g2:z2=decide (ee=0):=by rw [←hz2,wh,nz heb,decide_eq_true_iff]
 have HE0:=zF hE
 have Hs:=zF hs
 have Hq0:=zF hq0
 have HR0:=zF hR0
 have HL0:=zF hL0
 have HL1:=zF hL1
 have HRk:=zF hRk
 have Hbs:=zF hbs
 have Hok:=zF hok
 have HM:=zF hM
 have Hpos:=zF hpos
 have Hno:=zF hno
 have Hg1:=zF g1
 have Hg2:=zF g2
 clear h0 h1 h2 h3 h4 hE hs hq0 H0 H1 hR hR0 hL0 hL1 hRk hbs hok hM hpos hno g1 g2 hn he hnb heb nz
 go_enter Tryz.func23,Tryz.ntmps23
 go_upto_region 1 with fail
 rw [←hW0,Hs.out]
 clear hW0
 have HE:=zF (zy W0)
 obtain ⟨y0,y1,y2,y3,y4⟩:=jO Hq0.out
 go_wp2_with fail
 refine (HB0.out _ HE.out).mono ?_
 rintro e9 w9 ⟨rfl,hx⟩
 replace HE:=zF (zI HE.out hx)
 clear hx y0 y1 y2 y3 y4
 obtain ⟨y0,y1,y2,y3,y4⟩:=jO (jQ HE.out Hq0.out)
 cases z1
 rotate_left
 · have hR:R=none:=by rw [HR0.out,qK (by have:=Hg1.out;simp at this;simp [this])]
   subst hR;go_wp2;go_ret2;exact ⟨⟨_,_,rfl,vn _ _⟩,zI HE0.out HE.out⟩
 go_wp2_with fail
 refine (HB1.out _ HE.out).mono ?_
 rintro e9 w9 ⟨rfl,hx⟩
 replace HE:=zF (zI HE.out hx)
 clear hx y0 y1 y2 y3 y4
 obtain ⟨y0,y1,y2,y3,y4⟩:=jO (jQ HE.out Hq0.out)
 cases z2
 rotate_left
 · have hR:R=none:=by rw [HR0.out,qK (by have:=Hg2.out;simp at this;simp [this])]
   subst hR;go_wp2;go_ret2;exact ⟨⟨_,_,rfl,vn _ _⟩,zI HE0.out HE.out⟩
 have hR0:R=Rk.bind (xK jX):=by
  rw [HR0.out,qA];have h1:=Hg1.out;have h2:=Hg2.out;simp at h1 h2;omega
 replace HR0:=zF hR0
 clear hR0 Hg1 Hg2
 rename World=>V2
 go_upto_region 3 with fail
 clear hz1 hz2
 refine z8 (by kernel_rfl) 14 [0,1,3,0,8,31,63,127,255,511,1023,1023,2047,8191] [] (fun j f X=>match j with
  | 0=>f 0=.pointer (some ⟨s,0,none⟩)
  | 1=>f 1=.slice A0 l0.length c0
  | 2=>∃ A1 c1,f 2=.agg #[.int .i64 2,.slice A1 L0 c1,.slice none 0 0]∧RB X (Al X) A1 c1 (ja n)
  | 3=>f 3=.pointer (some ⟨s,1,none⟩)
  | 4=>f 4=.slice A1 l1.length c1
  | 5=>∃ A1 c1,f 5=.agg #[.int .i64 2,.slice A1 L1 c1,.slice none 0 0]∧RB X (Al X) A1 c1 (ja ee)
  | 6=>∃ b cs,f 6=.slice (some ⟨b,0,none⟩) 2 2∧RS X (Al X) 3 (some ⟨b,0,none⟩) 2 2 cs∧RDs X (Al X) [wR n,wR ee] cs
  | 7=>∃ b cs,f 7=.agg #[.int .i64 48,.slice none 0 0,.slice (some ⟨b,0,none⟩) 2 2]∧RS X (Al X) 3 (some ⟨b,0,none⟩) 2 2 cs∧RDs X (Al X) [wR n,wR ee] cs
  | 8=>∃ A1 c1,f 8=.tuple #[.slice A1 M c1,.bool ok]∧RB X (Al X) A1 c1 bs
  | 9=>∃ A1 c1,f 9=.tuple #[.slice A1 M c1,.bool ok]∧RB X (Al X) A1 c1 bs
  | 10=>∃ A1 c1,f 10=.slice A1 M c1∧RB X (Al X) A1 c1 bs
  | 11=>f 11=.bool ok
  | 12=>∃ A1 c1,f 12=.slice A1 M c1∧RB X (Al X) A1 c1 bs
  | 13=>f 13=.bool ok
  | _=>True) (by kernel_rfl) [(17,0),(18,1),(19,2),(20,3),(21,4),(22,5),(23,6),(24,7),(25,8),(16,9),(26,10),(27,11),(4,12),(5,13)] (by kernel_rfl) ?_
 refine zf 1 13 ?_
 refine q9 2 12 0 y0 ?_
 refine qJ 3 11 (fun f=>#[f 1]) (F':=73) (fun f X hX hR=>?_) ?_
 · have e1:f 1=_:=hR.out 1 rfl;simp only [e1];refine (HI0.out X (zI HE.out hX)).mono ?_;rintro e w' ⟨⟨Ax,cx,rfl,hr⟩,hB⟩;exact ⟨(.agg #[.int .i64 2,.slice Ax L0 cx,.slice none 0 0]),rfl,hB,fun Y hY=>⟨Ax,cx,rfl,jk hr hY⟩⟩
 refine zf 4 10 ?_
 refine q9 5 9 3 y1 ?_
 refine qJ 6 8 (fun f=>#[f 4]) (F':=73) (fun f X hX hR=>?_) ?_
 · have e4:f 4=_:=hR.out 4 rfl;simp only [e4];refine (HI1.out X (zI HE.out hX)).mono ?_;rintro e w' ⟨⟨Ax,cx,rfl,hr⟩,hB⟩;exact ⟨(.agg #[.int .i64 2,.slice Ax L1 cx,.slice none 0 0]),rfl,hB,fun Y hY=>⟨Ax,cx,rfl,jk hr hY⟩⟩
 refine qH 7 7 [(17,0),(18,1),(19,2),(20,3),(21,4),(22,5)] (fun f X hX hR K hK=>?_) ?_
 · obtain ⟨B2,k2,(e2:f 2=_),r2⟩:=hR.out 2 rfl;obtain ⟨B5,k5,(e5:f 5=_),r5⟩:=hR.out 5 rfl;have hkids:RDs X (Al X) [wR n,wR ee] [.int .i64 2,.slice B2 L0 k2,.slice none 0 0,.int .i64 2,.slice B5 L1 k5,.slice none 0 0]:=jg (xu r2 HL0.out) (jg (xu r5 HL1.out) RDs.nil_);simp only [yZ,e2,e5];refine ⟨?_⟩;go_simp;exact hK.out _ (.slice (some ⟨X.heap.size,0,none⟩) 2 2) _ (by simp only [yZ,e2,e5]) (zb _ _) trivial (fun Y hY=>⟨_,_,rfl,RS.al (jM (w:=X) (P:=Al (X.alloc (.cells #[.int .i64 2,.slice B2 L0 k2,.slice none 0 0,.int .i64 2,.slice B5 L1 k5,.slice none 0 0] 80))) #[.int .i64 2,.slice B2 L0 k2,.slice none 0 0,.int .i64 2,.slice B5 L1 k5,.slice none 0 0] 80 3 2 rfl (by unfold maxLen;omega) (by simp [Al])) hY,RDs.al hkids ((zb _ _).trans hY)⟩)
 refine qJ 8 6 (fun f=>#[f 6]) (F':=47) (fun f X hX hR=>?_) ?_
 · obtain ⟨b6,cs6,(e6:f 6=_),s6,d6⟩:=hR.out 6 rfl;simp only [e6];refine (ug (some ⟨b6,0,none⟩) 2 2 X).mono ?_;rintro e w' ⟨rfl,hB⟩;exact ⟨(.agg #[.int .i64 48,.slice none 0 0,.slice (some ⟨b6,0,none⟩) 2 2]),rfl,hB,fun Y hY=>⟨b6,_,rfl,RS.al s6 (zI hB hY),RDs.al d6 (zI hB hY)⟩⟩
 refine qJ 9 5 (fun f=>#[f 7]) (F':=85) (fun f X hX hR=>?_) ?_
 · obtain ⟨b7,cs7,(e7:f 7=_),s7,d7⟩:=hR.out 7 rfl;simp only [e7];refine (xB (Al X) _ _ X (RD.seq s7 d7 rfl:RD X (Al X) (fe n ee) _) (fun q hq=>hq)).mono ?_;rintro e w' ⟨hW,hB⟩;have hW:WrB (vR (fe n ee)) e w':=WrP.b hW;rw [HRk.out] at hW;obtain ⟨Ax,cx,rfl,hr⟩:=hW;rw [Hok.out,Hbs.out,HM.out];rw [Hbs.out] at hr;exact ⟨(.tuple #[.slice Ax M cx,.bool ok]),rfl,hB,fun Y hY=>⟨Ax,cx,rfl,jk hr hY⟩⟩
 refine qH 10 4 [(17,0),(18,1),(19,2),(20,3),(21,4),(22,5),(23,6),(24,7),(25,8)] (fun f X hX hR K hK=>?_) ?_
 · obtain ⟨A8,c8,(e8:f 8=_),r8⟩:=hR.out 8 rfl;simp only [yZ,e8];refine ⟨?_⟩;go_simp;exact hK.out _ (.tuple #[.slice A8 M c8,.bool ok]) _ (by simp only [yZ,e8]) (zy _) trivial (fun Y hY=>⟨A8,c8,rfl,jk r8 hY⟩)
 refine qH 11 3 [(17,0),(18,1),(19,2),(20,3),(21,4),(22,5),(23,6),(24,7),(25,8),(16,9),(27,11)] (fun f X hX hR K hK=>?_) ?_
 · obtain ⟨A9,c9,(e9:f 9=_),r9⟩:=hR.out 9 rfl;simp only [yZ,e9];refine ⟨?_⟩;go_simp;exact hK.out _ (.slice A9 M c9) _ (by simp only [yZ,e9]) (zy _) trivial (fun Y hY=>⟨A9,c9,rfl,jk r9 hY⟩)
 refine qH 12 2 [(17,0),(18,1),(19,2),(20,3),(21,4),(22,5),(23,6),(24,7),(25,8),(16,9),(26,10),(4,12)] (fun f X hX hR K hK=>?_) ?_
 · obtain ⟨A9,c9,(e9:f 9=_),r9⟩:=hR.out 9 rfl;simp only [yZ,e9];refine ⟨?_⟩;go_simp;exact jA hK (s:=by simp only [yZ,e9])
 refine qH 13 1 [(17,0),(18,1),(19,2),(20,3),(21,4),(22,5),(23,6),(24,7),(25,8),(16,9),(26,10),(27,11)] (fun f X hX hR K hK=>?_) ?_
 · obtain ⟨Aa,ca,(e10:f 10=_),ra⟩:=hR.out 10 rfl;simp only [yZ,e10];refine ⟨?_⟩;go_simp;exact hK.out _ (.slice Aa M ca) _ (by simp only [yZ,e10]) (zy _) trivial (fun Y hY=>⟨Aa,ca,rfl,jk ra hY⟩)
 refine qM 14 0 11 ?_
 refine yF ⟨fun f X hX hR hal hap=>?_⟩
 obtain ⟨B2,k2,(e2:f 2=_),r2⟩:=hR 2 (by decide)
 obtain ⟨B5,k5,(e5:f 5=_),r5⟩:=hR 5 (by decide)
 obtain ⟨b6,cs6,(e6:f 6=_),s6,d6⟩:=hR 6 (by decide)
 obtain ⟨b7,cs7,(e7:f 7=_),s7,d7⟩:=hR 7 (by decide)
 obtain ⟨A8,c8,(e8:f 8=_),r8⟩:=hR 8 (by decide)
 obtain ⟨A9,c9,(e9:f 9=_),r9⟩:=hR 9 (by decide)
 obtain ⟨Aa,ca,(e10:f 10=_),ra⟩:=hR 10 (by decide)
 obtain ⟨Ab,cb,(e12:f 12=_),rb⟩:=hR 12 (by decide)
 have e13:f 13=_:=hR 13 (by decide)
 simp only [yZ,e2,e5,e6,e7,e8,e9,e10,e12,e13]
 clear hR hal hap e2 e5 e6 e7 e8 e9 e10 e12 e13
 refine zU ?_
 replace HE:=zF (zI HE.out hX)
 have Hrb:=zF rb
 clear hX rb r2 r5 s6 d6 s7 d7 r8 r9 ra y0 y1 y2 y3 y4
 rename World=>V3
 cases ok
 · have hR:R=none:=by rw [HR0.out,Hno.out rfl];rfl
   subst hR;go_wp2;go_ret2;exact ⟨⟨_,_,rfl,vn _ _⟩,zI HE0.out HE.out⟩
 obtain ⟨hk,hp,hl⟩:=Hpos.out rfl
 have hR:xK jX bs=R:=by rw [HR0.out,hk];rfl
 have HR:=zF hR
 have Hp:=zF hp
 have Hl:=zF hl
 clear hk hp hl hR HR0 Hpos Hno
 go_upto_region 6 with fail
 go_wp2_with fail
 refine (cL V3).mono ?_
 rintro e9 w9 ⟨⟨v9,rfl,hd⟩,hB⟩
 have hs:=zAA jX v9 Ab cb bs w9 hd (jk Hrb.out hB) (by rw [HM.out];exact Hp.out) (by rw [HM.out];have:=Hl.out;omega)
 rw [HM.out,HR.out] at hs
 have HS:=zF hs
 replace HE:=zF (zI HE.out hB)
 obtain ⟨x5,D1,m1,j1,D2,m2,j2,rfl⟩:=hd.shape
 clear hs hB hd
 go_wp2_with fail
 refine HS.out.mono ?_
 rintro e9 w10 ⟨⟨A6,c6,rfl,hr6⟩,hB6⟩
 have HE6:=zF (zI HE0.out (zI HE.out hB6))
 have Hr6:=zF hr6
 clear hr6 hB6 HS
 go_wp2
 go_ret2
 exact ⟨⟨A6,c6,rfl,Hr6.out⟩,HE6.out⟩
theorem sZ {v:Value}{n ee d p q:Nat}(w:World) (hk:RKr w v n ee d p q) (hn:zo n≤524287) (he:zo ee≤524287) :
 Calls Tryz.prog 24 #[v] w fun ev w'=>WrB (ui n ee) ev w'∧Below w.heap.size w w':=by
 obtain ⟨A0,A1,A2,A3,A4,c0,c1,c2,c3,c4,rfl,h0,h1,h2,h3,h4⟩:=hk
 obtain ⟨m0,hm0⟩:=eV ((digs 4294967296 n).length)
 obtain ⟨m1,hm1⟩:=eV ((digs 4294967296 ee).length)
 obtain ⟨m2,hm2⟩:=eV ((digs 4294967296 d).length)
 obtain ⟨m3,hm3⟩:=eV ((digs 4294967296 p).length)
 obtain ⟨m4,hm4⟩:=eV ((digs 4294967296 q).length)
 rw [hm0,hm1,hm2,hm3,hm4]
 obtain ⟨W0,hW0⟩:=eW (w.alloc (.cells #[.slice A0 m0 c0,.slice A1 m1 c1,.slice A2 m2 c2,.slice A3 m3 c3,.slice A4 m4 c4] 51))
 obtain ⟨s,hs⟩:=eV w.heap.size
 have hq0:=zP w (.cells #[.slice A0 m0 c0,.slice A1 m1 c1,.slice A2 m2 c2,.slice A3 m3 c3,.slice A4 m4 c4] 51)
 have hE:Ext w W0:=by rw [hW0];exact zb _ _
 rw [←hW0,hs] at hq0
 have H0:=fun X (hX:Ext W0 X)=>h0.ext (zI hE hX)
 have H1:=fun X (hX:Ext W0 X)=>h1.ext (zI hE hX)
 obtain ⟨R,hR⟩:=eV (ui n ee)
 have hR0:R=if n=0∨ee=0 then none else (vR (fe n ee)).bind (xK jX):=by rw [←hR];rfl
 rw [hR]
 obtain ⟨L0,hL0⟩:=eV ((ja n).length)
 obtain ⟨L1,hL1⟩:=eV ((ja ee).length)
 obtain ⟨Rk,hRk⟩:=eV (vR (fe n ee))
 rw [hRk] at hR0
 obtain ⟨bs,hbs⟩:=eV (Rk.getD [])
 obtain ⟨ok,hok⟩:=eV Rk.isSome
 obtain ⟨M,hM⟩:=eV bs.length
 have hpos:ok=true→Rk=some bs∧0<M∧M≤65536:=fun h=>by
  rw [←hok] at h;obtain ⟨y,hy⟩:=Option.isSome_iff_exists.1 h;rw [←hM,←hbs,hy];rw [hy] at hRk;exact ⟨rfl,ti hRk,fP hRk⟩
 have hno:ok=false→Rk=none:=fun h=>by
  rw [←hok] at h;cases Rk with
  | none=>rfl
  | some y=>cases h
 have hpl:=zBb hn he
 have HPl:=zF hpl
 have HI0:=zF (fun X (hX:Ext W0 X)=>(hL0▸hm0▸nZ (H0 X hX).1 hn:Calls Tryz.prog 82 #[.slice A0 m0 c0] X fun e w'=>(∃ A1 c1,e=.returned (.agg #[.int .i64 2,.slice A1 L0 c1,.slice none 0 0])∧RB w' (Al w') A1 c1 (ja n))∧Ext X w'))
 have HI1:=zF (fun X (hX:Ext W0 X)=>(hL1▸hm1▸nZ (H1 X hX).1 he:Calls Tryz.prog 82 #[.slice A1 m1 c1] X fun e w'=>(∃ A1 c1,e=.returned (.agg #[.int .i64 2,.slice A1 L1 c1,.slice none 0 0])∧RB w' (Al w') A1 c1 (ja ee))∧Ext X w'))
 obtain ⟨z1,hz1⟩:∃ b,((m0:Int)==0)=b:=⟨_,rfl⟩
 obtain ⟨z2,hz2⟩:∃ b,((m1:Int)==0)=b:=⟨_,rfl⟩
 have g1:z1=decide (n=0):=by rw [←hz1,←hm0,wh,wT,decide_eq_true_iff];exact us (by omega)
 have g2:z2=decide (ee=0):=by rw [←hz2,←hm1,wh,wT,decide_eq_true_iff];exact us (by omega)
 have HE0:=zF hE
 have Hs:=zF hs
 have Hq0:=zF hq0
 have HR0:=zF hR0
 have HL0:=zF hL0
 have HL1:=zF hL1
 have HRk:=zF hRk
 have Hbs:=zF hbs
 have Hok:=zF hok
 have HM:=zF hM
 have Hpos:=zF hpos
 have Hno:=zF hno
 have Hg1:=zF g1
 have Hg2:=zF g2
 clear h0 h1 h2 h3 h4 hE hs hq0 H0 H1 hR hR0 hL0 hL1 hRk hbs hok hM hpos hno g1 g2 hn he hm0 hm1 hm2 hm3 hm4 hpl
 go_enter Tryz.func24,Tryz.ntmps24
 go_upto_region 1 with fail
 rw [←hW0,Hs.out]
 clear hW0
 have HE:=zF (zy W0)
 obtain ⟨y0,y1,y2,y3,y4⟩:=jO Hq0.out
 cases z1
 rotate_left
 · have hR:R=none:=by rw [HR0.out,qK (by have:=Hg1.out;simp at this;simp [this])]
   subst hR;go_wp2;go_ret2;exact ⟨⟨_,_,rfl,vn _ _⟩,zI HE0.out HE.out⟩
 cases z2
 rotate_left
 · have hR:R=none:=by rw [HR0.out,qK (by have:=Hg2.out;simp at this;simp [this])]
   subst hR;go_wp2;go_ret2;exact ⟨⟨_,_,rfl,vn _ _⟩,zI HE0.out HE.out⟩
 have hR0:R=Rk.bind (xK jX):=by
  rw [HR0.out,qA];have h1:=Hg1.out;have h2:=Hg2.out;simp at h1 h2;omega
 replace HR0:=zF hR0
 clear hR0 Hg1 Hg2
 rename World=>V2
 go_upto_region 3 with fail
 clear hz1 hz2
 refine z8 (by kernel_rfl) 14 [0,1,3,0,8,31,63,127,255,511,1023,1023,2047,8191] [] (fun j f X=>match j with
  | 0=>f 0=.pointer (some ⟨s,0,none⟩)
  | 1=>f 1=.slice A0 m0 c0
  | 2=>∃ A1 c1,f 2=.agg #[.int .i64 2,.slice A1 L0 c1,.slice none 0 0]∧RB X (Al X) A1 c1 (ja n)
  | 3=>f 3=.pointer (some ⟨s,1,none⟩)
  | 4=>f 4=.slice A1 m1 c1
  | 5=>∃ A1 c1,f 5=.agg #[.int .i64 2,.slice A1 L1 c1,.slice none 0 0]∧RB X (Al X) A1 c1 (ja ee)
  | 6=>∃ b cs,f 6=.slice (some ⟨b,0,none⟩) 2 2∧RS X (Al X) 3 (some ⟨b,0,none⟩) 2 2 cs∧RDs X (Al X) [wR n,wR ee] cs
  | 7=>∃ b cs,f 7=.agg #[.int .i64 48,.slice none 0 0,.slice (some ⟨b,0,none⟩) 2 2]∧RS X (Al X) 3 (some ⟨b,0,none⟩) 2 2 cs∧RDs X (Al X) [wR n,wR ee] cs
  | 8=>∃ A1 c1,f 8=.tuple #[.slice A1 M c1,.bool ok]∧RB X (Al X) A1 c1 bs
  | 9=>∃ A1 c1,f 9=.tuple #[.slice A1 M c1,.bool ok]∧RB X (Al X) A1 c1 bs
  | 10=>∃ A1 c1,f 10=.slice A1 M c1∧RB X (Al X) A1 c1 bs
  | 11=>f 11=.bool ok
  | 12=>∃ A1 c1,f 12=.slice A1 M c1∧RB X (Al X) A1 c1 bs
  | 13=>f 13=.bool ok
  | _=>True) (by kernel_rfl) [(17,0),(18,1),(19,2),(20,3),(21,4),(22,5),(23,6),(24,7),(25,8),(16,9),(26,10),(27,11),(4,12),(5,13)] (by kernel_rfl) ?_
 refine zf 1 13 ?_
 refine q9 2 12 0 y0 ?_
 refine qJ 3 11 (fun f=>#[f 1]) (F':=82) (fun f X hX hR=>?_) ?_
 · have e1:f 1=_:=hR.out 1 rfl;simp only [e1];refine (HI0.out X (zI HE.out hX)).mono ?_;rintro e w' ⟨⟨Ax,cx,rfl,hr⟩,hB⟩;exact ⟨(.agg #[.int .i64 2,.slice Ax L0 cx,.slice none 0 0]),rfl,hB,fun Y hY=>⟨Ax,cx,rfl,jk hr hY⟩⟩
 refine zf 4 10 ?_
 refine q9 5 9 3 y1 ?_
 refine qJ 6 8 (fun f=>#[f 4]) (F':=82) (fun f X hX hR=>?_) ?_
 · have e4:f 4=_:=hR.out 4 rfl;simp only [e4];refine (HI1.out X (zI HE.out hX)).mono ?_;rintro e w' ⟨⟨Ax,cx,rfl,hr⟩,hB⟩;exact ⟨(.agg #[.int .i64 2,.slice Ax L1 cx,.slice none 0 0]),rfl,hB,fun Y hY=>⟨Ax,cx,rfl,jk hr hY⟩⟩
 refine qH 7 7 [(17,0),(18,1),(19,2),(20,3),(21,4),(22,5)] (fun f X hX hR K hK=>?_) ?_
 · obtain ⟨B2,k2,(e2:f 2=_),r2⟩:=hR.out 2 rfl;obtain ⟨B5,k5,(e5:f 5=_),r5⟩:=hR.out 5 rfl;have hkids:RDs X (Al X) [wR n,wR ee] [.int .i64 2,.slice B2 L0 k2,.slice none 0 0,.int .i64 2,.slice B5 L1 k5,.slice none 0 0]:=jg (xu r2 HL0.out) (jg (xu r5 HL1.out) RDs.nil_);simp only [yZ,e2,e5];refine ⟨?_⟩;go_simp;exact hK.out _ (.slice (some ⟨X.heap.size,0,none⟩) 2 2) _ (by simp only [yZ,e2,e5]) (zb _ _) trivial (fun Y hY=>⟨_,_,rfl,RS.al (jM (w:=X) (P:=Al (X.alloc (.cells #[.int .i64 2,.slice B2 L0 k2,.slice none 0 0,.int .i64 2,.slice B5 L1 k5,.slice none 0 0] 80))) #[.int .i64 2,.slice B2 L0 k2,.slice none 0 0,.int .i64 2,.slice B5 L1 k5,.slice none 0 0] 80 3 2 rfl (by unfold maxLen;omega) (by simp [Al])) hY,RDs.al hkids ((zb _ _).trans hY)⟩)
 refine qJ 8 6 (fun f=>#[f 6]) (F':=53) (fun f X hX hR=>?_) ?_
 · obtain ⟨b6,cs6,(e6:f 6=_),s6,d6⟩:=hR.out 6 rfl;simp only [e6];refine (yg (some ⟨b6,0,none⟩) 2 2 X).mono ?_;rintro e w' ⟨rfl,hB⟩;exact ⟨(.agg #[.int .i64 48,.slice none 0 0,.slice (some ⟨b6,0,none⟩) 2 2]),rfl,hB,fun Y hY=>⟨b6,_,rfl,RS.al s6 (zI hB hY),RDs.al d6 (zI hB hY)⟩⟩
 refine qJ 9 5 (fun f=>#[f 7]) (F':=52) (fun f X hX hR=>?_) ?_
 · obtain ⟨b7,cs7,(e7:f 7=_),s7,d7⟩:=hR.out 7 rfl;simp only [e7];refine (uA (Al X) _ _ X (RD.seq s7 d7 rfl:RD X (Al X) (fe n ee) _) (fun q hq=>hq) HPl.out).mono ?_;rintro e w' ⟨hW,hB⟩;have hW:WrB (vR (fe n ee)) e w':=WrP.b hW;rw [HRk.out] at hW;obtain ⟨Ax,cx,rfl,hr⟩:=hW;rw [Hok.out,Hbs.out,HM.out];rw [Hbs.out] at hr;exact ⟨(.tuple #[.slice Ax M cx,.bool ok]),rfl,hB,fun Y hY=>⟨Ax,cx,rfl,jk hr hY⟩⟩
 refine qH 10 4 [(17,0),(18,1),(19,2),(20,3),(21,4),(22,5),(23,6),(24,7),(25,8)] (fun f X hX hR K hK=>?_) ?_
 · obtain ⟨A8,c8,(e8:f 8=_),r8⟩:=hR.out 8 rfl;simp only [yZ,e8];refine ⟨?_⟩;go_simp;exact hK.out _ (.tuple #[.slice A8 M c8,.bool ok]) _ (by simp only [yZ,e8]) (zy _) trivial (fun Y hY=>⟨A8,c8,rfl,jk r8 hY⟩)
 refine qH 11 3 [(17,0),(18,1),(19,2),(20,3),(21,4),(22,5),(23,6),(24,7),(25,8),(16,9),(27,11)] (fun f X hX hR K hK=>?_) ?_
 · obtain ⟨A9,c9,(e9:f 9=_),r9⟩:=hR.out 9 rfl;simp only [yZ,e9];refine ⟨?_⟩;go_simp;exact hK.out _ (.slice A9 M c9) _ (by simp only [yZ,e9]) (zy _) trivial (fun Y hY=>⟨A9,c9,rfl,jk r9 hY⟩)
 refine qH 12 2 [(17,0),(18,1),(19,2),(20,3),(21,4),(22,5),(23,6),(24,7),(25,8),(16,9),(26,10),(4,12)] (fun f X hX hR K hK=>?_) ?_
 · obtain ⟨A9,c9,(e9:f 9=_),r9⟩:=hR.out 9 rfl;simp only [yZ,e9];refine ⟨?_⟩;go_simp;exact jA hK (s:=by simp only [yZ,e9])
 refine qH 13 1 [(17,0),(18,1),(19,2),(20,3),(21,4),(22,5),(23,6),(24,7),(25,8),(16,9),(26,10),(27,11)] (fun f X hX hR K hK=>?_) ?_
 · obtain ⟨Aa,ca,(e10:f 10=_),ra⟩:=hR.out 10 rfl;simp only [yZ,e10];refine ⟨?_⟩;go_simp;exact hK.out _ (.slice Aa M ca) _ (by simp only [yZ,e10]) (zy _) trivial (fun Y hY=>⟨Aa,ca,rfl,jk ra hY⟩)
 refine qM 14 0 11 ?_
 refine yF ⟨fun f X hX hR hal hap=>?_⟩
 obtain ⟨B2,k2,(e2:f 2=_),r2⟩:=hR 2 (by decide)
 obtain ⟨B5,k5,(e5:f 5=_),r5⟩:=hR 5 (by decide)
 obtain ⟨b6,cs6,(e6:f 6=_),s6,d6⟩:=hR 6 (by decide)
 obtain ⟨b7,cs7,(e7:f 7=_),s7,d7⟩:=hR 7 (by decide)
 obtain ⟨A8,c8,(e8:f 8=_),r8⟩:=hR 8 (by decide)
 obtain ⟨A9,c9,(e9:f 9=_),r9⟩:=hR 9 (by decide)
 obtain ⟨Aa,ca,(e10:f 10=_),ra⟩:=hR 10 (by decide)
 obtain ⟨Ab,cb,(e12:f 12=_),rb⟩:=hR 12 (by decide)
 have e13:f 13=_:=hR 13 (by decide)
 simp only [yZ,e2,e5,e6,e7,e8,e9,e10,e12,e13]
 clear hR hal hap e2 e5 e6 e7 e8 e9 e10 e12 e13
 refine zU ?_
 replace HE:=zF (zI HE.out hX)
 have Hrb:=zF rb
 clear hX rb r2 r5 s6 d6 s7 d7 r8 r9 ra y0 y1 y2 y3 y4
 rename World=>V3
 cases ok
 · have hR:R=none:=by rw [HR0.out,Hno.out rfl];rfl
   subst hR;go_wp2;go_ret2;exact ⟨⟨_,_,rfl,vn _ _⟩,zI HE0.out HE.out⟩
 obtain ⟨hk,hp,hl⟩:=Hpos.out rfl
 have hR:xK jX bs=R:=by rw [HR0.out,hk];rfl
 have HR:=zF hR
 have Hp:=zF hp
 have Hl:=zF hl
 clear hk hp hl hR HR0 Hpos Hno
 have hT2:xK jX bs=vR (.mk 48 [] [jX,.mk 3 (0 :: bs) []]):=rfl
 have hle:(enc (.mk 48 [] [jX,.mk 3 (0 :: bs) []])).length≤10000000:=by
  have e1:(enc jX).length=15:=by decide
  have hl:=Hl.out;have hm:=HM.out;rw [enc,qK rfl,ke,ke,ke,enc,qA (by decide)];have a1:=uM 3 (0 :: bs) (by rw [qh];omega);rw [qh] at a1;have a2:=uM 48 (enc jX++(hdB 3 (0 :: bs)++[])) (by simp only [zt,jI];omega);simp only [zt,jI] at a2;omega
 have HLe:=zF hle
 clear hT2 hle
 go_upto_region 6 with fail
 go_wp2_with fail
 refine (gx V3).mono ?_
 rintro e9 w9 ⟨⟨v9,rfl,hd⟩,hB⟩
 have hb:=mU (Al w9) Ab cb bs w9 (jk Hrb.out hB) (fun q hq=>hq) (by rw [HM.out];have:=Hl.out;omega)
 rw [HM.out] at hb
 have Hb:=zF hb
 replace HE:=zF (zI HE.out hB)
 have HD:=zF hd
 obtain ⟨x5,D1,j1,k1,D2,j2,k2,rfl⟩:=hd.shape
 clear hb hB hd
 go_wp2_with fail
 refine Hb.out.mono ?_
 rintro e9 w10 ⟨⟨A6,c6,rfl,hr6⟩,hB6⟩
 rw [qh,HM.out]
 have hD:=RD.al HD.out hB6
 have hlf:=wi (tag:=3) hr6 (by decide)
 rw [qh,HM.out] at hlf
 have hA:=zb w10 (.cells #[.int .i64 x5,.slice D1 j1 k1,.slice D2 j2 k2,.int .i64 3,.slice A6 (M+1) c6,.slice none 0 0] 80)
 have hrs:RS (w10.alloc (.cells #[.int .i64 x5,.slice D1 j1 k1,.slice D2 j2 k2,.int .i64 3,.slice A6 (M+1) c6,.slice none 0 0] 80)) (Al (w10.alloc (.cells #[.int .i64 x5,.slice D1 j1 k1,.slice D2 j2 k2,.int .i64 3,.slice A6 (M+1) c6,.slice none 0 0] 80))) 3 (some ⟨w10.heap.size,0,none⟩) 2 2 [.int .i64 x5,.slice D1 j1 k1,.slice D2 j2 k2,.int .i64 3,.slice A6 (M+1) c6,.slice none 0 0]:=jM #[.int .i64 x5,.slice D1 j1 k1,.slice D2 j2 k2,.int .i64 3,.slice A6 (M+1) c6,.slice none 0 0] 80 3 2 rfl (by unfold maxLen;omega) (by simp [Al])
 have hds:=RDs.al (jg hD (jg hlf RDs.nil_)) hA
 have HE7:=zF (zI HE.out (zI hB6 hA))
 have HRS:=zF hrs
 have HDs:=zF hds
 obtain ⟨g,hg⟩:=eV w10.heap.size
 rw [hg] at HRS
 have Hg:=zF hg
 clear hr6 hB6 hD hlf hA hrs hds hg Hb HD
 have Hsq:=zF (fun A n c X=>yg A n c X)
 go_wp2_with fail
 rw [Hg.out]
 generalize w10.alloc (.cells #[.int .i64 x5,.slice D1 j1 k1,.slice D2 j2 k2,.int .i64 3,.slice A6 (M+1) c6,.slice none 0 0] 80)=W8 at *
 refine (Hsq.out _ _ _ _).mono ?_
 rintro e9 w11 ⟨rfl,hB7⟩
 have hT:RD w11 (Al w11) (.mk 48 [] [jX,.mk 3 (0 :: bs) []]) (.agg #[.int .i64 48,.slice none 0 0,.slice (some ⟨g,0,none⟩) 2 2]):=RD.seq (RS.al HRS.out hB7) (RDs.al HDs.out hB7) rfl
 have hw:=uA (Al w11) _ _ w11 hT (fun q hq=>hq) HLe.out
 have HW:=zF (hw.mono fun e w' h=>(⟨h.1.b,h.2⟩:WrB (xK jX bs) e w'∧Below _ _ w'))
 rw [HR.out] at HW
 replace HE:=zF (zI HE7.out hB7)
 clear hT hw hB7 HRS HDs
 go_wp2_with fail
 refine HW.out.mono ?_
 rintro e9 w12 ⟨⟨A7,c7,rfl,hr7⟩,hB8⟩
 have HE9:=zF (zI HE0.out (zI HE.out hB8))
 have Hr7:=zF hr7
 clear hr7 hB8 HW
 go_wp2
 go_ret2
 exact ⟨⟨A7,c7,rfl,Hr7.out⟩,HE9.out⟩
theorem px:(Tryz.prog.info? 26).map (fun i=>(i.zero,i.size,i.bytes))=some (some (.slice none 0 0),1,24):=by kernel_rfl
theorem zBe {w:World}{base size m:Nat}{ty:TypeId}(cs:Array Value) (hb:base≤w.heap.size) (hc:cs.size=m*size) (hm:m≤maxLen):(w.alloc (.cells cs ty)).ownsRow base ty size (.slice (some ⟨w.heap.size,0,none⟩) m m) m cs.toList :=
 ⟨by rw [Array.length_toList];exact hc,.inr ⟨_,_,_,rfl,hb,zP w _,zH _,hm,hc,by rw [←hc,←Array.length_toList];exact jN⟩⟩
theorem zAD {w:World}{P P':Nat→Prop}{A B:Option Addr}{n m d:Nat}{xs ys:List Value}(hx:RS w P 1 A n n xs) (hy:RS w P' 1 B m d ys) (hn:0<n) (hm:0<m) (hl:n+m≤1000) :
 ∃ A' c' w',(∀ ty,(Builtin.append_ #[117,117] ty #[.slice A n n,.slice B m d]).run Tryz.prog w=.ok (.slice A' (n+m) c') w')∧Ext w w'∧RS w' (Al w') 1 A' (n+m) c' (xs++ys):=by
 obtain ⟨i0,hi,hz0,hz1,hz2⟩:=wM px
 obtain ⟨ad,rfl,_,hc⟩:=hx.2.2.2 hn
 obtain ⟨bd,rfl,_,hc2⟩:=hy.2.2.2 hm
 have hlx:=hx.2.2.1
 have hly:=hy.2.2.1
 have hf:Builtin.nextslicecap (n+m) n*i0.bytes≤281474976710656:=growslice_fits (by omega) (by rw [hz2];omega)
 have hX:∀ (o:Obj),Ext w (w.drew.alloc o):=fun o=>(qR (zO _ w) 1).alloc (zH _) o
 have hge:=grownCap_ge w (n+m) n 26
 have hcm:grownCap w (n+m) n 26≤maxLen:=grownCap_le_maxLen w (n+m) n 26 (by unfold maxLen;omega)
 refine ⟨_,_,_,fun ty=>run_append_grow (P:=Tryz.prog) w 117 ty 26 i0 (.slice none 0 0) Tryz.underlying117 hi hz0 ad n n xs (by rw [hz1];exact hlx) hc bd m d ys (by rw [hz1];exact hly) hc2 (by omega) (by omega) hf,hX _,?_⟩
 refine ⟨by omega,hcm,by simp;omega,fun _=>⟨_,rfl,?_,fun j v hj=>?_⟩⟩
 · unfold Al;simp
 · have hk:=zJ (zP w.drew (.cells (xs.toArray++ys.toArray++Builtin.zeroCells (Value.slice none 0 0).cells (grownCap w (n+m) n 26 - (n+m))) 26)) j;have e:(⟨w.heap.size,0,none⟩:Addr).add j=⟨w.drew.heap.size,j,none⟩:=by simp [Addr.add];exact fun h=>h.symm
   rw [e,hk,←hj];have hlt:j<(xs++ys).length:=by
    rcases zz j (xs++ys).length with h | h
    · exact h
    · rw [qx h] at hj;cases hj
   have h2:xs.toArray++ys.toArray=(xs++ys).toArray:=by simp
   rw [h2,Array.getElem?_append_left (by simpa using hlt)];simp
theorem pP {ops:Array Oper}{rest:List Oper}{o:Oper}{a:Act}{w w':World}{Q:Exit→Act→World→Prop}{v1 v2 v:Value}(hgd:o.guard=none) (s x:Operand) (t:TypeId) (ho:o.op=.call { callee:=.builtin .append,args:=#[s,x],argTypes:=#[t,t] }) (hs:a.eval s=v1) (hx:a.eval x=v2)
 (hrun:(Builtin.append_ #[t,t] o.type #[v1,v2]).run Tryz.prog w=.ok v w') (h:wpList Tryz.prog ops Q rest (a.put o.dst v) w'):wpList Tryz.prog ops Q (o :: rest) a w :=
 wpList_plain hgd fun _ hK=>by
  unfold Oper.wp execOp;simp only [ho,resolve,invoke,builtin,vh,Sem.run_pure,qy,List.map_toArray,wI,wm,hs,hx,hrun];exact hK _ _ h
theorem mL {w w':World}{A:Option Addr}{n c:Nat}{cs:List Value}(h:RS w (Al w) 1 A n c cs) (hb:Below w.heap.size w w'):RS w' (Al w') 1 A n c cs:=(h.below hb fun q hq=>hq).mono fun q hq=>zR hq hb.size
def Kp (w:World) (v:Value) (q:Nat):Prop:=q<w.heap.size∧some q≠v.ownBlock
def KR (w:World) (B:Nat) (A:Option Addr) (c:Nat) (ks:List DN) (n:Nat):Prop:=∃ cs,w.ownsRow B 80 3 (.slice A n c) n cs∧RDs w (Kp w (.slice A n c)) ks cs
theorem rY {w w':World}{base size n:Nat}{e:TypeId}{v:Value}{xs:List Value}(h:w.ownsRow base e size v n xs) (hE:Ext w w'):w'.ownsRow base e size v n xs:=by
 obtain ⟨h1,h2⟩:=h;refine ⟨h1,?_⟩;rcases h2 with h2 | ⟨g,cap,cur,e1,hg,hh,r⟩
 · exact .inl h2
 · exact .inr ⟨g,cap,cur,e1,hg,(hE.block g (qw hh)).trans hh,r⟩
theorem KR.ext {w w':World}{B n c:Nat}{A:Option Addr}{ks:List DN}(h:KR w B A c ks n) (hE:Ext w w'):KR w' B A c ks n:=by
 obtain ⟨cs,h1,h2⟩:=h;exact ⟨cs,rY h1 hE,(wZ (fun p hp=>Below.cell hE hp.1) h2).mono fun q hq=>⟨zR hq.1 hE.bsize,hq.2⟩⟩
theorem KR.app {w w9:World}{B n c c9:Nat}{A A9:Option Addr}{ks:List DN}{cs:List Value}{k:DN}{a0 a1 a2:Value}(hw:w.ownsRow B 80 3 (.slice A n c) n cs) (hd:RDs w (Kp w (.slice A n c)) ks cs) (hk:RD w (Kp w (.slice A n c)) k (.agg #[a0,a1,a2]))
 (hown:w9.ownsRow B 80 3 (.slice A9 (n+1) c9) (n+1) (cs++[a0,a1,a2])) (hgrow:w.grownBy w9 (Value.slice A n c).ownBlock) (hor:(Value.slice A9 (n+1) c9).ownBlock=(Value.slice A n c).ownBlock∨(Value.slice A9 (n+1) c9).ownBlock=some w.heap.size):KR w9 B A9 c9 (ks++[k]) (n+1):=by
 have hkk:∀ q,Kp w (.slice A n c) q→Kp w9 (.slice A9 (n+1) c9) q:=fun q hq=>⟨by have h1:=hq.1;have h2:=hgrow.size;omega,fun e=>by
  rcases hor with h | h
  · exact hq.2 (e.trans h)
  · rw [h] at e;injection e with e;have:=hq.1;omega⟩
 have hkp:∀ p:Addr,Kp w (.slice A n c) p.block→w9.cell? p=w.cell? p:=fun p hp=>zT (hgrow.block _ hp.1 hp.2)
 exact ⟨_,hown,RDs.snoc ((RD.keep hkp hk).mono hkk) ((wZ hkp hd).mono hkk)⟩
theorem og {N:Nat} : ∀ {ks:List DN},(∀ k∈ks,(enc k).length≤N)→(ke ks).length≤N*ks.length
 | [],_=>by rw [ke];simp
 | k :: ks, h => by
   have h1:=h k (List.mem_cons_self ..);have h2:=og (ks:=ks) fun x hx=>h x (List.mem_cons_of_mem _ hx);rw [ke,zt,qh,Nat.mul_succ];omega
theorem xm {x:Nat}(h:zo x≤4096):(enc (wR x)).length≤519:=by
 have h1:(ja x).length≤513:=by unfold ja;rw [jp];omega
 unfold wR;rw [enc,qA (by decide)];have:=uM 2 (ja x) (by omega);omega
theorem zAo {n e d p q:Nat}(hv:VK n e d p q):(enc (.mk 48 [] (kB n e d p q))).length≤10000000:=by
 have h:(ke (kB n e d p q)).length≤519*9:=by
  refine og (ks:=kB n e d p q) fun k hk=>?_;simp only [kB,ya,xT,or_false] at hk;rcases hk with rfl | rfl | rfl | rfl | rfl | rfl | rfl | rfl | rfl
  · decide
  · exact xm hv.n4
  · exact xm hv.e4
  · exact xm hv.d4
  · exact xm hv.p4
  · exact xm hv.q4
  · exact xm (gg (by have:=hv.p2;omega) (zQ (kd (xF p 1)) hv.p4))
  · exact xm (gg (by have:=hv.q2;omega) (zQ (kd (xF q 1)) hv.q4))
  · exact xm (zQ (kd (qt (fK hv.p2))) hv.p4)
 rw [enc,qK rfl];have:=uM 48 (ke (kB n e d p q)) (by omega);omega
theorem zAq {b:List Nat}(h:b.length≤65536):(enc (fm jX b)).length≤10000000:=by
 unfold fm;rw [enc,qK rfl,ke,ke,ke,ke,enc,enc,qA (by decide),qA (by decide)];have e1:(enc jX).length=15:=by decide
 have a0:=uM 2 [0] (by decide);have a1:=uM 4 b (by omega);have l0:([0]:List Nat).length=1:=rfl;have a3:=uM 48 (hdB 2 [0]++(enc jX++(hdB 4 b++[]))) (by simp only [zt,jI];omega);simp only [zt,jI] at a3;omega
theorem zAB {v:Value}{n ee d p q:Nat}(w:World) (hk:RKr w v n ee d p q) :
 Calls Tryz.prog 22 #[v] w fun ev w'=>WrB (gH n ee d p q) ev w'∧Below w.heap.size w w':=by
 have hk2:=hk
 obtain ⟨A0,A1,A2,A3,A4,c0,c1,c2,c3,c4,rfl,h0,h1,h2,h3,h4⟩:=hk
 obtain ⟨dn,hdn⟩:=eV ((digs 4294967296 n).length)
 obtain ⟨de,hde⟩:=eV ((digs 4294967296 ee).length)
 obtain ⟨dd,hdd⟩:=eV ((digs 4294967296 d).length)
 obtain ⟨dp,hdp⟩:=eV ((digs 4294967296 p).length)
 obtain ⟨dq,hdq⟩:=eV ((digs 4294967296 q).length)
 rw [hdn,hde,hdd,hdp,hdq] at hk2 ⊢
 obtain ⟨W0,hW0⟩:=eW (w.alloc (.cells #[.slice A0 dn c0,.slice A1 de c1,.slice A2 dd c2,.slice A3 dp c3,.slice A4 dq c4] 51))
 obtain ⟨s,hs⟩:=eV w.heap.size
 have hq0:=zP w (.cells #[.slice A0 dn c0,.slice A1 de c1,.slice A2 dd c2,.slice A3 dp c3,.slice A4 dq c4] 51)
 have hE:Ext w W0:=by rw [hW0];exact zb _ _
 rw [←hW0,hs] at hq0
 have HV:=zF (mR W0 (hk2.ext hE))
 have H0:=fun X (hX:Ext W0 X)=>(h0.ext (zI hE hX)).1
 have H1:=fun X (hX:Ext W0 X)=>(h1.ext (zI hE hX)).1
 have H2:=fun X (hX:Ext W0 X)=>h2.ext (zI hE hX)
 have H3:=fun X (hX:Ext W0 X)=>h3.ext (zI hE hX)
 have H4:=fun X (hX:Ext W0 X)=>h4.ext (zI hE hX)
 have hvk:=@zCC n ee d p q
 have hR0:gH n ee d p q=if vOf n ee d p q=true then xw jX (.mk 48 [] (kB n ee d p q)) else none:=rfl
 obtain ⟨R,hR⟩:=eV (gH n ee d p q)
 obtain ⟨V,hV⟩:=eV (vOf n ee d p q)
 rw [hR,hV] at hR0
 rw [hV] at HV hvk
 rw [hR]
 obtain ⟨one,hone⟩:=eV ((digs 4294967296 1).length)
 obtain ⟨mp,hmp⟩:=eV ((digs 4294967296 (p - 1)).length)
 obtain ⟨mq,hmq⟩:=eV ((digs 4294967296 (q - 1)).length)
 obtain ⟨m6,hm6⟩:=eV ((digs 4294967296 (d % (p - 1))).length)
 obtain ⟨m7,hm7⟩:=eV ((digs 4294967296 (d % (q - 1))).length)
 obtain ⟨m8,hm8⟩:=eV ((digs 4294967296 (kD q p).1).length)
 have HOf:=zF (fun X=>(by have h:=zCY 1 X (by omega);rw [hone] at h;exact h:Calls Tryz.prog 78 #[.int .u64 1] X fun e w'=>∃ A' c',e=.returned (.slice A' one c')∧RU w' A' c' (digs 4294967296 1)∧Ext X w'))
 have HSp:=zF (fun (hv:V=true) X (hX:Ext W0 X) (A':Option Addr) (c':Nat) (h':RU X A' c' (digs 4294967296 1))=>(by have h:=mW (H3 X hX) h' (by have:=(hvk hv).p2;omega);rw [hdp,hone,hmp] at h;exact h:Calls Tryz.prog 80 #[.slice A3 dp c3,.slice A' one c'] X fun e w'=>∃ A1 c1,e=.returned (.slice A1 mp c1)∧RU w' A1 c1 (digs 4294967296 (p - 1))∧Ext X w'))
 have HSq:=zF (fun (hv:V=true) X (hX:Ext W0 X) (A':Option Addr) (c':Nat) (h':RU X A' c' (digs 4294967296 1))=>(by have h:=mW (H4 X hX) h' (by have:=(hvk hv).q2;omega);rw [hdq,hone,hmq] at h;exact h:Calls Tryz.prog 80 #[.slice A4 dq c4,.slice A' one c'] X fun e w'=>∃ A1 c1,e=.returned (.slice A1 mq c1)∧RU w' A1 c1 (digs 4294967296 (q - 1))∧Ext X w'))
 have HMp:=zF (fun (hv:V=true) X (hX:Ext W0 X) (A':Option Addr) (c':Nat) (h':RU X A' c' (digs 4294967296 (p - 1)))=>(by have h:=kZ A2 A' c2 c' d (p - 1) X (H2 X hX).1 h' (by have:=(H2 X hX).2;omega) (by have:=(hvk hv).p2;omega);rw [hdd,hmp,hm6] at h;exact h:Calls Tryz.prog 79 #[.slice A2 dd c2,.slice A' mp c'] X fun e w'=>∃ A1 c1,e=.returned (.slice A1 m6 c1)∧RU w' A1 c1 (digs 4294967296 (d % (p - 1)))∧Ext X w'))
 have HMq:=zF (fun (hv:V=true) X (hX:Ext W0 X) (A':Option Addr) (c':Nat) (h':RU X A' c' (digs 4294967296 (q - 1)))=>(by have h:=kZ A2 A' c2 c' d (q - 1) X (H2 X hX).1 h' (by have:=(H2 X hX).2;omega) (by have:=(hvk hv).q2;omega);rw [hdd,hmq,hm7] at h;exact h:Calls Tryz.prog 79 #[.slice A2 dd c2,.slice A' mq c'] X fun e w'=>∃ A1 c1,e=.returned (.slice A1 m7 c1)∧RU w' A1 c1 (digs 4294967296 (d % (q - 1)))∧Ext X w'))
 have HIv:=zF (fun (hv:V=true) X (hX:Ext W0 X)=>(by have h:=cN A4 A3 c4 c3 q p X (H4 X hX).1 (H3 X hX).1 (by have:=(H4 X hX).2;omega) (by have:=(H3 X hX).2;omega) (hvk hv).p2;rw [hdq,hdp,hm8] at h;exact h:Calls Tryz.prog 81 #[.slice A4 dq c4,.slice A3 dp c3] X fun e w'=>∃ A1 c1,e=.returned (.tuple #[.slice A1 m8 c1,.bool (kD q p).2])∧RU w' A1 c1 (digs 4294967296 (kD q p).1)∧Ext X w'))
 obtain ⟨iv,hiv⟩:=eV ((kD q p).2)
 rw [hiv] at HIv
 have HLK:=zF (fun (hv:V=true) X (hX:Ext W0 X) (B57 B67 B8:Option Addr) (k57 k67 k8:Nat) (r6:RU X B57 k57 (digs 4294967296 (d % (p - 1)))) (r7:RU X B67 k67 (digs 4294967296 (d % (q - 1)))) (r8:RU X B8 k8 (digs 4294967296 (kD q p).1))=>(by
  have h:=hvk hv
  intro k hk
  match k,hk with
  | 0,_=>exact ⟨A0,c0,n,dn,rfl,hdn,H0 X hX,by have:=h.n4;omega,rfl⟩
  | 1,_=>exact ⟨A1,c1,ee,de,rfl,hde,H1 X hX,by have:=h.e4;omega,rfl⟩
  | 2,_=>exact ⟨A2,c2,d,dd,rfl,hdd,(H2 X hX).1,by have:=h.d4;omega,rfl⟩
  | 3,_=>exact ⟨A3,c3,p,dp,rfl,hdp,(H3 X hX).1,by have:=h.p4;omega,rfl⟩
  | 4,_=>exact ⟨A4,c4,q,dq,rfl,hdq,(H4 X hX).1,by have:=h.q4;omega,rfl⟩
  | 5,_=>exact ⟨B57,k57,_,m6,rfl,hm6,r6,gg (by have:=h.p2;omega) (zQ (kd (xF p 1)) (zQ h.p4 (by omega))),rfl⟩
  | 6,_=>exact ⟨B67,k67,_,m7,rfl,hm7,r7,gg (by have:=h.q2;omega) (zQ (kd (xF q 1)) (zQ h.q4 (by omega))),rfl⟩
  | 7,_=>exact ⟨B8,k8,_,m8,rfl,hm8,r8,zQ (kd (qt (fK h.p2))) (zQ h.p4 (by omega)),rfl⟩:∀ k,k<8→∃ A c x L,([.slice A0 dn c0,.slice A1 de c1,.slice A2 dd c2,.slice A3 dp c3,.slice A4 dq c4,.slice B57 m6 k57,.slice B67 m7 k67,.slice B8 m8 k8]:List Value)[k]?=some (.slice A L c)∧(digs 4294967296 x).length=L∧RU X A c (digs 4294967296 x)∧zo x≤524287∧(kB n ee d p q).take (k+2)=(kB n ee d p q).take (k+1)++[wR x]))
 have HKl:=zF (fun (hv:V=true)=>zAo (hvk hv))
 have hkl9:(kB n ee d p q).take 9=kB n ee d p q:=rfl
 have hk1:(kB n ee d p q).take 1=[.mk 2 [0] []]:=rfl
 obtain ⟨ks,hks⟩:=eV (kB n ee d p q)
 simp only [hks] at HLK HKl hkl9 hk1 hR0
 have hk9:ks.length=9:=by rw [←hks];rfl
 have HE0:=zF hE
 have Hs:=zF hs
 have Hq0:=zF hq0
 have HR0:=zF hR0
 have Hk9:=zF hk9
 have Hkl9:=zF hkl9
 have Hk1:=zF hk1
 clear hk2 h0 h1 h2 h3 h4 H0 H1 H2 H3 H4 hvk hR0 hR hV hE hs hq0 hone hmp hmq hm6 hm7 hm8 hdn hde hdd hdp hdq hiv hks hk9 hkl9 hk1
 go_enter Tryz.func22,Tryz.ntmps22
 go_upto_region 1 with fail
 rw [←hW0,Hs.out]
 clear hW0
 obtain ⟨y0,y1,y2,y3,y4⟩:=jO Hq0.out
 go_wp2_with fail
 refine HV.out.mono ?_
 rintro e9 w1 ⟨rfl,hx⟩
 have HE:=zF (show Ext W0 w1 from hx)
 clear hx y0 y1 y2 y3 y4 HV
 cases V
 · have hR:none=R:=by rw [HR0.out];rfl
   subst hR;go_wp2;go_ret2;exact ⟨⟨_,_,rfl,vn _ _⟩,zI HE0.out HE.out⟩
 have hR:xw jX (.mk 48 [] ks)=R:=by rw [HR0.out];rfl
 have HR:=zF hR
 replace HSp:=zF (HSp.out rfl)
 replace HSq:=zF (HSq.out rfl)
 replace HMp:=zF (HMp.out rfl)
 replace HMq:=zF (HMq.out rfl)
 replace HIv:=zF (HIv.out rfl)
 replace HLK:=zF (HLK.out rfl)
 replace HKl:=zF (HKl.out rfl)
 clear hR HR0
 go_upto_region 3 with fail
 go_wp2_with fail
 refine (HOf.out _).mono ?_
 rintro e9 w2 ⟨Ao,co,rfl,ho,hB⟩
 replace HE:=zF (zI HE.out hB)
 have HRo:=zF ho
 clear ho hB HOf
 obtain ⟨y0,y1,y2,y3,y4⟩:=jO (jQ HE.out Hq0.out)
 obtain ⟨bl,hbl⟩:=eV w2.heap.size
 have hA:=zb w2 (.cells #[.slice A0 dn c0,.slice A1 de c1,.slice A2 dd c2,.slice A3 dp c3,.slice A4 dq c4] 26)
 have hrl:RS (w2.alloc (.cells #[.slice A0 dn c0,.slice A1 de c1,.slice A2 dd c2,.slice A3 dp c3,.slice A4 dq c4] 26)) (Al (w2.alloc (.cells #[.slice A0 dn c0,.slice A1 de c1,.slice A2 dd c2,.slice A3 dp c3,.slice A4 dq c4] 26))) 1 (some ⟨w2.heap.size,0,none⟩) 5 5 [.slice A0 dn c0,.slice A1 de c1,.slice A2 dd c2,.slice A3 dp c3,.slice A4 dq c4]:=jM (w:=w2) (P:=Al (w2.alloc (.cells #[.slice A0 dn c0,.slice A1 de c1,.slice A2 dd c2,.slice A3 dp c3,.slice A4 dq c4] 26))) #[.slice A0 dn c0,.slice A1 de c1,.slice A2 dd c2,.slice A3 dp c3,.slice A4 dq c4] 26 1 5 rfl (by unfold maxLen;omega) (by simp [Al])
 rw [hbl] at hrl
 have HRl:=zF hrl
 have Hbl:=zF hbl
 have HEa:=zF hA
 clear hA hrl hbl
 go_upto_region 5 with fail
 rw [Hbl.out]
 generalize w2.alloc (.cells #[.slice A0 dn c0,.slice A1 de c1,.slice A2 dd c2,.slice A3 dp c3,.slice A4 dq c4] 26)=V5 at *
 replace HE:=zF (zI HE.out HEa.out)
 replace HRo:=zF (qm HRo.out HEa.out)
 clear HEa Hbl y0 y1 y2 y3 y4
 obtain ⟨y0,y1,y2,y3,y4⟩:=jO (jQ HE.out Hq0.out)
 refine z8 (by kernel_rfl) 8 [0,1,0,4,0,28,63,127] [] (fun j f X=>match j with
  | 0=>f 0=.pointer (some ⟨s,2,none⟩)
  | 1=>f 1=.slice A2 dd c2
  | 2=>f 2=.pointer (some ⟨s,3,none⟩)
  | 3=>f 3=.slice A3 dp c3
  | 4=>f 4=.slice Ao one co
  | 5=>∃ A c,f 5=.slice A mp c∧RU X A c (digs 4294967296 (p - 1))
  | 6=>∃ A c,f 6=.slice A m6 c∧RU X A c (digs 4294967296 (d % (p - 1)))
  | 7=>∃ A c,f 7=.slice A m6 c∧RU X A c (digs 4294967296 (d % (p - 1)))
  | _=>True) (by kernel_rfl) [(29,0),(30,1),(31,2),(32,3),(33,4),(34,5),(35,6),(6,7)] (by kernel_rfl) ?_
 refine zf 1 7 ?_
 refine q9 2 6 0 y2 ?_
 refine zf 3 5 ?_
 refine q9 4 4 2 y3 ?_
 refine zf 5 3 ?_
 refine qJ 6 2 (fun f=>#[f 3,f 4]) (F':=80) (fun f X hX hR=>?_) ?_
 · have e3:f 3=_:=hR.out 3 rfl;have e4:f 4=_:=hR.out 4 rfl;simp only [e3,e4];refine (HSp.out X (zI HE.out hX) _ _ (qm HRo.out hX)).mono ?_;rintro e w' ⟨Ax,cx,rfl,hr,hB⟩;exact ⟨(.slice Ax mp cx),rfl,hB,fun Y hY=>⟨Ax,cx,rfl,qm hr hY⟩⟩
 refine qJ 7 1 (fun f=>#[f 1,f 5]) (F':=79) (fun f X hX hR=>?_) ?_
 · have e1:f 1=_:=hR.out 1 rfl;obtain ⟨B5,k5,(e5:f 5=_),r5⟩:=hR.out 5 rfl;simp only [e1,e5];refine (HMp.out X (zI HE.out hX) _ _ r5).mono ?_;rintro e w' ⟨Ax,cx,rfl,hr,hB⟩;exact ⟨(.slice Ax m6 cx),rfl,hB,fun Y hY=>⟨Ax,cx,rfl,qm hr hY⟩⟩
 refine qH 8 0 [(29,0),(30,1),(31,2),(32,3),(33,4),(34,5),(35,6)] (fun f X hX hR K hK=>?_) ?_
 · obtain ⟨B6,k6,(e6:f 6=_),r6⟩:=hR.out 6 rfl;simp only [yZ,e6];refine ⟨?_⟩;go_simp;exact hK.out _ (.slice B6 m6 k6) _ (by simp only [yZ,e6]) (zy _) trivial (fun Y hY=>⟨B6,k6,rfl,qm r6 hY⟩)
 refine yF ⟨fun f X hX hR hal hap=>?_⟩
 obtain ⟨B5,k5,(e5:f 5=_),r5⟩:=hR 5 (by decide)
 obtain ⟨B6,k6,(e6:f 6=_),r6⟩:=hR 6 (by decide)
 obtain ⟨B57,k57,(e7:f 7=_),r57⟩:=hR 7 (by decide)
 simp only [yZ,e5,e6,e7]
 clear hR hal hap e5 e6 e7
 refine zU ?_
 replace HE:=zF (zI HE.out hX)
 replace HRo:=zF (qm HRo.out hX)
 replace HRl:=zF (mL HRl.out hX)
 have HR6:=zF r57
 clear hX r5 r6 r57 y0 y1 y2 y3 y4
 rename World=>V6
 obtain ⟨y0,y1,y2,y3,y4⟩:=jO (jQ HE.out Hq0.out)
 go_upto_region 6 with fail
 refine z8 (by kernel_rfl) 8 [0,1,0,4,0,28,63,127] [] (fun j f X=>match j with
  | 0=>f 0=.pointer (some ⟨s,2,none⟩)
  | 1=>f 1=.slice A2 dd c2
  | 2=>f 2=.pointer (some ⟨s,4,none⟩)
  | 3=>f 3=.slice A4 dq c4
  | 4=>f 4=.slice Ao one co
  | 5=>∃ A c,f 5=.slice A mq c∧RU X A c (digs 4294967296 (q - 1))
  | 6=>∃ A c,f 6=.slice A m7 c∧RU X A c (digs 4294967296 (d % (q - 1)))
  | 7=>∃ A c,f 7=.slice A m7 c∧RU X A c (digs 4294967296 (d % (q - 1)))
  | _=>True) (by kernel_rfl) [(36,0),(37,1),(38,2),(39,3),(40,4),(41,5),(42,6),(7,7)] (by kernel_rfl) ?_
 refine zf 1 7 ?_
 refine q9 2 6 0 y2 ?_
 refine zf 3 5 ?_
 refine q9 4 4 2 y4 ?_
 refine zf 5 3 ?_
 refine qJ 6 2 (fun f=>#[f 3,f 4]) (F':=80) (fun f X hX hR=>?_) ?_
 · have e3:f 3=_:=hR.out 3 rfl;have e4:f 4=_:=hR.out 4 rfl;simp only [e3,e4];refine (HSq.out X (zI HE.out hX) _ _ (qm HRo.out hX)).mono ?_;rintro e w' ⟨Ax,cx,rfl,hr,hB⟩;exact ⟨(.slice Ax mq cx),rfl,hB,fun Y hY=>⟨Ax,cx,rfl,qm hr hY⟩⟩
 refine qJ 7 1 (fun f=>#[f 1,f 5]) (F':=79) (fun f X hX hR=>?_) ?_
 · have e1:f 1=_:=hR.out 1 rfl;obtain ⟨B5,k5,(e5:f 5=_),r5⟩:=hR.out 5 rfl;simp only [e1,e5];refine (HMq.out X (zI HE.out hX) _ _ r5).mono ?_;rintro e w' ⟨Ax,cx,rfl,hr,hB⟩;exact ⟨(.slice Ax m7 cx),rfl,hB,fun Y hY=>⟨Ax,cx,rfl,qm hr hY⟩⟩
 refine qH 8 0 [(36,0),(37,1),(38,2),(39,3),(40,4),(41,5),(42,6)] (fun f X hX hR K hK=>?_) ?_
 · obtain ⟨B6,k6,(e6:f 6=_),r6⟩:=hR.out 6 rfl;simp only [yZ,e6];refine ⟨?_⟩;go_simp;exact hK.out _ (.slice B6 m7 k6) _ (by simp only [yZ,e6]) (zy _) trivial (fun Y hY=>⟨B6,k6,rfl,qm r6 hY⟩)
 refine yF ⟨fun f X hX hR hal hap=>?_⟩
 obtain ⟨B5,k5,(e5:f 5=_),r5⟩:=hR 5 (by decide)
 obtain ⟨B6,k6,(e6:f 6=_),r6⟩:=hR 6 (by decide)
 obtain ⟨B67,k67,(e7:f 7=_),r67⟩:=hR 7 (by decide)
 simp only [yZ,e5,e6,e7]
 clear hR hal hap e5 e6 e7
 refine zU ?_
 replace HE:=zF (zI HE.out hX)
 replace HRl:=zF (mL HRl.out hX)
 replace HR6:=zF (qm HR6.out hX)
 have HR7:=zF r67
 clear hX r5 r6 r67 y0 y1 y2 y3 y4 HRo
 rename World=>V7
 obtain ⟨y0,y1,y2,y3,y4⟩:=jO (jQ HE.out Hq0.out)
 go_wp2_with fail
 refine (HIv.out _ HE.out).mono ?_
 rintro e9 w8 ⟨B8,k8,rfl,hr8,hB8⟩
 replace HE:=zF (zI HE.out hB8)
 replace HRl:=zF (mL HRl.out hB8)
 replace HR6:=zF (qm HR6.out hB8)
 replace HR7:=zF (qm HR7.out hB8)
 have HR8:=zF hr8
 clear hr8 hB8 y0 y1 y2 y3 y4 HIv HSp HSq HMp HMq
 have hA:=zb w8 (.cells #[.slice B57 m6 k57,.slice B67 m7 k67,.slice B8 m8 k8] 26)
 have hnew:=jM (w:=w8) (P:=Al (w8.alloc (.cells #[.slice B57 m6 k57,.slice B67 m7 k67,.slice B8 m8 k8] 26))) #[.slice B57 m6 k57,.slice B67 m7 k67,.slice B8 m8 k8] 26 1 3 rfl (by unfold maxLen;omega) (by simp [Al])
 obtain ⟨L9,l9,w9,hrun,hE9,hrow⟩:∃ A' c' w',(∀ ty,(Builtin.append_ #[117,117] ty #[.slice (some ⟨bl,0,none⟩) 5 5,.slice (some ⟨w8.heap.size,0,none⟩) 3 3]).run Tryz.prog (w8.alloc (.cells #[.slice B57 m6 k57,.slice B67 m7 k67,.slice B8 m8 k8] 26))=.ok (.slice A' 8 c') w')∧Ext (w8.alloc (.cells #[.slice B57 m6 k57,.slice B67 m7 k67,.slice B8 m8 k8] 26)) w'∧RS w' (Al w') 1 A' 8 c' [.slice A0 dn c0,.slice A1 de c1,.slice A2 dd c2,.slice A3 dp c3,.slice A4 dq c4,.slice B57 m6 k57,.slice B67 m7 k67,.slice B8 m8 k8]:=zAD (mL HRl.out hA) hnew (by omega) (by omega) (by omega)
 have HEx:=zF (zI hA hE9)
 have HRun:=zF hrun
 have HRow:=zF hrow
 clear hA hnew hrun hE9 hrow HRl
 go_upto_region 8 with fail
 go_wp2_with (at_builtin;refine pP rfl _ _ 117 rfl rfl rfl (HRun.out _) ?_)
 clear HRun
 replace HE:=zF (zI HE.out HEx.out)
 replace HR6:=zF (qm HR6.out HEx.out)
 replace HR7:=zF (qm HR7.out HEx.out)
 replace HR8:=zF (qm HR8.out HEx.out)
 clear HEx
 go_upto_region 9 with fail
 go_wp2_with fail
 refine (nc w9).mono ?_
 rintro e9 wA ⟨⟨A5,c5,rfl,hr5⟩,hBA⟩
 replace HE:=zF (zI HE.out hBA)
 have hlk:=HLK.out wA HE.out B57 B67 B8 k57 k67 k8 (qm HR6.out hBA) (qm HR7.out hBA) (qm HR8.out hBA)
 replace HRow:=zF (mL HRow.out hBA)
 replace HLK:=zF hlk
 obtain ⟨sl,hsl⟩:∃ sl:List Value,[.slice A0 dn c0,.slice A1 de c1,.slice A2 dd c2,.slice A3 dp c3,.slice A4 dq c4,.slice B57 m6 k57,.slice B67 m7 k67,.slice B8 m8 k8]=sl:=⟨_,rfl⟩
 rw [hsl] at HRow
 simp only [hsl] at HLK
 obtain ⟨b,hb⟩:=eV wA.heap.size
 have hA:=zb wA (.cells #[.int .i64 2,.slice A5 1 c5,.slice none 0 0] 80)
 have hown:=zBe (w:=wA) (base:=b) (size:=3) (m:=1) (ty:=80) #[.int .i64 2,.slice A5 1 c5,.slice none 0 0] (by omega) rfl (by unfold maxLen;omega)
 rw [hb] at hown
 have hds:RDs (wA.alloc (.cells #[.int .i64 2,.slice A5 1 c5,.slice none 0 0] 80)) (Kp (wA.alloc (.cells #[.int .i64 2,.slice A5 1 c5,.slice none 0 0] 80)) (.slice (some ⟨b,0,none⟩) 1 1)) [.mk 2 [0] []] [.int .i64 2,.slice A5 1 c5,.slice none 0 0] :=
  jg (wi ((hr5.keep (w':=wA.alloc (.cells #[.int .i64 2,.slice A5 1 c5,.slice none 0 0] 80)) fun p hp=>Below.cell hA hp.2).mono fun q hq=>⟨by have:=hq.2;simp;omega,fun e=>by simp [Value.ownBlock] at e;have:=hq.2;omega⟩) (by decide)) RDs.nil_
 have HKR:=zF (show KR _ b (some ⟨b,0,none⟩) 1 (ks.take 1) 1 from ⟨_,hown,by rw [Hk1.out];exact hds⟩)
 have Hb:=zF hb
 have HEb:=zF hA
 clear hr5 hBA hlk hsl hb hA hown hds HR6 HR7 HR8 Hk1
 go_upto_region 11 with fail
 rw [Hb.out]
 generalize wA.alloc (.cells #[.int .i64 2,.slice A5 1 c5,.slice none 0 0] 80)=WB at *
 obtain ⟨i0,hi,hz0,hz1,hz2⟩:=wM aq
 go_loopw [10,11] (fun kv iv wr=>∃ (k:Nat) (A:Option Addr) (c:Nat),iv=.int .i64 (k:Int)∧kv=.slice A (k+1) c∧k≤8∧KR wr b A c (ks.take (k+1)) (k+1)∧Ext wA wr) (fun _ iv _=>9 - (intOf iv).toNat)
 case atStart=>exact ⟨0,_,_,rfl,rfl,by omega,HKR.out,HEb.out⟩
 case round =>
  obtain ⟨k,A,c,rfl,rfl,hk,hkr,hEr⟩:=hrel;have HEr:=zF hEr;by_cases hlt:k<8
  · obtain ⟨Ax,cx,x,L,hsx,hL,hrx,hbx,htk⟩:=HLK.out k hlt;have hlti:(k:Int)<8:=by omega
    obtain ⟨al,hal,_,hci⟩:=(mL HRow.out hEr).2.2.2 (by omega);subst hal;have hcell:=hci k _ hsx;have hin:=fG _ Ax cx x wr (qm hrx hEr) (fun _ h=>h) hbx;rw [hL] at hin;have HIn:=zF hin;have Htk:=zF htk;have HKr:=zF hkr;have Hlt:=zF hlt;clear hsx hL hrx hbx htk hci hin hkr hk hlt hEr;go_upto_region 13 with fail;go_wp2_with fail;refine HIn.out.mono ?_;rintro e9 wC ⟨⟨Ay,cy,rfl,hry⟩,hBC⟩;obtain ⟨Ly,hLy⟩:=eV ((ja x).length);rw [hLy];obtain ⟨cs,ho,hd⟩:=HKr.out.ext hBC;have hAl:=zb wC (.cells #[.int .i64 2,.slice Ay Ly cy,.slice none 0 0] 80);have hfr:=jM (w:=wC) (P:=fun _=>True) #[.int .i64 2,.slice Ay Ly cy,.slice none 0 0] 80 3 1 rfl (by unfold maxLen;omega) trivial;have ho':=rY ho hAl;have hle:b≤(wC.alloc (.cells #[.int .i64 2,.slice Ay Ly cy,.slice none 0 0] 80)).heap.size:=by have h1:=HEr.out.bsize;have h2:=hBC.size;have h3:=Hb.out;simp;omega
    have hkp:RD (wC.alloc (.cells #[.int .i64 2,.slice Ay Ly cy,.slice none 0 0] 80)) (Kp (wC.alloc (.cells #[.int .i64 2,.slice Ay Ly cy,.slice none 0 0] 80)) (.slice A (k+1) c)) (wR x) (.agg #[.int .i64 2,.slice Ay Ly cy,.slice none 0 0]):=by
     subst hLy;refine wi ((hry.keep fun p hp=>Below.cell hAl hp.2).mono fun q hq=>⟨by have:=hq.2;simp;omega,fun e=>?_⟩) (by decide);obtain ⟨cs1,ho1,_⟩:=HKr.out;have:=(pc ho1 e.symm).2;have:=hq.1;omega
    have hd':RDs (wC.alloc (.cells #[.int .i64 2,.slice Ay Ly cy,.slice none 0 0] 80)) (Kp (wC.alloc (.cells #[.int .i64 2,.slice Ay Ly cy,.slice none 0 0] 80)) (.slice A (k+1) c)) (ks.take (k+1)) cs:=(wZ (fun p hp=>Below.cell hAl hp.1) hd).mono fun q hq=>⟨zR hq.1 hAl.bsize,hq.2⟩
    have HEc:=zF (show Ext wA (wC.alloc (.cells #[.int .i64 2,.slice Ay Ly cy,.slice none 0 0] 80)) from zI HEr.out (zI hBC hAl));have Hkp:=zF hkp;have Hd':=zF hd';have Ho':=zF ho';have Hfr:=zF hfr;have Hle:=zF hle;clear hry hBC hLy ho hd hAl hfr ho' hle hkp hd' HIn HKr;go_wp2_with (at_builtin;refine jG _ rfl _ _ 78 rfl b 80 i0 (.agg #[.int .i64 0,.slice none 0 0,.slice none 0 0]) 3 56 Tryz.underlying78 hi hz0 hz1 hz2 rfl (by decide) _ _ _ rfl Ho'.out (fun _=>True) (some ⟨wC.heap.size,0,none⟩) 1 1 [.int .i64 2,.slice Ay Ly cy,.slice none 0 0] rfl Hfr.out (by intro u hu;simp only [ya,xT,or_false] at hu;rcases hu with rfl | rfl | rfl <;> rfl) (k+1+1) rfl (by have:=Hlt.out;unfold maxLen;omega) (by have:=Hlt.out;omega) Hle.out ?_);intro A9 c9 w10 hown9 hgrow9 hor9;have HK9:=zF (KR.app Ho'.out Hd'.out Hkp.out hown9 hgrow9 (by rw [qL];exact hor9))
    have HE9:=zF (show Ext wA w10 from by
     unfold Ext
     rw [Hb.out]
     exact Below.grown (by have:=HEc.out;unfold Ext at this;rwa [Hb.out] at this) hgrow9 Hle.out (fun j hj=>yO Ho'.out hj))
    clear hown9 hgrow9 hor9 Ho' Hd' Hkp Hfr Hle HEc;go_wp2;go_roundw;case rel=>exact ⟨k+1,A9,c9,by go_num,rfl,by have:=Hlt.out;omega,by rw [Htk.out];exact HK9.out,HE9.out⟩
    case measure=>have:=Hlt.out;simp [intOf];omega
  obtain rfl:k=8:=by omega
  have HKr:=zF (show KR wr b A c ks 9 by have:=hkr;rw [Hkl9.out] at this;exact this);replace HE:=zF (zI HE.out hEr);clear hlt hk hkr hEr HEr HKR HEb HLK HRow;have k1:¬ ((8:Nat):Int)<8:=by omega
  go_wp2_with fail;refine (yg A _ c wr).mono ?_;rintro e9 w11 ⟨rfl,hB⟩;obtain ⟨cs,ho,hd⟩:=HKr.out.ext hB;have hT:RD w11 (Al w11) (.mk 48 [] ks) (.agg #[.int .i64 48,.slice none 0 0,.slice A 9 c]):=RD.seq ((RS.of_own ho).mono fun q hq=>hq.2) (hd.mono fun q hq=>hq.1) Hk9.out.symm;have HWr:=zF (uA (Al w11) _ _ w11 hT (fun q hq=>hq) HKl.out);replace HE:=zF (zI HE.out hB);clear hB ho hd hT HKr k1;go_wp2_with fail;refine HWr.out.mono ?_;rintro e9 w12 ⟨hW,hB⟩;obtain ⟨Rk,hRk⟩:=eV (vR (.mk 48 [] ks));have hR:Rk.bind (fun b=>vR (fm jX b))=R:=by rw [←HR.out,←hRk];rfl
  have hW:WrB Rk e9 w12:=hRk▸WrP.b hW;obtain ⟨Ai,ci,rfl,hri⟩:=hW;replace HE:=zF (zI HE.out hB);have HRk:=zF hRk;replace HR:=zF hR;have HRi:=zF hri;clear hB hRk hR hri HWr;cases Rk with
  | none =>
   have hR:none=R:=HR.out;subst hR;have h1:(none:Option (List Nat)).isSome=false:=rfl;rw [h1];clear h1;go_wp2;go_ret2;exact ⟨⟨_,_,rfl,vn _ _⟩,zI HE0.out HE.out⟩
  | some bi =>
   have h1:(some bi).isSome=true:=rfl;have h2:(some bi).getD []=bi:=rfl;rw [h1,h2];have hR:vR (fm jX bi)=R:=HR.out;have hbl:=fP HRk.out;obtain ⟨N,hN⟩:=eV bi.length;rw [hN];have hri:RB w12 (Al w12) Ai ci bi:=HRi.out;replace HR:=zF hR;replace HRi:=zF hri;have HNi:=zF hN;have Hbl:=zF hbl;clear h1 h2 hR hbl hN hri;go_wp2_with fail;refine (nc w12).mono ?_;rintro e wB ⟨⟨B5,e5,rfl,hrB⟩,hBB⟩;replace HE:=zF (zI HE.out hBB);have HRB:=zF (hrB.mono (fun q hq=>hq.2:∀ q,In w12.heap.size wB.heap.size q→Al wB q));replace HRi:=zF (jk HRi.out hBB);clear hrB hBB;go_wp2_with fail;refine (gx wB).mono ?_;rintro e wC ⟨⟨v5,rfl,hd5⟩,hBC⟩;obtain ⟨x5,D1,m1,j1,D2,m2,j2,rfl⟩:=hd5.shape;have HD:=zF hd5;replace HE:=zF (zI HE.out hBC);replace HRB:=zF (jk HRB.out hBC);replace HRi:=zF (jk HRi.out hBC);clear hd5 hBC;go_wp2_with fail;refine (aA Ai N ci wC).mono ?_;rintro e wD ⟨rfl,hBD⟩;replace HE:=zF (zI HE.out hBD);replace HRB:=zF (jk HRB.out hBD);replace HRi:=zF (jk HRi.out hBD);replace HD:=zF (HD.out.al hBD);clear hBD;go_wp2_with fail;obtain ⟨g2,hg⟩:=eV wD.heap.size;have hA8:Ext wD (wD.alloc (.cells #[.int .i64 2,.slice B5 1 e5,.slice none 0 0,.int .i64 x5,.slice D1 m1 j1,.slice D2 m2 j2,.int .i64 4,.slice Ai N ci,.slice none 0 0] 80)):=zb _ _;have hrs:RS (wD.alloc (.cells #[.int .i64 2,.slice B5 1 e5,.slice none 0 0,.int .i64 x5,.slice D1 m1 j1,.slice D2 m2 j2,.int .i64 4,.slice Ai N ci,.slice none 0 0] 80)) (Al (wD.alloc (.cells #[.int .i64 2,.slice B5 1 e5,.slice none 0 0,.int .i64 x5,.slice D1 m1 j1,.slice D2 m2 j2,.int .i64 4,.slice Ai N ci,.slice none 0 0] 80))) 3 (some ⟨wD.heap.size,0,none⟩) 3 3 [.int .i64 2,.slice B5 1 e5,.slice none 0 0,.int .i64 x5,.slice D1 m1 j1,.slice D2 m2 j2,.int .i64 4,.slice Ai N ci,.slice none 0 0]:=jM #[.int .i64 2,.slice B5 1 e5,.slice none 0 0,.int .i64 x5,.slice D1 m1 j1,.slice D2 m2 j2,.int .i64 4,.slice Ai N ci,.slice none 0 0] 80 3 3 rfl (by unfold maxLen;omega) (by simp [Al]);rw [hg] at hrs;have hlf:=wi (tag:=4) (jk HRi.out hA8) (by decide);rw [HNi.out] at hlf;have HTE:=zF (show RD _ (Al (wD.alloc (.cells #[.int .i64 2,.slice B5 1 e5,.slice none 0 0,.int .i64 x5,.slice D1 m1 j1,.slice D2 m2 j2,.int .i64 4,.slice Ai N ci,.slice none 0 0] 80))) (fm jX bi) (.agg #[.int .i64 48,.slice none 0 0,.slice (some ⟨g2,0,none⟩) 3 3]) from RD.seq hrs (jg (wi (jk HRB.out hA8) (by decide)) (jg (HD.out.al hA8) (jg hlf RDs.nil_))) rfl);replace HE:=zF (zI HE.out hA8);have Hg2:=zF hg;clear hA8 hrs hlf hg HRB HRi HD;rw [Hg2.out];generalize wD.alloc (.cells #[.int .i64 2,.slice B5 1 e5,.slice none 0 0,.int .i64 x5,.slice D1 m1 j1,.slice D2 m2 j2,.int .i64 4,.slice Ai N ci,.slice none 0 0] 80)=WE at *;refine (yg _ 3 3 WE).mono ?_;rintro e wF ⟨rfl,hBF⟩;have hwr:=uA (Al wF) _ _ wF (HTE.out.al hBF) (fun q hq=>hq) (zAq Hbl.out);have HWr:=zF (hwr.mono fun e w' h=>(⟨HR.out▸h.1.b,h.2⟩:WrB R e w'∧Below _ _ w'));replace HE:=zF (zI HE.out hBF);clear hBF HTE hwr;go_wp2_with fail;refine HWr.out.mono ?_;rintro e wG ⟨⟨AG,cG,rfl,hrG⟩,hBG⟩;have HRG:=zF hrG
   replace HE:=zF (zI HE0.out (zI HE.out hBG));clear hrG hBG HWr;go_wp2;go_ret2;exact ⟨⟨AG,cG,rfl,HRG.out⟩,HE.out⟩
def vu:DN→Nat
 | .mk tag bs kids=>if tag=2∧(vI 1 (.mk tag bs kids)).isSome=true then wO bs else 0
theorem zAm (t:DN) (v:Value) (w:World) (h:RD w (Al w) t v) (hs:(kK t).length≤65536) :
 Calls Tryz.prog 133 #[v] w fun e w'=>∃ A c ok,e=.returned (.tuple #[.slice A (digs 18446744073709551616 (vu t)).length c,.bool ok])∧RN w' (In w.heap.size w'.heap.size) A c (digs 18446744073709551616 (vu t))∧Ext w w':=by
 obtain ⟨tag,bs,kids⟩:=t
 obtain ⟨A',c',Ak,ck,cs,rfl,hb,_⟩:=id h.open_
 obtain ⟨L,hL⟩:=eV bs.length
 obtain ⟨Lk,hLk⟩:=eV kids.length
 rw [hL,hLk] at h ⊢
 obtain ⟨W0,hW0⟩:=eW (w.alloc (.cells #[.int .i64 (tag:Int),.slice A' L c',.slice Ak Lk ck] 80))
 obtain ⟨s,hs0⟩:=eV w.heap.size
 have hq0:=zP w (.cells #[.int .i64 (tag:Int),.slice A' L c',.slice Ak Lk ck] 80)
 have hE:Ext w W0:=by rw [hW0];exact zb _ _
 rw [←hW0,hs0] at hq0
 have hM:=bY (Al W0) (.mk tag bs kids) _ W0 (h.al hE) (fun q hq=>hq)
 obtain ⟨mb,hmb⟩:=eV ((vI 1 (.mk tag bs kids)).isSome)
 rw [hmb] at hM
 have hF:=fun X (hX:Ext W0 X)=>(hL▸gz (Al X) A' c' bs X (RB.al hb (zI hE hX) (fun q hq=>hq) (zI hE hX).bsize) (fun q hq=>hq) (by have:bs.length≤65536:=hs;omega):Calls Tryz.prog 65 #[.slice A' L c'] X fun e w'=>∃ A1 c1,e=.returned (.slice A1 (digs 18446744073709551616 (wO bs)).length c1)∧OB w' X.heap.size A1 c1 (digs 18446744073709551616 (wO bs))∧Below X.heap.size X w')
 obtain ⟨N,hN⟩:=eV (vu (.mk tag bs kids))
 have hN2:N=if tag=2∧mb=true then wO bs else 0:=by rw [←hN,←hmb];rfl
 rw [hN]
 obtain ⟨b1,hb1⟩:∃ b,((tag:Int) != 2)=b:=⟨_,rfl⟩
 have e1:b1=decide (tag≠2):=by
  rw [←hb1,wh];simp;omega
 have HM:=zF hM
 have HF:=zF hF
 have HE:=zF hE
 have Hs:=zF hs0
 have HN:=zF hN2
 have He:=zF e1
 have Hq:=zF hq0
 clear h hb hL hLk hE hs0 hM hmb hF hN hN2 e1 hs
 go_enter Tryz.func133,Tryz.ntmps133
 go_upto_region 1 with fail
 rw [←hW0,Hs.out]
 clear hW0
 obtain ⟨z0,z1,z2,f0,f1,f2⟩:=jn hq0
 clear hq0
 cases b1
 rotate_left
 · have h0:N=0:=by rw [HN.out,qA (fun h=>by have:=He.out;simp [h.1] at this)]
   subst h0;go_wp2;go_ret2;exact ⟨none,0,false,by rw [qU];rfl,by rw [qU];exact RN.nil_ _ _,HE.out⟩
 have ht:tag=2:=by have:=He.out;simpa using this.symm
 have Ht:=zF ht
 clear ht
 go_wp2_with fail
 refine HM.out.mono ?_
 rintro e w1 ⟨rfl,hx⟩
 have HE1:=zF (show Ext W0 w1 from hx)
 have hq1:=jQ hx Hq.out
 clear hx z0 z1 z2 f0 f1 f2 HM
 obtain ⟨z0,z1,z2,f0,f1,f2⟩:=jn hq1
 clear hq1
 cases mb
 · have h0:N=0:=by rw [HN.out,qA (fun h=>by cases h.2)]
   subst h0;go_wp2;go_ret2;exact ⟨none,0,false,by rw [qU];rfl,by rw [qU];exact RN.nil_ _ _,zI HE.out HE1.out⟩
 have h0:N=wO bs:=by rw [HN.out,qK ⟨Ht.out,rfl⟩]
 subst h0
 go_upto_region 3 with fail
 go_wp2_with fail
 refine (HF.out w1 HE1.out).mono ?_
 rintro e w2 ⟨A2,c2,rfl,hO,hB⟩
 have HO:=zF (hO.rn.mono (P':=In w.heap.size w2.heap.size) fun q hq=>⟨zQ (zI HE.out HE1.out).bsize hq.1,hq.2⟩)
 have HX:=zF (zI HE.out (zI HE1.out hB))
 rw [Hs.out] at HO
 clear hO hB
 go_wp2
 go_ret2
 exact ⟨A2,c2,true,rfl,by rw [Hs.out];exact HO.out,HX.out⟩
theorem tI (x:Nat):jh 2 (ja x)=true:=by
 obtain ⟨k,hk⟩:=eV (zo x / 8);have hlen:(ja x).length=k+1:=by unfold ja;rw [jp,hk]
 have h0:(ja x).getD 0 0=x / 2 ^ (8*k):=by
  unfold ja;rw [hk,zh,dZ (by omega),vU];have:x / 2 ^ (8*k)<256:=by
   have h1:x<2 ^ (8*k+8):=jw (by omega);rw [qI] at h1;exact qV h1
  rw [show k+1 - 1 - 0=k by omega,qG this]
 have h7:x / 2 ^ (8*k)<128:=by
  have h1:x<2 ^ (8*k+7):=jw (by omega);rw [qI] at h1;exact qV h1
 unfold jh;rw [qK rfl,h0,hlen];rcases za (x / 2 ^ (8*k)) with hz | hz
 · rcases za k with rfl | hk0
   · simp [hz]
   · have h1:(ja x).getD 1 0=x / 2 ^ (8*(k - 1)) % 256:=by
      unfold ja;rw [hk,zh,dZ (by omega),vU];rw [show k+1 - 1 - 1=k - 1 by omega]
     have hx0:x≠0:=fun e=>by subst e;rw [ka] at hk;omega
     have hb:=kC hx0;have hlt:x<2 ^ (8*k):=by
      rcases zz x (2 ^ (8*k)) with h | h
      · exact h
      · have:=Nat.div_pos h (qZ (by omega:0<2));omega
     have hnb:zo x=8*k:=by have:=kh hlt;omega
     have h2:x / 2 ^ (8*(k - 1))<256:=by
      rw [show 8*k=8*(k - 1)+8 by omega,qI] at hlt;exact qV hlt
     have h3:128≤x / 2 ^ (8*(k - 1)):=by
      rw [Nat.le_div_iff_mul_le (qZ (by omega:0<2))];have:=hb.1;rw [hnb,show 8*k - 1=7+8*(k - 1) by omega,qI] at this;exact this
     rw [h1,qG h2];simp [h3];omega
 · simp [hz,h7]
theorem ro (x:Nat):vu (wR x)=x:=by
 have hl:x<2 ^ (8*(zo x / 8+1)):=jw (by omega);have hn:wO (ja x)=x:=gy hl;have hp:jh 2 (ja x)=true:=tI x;unfold vu wR;have hc:(vI 1 (.mk 2 (ja x) [])).isSome=true:=by simp [vI,wP,hp]
 simp only [hc,and_self,if_true];exact hn
def sf (kb m:Nat):List Value:=(List.range m).map fun i=>.pointer (some ⟨kb,i,none⟩)
def bj (w:World) (P:Nat→Prop) (f:Nat→Nat) (vs:List Value):Prop:=∀ i v,vs[i]?=some v→∃ A c,v=.slice A (digs 18446744073709551616 (f i)).length c∧RN w P A c (digs 18446744073709551616 (f i))
theorem bj.snoc {w:World}{P:Nat→Prop}{f:Nat→Nat}{vs:List Value}{A:Option Addr}{c j:Nat}(h:bj w P f vs) (hj:vs.length=j) (hr:RN w P A c (digs 18446744073709551616 (f j))):bj w P f (vs++[.slice A (digs 18446744073709551616 (f j)).length c]):=by
 intro i v hv;rcases zz i vs.length with hi | hi
 · rw [List.getElem?_append_left hi] at hv;exact h i v hv
 · rw [List.getElem?_append_right hi] at hv;rcases za (i - vs.length) with h0 | h0
   · rw [h0] at hv;cases hv;obtain rfl:i=j:=by omega
     exact ⟨A,c,rfl,hr⟩
   · rw [qx (by simp;omega)] at hv;cases hv
theorem bj.keep {w w':World}{P P':Nat→Prop}{f:Nat→Nat}{vs:List Value}(h:bj w P f vs) (hk:∀ p:Addr,P p.block→w'.cell? p=w.cell? p) (hp:∀ q,P q→P' q):bj w' P' f vs:=by
 intro i v hv;obtain ⟨A,c,e,hr⟩:=h i v hv;exact ⟨A,c,e,(RN.keep hr hk).mono hp⟩
theorem drop_set {l:List Value}{j:Nat}(h:j<l.length) (v:Value) (vs:List Value) (hv:vs.length=j):(vs++l.drop j).set j v=(vs++[v])++l.drop (j+1):=by
 rw [vN _ _ (by omega),hv,Nat.sub_self,qa h,List.set_cons_zero,kT];rfl
theorem dU {T:DN}{v:Value}{kb fr m c:Nat}{Ap:Option Addr}{cs0:List Value}{ty:TypeId}(w:World) (h:RD w (An kb w) T v) (hT:∀ i,(kK (atT T [i])).length≤65536) (hp:RS w (An kb w) 1 Ap m c (sf kb m)) (hkb:w.heap[kb]?=some (.cells cs0.toArray ty (0,0))) (hm:m≤cs0.length) (hfr:fr+m≤900) :
 Calls Tryz.prog 86 #[v,.int .i64 (fr:Int),.slice Ap m c] w fun e w'=>(∃ u,e=.returned u)∧∃ vs,vs.length=m∧w'.heap[kb]?=some (.cells (vs++cs0.drop m).toArray ty (0,0))∧bj w' (In w.heap.size w'.heap.size) (fun i=>vu (atT T [fr+i])) vs∧Bb w.heap.size kb w w':=by
 obtain ⟨xi,B1,n1,d1,B2,n2,d2,rfl⟩:=h.shape
 have hkl:=qw hkb
 obtain ⟨W0,hW0⟩:=eW (w.alloc (.cells #[.int .i64 xi,.slice B1 n1 d1,.slice B2 n2 d2] 80))
 obtain ⟨s,hs⟩:=eV w.heap.size
 have hq0:=zP w (.cells #[.int .i64 xi,.slice B1 n1 d1,.slice B2 n2 d2] 80)
 have hE:Ext w W0:=by rw [hW0];exact zb _ _
 have hz:W0.heap.size=s+1:=by rw [hW0];simp [hs]
 rw [←hW0,hs] at hq0
 have hk0:=jQ hE hkb
 rw [hs] at hkl ⊢
 have hD0:RD W0 (fun q=>q≠kb∧q<s) T (.agg #[.int .i64 xi,.slice B1 n1 d1,.slice B2 n2 d2]):=(h.below hE fun q hq=>hq.2).mono fun q hq=>⟨hq.1,hs▸hq.2⟩
 have hp0:RS W0 (fun q=>q≠kb∧q<s) 1 Ap m c (sf kb m):=(RS.below hp hE fun q hq=>hq.2).mono fun q hq=>⟨hq.1,hs▸hq.2⟩
 have hcap:=hp.1
 have hc63:c≤9223372036854775807:=hp.2.1
 have hB0:Bb s kb w W0:=by rw [←hs];exact vw hE kb
 have HT:=zF hT
 have HD0:=zF hD0
 have Hp0:=zF hp0
 have Hk0:=zF hk0
 have HB0:=zF hB0
 have Hz:=zF hz
 have Hs:=zF hs
 have Hq0:=zF hq0
 have Hm:=zF hm
 have Hfr:=zF hfr
 have Hkl:=zF hkl
 clear h hE hz hs hq0 hk0 hD0 hp0 hB0 hp hkb hm hfr hkl hT
 go_enter Tryz.func86,Tryz.ntmps86
 go_upto_region 1 with fail
 rw [←hW0,Hs.out]
 clear hW0
 go_upto_region 2 with fail
 go_loopw [10] (fun i wr=>∃ (j:Nat) (vs:List Value),j≤m∧i=.int .i64 (j:Int)∧vs.length=j∧wr.heap[kb]?=some (.cells (vs++cs0.drop j).toArray ty (0,0))∧bj wr (In s wr.heap.size) (fun i=>vu (atT T [fr+i])) vs∧Bb (s+1) kb W0 wr) (fun i _=>m - (intOf i).toNat)
 case atStart=>exact ⟨0,[],by omega,rfl,rfl,by simpa using Hk0.out,fun i v hv=>by simp at hv,Bb.refl _ _ _⟩
 case round =>
  obtain ⟨j,vs,hj,rfl,hl,hk,hn,hB⟩:=hrel;have HB:=zF hB;have HN:=zF hn;have Hk:=zF hk;have Hl:=zF hl;by_cases hlt:j<m;rotate_left
  · obtain rfl:j=m:=by omega
    have q1:¬ (j:Int)<(j:Int):=by omega
    clear hj hl hk hn hB;go_wp2;go_end0;refine ⟨⟨_,rfl⟩,vs,Hl.out,Hk.out,HN.out,?_⟩;exact HB0.out.trans (HB.out.mono (by omega))
  have hlti:(j:Int)<(m:Int):=by omega
  have hpr:RS wr (fun q=>q≠kb∧q<s) 1 Ap m c (sf kb m):=RS.keep Hp0.out fun p hp=>hB.cell (by have:=hp.2;omega) hp.1;obtain ⟨ad,rfl,hab,hci⟩:=hpr.2.2.2 (by omega);have hpj:=hci j (.pointer (some ⟨kb,j,none⟩)) (by simp [sf,hlt]);have hqs:=(hB.block s (by omega) (by have:=Hkl.out;omega)).trans Hq0.out;have hDr:RD wr (fun q=>q≠kb∧q<s) T (.agg #[.int .i64 xi,.slice B1 n1 d1,.slice B2 n2 d2]):=RD.keep (fun p hp=>hB.cell (by have:=hp.2;omega) hp.1) HD0.out;have hsr:s+1≤wr.heap.size:=by have:=hB.size;have:=Hz.out;omega
  obtain ⟨k,hkk⟩:=eV (fr+j);have hsum:(fr:Int)+(j:Int)=(k:Int):=by omega
  have hwr:IntKind.i64.wrap (k:Int)=(k:Int):=wq _ (by have:=Hfr.out;omega);have hA:Ext wr (wr.alloc (.cells #[.int .i64 (k:Int)] 3)):=zb _ _;have hrz:RZ (wr.alloc (.cells #[.int .i64 (k:Int)] 3)) (Al (wr.alloc (.cells #[.int .i64 (k:Int)] 3))) (some ⟨wr.heap.size,0,none⟩) 1 ([k].map fun (i:Nat)=>(i:Int)):=jM (w:=wr) (P:=Al (wr.alloc (.cells #[.int .i64 (k:Int)] 3))) #[.int .i64 (k:Int)] 3 1 1 rfl (by unfold maxLen;omega) (by simp [Al]);have HAt:=zF (bc T _ _ _ 1 [k] _ ((RD.below hDr hA (fun q hq=>by have:=hq.2;omega)).mono (fun q hq=>by have:=hq.2;unfold Al;simp;omega)) hrz (fun q hq=>hq) (by have:=Hfr.out;simp;omega));have HA:=zF hA;have Hkk:=zF hkk;have Hj:=zF hlt;have Hsr:=zF hsr;obtain ⟨z0,z1,z2,f0,f1,f2⟩:=jn hqs;clear hj hl hk hn hB hpr hci hab hqs hDr hA hrz hkk hlt hsr;go_upto_region 4 with fail;go_wp2_with fail;refine HAt.out.mono ?_;rintro e w3 ⟨⟨v3,rfl,hd3⟩,hB3⟩;have HNa:=zF (zAm _ _ w3 hd3 (HT.out k));have HE3:=zF (zI HA.out hB3);obtain ⟨x3,C1,k1,g1,C2,k2,g2,rfl⟩:=hd3.shape;obtain ⟨N,hN⟩:=eV (vu (atT T [k]));rw [hN] at HNa;have HNn:=zF hN;clear hd3 hB3 HAt HA hN z0 z1 z2 f0 f1 f2 hpj;go_wp2_with fail;refine HNa.out.mono ?_;rintro e w4 ⟨A4,c4,ok4,rfl,hr4,hB4⟩;have hE4:=zI HE3.out hB4;have hlv:(vs++cs0.drop j).length=cs0.length:=by rw [zt,jC,Hl.out];have:=Hm.out;have:=Hj.out;omega
  have hk4:=jQ hE4 Hk.out;have hjl:j<(vs++cs0.drop j).length:=by rw [hlv];have:=Hm.out;have:=Hj.out;omega
  obtain ⟨old,hc4⟩:∃ old,w4.cell? ⟨kb,j,none⟩=some old:=⟨(vs++cs0.drop j)[j],by
   rw [zJ hk4 j]
   simp [qO hjl]⟩
  have hf4:=zv hk4 j;have HE4:=zF hE4;have Hk4:=zF hk4;have Hr4:=zF hr4;have Hs4:=zF (show s+1≤w3.heap.size from zQ Hsr.out HE3.out.bsize);clear hE4 hlv hk4 hjl hr4 hB4 HNa;obtain ⟨Ln,hLn⟩:=eV ((digs 18446744073709551616 N).length);rw [hLn];have HLn:=zF hLn;clear hLn;go_wp2;go_roundw;case rel =>
   have hkb1:(w4.setCell ⟨kb,j,none⟩ (.slice A4 Ln c4)).heap[kb]?=some (.cells (((vs++cs0.drop j).toArray).setIfInBounds j (.slice A4 Ln c4)) ty (0,0)):=ft Hk4.out j _;have hoth:∀ p:Addr,p.block≠kb→(w4.setCell ⟨kb,j,none⟩ (.slice A4 Ln c4)).cell? p=w4.cell? p:=fun p hp=>zT (zN _ _ _ _ hp);have hsz:(w4.setCell ⟨kb,j,none⟩ (.slice A4 Ln c4)).heap.size=w4.heap.size:=by simp [World.setCell]
   refine ⟨j+1,vs++[.slice A4 Ln c4],by have:=Hj.out;omega,by go_num,by rw [zt,Hl.out];rfl,?_,?_,?_⟩
   · rw [hkb1,uP,drop_set (by have:=Hm.out;have:=Hj.out;omega) _ _ Hl.out]
   · have h1:bj (w4.setCell ⟨kb,j,none⟩ (.slice A4 Ln c4)) (In s (w4.setCell ⟨kb,j,none⟩ (.slice A4 Ln c4)).heap.size) (fun i=>vu (atT T [fr+i])) vs:=bj.keep HN.out (fun p hp=>(hoth p (by have:=hp.1;have:=Hkl.out;omega)).trans (Below.cell HE4.out hp.2)) (fun q hq=>⟨hq.1,by rw [hsz];exact zR hq.2 HE4.out.bsize⟩);have hf:vu (atT T [fr+j])=N:=by rw [Hkk.out];exact HNn.out
     have h2:=bj.snoc (A:=A4) (c:=c4) h1 Hl.out (by show RN _ _ A4 c4 (digs 18446744073709551616 (vu (atT T [fr+j])));rw [hf];exact (RN.keep Hr4.out fun p hp=>hoth p (by have:=hp.1;have:=Hs4.out;have:=Hkl.out;omega)).mono fun q hq=>⟨by have:=hq.1;have:=Hs4.out;omega,by rw [hsz];exact hq.2⟩);rw [hf,HLn.out] at h2;exact h2
   · exact (HB.out.trans (vw (HE4.out.mono Hsr.out) kb)).set j _
  case measure=>simp [intOf];have:=Hj.out;omega
end Go.Proofs.YtmlbicgpehchhaaGreat.Der
