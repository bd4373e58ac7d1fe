/- Laws that the proof rests on. -/
import Derived.Test.YtmlbicgpehchhaaGreatQ4a908af86442
set_option maxRecDepth 100000
set_option maxHeartbeats 16000000
namespace Go.Proofs.YtmlbicgpehchhaaGreat.Ec
open Go.RowKit Go.Shelf Der
attribute [local go_sem] Oper.semAt_some
def kPK (c:Int) (bi:Bool) (x y:Nat):Option (List Nat):=if c=1 then fA oq yL bi x y else if c=2 then fA tQ yK bi x y else none
theorem rF (c:Int) {bi:Bool} {p:Value} {x y:Nat} (w:World) (hp:APt w p bi x y) :
 Calls Tryz.prog 13 #[.int .i64 c,p] w fun e w'=>WrB (kPK c bi x y) e w'∧Below w.heap.size w w':=by
 unfold kPK
 by_cases h1:c=1
 · rw [qE h1];exact dG (.inl ⟨h1,rfl⟩) (.inl ⟨h1,rfl⟩) w hp
 rw [zr h1]
 by_cases h2:c=2
 · rw [qE h2];exact dG (.inr ⟨h2,rfl⟩) (.inr ⟨h2,rfl⟩) w hp
 rw [zr h2]
 obtain ⟨A,A',ca,cb,a,b,rfl,_⟩:=hp
 exact aW h1 h2 _ _ _ w
def mw (c:Int) (bs:List Nat):Option (Option (Nat×Nat)):=if c=1 then gQ oq bs else if c=2 then gQ tQ bs else none
theorem mv (c:Int) (P:Nat→Prop) (A:Option Addr) (cap:Nat) (bs:List Nat) (w:World) (h:RB w P A cap bs) (hP:∀ b,P b→b<w.heap.size) :
 Calls Tryz.prog 69 #[.int .i64 c,.slice A bs.length cap] w fun e w'=>∃ v ok,e=.returned (.tuple #[v,.bool ok])∧PtV w' w.heap.size v ((mw c bs).getD none)∧Ext w w':=by
 unfold mw
 by_cases h1:c=1
 · rw [qE h1]
   refine (av (.inl ⟨h1,rfl⟩) P A cap bs w h hP).mono ?_
   rintro e w' ⟨v,rfl,hv,hE⟩
   exact ⟨v,_,rfl,hv,hE⟩
 rw [zr h1]
 by_cases h2:c=2
 · rw [qE h2]
   refine (av (.inr ⟨h2,rfl⟩) P A cap bs w h hP).mono ?_
   rintro e w' ⟨v,rfl,hv,hE⟩
   exact ⟨v,_,rfl,hv,hE⟩
 rw [zr h2]
 refine (mu h1 h2 A bs.length cap w).mono ?_
 rintro e w' ⟨rfl,hE⟩
 exact ⟨_,_,rfl,rfl,hE⟩
def PtN (w:World) (P:Nat→Prop) (v:Value) (bi:Bool) (x y:Nat):Prop:=∃ A c A' c',v=.agg #[.bool bi,.slice A (digs 18446744073709551616 x).length c,.slice A' (digs 18446744073709551616 y).length c']∧RN w P A c (digs 18446744073709551616 x)∧RN w P A' c' (digs 18446744073709551616 y)
theorem PtV.n {w:World} {base:Nat} {v:Value} {o:Option (Nat×Nat)} (h:PtV w base v o):PtN w (In base w.heap.size) v o.isNone (o.elim 0 (·.1)) (o.elim 0 (·.2)):=by
 cases o with
 | none=>obtain rfl:v=vu:=h;exact ⟨none,0,none,0,by simp [qY,vu],by simpa [qY] using RN.nil_ _ _,by simpa [qY] using RN.nil_ _ _⟩
 | some p=>obtain ⟨A,c,A',c',rfl,h1,h2⟩:=h;exact ⟨A,c,A',c',rfl,h1.rn,h2.rn⟩
theorem PtN.below {w w':World} {P P':Nat→Prop} {B:Nat} {v:Value} {bi:Bool} {x y:Nat} (h:PtN w P v bi x y) (hb:Below B w w') (hP:∀ q,P q→q<B) (hP':∀ q,P q→P' q):PtN w' P' v bi x y:=by
 obtain ⟨A,c,A',c',rfl,h1,h2⟩:=h
 exact ⟨A,c,A',c',rfl,(h1.below hb hP).mono hP',(h2.below hb hP).mono hP'⟩
theorem PtN.pt {w:World} {P:Nat→Prop} {v:Value} {bi:Bool} {x y:Nat} (h:PtN w P v bi x y) (hP:∀ q,P q→q<w.heap.size):APt w v bi x y:=by
 obtain ⟨A,c,A',c',rfl,h1,h2⟩:=h
 exact ⟨A,A',c,c',_,_,rfl,h1.ru hP,h2.ru hP,z7 (by omega) x,z7 (by omega) y⟩
theorem PtN.just {X Y:World} {P P':Nat→Prop} {g:Nat} {v:Value} {bi:Bool} {x y:Nat} (h:PtN X P v bi x y) (hj:∀ b,b≠g→Y.heap[b]?=X.heap[b]?) (hP:∀ q,P q→q≠g) (hP':∀ q,P q→P' q):PtN Y P' v bi x y:=by
 obtain ⟨A,c,A',c',rfl,h1,h2⟩:=h
 exact ⟨A,c,A',c',rfl,(RN.keep h1 fun p hp=>zS (hj _ (hP _ hp))).mono hP',(RN.keep h2 fun p hp=>zS (hj _ (hP _ hp))).mono hP'⟩
def oA (b:List Nat):Option (Int×(Nat×Nat)) :=
 let c:=un (atT (kL b) [0,1])
 let o:=(mw c (gi (kL b))).getD none
 if kPK c o.isNone (o.elim 0 (·.1)) (o.elim 0 (·.2))=some b then some (c,(o.elim 0 (·.1),o.elim 0 (·.2))) else none
def RdP (R:Option (Int×(Nat×Nat))) (e:Ending) (w':World):Prop:=match R with
 | none=>e=.returned (.tuple #[.int .i64 0,vu,.bool false])
 | some (c,(x,y))=>∃ v,e=.returned (.tuple #[.int .i64 c,v,.bool true])∧PtN w' (Al w') v false x y
theorem tE {c:Int} {x y:Nat} : kPK c true x y=none:=by
 unfold kPK fA
 rw [qE rfl,qE rfl]
 split
 · rfl
 · split <;> rfl
theorem bI (b:Bool) (A A':Option Addr) (n n' c c':Nat) {W:World} {s:Nat} {Y:World} {a0 a1 a2:Value} {ty:TypeId} (hY:((W.setCell ⟨s,0,none⟩ (.bool b)).setCell ⟨s,1,none⟩ (.slice A n c)).setCell ⟨s,2,none⟩ (.slice A' n' c')=Y) (ha:W.heap[s]?=some (.cells #[a0,a1,a2] ty (0,0))) :
 (∀ b,b≠s→Y.heap[b]?=W.heap[b]?)∧Y.heap.size=W.heap.size∧Y.heap[s]?=some (.cells #[.bool b,.slice A n c,.slice A' n' c'] ty (0,0))∧∀ B,B≤s→Below B W Y:=fs hY ha
theorem aB (P:Nat→Prop) (A:Option Addr) (c:Nat) (b:List Nat) (w:World) (hb:RB w P A c b) (hP:∀ q,P q→q<w.heap.size) :
    Calls Tryz.prog 17 #[.slice A b.length c] w fun e w'=>RdP (oA b) e w'∧Below w.heap.size w w':=by
  obtain ⟨W0,hW0⟩:=eW (w.alloc (.cells #[.bool false,.slice none 0 0,.slice none 0 0] 29))
  obtain ⟨s,hs⟩:=eV w.heap.size
  have hq0:=zN w (.cells #[.bool false,.slice none 0 0,.slice none 0 0] 29)
  have hE:Ext w W0:=by rw [hW0];exact zR _ _
  rw [←hW0,hs] at hq0
  have hz:W0.heap.size=s+1:=by rw [hW0];simp [hs]
  have HB0:=zF (fun X (hX:Ext w X)=>(show RB X (Al X) A c b from RB.al hb hX hP hX.bsize))
  have HRd:=zF (bN (Al W0) A c b W0 (HB0.out W0 hE) (fun q hq=>hq))
  obtain ⟨R,hR⟩:=eV (oA b)
  rw [hR]
  unfold oA at hR
  obtain ⟨T1,hT1⟩:=eV (kL b)
  obtain ⟨T3,hT3⟩:=eV (atT T1 [0,1])
  obtain ⟨hl,hhl⟩:=eV (gi T1)
  obtain ⟨z,hz3⟩:=eV (un T3)
  obtain ⟨o,ho⟩:=eV ((mw z hl).getD none)
  obtain ⟨Lh,hLh⟩:=eV hl.length
  simp only [hT1,hT3,hhl,hz3,ho] at HRd hR
  obtain ⟨bi,hbi⟩:=eV o.isNone
  obtain ⟨x,hx⟩:=eV (o.elim 0 (·.1))
  obtain ⟨y,hy⟩:=eV (o.elim 0 (·.2))
  simp only [hbi,hx,hy] at hR
  obtain ⟨S,hS⟩:=eV (kPK z bi x y)
  have HI:=zF (show bi=true→S=none from fun h=>by rw [←hS,h,tE])
  rw [hS] at hR
  have HT3:=zF hT3
  have Hhl:=zF hhl
  have HLh:=zF hLh
  have Hz:=zF hz3
  have Ho:=zF ho
  have Hbi:=zF hbi
  have Hx:=zF hx
  have Hy:=zF hy
  have HS:=zF hS
  have HR:=zF hR
  have HE:=zF hE
  have Hs:=zF hs
  have Hsz:=zF hz
  have Hq0:=zF hq0
  clear hb hP hR hT1 hT3 hhl hLh hz3 ho hbi hx hy hS hE hs hz hq0
  rw [Hs.out]
  go_enter Tryz.func17,Tryz.ntmps17
  go_upto_region 1 with fail
  rw [←hW0,Hs.out]
  clear hW0
  go_wp2_with fail
  refine HRd.out.mono ?_
  rintro e w1 ⟨⟨v1,ok1,rfl,hd1⟩,hB1⟩
  obtain ⟨x1,B1,n1,d1,B2,n2,d2,rfl⟩:=hd1.shape
  obtain ⟨g,hg⟩:=eV w1.heap.size
  have hA1:=zR w1 (.cells #[.int .i64 x1,.slice B1 n1 d1,.slice B2 n2 d2] 80)
  have hq1:=zN w1 (.cells #[.int .i64 x1,.slice B1 n1 d1,.slice B2 n2 d2] 80)
  rw [hg] at hq1
  have HD1:=zF (RD.al hd1.all hA1)
  have HE1:=zF (za hB1 hA1)
  have Hq1:=zF hq1
  have Hg:=zF hg
  clear hd1 hB1 hA1 hq1 hg HRd
  go_upto_region 2 with fail
  rw [Hg.out]
  generalize w1.alloc (.cells #[.int .i64 x1,.slice B1 n1 d1,.slice B2 n2 d2] 80)=W2 at *
  have hA3:Ext W2 (W2.alloc (.cells #[.int .i64 0,.int .i64 1] 3)):=zR _ _
  have hrz:RZ (W2.alloc (.cells #[.int .i64 0,.int .i64 1] 3)) (Al (W2.alloc (.cells #[.int .i64 0,.int .i64 1] 3))) (some ⟨W2.heap.size,0,none⟩) 2 ([0,1].map fun (i:Nat)=>(i:Int)):=jW (w:=W2) (P:=Al (W2.alloc (.cells #[.int .i64 0,.int .i64 1] 3))) #[.int .i64 0,.int .i64 1] 3 1 2 rfl (by unfold maxLen;omega) (by simp [Al])
  have HAt:=dS T1 _ _ _ 2 [0,1] _ (RD.al HD1.out hA3) hrz (fun q hq=>hq) (by simp)
  rw [HT3.out] at HAt
  have HAt:=zF HAt
  have HE3:=zF hA3
  clear hA3 hrz
  obtain ⟨z0,z1,z2,f0,f1,f2⟩:=jh Hq1.out
  go_wp2_with fail
  refine HAt.out.mono ?_
  rintro e w3 ⟨⟨v3,rfl,hd3⟩,hB3⟩
  have HE4:=zF (za HE3.out hB3)
  have HWh:=aV T3 _ w3 hd3
  rw [Hz.out] at HWh
  have HWh:=zF HWh
  clear hd3 hB3 HE3 HAt
  go_wp2_with fail
  refine HWh.out.mono ?_
  rintro e w4 ⟨rfl,hB4⟩
  have HE5:=zF (za HE4.out hB4)
  have hq4:=HE5.out.at_ Hq1.out
  have HD4:=zF (RD.al HD1.out HE5.out)
  have Hq4:=zF hq4
  clear hB4 HWh HE4 z0 z1 z2 f0 f1 f2 HD1 Hq1
  go_upto_region 3 with fail
  obtain ⟨z0,z1,z2,f0,f1,f2⟩:=jh hq4
  clear hq4
  have HHe:=rI T1 _ w4 HD4.out
  rw [Hhl.out,HLh.out] at HHe
  have HHe:=zF HHe
  go_wp2_with fail
  refine HHe.out.mono ?_
  rintro e w5 ⟨⟨A5,c5,rfl,hr5⟩,hB5⟩
  have HE6:=zF (za HE5.out hB5)
  have HDc:=mv z (Al w5) A5 c5 hl w5 hr5 (fun q hq=>hq)
  rw [HLh.out,Ho.out] at HDc
  have HDc:=zF HDc
  clear hr5 hB5 HE5 HHe z0 z1 z2 f0 f1 f2 HD4 Hq4
  go_wp2_with fail
  refine HDc.out.mono ?_
  rintro e w6 ⟨v6,ok6,rfl,hv6,hE7⟩
  have hp6:=PtV.n hv6
  rw [Hbi.out,Hx.out,Hy.out] at hp6
  obtain ⟨A7,k7,B7,j7,rfl,hn1,hn2⟩:=id hp6
  obtain ⟨g7,hg7⟩:=eV w6.heap.size
  obtain ⟨lx,hlx⟩:=eV ((digs 18446744073709551616 x).length)
  obtain ⟨ly,hly⟩:=eV ((digs 18446744073709551616 y).length)
  rw [hlx,hly] at hp6
  rw [hlx,hly]
  have hA7:=zR w6 (.cells #[.bool bi,.slice A7 lx k7,.slice B7 ly j7] 29)
  have hq7:=zN w6 (.cells #[.bool bi,.slice A7 lx k7,.slice B7 ly j7] 29)
  rw [hg7] at hq7
  have HE8:=zF (za HE6.out (za hE7 hA7))
  have hsz:s+1≤w5.heap.size:=by have:=HE6.out.bsize;have:=HE1.out.bsize;have:=Hsz.out;omega
  have HP7:=zF (PtN.below (P':=fun q=>s<q∧q<(w6.alloc (.cells #[.bool bi,.slice A7 lx k7,.slice B7 ly j7] 29)).heap.size) hp6 hA7 (fun q hq=>hq.2) (fun q hq=>⟨by have:=hq.1;omega,zP hq.2 hA7.bsize⟩))
  have Hq7:=zF hq7
  have Hg7:=zF hg7
  have Hlx:=zF hlx
  have Hly:=zF hly
  clear hv6 hE7 hp6 hn1 hn2 hg7 hA7 hq7 hsz HDc HE6 hlx hly
  go_upto_region 4 with fail
  rw [Hg7.out]
  generalize w6.alloc (.cells #[.bool bi,.slice A7 lx k7,.slice B7 ly j7] 29)=W8 at *
  have HE9:=zF (za HE1.out HE8.out)
  obtain ⟨z0,z1,z2,f0,f1,f2⟩:=qc Hq7.out
  have HPk:=rF z W8 (PtN.pt HP7.out (fun q hq=>hq.2))
  rw [HS.out] at HPk
  have HPk:=zF HPk
  go_wp2_with fail
  refine HPk.out.mono ?_
  rintro e w9 ⟨⟨A9,c9,rfl,hr9⟩,hB9⟩
  have HEa:=zF (za HE9.out hB9)
  have hqa:=HEa.out.at_ Hq0.out
  have hqb:=Ext.at_ hB9 Hq7.out
  have HPa:=zF (PtN.below (P':=fun q=>s<q∧q<w9.heap.size) HP7.out hB9 (fun q hq=>hq.2) (fun q hq=>⟨hq.1,zP hq.2 hB9.size⟩))
  have Hr9:=zF hr9
  have Hqa:=zF hqa
  have HEw:=zF (za HE.out HEa.out)
  have Hss:=zF (show s<w9.heap.size by have:=HEa.out.bsize;have:=Hsz.out;omega)
  clear hr9 hB9 z0 z1 z2 f0 f1 f2 HPk HE9 HE8 HE1 HP7 Hq7
  obtain ⟨p0,p1,p2,r0,r1,r2⟩:=qc hqa
  obtain ⟨y0,y1,y2,g0,g1,g2⟩:=qc hqb
  clear hqa hqb
  cases S with
  | none =>
    have hR:none=R:=by rw [←HR.out];rfl
    subst hR
    have h1:(none:Option (List Nat)).isSome=false:=rfl
    rw [h1]
    clear Hr9
    go_wp2
    generalize hY:((w9.setCell ⟨s,0,none⟩ (.bool true)).setCell ⟨s,1,none⟩ (.slice none 0 0)).setCell ⟨s,2,none⟩ (.slice none 0 0)=Y
    obtain ⟨k1,k2,k3,k4⟩:=bI true none none 0 0 0 0 hY Hqa.out
    have i0:=zH k3 0
    have i1:=zH k3 1
    have i2:=zH k3 2
    simp only [zI,zJ,zL] at i0 i1 i2
    try rw [jV]
    refine qF (v:=.tuple #[.int .i64 0,vu,.bool false]) (by simp [results,Tryz.results17,go_sem,i0,i1,i2,vu]) rfl ⟨rfl,?_⟩
    have hx:=HEw.out
    unfold Ext at hx
    rw [Hs.out] at hx
    exact hx.trans (k4 s (zG _))
  | some k =>
    have hbf:bi=false:=by
      cases bi
      · rfl
      · exact absurd (HI.out rfl) (by simp)
    subst hbf
    have h1:(some k).isSome=true:=rfl
    have h2:(some k).getD []=k:=rfl
    rw [h1,h2]
    have HEq:=zF (yu (Al w9) (Al w9) A9 A c9 c k b w9 Hr9.out (HB0.out w9 HEw.out))
    clear h1 h2
    by_cases hkb:k=b
    · have hR:some (z,(x,y))=R:=by rw [←HR.out,qE (by rw [hkb])]
      subst hR
      rw [qi hkb] at HEq
      clear hkb
      go_upto_region 5 with fail
      go_wp2_with fail
      refine HEq.out.mono ?_
      rintro e w10 ⟨rfl,rfl⟩
      go_upto_region 7 with fail
      go_region
      go_wp2
      generalize hY1:((w9.setCell ⟨s,0,none⟩ (.bool false)).setCell ⟨s,1,none⟩ (.slice A7 lx k7)).setCell ⟨s,2,none⟩ (.slice B7 ly j7)=Y1
      obtain ⟨k1,k2,k3,k4⟩:=bI false A7 B7 lx ly k7 j7 hY1 Hqa.out
      have k1:∀ b,b≠s→Y1.drew.heap[b]?=w9.heap[b]?:=k1
      have k2:Y1.drew.heap.size=w9.heap.size:=k2
      have k3:Y1.drew.heap[s]?=_:=k3
      have k4:Below s w9 Y1.drew:=qT (k4 s (zG _)) 1
      generalize Y1.drew=Y at *
      have i0:=zH k3 0
      have i1:=zH k3 1
      have i2:=zH k3 2
      simp only [zI,zJ,zL] at i0 i1 i2
      try rw [jV]
      refine qF (v:=.tuple #[.int .i64 z,.agg #[.bool false,.slice A7 lx k7,.slice B7 ly j7],.bool true]) (by simp [results,Tryz.results17,go_sem,i0,i1,i2]) rfl ⟨⟨_,rfl,?_⟩,?_⟩
      · exact PtN.just HPa.out k1 (fun q hq=>by have:=hq.1;omega) (fun q hq=>by unfold Al;rw [k2];exact hq.2)
      · have hx:=HEw.out
        unfold Ext at hx
        rw [Hs.out] at hx
        exact hx.trans k4
    · have hR:none=R:=by rw [←HR.out,zr (fun h=>hkb (by injection h))]
      subst hR
      rw [qp hkb] at HEq
      clear hkb
      go_upto_region 5 with fail
      go_wp2_with fail
      refine HEq.out.mono ?_
      rintro e w10 ⟨rfl,rfl⟩
      go_wp2
      generalize hY:((w9.setCell ⟨s,0,none⟩ (.bool true)).setCell ⟨s,1,none⟩ (.slice none 0 0)).setCell ⟨s,2,none⟩ (.slice none 0 0)=Y
      obtain ⟨k1,k2,k3,k4⟩:=bI true none none 0 0 0 0 hY Hqa.out
      have i0:=zH k3 0
      have i1:=zH k3 1
      have i2:=zH k3 2
      simp only [zI,zJ,zL] at i0 i1 i2
      try rw [jV]
      refine qF (v:=.tuple #[.int .i64 0,vu,.bool false]) (by simp [results,Tryz.results17,go_sem,i0,i1,i2,vu]) rfl ⟨rfl,?_⟩
      have hx:=HEw.out
      unfold Ext at hx
      rw [Hs.out] at hx
      exact hx.trans (k4 s (zG _))
theorem jP {x:Nat} (h:0<x):0<(digs 4294967296 x).length:=by
 rcases zo (digs 4294967296 x).length with h0 | h0
 · have h1:=qH h0
   have h2:=z7 (B:=4294967296) (by decide) x
   rw [h1] at h2
   simp [val] at h2
   omega
 · exact h0
theorem bu {c:Int} {C:Crv} (hC:IsU c C) (P:Nat→Prop) (A:Option Addr) (cap x:Nat) (w:World) (h:RN w P A cap (digs 4294967296 x)) (hP:∀ b,P b→b<w.heap.size) :
 Calls Tryz.prog 50 #[.int .i64 c,.slice A (digs 4294967296 x).length cap] w fun e w'=>e=.returned (.bool (vK C x))∧Ext w w':=by
 have HO:=zF (nK hC w)
 have HX:=zF (fun X (hX:Ext w X)=>(show RN X P A cap (digs 4294967296 x) from h.below hX hP))
 have hs0:C.size=0→vK C x=false:=fun hz=>by
  rcases hC with hC | ⟨_,_,rfl⟩
  · have:=hC.fine.pos;omega
  · simp [vK,c0]
 have hx0:x=0→vK C x=false:=fun hz=>by subst hz;simp [vK]
 have hxp:0<x→vK C x=decide (kh x (val 18446744073709551616 C.nl)<0):=fun hz=>by
  unfold vK kh
  rw [qi hz,Bool.true_and]
  by_cases h1:x<val 18446744073709551616 C.nl
  · rw [qE h1,qi h1];rfl
  · rw [zr h1,qp h1];split <;> rfl
 have hl0:(digs 4294967296 x).length=0→x=0:=fun hz=>by
  rcases zo x with h0 | h0
  · exact h0
  · have:=jP h0;omega
 have HXl:=zF (show x=0→(digs 4294967296 x).length=0 from fun hz=>by subst hz;rw [qY];rfl)
 have HC:=zF (fun X (hX:Ext w X) A' c'=>fun (h2:RU X A' c' (digs 4294967296 (val 18446744073709551616 C.nl)))=>vf P (fun b=>b<X.heap.size) A A' cap c' x (val 18446744073709551616 C.nl) X (h.below hX hP) h2)
 obtain ⟨m,hm⟩:=eV (vK C x)
 rw [hm] at hs0 hx0 hxp ⊢
 have HS0:=zF hs0
 have HX0:=zF hx0
 have HXp:=zF hxp
 have HL0:=zF hl0
 clear h hP hC hm hs0 hx0 hxp hl0 HX
 go_enter Tryz.func50,Tryz.ntmps50
 go_wp2_with fail
 refine HO.out.mono ?_
 rintro e w1 ⟨v,rfl,⟨Ap,An,Ab,Ax,Ay,cp,cn,cb,cx,cy,rfl,h1,h2,h3,h4,h5⟩,hE1⟩
 obtain ⟨l1,hl1⟩:=eV ((digs 4294967296 C.M).length)
 obtain ⟨l2,hl2⟩:=eV ((digs 4294967296 (val 18446744073709551616 C.nl)).length)
 obtain ⟨l3,hl3⟩:=eV ((digs 4294967296 C.bb).length)
 obtain ⟨l4,hl4⟩:=eV ((digs 4294967296 (val 18446744073709551616 C.xl)).length)
 obtain ⟨l5,hl5⟩:=eV ((digs 4294967296 (val 18446744073709551616 C.yl)).length)
 obtain ⟨sz,hsz⟩:=eV C.size
 obtain ⟨lx,hlx⟩:=eV ((digs 4294967296 x).length)
 have hA:=zR w1 (.cells #[.slice Ap l1 cp,.slice An l2 cn,.slice Ab l3 cb,.slice Ax l4 cx,.slice Ay l5 cy,.int .i64 (sz:Int)] 73)
 have hq:=zN w1 (.cells #[.slice Ap l1 cp,.slice An l2 cn,.slice Ab l3 cb,.slice Ax l4 cx,.slice Ay l5 cy,.int .i64 (sz:Int)] 73)
 have HE:=zF (za hE1 hA)
 have HC2:=HC.out _ (za hE1 hA) An cn (h2.up hA)
 rw [hl2,hlx] at HC2
 have HCm:=zF HC2
 rw [hl1,hl2,hl3,hl4,hl5,hsz,hlx]
 rw [hsz] at HS0
 rw [hlx] at HL0 HXl
 obtain ⟨b,hb⟩:=eV w1.heap.size
 rw [hb] at hq
 have Hb:=zF hb
 have q5:=zH hq 5
 have q1:=zH hq 1
 simp only [zI,zJ,zL] at q5 q1
 clear h1 h2 h3 h4 h5 hE1 hA hl1 hl2 hl3 hl4 hl5 hsz hlx HC2 hq hb HC HO
 go_upto_region 2 with fail
 rw [Hb.out]
 generalize w1.alloc (.cells #[.slice Ap l1 cp,.slice An l2 cn,.slice Ab l3 cb,.slice Ax l4 cx,.slice Ay l5 cy,.int .i64 (sz:Int)] 73)=W1 at *
 by_cases g0:sz=0
 · have hm:=HS0.out g0
   subst g0 hm
   have k0:¬ (0:Int)<((0:Nat):Int):=by omega
   go_wp2
   go_ret
   exact ⟨rfl,HE.out⟩
 have k0:(0:Int)<(sz:Int):=by omega
 by_cases g1:lx=0
 · have hm:=HX0.out (HL0.out g1)
   subst g1 hm
   have k1:¬ (0:Int)<((0:Nat):Int):=by omega
   clear g0
   go_wp2
   go_ret
   exact ⟨rfl,HE.out⟩
 have k1:(0:Int)<(lx:Int):=by omega
 have hm:=HXp.out (by rcases zo x with h | h;exact absurd (HXl.out h) g1;exact h)
 have Hm:=zF hm
 clear g0 g1 hm
 go_wp2_with fail
 refine HCm.out.mono ?_
 rintro e w2 ⟨rfl,d,rfl⟩
 have HE2:=zF (za HE.out (xC W1 d))
 generalize kh x (val 18446744073709551616 C.nl)=z at *
 go_wp2
 go_ret
 exact ⟨by rw [Hm.out];rfl,HE2.out⟩
theorem tJ (x n:Nat):(kr 1 (ecT x n)).isSome=true:=by
 have h1:jY 2 [1]=true:=by decide
 have h2:jY 4 (bytesOf x n)=true:=rfl
 simp [ecT,kr,vM,h1,h2]
theorem vn {tag:Nat} {b:List Nat} (h:b.length<128):hdB tag b=tag % 256 :: b.length :: b:=by
 unfold hdB de
 rw [qE h]
 rfl
theorem nZ {x n:Nat} (hn:n≤100):enc (ecT x n)=48 :: (5+n) :: 2 :: 1 :: 1 :: 4 :: n :: bytesOf x n:=by
 have hl:=jF x n
 have e1:hdB 2 [1]=[2,1,1]:=by decide
 have e2:hdB 4 (bytesOf x n)=4 :: n :: bytesOf x n:=by rw [vn (by omega),hl]
 unfold ecT
 rw [enc,qE rfl,js,js,js,enc,enc,zr (by decide),zr (by decide),e1,e2,vn (by simp [hl];omega)]
 simp [hl]
 omega
theorem rT {x n:Nat} (hn:n≤100):wH (ecT x n)=some (48 :: (5+n) :: 2 :: 1 :: 1 :: 4 :: n :: bytesOf x n):=by
 unfold wH
 rw [zr (by rw [tJ];decide),nZ hn,zr (by simp [jF];omega)]
theorem mF {oc:List Nat} (h:oc.length≤110):enc (xz oc)=48 :: (11+oc.length) :: 6 :: 7 :: (uC++6 :: oc.length :: oc):=by
 have e1:hdB 6 uC=6 :: 7 :: uC:=by decide
 have hl:uC.length=7:=rfl
 unfold xz
 rw [enc,qE rfl,js,js,js,enc,enc,zr (by decide),zr (by decide),e1,vn (tag:=6) (b:=oc) (by omega),vn (by simp [hl];omega)]
 simp [hl]
 omega
theorem oU {oc b:List Nat} (h:18+oc.length+b.length<128):enc (gM (xz oc) b)=48 :: (18+oc.length+b.length) :: 2 :: 1 :: 0 :: (48 :: (11+oc.length) :: 6 :: 7 :: (uC++6 :: oc.length :: oc))++(4 :: b.length :: b):=by
 have e1:hdB 2 [0]=[2,1,0]:=by decide
 have hl:uC.length=7:=rfl
 unfold gM
 rw [enc,qE rfl,js,js,js,js,mF (by omega),enc,enc,zr (by decide),zr (by decide),e1,vn (tag:=4) (b:=b) (by omega),vn (by simp [hl];omega)]
 simp [hl]
 omega
theorem oT {oc b:List Nat} (h:oc.length≤8) (hb:b.length≤100):(enc (gM (xz oc) b)).length≤10000000:=by
 rw [oU (by omega)]
 simp [uC]
 omega
theorem rU {C:Crv} {oc:List Nat} {x:Nat} (h:vK C x=true) (hn:C.size≤100):uT C oc x=wH (gM (xz oc) (48 :: (5+C.size) :: 2 :: 1 :: 1 :: 4 :: C.size :: bytesOf x C.size)):=by
 unfold uT ur
 rw [qE h,rT hn]
 rfl
theorem sS {c:Int} {C:Crv} {oc:List Nat} (hC:IsC c C) (hn:IsN c oc) (hs:oc.length≤8) (P:Nat→Prop) (A:Option Addr) (cap x:Nat) (w:World) (h:RN w P A cap (digs 4294967296 x)) (hP:∀ b,P b→b<w.heap.size) :
 Calls Tryz.prog 12 #[.int .i64 c,.slice A (digs 4294967296 x).length cap] w fun e w'=>WrB (uT C oc x) e w'∧Below w.heap.size w w':=by
 have hlt:∀ {X:World},Ext w X→∀ b,P b→b<X.heap.size:=fun hX b hb=>zP (hP b hb) hX.bsize
 have HMy:=zF (bu (.inl hC) P A cap x w h hP)
 have h48:C.size≤48:=hC.fine.small
 have HBy:=zF (fun X (hX:Ext w X) (hm:vK C x=true)=>xO P A cap x C.size X (h.below hX hP) (hlt hX) (by omega) (dE hC hm))
 have HOf:=zF (fun X=>nK (.inl hC) X)
 have HAl:=zF (fun X=>gG hn X)
 obtain ⟨R,hR⟩:=eV (uT C oc x)
 rw [hR]
 have h0:vK C x=false→none=R:=fun h=>by rw [←hR];unfold uT;rw [h];rfl
 have h1:vK C x=true→wH (gM (xz oc) (48 :: (5+C.size) :: 2 :: 1 :: 1 :: 4 :: C.size :: bytesOf x C.size))=R:=fun h=>by rw [←hR,rU h (by omega)]
 obtain ⟨m,hm⟩:=eV (vK C x)
 simp only [hm] at HMy HBy h0 h1
 obtain ⟨lx,hlx⟩:=eV ((digs 4294967296 x).length)
 simp only [hlx] at HMy HBy
 rw [hlx]
 obtain ⟨n,hnn⟩:=eV C.size
 rw [hnn] at h1 h48
 simp only [hnn] at HBy
 have HN:=zF hnn
 have HX0:=zF h0
 have HX1:=zF h1
 have Hoc:=zF hs
 have HW1:=zF (rT (x:=x) (show n≤100 by omega))
 have H48:=zF h48
 clear h hP hlt hR hm hnn h0 h1 hC hn hs hlx h48
 have hf:∀ (a b c d e f:Value) (w:World),Sem.run Tryz.prog (Instr.field 73 (.agg #[a,b,c,d,e,f]) 5) w=.ok f w:=fun _ _ _ _ _ _ _=>by kernel_rfl
 go_enter Tryz.func12,Tryz.ntmps12
 go_wp2_with fail
 refine HMy.out.mono ?_
 rintro e w1 ⟨rfl,hE1⟩
 have HE1:=zF hE1
 clear hE1 HMy
 cases m
 · have hR:=HX0.out rfl
   subst hR
   go_wp2
   go_ret2
   exact ⟨⟨_,_,rfl,vY _ _⟩,HE1.out⟩
 have hR:=HX1.out rfl
 subst hR
 go_wp2_with fail
 refine (HOf.out w1).mono ?_
 rintro e w2 ⟨v,rfl,⟨Ap,An,Ab,Ax,Ay,cp,cn,cb,cx,cy,rfl,-,-,-,-,-⟩,hE2⟩
 rw [HN.out]
 generalize (digs 4294967296 C.M).length=l1
 generalize (digs 4294967296 (val 18446744073709551616 C.nl)).length=l2
 generalize (digs 4294967296 C.bb).length=l3
 generalize (digs 4294967296 (val 18446744073709551616 C.xl)).length=l4
 generalize (digs 4294967296 (val 18446744073709551616 C.yl)).length=l5
 have HE2:=zF (za HE1.out hE2)
 have HBy2:=zF (HBy.out w2 HE2.out (by first | trivial | rfl))
 clear hE2 HE1 HBy HOf HX0 HX1
 go_wp2_with fail
 refine HBy2.out.mono ?_
 rintro e w4 ⟨A4,rfl,hr4,hB4⟩
 have HE4:=zF (za HE2.out hB4)
 have HR4:=zF (hr4.mono (fun q hq=>hq.2:∀ q,In w2.heap.size w4.heap.size q→Al w4 q))
 clear hr4 hB4 HBy2 HE2
 go_wp2_with fail
 refine (pS w4).mono ?_
 rintro e w5 ⟨⟨A5,c5,rfl,hr5⟩,hB5⟩
 have HE5:=zF (za HE4.out hB5)
 have HR5:=zF (hr5.mono (fun q hq=>hq.2:∀ q,In w4.heap.size w5.heap.size q→Al w5 q))
 have HK5:=zF (jr HR4.out hB5)
 clear hr5 hB5 HR4 HE4
 go_wp2_with fail
 refine (uh A4 n n w5).mono ?_
 rintro e w7 ⟨rfl,hB7⟩
 have HE7:=zF (za HE5.out hB7)
 have HR7:=zF (jr HR5.out hB7)
 have HK7:=zF (jr HK5.out hB7)
 clear hB7 HR5 HK5 HE5
 go_wp2_with fail
 obtain ⟨g,hg⟩:=eV w7.heap.size
 have hA8:Ext w7 (w7.alloc (.cells #[.int .i64 2,.slice A5 1 c5,.slice none 0 0,.int .i64 4,.slice A4 n n,.slice none 0 0] 80)):=zR _ _
 have hrs:RS (w7.alloc (.cells #[.int .i64 2,.slice A5 1 c5,.slice none 0 0,.int .i64 4,.slice A4 n n,.slice none 0 0] 80)) (Al (w7.alloc (.cells #[.int .i64 2,.slice A5 1 c5,.slice none 0 0,.int .i64 4,.slice A4 n n,.slice none 0 0] 80))) 3 (some ⟨w7.heap.size,0,none⟩) 2 2 [.int .i64 2,.slice A5 1 c5,.slice none 0 0,.int .i64 4,.slice A4 n n,.slice none 0 0]:=jW #[.int .i64 2,.slice A5 1 c5,.slice none 0 0,.int .i64 4,.slice A4 n n,.slice none 0 0] 80 3 2 rfl (by unfold maxLen;omega) (by simp [Al])
 rw [hg] at hrs
 have hlf:=xe (tag:=4) (jr HK7.out hA8) (by decide)
 rw [jF] at hlf
 have HT8:=zF (show RD _ (Al (w7.alloc (.cells #[.int .i64 2,.slice A5 1 c5,.slice none 0 0,.int .i64 4,.slice A4 n n,.slice none 0 0] 80))) (ecT x n) (.agg #[.int .i64 48,.slice none 0 0,.slice (some ⟨g,0,none⟩) 2 2]) from RD.seq hrs (vj (xe (jr HR7.out hA8) (by decide)) (vj hlf RDs.nil_)) rfl)
 have HE8:=zF (za HE7.out hA8)
 have Hg:=zF hg
 clear hA8 hrs hlf hg HR7 HK7 HE7
 rw [Hg.out]
 generalize w7.alloc (.cells #[.int .i64 2,.slice A5 1 c5,.slice none 0 0,.int .i64 4,.slice A4 n n,.slice none 0 0] 80)=W8 at *
 refine (yc _ 2 2 W8).mono ?_
 rintro e w9 ⟨rfl,hB9⟩
 have HWr:=zF (uE (Al w9) _ _ w9 (HT8.out.al hB9) (fun q hq=>hq) (by rw [nZ (by have:=H48.out;omega)];have:=H48.out;simp [jF];omega))
 have HE9:=zF (za HE8.out hB9)
 clear hB9 HT8 HE8
 go_wp2_with fail
 refine HWr.out.mono ?_
 rintro e wA ⟨hW,hBA⟩
 rw [HW1.out] at hW
 obtain ⟨bi,hbi⟩:=eV (48 :: (5+n) :: 2 :: 1 :: 1 :: 4 :: n :: bytesOf x n)
 have hbl:bi.length≤100:=by rw [←hbi];have:=H48.out;simp [jF];omega
 rw [hbi] at hW
 obtain ⟨Ai,ci,rfl,hO⟩:=hW
 have Hbi:=zF hbi
 have HRi:=zF ((hO.rb (by omega)).mono (fun q hq=>hq.2:∀ q,In w9.heap.size wA.heap.size q→Al wA q))
 have HEA:=zF (za HE9.out hBA)
 obtain ⟨N,hN⟩:=eV bi.length
 rw [hN]
 rw [hN] at hbl
 have HNi:=zF hN
 have Hbl:=zF hbl
 clear hbi hO hBA hN hbl HWr HE9 HW1
 go_wp2_with fail
 refine (pT wA).mono ?_
 rintro e wB ⟨⟨B5,e5,rfl,hrB⟩,hBB⟩
 have HEB:=zF (za HEA.out hBB)
 have HRB:=zF (hrB.mono (fun q hq=>hq.2:∀ q,In wA.heap.size wB.heap.size q→Al wB q))
 have HKB:=zF (jr HRi.out hBB)
 clear hrB hBB HRi HEA
 go_wp2_with fail
 refine (HAl.out wB).mono ?_
 rintro e wC ⟨⟨v5,rfl,hd5⟩,hBC⟩
 obtain ⟨x5,D1,m1,j1,D2,m2,j2,rfl⟩:=hd5.shape
 have HD:=zF hd5
 have HEC:=zF (za HEB.out hBC)
 have HRC:=zF (jr HRB.out hBC)
 have HKC:=zF (jr HKB.out hBC)
 clear hd5 hBC HRB HKB HEB HAl
 go_wp2_with fail
 refine (uh Ai N ci wC).mono ?_
 rintro e wD ⟨rfl,hBD⟩
 have HED:=zF (za HEC.out hBD)
 have HRD:=zF (jr HRC.out hBD)
 have HKD:=zF (jr HKC.out hBD)
 have HDD:=zF (HD.out.al hBD)
 clear hBD HRC HKC HD HEC
 go_wp2_with fail
 obtain ⟨g2,hg⟩:=eV wD.heap.size
 have hA8:Ext wD (wD.alloc (.cells #[.int .i64 2,.slice B5 1 e5,.slice none 0 0,.int .i64 x5,.slice D1 m1 j1,.slice D2 m2 j2,.int .i64 4,.slice Ai N ci,.slice none 0 0] 80)):=zR _ _
 have hrs:RS (wD.alloc (.cells #[.int .i64 2,.slice B5 1 e5,.slice none 0 0,.int .i64 x5,.slice D1 m1 j1,.slice D2 m2 j2,.int .i64 4,.slice Ai N ci,.slice none 0 0] 80)) (Al (wD.alloc (.cells #[.int .i64 2,.slice B5 1 e5,.slice none 0 0,.int .i64 x5,.slice D1 m1 j1,.slice D2 m2 j2,.int .i64 4,.slice Ai N ci,.slice none 0 0] 80))) 3 (some ⟨wD.heap.size,0,none⟩) 3 3 [.int .i64 2,.slice B5 1 e5,.slice none 0 0,.int .i64 x5,.slice D1 m1 j1,.slice D2 m2 j2,.int .i64 4,.slice Ai N ci,.slice none 0 0]:=jW #[.int .i64 2,.slice B5 1 e5,.slice none 0 0,.int .i64 x5,.slice D1 m1 j1,.slice D2 m2 j2,.int .i64 4,.slice Ai N ci,.slice none 0 0] 80 3 3 rfl (by unfold maxLen;omega) (by simp [Al])
 rw [hg] at hrs
 have hlf:=xe (tag:=4) (jr HKD.out hA8) (by decide)
 rw [HNi.out] at hlf
 have HTE:=zF (show RD _ (Al (wD.alloc (.cells #[.int .i64 2,.slice B5 1 e5,.slice none 0 0,.int .i64 x5,.slice D1 m1 j1,.slice D2 m2 j2,.int .i64 4,.slice Ai N ci,.slice none 0 0] 80))) (gM (xz oc) bi) (.agg #[.int .i64 48,.slice none 0 0,.slice (some ⟨g2,0,none⟩) 3 3]) from RD.seq hrs (vj (xe (jr HRD.out hA8) (by decide)) (vj (HDD.out.al hA8) (vj hlf RDs.nil_))) rfl)
 have HEE:=zF (za HED.out hA8)
 have Hg2:=zF hg
 clear hA8 hrs hlf hg HRD HKD HDD HED
 rw [Hg2.out]
 generalize wD.alloc (.cells #[.int .i64 2,.slice B5 1 e5,.slice none 0 0,.int .i64 x5,.slice D1 m1 j1,.slice D2 m2 j2,.int .i64 4,.slice Ai N ci,.slice none 0 0] 80)=WE at *
 refine (yc _ 3 3 WE).mono ?_
 rintro e wF ⟨rfl,hBF⟩
 have HWr:=zF (uE (Al wF) _ _ wF (HTE.out.al hBF) (fun q hq=>hq) (oT Hoc.out (by rw [HNi.out];exact Hbl.out)))
 have HEF:=zF (za HEE.out hBF)
 clear hBF HTE HEE
 go_wp2_with fail
 refine HWr.out.mono ?_
 rintro e wG ⟨hW,hBG⟩
 obtain ⟨AG,cG,rfl,hrG⟩:=WrP.b hW
 have HRG:=zF hrG
 have HEG:=zF (za HEF.out hBG)
 clear hrG hBG HWr HEF hW
 go_wp2
 go_ret2
 exact ⟨⟨AG,cG,by rw [Hbi.out];rfl,by rw [Hbi.out];exact HRG.out⟩,HEG.out⟩
theorem zAD {W:World} {g:Nat} {ty:TypeId} {x0 x1 x2 x3 x4 x5:Value} (h:W.heap[g]?=some (.cells #[x0,x1,x2,x3,x4,x5] ty (0,0))) :
 W.cell? ⟨g,0,none⟩=some x0∧W.cell? ⟨g,1,none⟩=some x1∧W.cell? ⟨g,2,none⟩=some x2∧W.cell? ⟨g,3,none⟩=some x3∧W.cell? ⟨g,4,none⟩=some x4∧W.cell? ⟨g,5,none⟩=some x5 :=
 ⟨zH h 0,zH h 1,zH h 2,zH h 3,zH h 4,zH h 5⟩
theorem rQ {C:Crv} {x y:Nat} : (gO C false x y).length=1+(C.size+C.size):=by
 unfold gO
 simp [jt];omega
theorem IsN.short {c:Int} {oc:List Nat} (h:IsN c oc):oc.length≤8:=by
 rcases h with ⟨_,rfl⟩ | ⟨_,rfl⟩ <;> decide
theorem sM {oc e:List Nat} (h:oc.length≤8) (he:e.length≤97):(enc (.mk 48 [] [xz oc,.mk 3 (0 :: e) []])).length≤10000000:=by
 have hl:uC.length=7:=rfl
 rw [enc,qE rfl,js,js,js,mF (by omega),enc,zr (by decide),vn (tag:=3) (b:=0 :: e) (by simp;omega),vn (by simp [hl];omega)]
 simp [hl]
 omega
theorem zAN (C:Crv) (bi:Bool) (x y:Nat):(bi || onB C.M C.bb (if bi then 0 else x) (if bi then 0 else y))=onQ C bi x y:=by
 cases bi <;> rfl
def br (C:Crv) (oc:List Nat) (bi:Bool) (x y:Nat):Option (List Nat):=if bi then none else if onB C.M C.bb x y=true then xq (xz oc) (gO C false x y) else none
theorem zAF {C:Crv} {oc:List Nat} {bi:Bool} {x y x' y':Nat} (hx:(if bi then 0 else x)=x') (hy:(if bi then 0 else y)=y'):br C oc bi x' y'=fA C oc bi x y:=by
 unfold br fA
 cases bi
 · have ho:=zAN C false x y
   simp only [Bool.false_or,Bool.false_eq_true,if_false] at ho hx hy ⊢
   subst hx hy
   by_cases h:onB C.M C.bb x y=true
   · rw [qE h,cT (x':=x) (y':=y) (ho.symm.trans h) rfl rfl]
     rfl
   · rw [zr h,ah (by rw [←ho];simpa using h)]
     rfl
 · rfl
theorem pN {c:Int} {C:Crv} {oc:List Nat} (hC:IsC c C) (hn:IsN c oc) {p:Value} {bi:Bool} {x y:Nat} (w:World) (hp:RPv w p bi x y) :
 Calls Tryz.prog 14 #[.int .i64 c,p] w fun e w'=>WrB (br C oc bi x y) e w'∧Below w.heap.size w w':=by
 have hF:=hC.fine
 have hs2:=hF.small
 have hlen:=@rQ C x y
 have HSp:=zF (fun e (he:e.length≤97)=>sM (e:=e) (IsN.short hn) he)
 have HEn:=zF (fun (v:Value) X (hX:Ext w X) (hc:RC X C v) (ho:onB C.M C.bb x y=true)=>aA hF X hc (hp.ext hX) (fun _=>mY ho))
 have HOf:=zF (fun X=>bF hC X)
 have HAl:=zF (fun X=>gG hn X)
 have hpk:br C oc bi x y=if bi then none else if onB C.M C.bb x y=true then xq (xz oc) (gO C false x y) else none:=rfl
 obtain ⟨A,A',ca,cb,rfl,hx,hy⟩:=hp
 have HOn:=zF (fun (v:Value) X (hX:Ext w X) (hc:RC X C v)=>n9 hF A A' ca cb x y bi X hc (zb hx hX) (zb hy hX))
 obtain ⟨q,hq⟩:=eV (onB C.M C.bb x y)
 simp only [hq] at HEn hpk HOn
 obtain ⟨R,hR⟩:=eV (br C oc bi x y)
 rw [hR] at hpk ⊢
 have Hpk:=zF hpk
 have Hlen:=zF hlen
 have Hs2:=zF hs2
 obtain ⟨dx,hdx⟩:=eV ((digs 4294967296 x).length)
 obtain ⟨dy,hdy⟩:=eV ((digs 4294967296 y).length)
 simp only [hdx,hdy] at HOn HEn ⊢
 obtain ⟨W0,hW0⟩:=eW (w.alloc (.cells #[.bool bi,.slice A dx ca,.slice A' dy cb] 32))
 obtain ⟨s,hs⟩:=eV w.heap.size
 have hq0:=zN w (.cells #[.bool bi,.slice A dx ca,.slice A' dy cb] 32)
 have hE:Ext w W0:=by rw [hW0];exact zR _ _
 rw [←hW0,hs] at hq0
 have HE:=zF hE
 have Hs:=zF hs
 have Hq0:=zF hq0
 have HOf0:=zF (HOf.out W0)
 clear hC hn hF hs2 hlen hpk hq hR hE hs hq0 HOf hx hy hdx hdy
 go_enter Tryz.func14,Tryz.ntmps14
 go_upto_region 1 with fail
 rw [←hW0,Hs.out]
 clear hW0
 go_wp2_with fail
 refine HOf0.out.mono ?_
 rintro e w1 ⟨v,rfl,hrc,hB1⟩
 obtain ⟨Ap,An',Ab,Ax,Ay,cp,cn,cb',cx,cy,rfl,_⟩:=id hrc
 generalize (digs 4294967296 C.M).length=l0 at *
 generalize (digs 4294967296 (val 18446744073709551616 C.nl)).length=l1 at *
 generalize (digs 4294967296 C.bb).length=l2 at *
 generalize (digs 4294967296 (val 18446744073709551616 C.xl)).length=l3 at *
 generalize (digs 4294967296 (val 18446744073709551616 C.yl)).length=l4 at *
 generalize (C.size:Int)=u5 at *
 obtain ⟨g,hg⟩:=eV w1.heap.size
 have hq1:=zN w1 (.cells #[.slice Ap l0 cp,.slice An' l1 cn,.slice Ab l2 cb',.slice Ax l3 cx,.slice Ay l4 cy,.int .i64 u5] 73)
 have hE1:=zR w1 (.cells #[.slice Ap l0 cp,.slice An' l1 cn,.slice Ab l2 cb',.slice Ax l3 cx,.slice Ay l4 cy,.int .i64 u5] 73)
 have HRc:=zF (hrc.ext hE1)
 have HE0:=zF (za hB1 hE1)
 rw [hg] at hq1
 have Hq1:=zF hq1
 have Hg:=zF hg
 clear hrc hB1 hE1 hq1 hg HOf0
 go_upto_region 2 with fail
 rw [Hg.out]
 generalize w1.alloc (.cells #[.slice Ap l0 cp,.slice An' l1 cn,.slice Ab l2 cb',.slice Ax l3 cx,.slice Ay l4 cy,.int .i64 u5] 73)=W2 at *
 have HE2:=zF (za HE.out HE0.out)
 have hq2:=HE0.out.at_ Hq0.out
 obtain ⟨z0,z1,z2,f0,f1,f2⟩:=qc hq2
 obtain ⟨y0,y1,y2,y3,y4,y5⟩:=zAD Hq1.out
 have HOn2:=zF (HOn.out _ W2 HE2.out HRc.out)
 clear HOn
 go_wp2_with fail
 refine HOn2.out.mono ?_
 rintro e w3 ⟨rfl,hE3⟩
 have HE3:=zF (za HE2.out hE3)
 have hp3:=hE3.at_ hq2
 have hc3:=hE3.at_ Hq1.out
 have HRc3:=zF (HRc.out.ext hE3)
 clear z0 z1 z2 f0 f1 f2 y0 y1 y2 y3 y4 y5 hq2 hE3 HOn2 HE2 HRc Hq1 HE0 HE Hq0
 obtain ⟨z0,z1,z2,f0,f1,f2⟩:=qc hp3
 cases bi
 rotate_left
 · have hR:none=R:=by rw [Hpk.out];rfl
   subst hR
   rw [Bool.true_or]
   clear Hpk HEn
   go_wp2
   go_ret2
   exact ⟨⟨_,_,rfl,vY _ _⟩,HE3.out⟩
 rw [Bool.false_or]
 cases q
 · have hR:none=R:=by rw [Hpk.out];rfl
   subst hR
   clear Hpk HEn
   go_wp2
   go_ret2
   exact ⟨⟨_,_,rfl,vY _ _⟩,HE3.out⟩
 have hR:xq (xz oc) (gO C false x y)=R:=by rw [Hpk.out];rfl
 unfold xq at hR
 obtain ⟨e0,he0⟩:=eV (gO C false x y)
 simp only [he0] at HEn Hlen hR
 have HRT:=zF hR
 obtain ⟨N,hN⟩:=eV e0.length
 simp only [hN] at HEn Hlen
 have hN2:N≤1000000:=by have:=Hlen.out;have:=Hs2.out;omega
 obtain ⟨bs,hbs⟩:=eV (R.getD [])
 obtain ⟨ok,hok⟩:=eV R.isSome
 obtain ⟨M,hM⟩:=eV bs.length
 have HN:=zF hN
 have HN3:=zF (show N≤97 by have:=Hlen.out;have:=Hs2.out;omega)
 have HN2:=zF hN2
 have Hbs:=zF hbs
 have Hok:=zF hok
 have HM:=zF hM
 clear hR hN hN2 hbs hok hM he0 Hlen Hs2 Hpk
 go_upto_region 4 with fail
 clear z0 z1 z2 f0 f1 f2
 refine zj (by kernel_rfl) 13 [0,1,0,0,15,31,63,127,255,511,511,2047,4095] [] (fun j f X=>match j with
  | 0=>f 0=.int .i64 c
  | 1=>∃ v,f 1=v∧RD X (Al X) (xz oc) v
  | 2=>f 2=.agg #[.slice Ap l0 cp,.slice An' l1 cn,.slice Ab l2 cb',.slice Ax l3 cx,.slice Ay l4 cy,.int .i64 u5]
  | 3=>f 3=.agg #[.bool false,.slice A dx ca,.slice A' dy cb]
  | 4=>∃ A1 c1,f 4=.slice A1 N c1∧RB X (Al X) A1 c1 e0
  | 5=>∃ A1 c1,f 5=.agg #[.int .i64 3,.slice A1 (N+1) c1,.slice none 0 0]∧RB X (Al X) A1 c1 (0 :: e0)
  | 6=>∃ b x1 B1 n1 d1 B2 n2 d2 A1 c1,f 6=.slice (some ⟨b,0,none⟩) 2 2∧RS X (Al X) 3 (some ⟨b,0,none⟩) 2 2 [.int .i64 x1,.slice B1 n1 d1,.slice B2 n2 d2,.int .i64 3,.slice A1 (N+1) c1,.slice none 0 0]∧RD X (Al X) (xz oc) (.agg #[.int .i64 x1,.slice B1 n1 d1,.slice B2 n2 d2])∧RB X (Al X) A1 c1 (0 :: e0)
  | 7=>∃ b x1 B1 n1 d1 B2 n2 d2 A1 c1,f 7=.agg #[.int .i64 48,.slice none 0 0,.slice (some ⟨b,0,none⟩) 2 2]∧RS X (Al X) 3 (some ⟨b,0,none⟩) 2 2 [.int .i64 x1,.slice B1 n1 d1,.slice B2 n2 d2,.int .i64 3,.slice A1 (N+1) c1,.slice none 0 0]∧RD X (Al X) (xz oc) (.agg #[.int .i64 x1,.slice B1 n1 d1,.slice B2 n2 d2])∧RB X (Al X) A1 c1 (0 :: e0)
  | 8=>∃ A1 c1,f 8=.tuple #[.slice A1 M c1,.bool ok]∧RB X (Al X) A1 c1 bs
  | 9=>∃ A1 c1,f 9=.slice A1 M c1∧RB X (Al X) A1 c1 bs
  | 10=>f 10=.bool ok
  | 11=>∃ A1 c1,f 11=.slice A1 M c1∧RB X (Al X) A1 c1 bs
  | 12=>f 12=.bool ok
  | _=>True) (by kernel_rfl) [(17,0),(18,1),(19,2),(20,3),(21,4),(22,5),(23,6),(24,7),(25,8),(26,9),(27,10),(4,11),(5,12)] (by kernel_rfl) ?_
 refine zT 1 12 ?_
 refine qC 2 11 (fun f=>#[f 0]) (F':=56) (fun f X hX hR=>?_) ?_
 · have e0:f 0=_:=hR.out 0 rfl
   simp only [e0]
   refine (HAl.out X).mono ?_
   rintro e w' ⟨⟨v1,rfl,hd⟩,hB⟩
   exact ⟨v1,rfl,hB,fun Y hY=>⟨v1,rfl,RD.al hd hY⟩⟩
 refine lV0 3 10 hc3 qh ?_
 refine lV0 4 9 hp3 uP ?_
 refine qC 5 8 (fun f=>#[f 2,f 3]) (F':=61) (fun f X hX hR=>?_) ?_
 · have e2:f 2=_:=hR.out 2 rfl
   have e3:f 3=_:=hR.out 3 rfl
   simp only [e2,e3]
   refine (HEn.out _ X (za HE3.out hX) (HRc3.out.ext hX) (by first | trivial | rfl)).mono ?_
   rintro e w' ⟨A1,c1,rfl,hr,hB⟩
   exact ⟨(.slice A1 N c1),rfl,hB,fun Y hY=>⟨A1,c1,rfl,RB.al hr hY (fun q hq=>hq.2) hY.bsize⟩⟩
 refine qC 6 7 (fun f=>#[f 4]) (F':=60) (fun f X hX hR=>?_) ?_
 · obtain ⟨A4,c4,(e4:f 4=_),r4⟩:=hR.out 4 rfl
   simp only [e4]
   have hm:=bG (Al X) A4 c4 e0 X r4 (fun q hq=>hq) (by rw [HN.out];exact HN2.out)
   rw [jA,HN.out] at hm
   refine hm.mono ?_
   rintro e w' ⟨⟨A1,c1,rfl,hr⟩,hB⟩
   exact ⟨(.agg #[.int .i64 3,.slice A1 (N+1) c1,.slice none 0 0]),rfl,hB,fun Y hY=>⟨A1,c1,rfl,jr hr hY⟩⟩
 refine zt 7 6 [(17,0),(18,1),(19,2),(20,3),(21,4),(22,5)] (fun f X hX hR K hK=>?_) ?_
 · obtain ⟨v1,(e1:f 1=_),d1⟩:=hR.out 1 rfl
   obtain ⟨A5,c5,(e5:f 5=_),r5⟩:=hR.out 5 rfl
   obtain ⟨x1,B1,n1,k1,B2,n2,k2,rfl⟩:=d1.shape
   simp only [yZ,e1,e5]
   refine ⟨?_⟩
   go_simp
   exact hK.out _ (.slice (some ⟨X.heap.size,0,none⟩) 2 2) _ (by simp only [yZ,e1,e5]) (zR _ _) trivial (fun Y hY=>⟨_,_,_,_,_,_,_,_,A5,c5,rfl,RS.al (jW (w:=X) (P:=Al (X.alloc (.cells #[.int .i64 x1,.slice B1 n1 k1,.slice B2 n2 k2,.int .i64 3,.slice A5 (N+1) c5,.slice none 0 0] 80))) #[.int .i64 x1,.slice B1 n1 k1,.slice B2 n2 k2,.int .i64 3,.slice A5 (N+1) c5,.slice none 0 0] 80 3 2 rfl (by unfold maxLen;omega) (by simp [Al])) hY,RD.al d1 ((zR _ _).trans hY),jr r5 ((zR _ _).trans hY)⟩)
 refine qC 8 5 (fun f=>#[f 6]) (F':=53) (fun f X hX hR=>?_) ?_
 · obtain ⟨b6,x6,B1,n1,k1,B2,n2,k2,A6,c6,(e6:f 6=_),s6,d6,r6⟩:=hR.out 6 rfl
   simp only [e6]
   refine (yc (some ⟨b6,0,none⟩) 2 2 X).mono ?_
   rintro e w' ⟨rfl,hB⟩
   exact ⟨(.agg #[.int .i64 48,.slice none 0 0,.slice (some ⟨b6,0,none⟩) 2 2]),rfl,hB,fun Y hY=>⟨b6,_,_,_,_,_,_,_,A6,c6,rfl,RS.al s6 (za hB hY),RD.al d6 (za hB hY),jr r6 (za hB hY)⟩⟩
 refine qC 9 4 (fun f=>#[f 7]) (F':=52) (fun f X hX hR=>?_) ?_
 · obtain ⟨b7,x7,B1,n1,k1,B2,n2,k2,A7,c7,(e7:f 7=_),s7,d7,r7⟩:=hR.out 7 rfl
   simp only [e7]
   have hlf:=xe (tag:=3) r7 (by decide)
   rw [jA,HN.out] at hlf
   have hT:RD X (Al X) (.mk 48 [] [xz oc,.mk 3 (0 :: e0) []]) (.agg #[.int .i64 48,.slice none 0 0,.slice (some ⟨b7,0,none⟩) 2 2]):=RD.seq s7 (vj d7 (vj hlf RDs.nil_)) rfl
   refine (uE (Al X) _ _ X hT (fun q hq=>hq) (HSp.out e0 (by rw [HN.out];exact HN3.out))).mono ?_
   rintro e w' ⟨hW,hB⟩
   have hW:=WrP.b hW
   rw [HRT.out] at hW
   obtain ⟨A7,c7,rfl,hr7⟩:=hW
   rw [Hok.out,Hbs.out,HM.out]
   rw [Hbs.out] at hr7
   exact ⟨(.tuple #[.slice A7 M c7,.bool ok]),rfl,hB,fun Y hY=>⟨A7,c7,rfl,jr hr7 hY⟩⟩
 refine zt 10 3 [(17,0),(18,1),(19,2),(20,3),(21,4),(22,5),(23,6),(24,7),(25,8),(27,10)] (fun f X hX hR K hK=>?_) ?_
 · obtain ⟨A8,c8,(e8:f 8=_),r8⟩:=hR.out 8 rfl
   simp only [yZ,e8]
   refine ⟨?_⟩
   go_simp
   exact hK.out _ (.slice A8 M c8) _ (by simp only [yZ,e8]) (zd _) trivial (fun Y hY=>⟨A8,c8,rfl,jr r8 hY⟩)
 refine zt 11 2 [(17,0),(18,1),(19,2),(20,3),(21,4),(22,5),(23,6),(24,7),(25,8),(26,9)] (fun f X hX hR K hK=>?_) ?_
 · obtain ⟨A8,c8,(e8:f 8=_),r8⟩:=hR.out 8 rfl
   simp only [yZ,e8]
   refine ⟨?_⟩
   go_simp
   exact qe hK (s:=by simp only [yZ,e8])
 refine zt 12 1 [(17,0),(18,1),(19,2),(20,3),(21,4),(22,5),(23,6),(24,7),(25,8),(26,9),(27,10)] (fun f X hX hR K hK=>?_) ?_
 · obtain ⟨A9,c9,(e9:f 9=_),r9⟩:=hR.out 9 rfl
   simp only [yZ,e9]
   refine ⟨?_⟩
   go_simp
   exact hK.out _ (.slice A9 M c9) _ (by simp only [yZ,e9]) (zd _) trivial (fun Y hY=>⟨A9,c9,rfl,jr r9 hY⟩)
 refine qL 13 0 10 ?_
 refine yF ⟨fun f X hX hR hal hap=>?_⟩
 obtain ⟨v1,(e1:f 1=_),d1⟩:=hR 1 (by decide)
 obtain ⟨A4,c4,(e4:f 4=_),r4⟩:=hR 4 (by decide)
 obtain ⟨A5,c5,(e5:f 5=_),r5⟩:=hR 5 (by decide)
 obtain ⟨b6,x6,B1,n1,k1,B2,n2,k2,A6,c6,(e6:f 6=_),s6,d6,r6⟩:=hR 6 (by decide)
 obtain ⟨b7,x7,B1,n1,k1,B2,n2,k2,A7,c7,(e7:f 7=_),s7,d7,r7⟩:=hR 7 (by decide)
 obtain ⟨A8,c8,(e8:f 8=_),r8⟩:=hR 8 (by decide)
 obtain ⟨A9,c9,(e9:f 9=_),r9⟩:=hR 9 (by decide)
 obtain ⟨A11,c11,(e11:f 11=_),r11⟩:=hR 11 (by decide)
 have e12:f 12=_:=hR 12 (by decide)
 simp only [yZ,e1,e4,e5,e6,e7,e8,e9,e11,e12]
 clear hR hal hap e1 e4 e5 e6 e7 e8 e9 e11 e12
 refine zK ?_
 have HX:=zF (za HE3.out hX)
 have Hr11:=zF r11
 clear r11 hX
 go_wp2
 go_ret2
 exact ⟨⟨A11,c11,by rw [Hbs.out,HM.out,Hok.out];rfl,by rw [Hbs.out];exact Hr11.out⟩,HX.out⟩
theorem pR {v:Value} {p:Value} (w:World) (hc:RC w c0 v) {bi:Bool} {p1 p2:Value} (hp:p=.agg #[.bool bi,p1,p2]) :
 Calls Tryz.prog 59 #[v,p] w fun e w'=>e=.returned (.bool false)∧Ext w w':=by
 subst hp
 obtain ⟨Ap,An',Ab,Ax,Ay,cp,cn,cb',cx,cy,rfl,_⟩:=hc
 have h0:((c0.size:Nat):Int)=0:=rfl
 rw [h0]
 generalize (digs 4294967296 c0.M).length=l0 at *
 generalize (digs 4294967296 (val 18446744073709551616 c0.nl)).length=l1 at *
 generalize (digs 4294967296 c0.bb).length=l2 at *
 generalize (digs 4294967296 (val 18446744073709551616 c0.xl)).length=l3 at *
 generalize (digs 4294967296 (val 18446744073709551616 c0.yl)).length=l4 at *
 have hq0:=zN w (.cells #[.slice Ap l0 cp,.slice An' l1 cn,.slice Ab l2 cb',.slice Ax l3 cx,.slice Ay l4 cy,.int .i64 0] 73)
 have hE:Ext w ((w.alloc (.cells #[.slice Ap l0 cp,.slice An' l1 cn,.slice Ab l2 cb',.slice Ax l3 cx,.slice Ay l4 cy,.int .i64 0] 73)).alloc (.cells #[.bool bi,p1,p2] 32)):=za (zR _ _) (zR _ _)
 have hq1:=(zR _ (.cells #[.bool bi,p1,p2] 32)).at_ hq0
 obtain ⟨y0,y1,y2,y3,y4,y5⟩:=zAD hq1
 clear hq0 hq1
 go_enter Tryz.func59,Tryz.ntmps59
 go_wp2
 go_ret
 exact ⟨rfl,hE⟩
theorem pM {c:Int} (g1:c≠1) (g2:c≠2) (bi:Bool) (p1 p2:Value) (w:World) :
 Calls Tryz.prog 14 #[.int .i64 c,.agg #[.bool bi,p1,p2]] w fun e w'=>WrB none e w'∧Below w.heap.size w w':=by
 obtain ⟨W0,hW0⟩:=eW (w.alloc (.cells #[.bool bi,p1,p2] 32))
 obtain ⟨s,hs⟩:=eV w.heap.size
 have hq0:=zN w (.cells #[.bool bi,p1,p2] 32)
 have hE:Ext w W0:=by rw [hW0];exact zR _ _
 rw [←hW0,hs] at hq0
 have HE:=zF hE
 have Hs:=zF hs
 have Hq0:=zF hq0
 have HOf0:=zF (uo g1 g2 W0)
 clear g1 g2 hE hs hq0
 go_enter Tryz.func14,Tryz.ntmps14
 go_upto_region 1 with fail
 rw [←hW0,Hs.out]
 clear hW0
 go_wp2_with fail
 refine HOf0.out.mono ?_
 rintro e w1 ⟨v,rfl,hrc,hB1⟩
 obtain ⟨Ap,An',Ab,Ax,Ay,cp,cn,cb',cx,cy,rfl,_⟩:=id hrc
 generalize (digs 4294967296 c0.M).length=l0 at *
 generalize (digs 4294967296 (val 18446744073709551616 c0.nl)).length=l1 at *
 generalize (digs 4294967296 c0.bb).length=l2 at *
 generalize (digs 4294967296 (val 18446744073709551616 c0.xl)).length=l3 at *
 generalize (digs 4294967296 (val 18446744073709551616 c0.yl)).length=l4 at *
 generalize (c0.size:Int)=u5 at *
 obtain ⟨g,hg⟩:=eV w1.heap.size
 have hq1:=zN w1 (.cells #[.slice Ap l0 cp,.slice An' l1 cn,.slice Ab l2 cb',.slice Ax l3 cx,.slice Ay l4 cy,.int .i64 u5] 73)
 have hE1:=zR w1 (.cells #[.slice Ap l0 cp,.slice An' l1 cn,.slice Ab l2 cb',.slice Ax l3 cx,.slice Ay l4 cy,.int .i64 u5] 73)
 have HOn:=zF (pR (p:=.agg #[.bool bi,p1,p2]) _ (hrc.ext hE1) rfl)
 have HE0:=zF (za hB1 hE1)
 rw [hg] at hq1
 have Hg:=zF hg
 clear hrc hB1 hE1 hg HOf0
 go_upto_region 2 with fail
 rw [Hg.out]
 generalize w1.alloc (.cells #[.slice Ap l0 cp,.slice An' l1 cn,.slice Ab l2 cb',.slice Ax l3 cx,.slice Ay l4 cy,.int .i64 u5] 73)=W2 at *
 have hq2:=HE0.out.at_ Hq0.out
 obtain ⟨z0,z1,z2,f0,f1,f2⟩:=qc hq2
 obtain ⟨y0,y1,y2,y3,y4,y5⟩:=zAD hq1
 clear hq1 hq2
 go_wp2_with fail
 refine HOn.out.mono ?_
 rintro e w3 ⟨rfl,hE3⟩
 have HE3:=zF (za HE.out (za HE0.out hE3))
 clear z0 z1 z2 f0 f1 f2 y0 y1 y2 y3 y4 y5 hE3
 go_wp2
 go_ret2
 exact ⟨⟨_,_,rfl,vY _ _⟩,HE3.out⟩
end Go.Proofs.YtmlbicgpehchhaaGreat.Ec
namespace Go.Proofs.YtmlbicgpehchhaaGreat.Ec
open Der
theorem kEC_c {c:Int} {C:Crv} {oc:List Nat} (hC:IsC c C) (hn:IsN c oc) (x:Nat):kEC c x=uT C oc x:=by
 unfold kEC
 rcases hC with ⟨rfl,rfl⟩ | ⟨rfl,rfl⟩ <;> rcases hn with ⟨h,rfl⟩ | ⟨h,rfl⟩
 · rfl
 · exact absurd h (by decide)
 · exact absurd h (by decide)
 · rfl
theorem kPK_c {c:Int} {C:Crv} {oc:List Nat} (hC:IsC c C) (hn:IsN c oc) (bi:Bool) (x y:Nat):kPK c bi x y=fA C oc bi x y:=by
 unfold kPK
 rcases hC with ⟨rfl,rfl⟩ | ⟨rfl,rfl⟩ <;> rcases hn with ⟨h,rfl⟩ | ⟨h,rfl⟩
 · rfl
 · exact absurd h (by decide)
 · exact absurd h (by decide)
 · rfl
theorem zAZ {c:Int} {C:Crv} (hC:IsC c C) (bs:List Nat):mw c bs=gQ C bs:=by
 unfold mw
 rcases hC with ⟨rfl,rfl⟩ | ⟨rfl,rfl⟩ <;> rfl
theorem nD {c:Int} {oc:List Nat} (hn:IsN c oc):un (.mk 6 oc [])=c:=by
 rcases hn with ⟨rfl,rfl⟩ | ⟨rfl,rfl⟩ <;> decide
theorem fa {t:DN} {b:List Nat} (h:wH t=some b):kL b=t:=by
 unfold kL
 rw [pX h]
theorem tf {c:Int} {C:Crv} {oc:List Nat} (hC:IsC c C) (hn:IsN c oc) {x:Nat} {b:List Nat} (h:uT C oc x=some b):oB b=some (c,x):=by
 have hk:=kEC_c hC hn x
 rw [h] at hk
 unfold uT at h
 split at h
 · rename_i hm
   unfold ur at h
   obtain ⟨kb,hkb,h⟩:=Option.bind_eq_some_iff.1 h
   have e1:=fa h
   have e2:=fa hkb
   have a1:atT (kL b) [1,1]=.mk 6 oc []:=by rw [e1];rfl
   have a2:vh (atT (kL b) [2])=kb:=by rw [e1];rfl
   have a3:vh (atT (kL kb) [1])=bytesOf x C.size:=by rw [e2];rfl
   have a4:kT (bytesOf x C.size)=x:=uk (by
    have hl:val 18446744073709551616 C.nl<2 ^ (8*C.size):=by
     rcases hC with ⟨_,rfl⟩ | ⟨_,rfl⟩ <;> decide +kernel
    unfold vK at hm
    simp only [Bool.and_eq_true,decide_eq_true_eq] at hm
    exact xL hm.2 hl)
   unfold oB
   rw [a1,a2,a3,a4,nD hn,qE hk]
 · cases h
theorem rd_pk {c:Int} {C:Crv} {oc:List Nat} (hC:IsC c C) (hn:IsN c oc) {bi:Bool} {x y:Nat} {b:List Nat} (h:fA C oc bi x y=some b):bi=false∧oA b=some (c,(x,y)):=by
 have hk:=kPK_c hC hn bi x y
 rw [h] at hk
 unfold fA at h
 cases bi
 rotate_left
 · cases h
 refine ⟨rfl,?_⟩
 obtain ⟨e,he,h⟩:=Option.bind_eq_some_iff.1 h
 have ho:onQ C false x y=true:=by
  cases ho:onQ C false x y
  · rw [ah ho] at he;cases he
  · rfl
 rw [cT (x':=x) (y':=y) ho rfl rfl] at he
 cases he
 have e1:=fa h
 have a1:atT (kL b) [0,1]=.mk 6 oc []:=by rw [e1];rfl
 have a2:gi (kL b)=gO C false x y:=by rw [e1];rfl
 have a3:mw c (gO C false x y)=some (some (x,y)):=by rw [zAZ hC];exact tN hC.fine (fun _=>ho)
 unfold oA
 dsimp only
 rw [a1,a2,nD hn,a3]
 show (if kPK c false x y=some b then some (c,(x,y)) else none)=_
 rw [qE hk]
end Go.Proofs.YtmlbicgpehchhaaGreat.Ec
namespace Go.Proofs.YtmlbicgpehchhaaGreat.Der
open Go.RowKit Go.Shelf
attribute [local go_sem] Oper.semAt_some
theorem mg {b h r:List Nat} {t:Nat} (e:kq b=some (t,h,r)) (hh:h.length<128):b=t :: h.length :: (h++r):=by
 rcases b with _ | ⟨t0,_ | ⟨n,rest⟩⟩
 · cases e
 · cases e
 by_cases hn:n<128
 · rw [dM hn] at e
   obtain ⟨e,hl⟩:=yr e
   simp only [Prod.mk.injEq] at e
   obtain ⟨rfl,rfl,rfl⟩:=e
   rw [List.take_append_drop,zz,qO hl]
 · exfalso
   by_cases h2:n - 128<1∨3<n - 128∨rest.length<n - 128∨rest.getD 0 0=0
   · rw [ac hn h2] at e;cases e
   obtain ⟨z,hz⟩:=eV (be 0 (rest.take (n - 128)))
   by_cases h3:z<128
   · rw [aZ hn h2 hz h3] at e;cases e
   · rw [cR hn h2 hz h3] at e
     obtain ⟨e,hl⟩:=yr e
     have e1:=congrArg (fun q=>q.2.1.length) e
     simp only [zz] at e1
     omega
theorem dr {b bs:List Nat} {t:Nat} {ks:List DN} (e:vD b=some (.mk t bs ks,b.length)) (ht:t≠48) (hb:bs.length<128):b=t :: bs.length :: bs:=by
 unfold vD at e
 split at e
 · cases e
 rename_i tr r l hn
 split at e
 · cases e
 injection e with e
 simp only [Prod.mk.injEq] at e
 obtain ⟨rfl,e⟩:=e
 have hl:=uO hn
 have hr:r=[]:=qH (by omega)
 subst hr
 rw [jO] at hn
 split at hn
 · cases hn
 split at hn
 · cases hn
 rename_i t' h r' hh
 split at hn
 · split at hn
   · simp only [Option.some.injEq,Prod.mk.injEq,DN.mk.injEq] at hn
     obtain ⟨⟨rfl,rfl,-⟩,rfl,-⟩:=hn
     have:=mg hh hb
     simpa using this
   · cases hn
 · split at hn
   · cases hn
   · simp only [Option.some.injEq,Prod.mk.injEq,DN.mk.injEq] at hn
     exact absurd hn.1.1.symm ht
def me (b:List Nat):Int :=
 match vD b with
 | none=>0
 | some (.mk t bs _,n)=>if n=b.length then k9 t bs else 0
theorem pW:vD kp1=some (.mk 6 yL [],10):=by kernel_rfl
theorem pV:vD kp2=some (.mk 6 yK [],7):=by kernel_rfl
theorem bY {z:Int} {bs:List Nat} (h:k9 z bs≠0):(z=6∧bs=yL)∨(z=6∧bs=yK):=by
 unfold k9 at h
 split at h
 · rename_i h1;exact .inl h1
 split at h
 · rename_i h1;exact .inr h1
 · exact absurd rfl h
theorem tC (b:List Nat):me b=pO b:=by
 unfold pO
 by_cases h1:b=kp1
 · subst h1
   rw [qE rfl]
   unfold me
   rw [pW]
   decide
 rw [zr h1]
 by_cases h2:b=kp2
 · subst h2
   rw [qE rfl]
   unfold me
   rw [pV]
   decide
 rw [zr h2]
 unfold me
 split
 · rfl
 rename_i t bs ks n hr
 split
 · rename_i hn
   subst hn
   rcases Int.decEq (k9 (t:Int) bs) 0 with hw | hw
   · exfalso
     rcases bY hw with ⟨ht,rfl⟩ | ⟨ht,rfl⟩
     · have:t=6:=by omega
       subst this
       exact h1 (dr hr (by decide) (by decide))
     · have:t=6:=by omega
       subst this
       exact h2 (dr hr (by decide) (by decide))
   · exact hw
 · rfl
theorem fZ (P:Nat→Prop) (A:Option Addr) (c:Nat) (b:List Nat) (w:World) (hb:RB w P A c b) (hP:∀ q,P q→q<w.heap.size) :
    Calls Tryz.prog 33 #[.slice A b.length c] w fun e w'=>e=.returned (.tuple #[.int .i64 (pO b),.bool (decide (pO b≠0))])∧Below w.heap.size w w':=by
  have HK:=zF (cN P A c b w hb hP)
  rw [←tC]
  obtain ⟨R,hR⟩:=eV (me b)
  rw [hR]
  have HR:=zF hR
  clear hR hb hP
  go_enter Tryz.func33,Tryz.ntmps33
  go_wp2_with fail
  refine HK.out.mono ?_
  obtain ⟨R0,hR0⟩:=eV (vD b)
  rw [hR0]
  have HR0:=zF hR0
  clear hR0 HK
  rintro e w1 ⟨hKr,hB1⟩
  cases R0 with
  | none =>
    unfold nC at hKr
    subst hKr
    have hR:R=0:=by rw [←HR.out];unfold me;rw [HR0.out]
    subst hR
    have hE:=(zQ w1.heap.size w1).alloc (zG _) (.cells #[.int .i64 0,.slice none 0 0,.slice none 0 0] 80)
    have hw:=gW (fun _=>False) 0 none none 0 0 0 [] _ (vY (w1.alloc (.cells #[.int .i64 0,.slice none 0 0,.slice none 0 0] 80)) _) (fun _ h=>h.elim)
    have HW:=zF hw
    have HB1:=zF (hB1.trans (hE.mono hB1.size))
    clear hw hE hB1
    go_wp2_with fail
    refine HW.out.mono ?_
    rintro e w2 ⟨rfl,hB2⟩
    have HB2:=zF (HB1.out.trans (hB2.mono HB1.out.size))
    have hw0:k9 0 []=0:=by decide
    rw [hw0]
    clear hB2 hw0
    go_wp2
    go_ret2
    exact ⟨rfl,HB2.out⟩
  | some q =>
    obtain ⟨⟨t,bs,ks⟩,n⟩:=q
    unfold nC at hKr
    obtain ⟨v,rfl,hRD⟩:=hKr
    obtain ⟨A2,c2,Ak,ck,cs,rfl,hrb,-⟩:=hRD.open_
    have hE:=(zQ w1.heap.size w1).alloc (zG _) (.cells #[.int .i64 (t:Int),.slice A2 bs.length c2,.slice Ak ks.length ck] 80)
    have hw:=gW (In w.heap.size w1.heap.size) (t:Int) A2 Ak c2 ks.length ck bs _ (hrb.below hE (fun q hq=>hq.2)) (fun q hq=>by have:=hq.2;simp;omega)
    have hR:R=if n=b.length then k9 t bs else 0:=by rw [←HR.out];unfold me;rw [HR0.out]
    obtain ⟨W,hW⟩:=eV (k9 (t:Int) bs)
    rw [hW] at hw hR
    have HW:=zF hw
    have HB1:=zF (hB1.trans (hE.mono hB1.size))
    have hW3:W=0∨W=1∨W=2:=by
      rw [←hW];unfold k9
      split
      · exact .inr (.inl rfl)
      split
      · exact .inr (.inr rfl)
      · exact .inl rfl
    clear hw hE hB1 hrb hRD hW HR0 HR
    obtain ⟨N,hN⟩:=eV b.length
    rw [hN] at hR ⊢
    clear hN
    by_cases hn:n=N
    · subst hn
      rw [qE rfl] at hR
      subst hR
      have hnn:(n==n)=true:=by simp
      rw [hnn]
      clear hnn
      go_wp2_with fail
      refine HW.out.mono ?_
      rintro e w2 ⟨rfl,hB2⟩
      have HB2:=zF (HB1.out.trans (hB2.mono HB1.out.size))
      clear hB2
      rcases hW3 with rfl | rfl | rfl
      all_goals
        go_wp2
        go_ret2
        exact ⟨rfl,HB2.out⟩
    · rw [zr hn] at hR
      subst hR
      have hnn:(n==N)=false:=by simpa using hn
      rw [hnn]
      clear hnn hn
      go_wp2_with fail
      refine HW.out.mono ?_
      rintro e w2 ⟨rfl,hB2⟩
      have HB2:=zF (HB1.out.trans (hB2.mono HB1.out.size))
      clear hB2
      go_wp2
      go_ret2
      exact ⟨rfl,HB2.out⟩
end Go.Proofs.YtmlbicgpehchhaaGreat.Der
namespace Go.Proofs.YtmlbicgpehchhaaGreat.Ec
open Go.RowKit Go.Shelf Der
attribute [local go_sem] Oper.semAt_some
theorem tI:(uT oq yL 5).isSome=true:=by kernel_rfl
theorem zAX:wH (.mk 6 yK [])=some kp2:=by kernel_rfl
theorem zAG:pO kp2=2:=by kernel_rfl
theorem cZ:digs 18446744073709551616 5=[5]:=by rw [Go.Proofs.YtmlbicgpehchhaaGreat.jP (by omega) (by omega),show 5 / 18446744073709551616=0 from rfl,qY]
theorem mC (w:World):Calls Tryz.prog 6 #[] w fun e w'=>e=.returned (.bool true)∧Ext w w':=by
 obtain ⟨kb,hkb⟩:∃ kb,uT oq yL 5=some kb:=Option.isSome_iff_exists.1 tI
 have hrd:=tf (.inl ⟨rfl,rfl⟩) (.inl ⟨rfl,rfl⟩) hkb
 have hA1:=zR w (.cells #[.int .u64 5] 69)
 have hE:=fL (.inl ⟨rfl,rfl⟩) (.inl ⟨rfl,rfl⟩) _ _ 1 [5] (w.alloc (.cells #[.int .u64 5] 69)) (RN.one w 5 (by omega)) (fun b hb=>by rw [zu];exact hb.2)
 rw [show val 18446744073709551616 [5]=5 from rfl,hkb,show [5].length=1 from rfl] at hE
 have HE:=zF hE
 have HA1:=zF hA1
 have Hrd:=zF hrd
 have c5:((5:Nat):Int)=5:=rfl
 clear hA1 hE hrd hkb
 go_enter Tryz.func6,Tryz.ntmps6
 go_wp2_with fail
 refine HE.out.mono ?_
 rintro e w1 ⟨⟨A1,k1,rfl,hr1⟩,hB1⟩
 have h1:(some kb).isSome=true:=rfl
 have h2:(some kb).getD []=kb:=rfl
 rw [h2] at hr1
 rw [h1,h2]
 have HX1:=zF (za HA1.out hB1)
 have HR:=fe (Al w1) A1 k1 kb w1 hr1 (fun q hq=>hq)
 rw [Hrd.out] at HR
 have HR:=zF HR
 clear hr1 hB1 HE HA1 h1 h2 Hrd
 go_upto_region 2 with fail
 go_wp2_with fail
 refine HR.out.mono ?_
 rintro e w2 ⟨⟨A2,k2,rfl,hr2⟩,hB2⟩
 rw [cZ] at hr2
 rw [cZ]
 have h3:([5]:List Nat).length=1:=rfl
 rw [h3]
 have HX2:=zF (za HX1.out hB2)
 have HR2:=zF hr2
 have HP:=oP (c:=2) (oc:=yK) (.inr ⟨rfl,rfl⟩) w2
 rw [zAX] at HP
 have HP:=zF HP
 clear hr2 hB2 HR HX1 h3
 go_upto_region 3 with fail
 go_wp2_with fail
 refine HP.out.mono ?_
 rintro e w3 ⟨⟨A3,k3,rfl,hr3⟩,hB3⟩
 have h1:(some kp2).isSome=true:=rfl
 have h2:(some kp2).getD []=kp2:=rfl
 rw [h2] at hr3
 rw [h1,h2]
 have HX3:=zF (za HX2.out hB3)
 have HR3:=zF (RN.al HR2.out hB3 (fun q hq=>hq) hB3.size)
 have HQ:=fZ (Al w3) A3 k3 kp2 w3 hr3 (fun q hq=>hq)
 rw [zAG,show decide ((2:Int)≠0)=true from by decide] at HQ
 have HQ:=zF HQ
 clear hr3 hB3 HP HX2 h1 h2 HR2
 go_upto_region 4 with fail
 go_wp2_with fail
 refine HQ.out.mono ?_
 rintro e w4 ⟨rfl,hB4⟩
 have HX4:=zF (za HX3.out hB4)
 obtain ⟨ad,rfl,_,h0⟩:=(RN.al HR3.out hB4 (fun q hq=>hq) hB4.size).at_ (i:=0) (by decide)
 rw [show ad.add 0=ad from by simp [Addr.add],show ((dg [5] 0:Nat):Int)=5 from rfl] at h0
 clear hB4 HQ HX3 HR3
 go_upto_region 5 with fail
 go_wp2
 go_ret
 exact ⟨rfl,HX4.out⟩
theorem af {D:Type} {Pp Pu:World→Value→D→Prop} {c:Int} {R1:Option (List Nat)} {R2:D→Option (List Nat)} {P:Nat→Prop} {A B:Option Addr} {cap cb nb x:Nat} {l:List Nat} (sp:Bool) (w:World) (hk:RL w P A cap l) (hP:∀ b,P b→b<w.heap.size)
 (hx:val 18446744073709551616 (l.take 6)=x)
 (hPt:∀ X,Ext w X→Calls Tryz.prog 9 #[.int .i64 c,.slice B nb cb,.bool sp] X fun e w'=>∃ (d:D) (bi:Bool) (A1:Option Addr) (n1 c1:Nat) (A2:Option Addr) (n2 c2:Nat),e=.returned (.agg #[.bool bi,.slice A1 n1 c1,.slice A2 n2 c2])∧Pp w' (.agg #[.bool bi,.slice A1 n1 c1,.slice A2 n2 c2]) d∧Ext X w')
 (uPp:∀ X Y v d,Pp X v d→Ext X Y→Pp Y v d) (uPu:∀ X Y v d,Pu X v d→Ext X Y→Pu Y v d)
 (hFr:∀ X v d,Pp X v d→Calls Tryz.prog 10 #[v] X fun e w'=>∃ (bi:Bool) (A1:Option Addr) (n1 c1:Nat) (A2:Option Addr) (n2 c2:Nat),e=.returned (.agg #[.bool bi,.slice A1 n1 c1,.slice A2 n2 c2])∧Pu w' (.agg #[.bool bi,.slice A1 n1 c1,.slice A2 n2 c2]) d∧Ext X w')
 (hEC:∀ X A' c' ls,RN X (Al X) A' c' ls→val 18446744073709551616 ls=x→Calls Tryz.prog 11 #[.int .i64 c,.slice A' ls.length c'] X fun e w'=>WrB R1 e w'∧Below X.heap.size X w')
 (hRC:∀ X A' c',RN X (Al X) A' c' (digs 4294967296 x)→Calls Tryz.prog 12 #[.int .i64 c,.slice A' (digs 4294967296 x).length c'] X fun e w'=>WrB R1 e w'∧Below X.heap.size X w')
 (hPK:∀ X v d,Pp X v d→Calls Tryz.prog 13 #[.int .i64 c,v] X fun e w'=>WrB (R2 d) e w'∧Below X.heap.size X w')
 (hRP:∀ X v d,Pu X v d→Calls Tryz.prog 14 #[.int .i64 c,v] X fun e w'=>WrB (R2 d) e w'∧Below X.heap.size X w')
 (h1:∀ kb,R1=some kb→oB kb=some (c,x))
 (h2:∀ d kb,R2 d=some kb→∃ xx yy,oA kb=some (c,(xx,yy))∧∀ X v,Pu X v d→RPv X v false xx yy) :
 Calls Tryz.prog 3 #[.int .i64 c,.slice A l.length cap,.slice B nb cb,.bool sp] w fun e w'=>e=.returned (.bool true)∧Ext w w':=by
 obtain ⟨k6,hk6⟩:=eV (l.take 6)
 have hlen:k6.length<100000:=by rw [←hk6,zz];omega
 rw [hk6] at hx
 have HK6:=zF hk6
 have Hlen:=zF hlen
 have HX:=zF hx
 have HK:=zF hk
 have HP:=zF hP
 have HPt:=zF hPt
 have HFr:=zF hFr
 have HEC:=zF hEC
 have HRC:=zF hRC
 have HPK:=zF hPK
 have HRP:=zF hRP
 have H1:=zF h1
 have H2:=zF h2
 have HuPp:=zF uPp
 have HuPu:=zF uPu
 clear hk6 hlen hx hk hP hPt hFr hEC hRC hPK hRP h1 h2 uPp uPu
 go_enter Tryz.func3,Tryz.ntmps3
 go_upto_region 2 with (go_at_call 6;refine (mC _).mono ?_;rintro e w1 ⟨rfl,hE1⟩)
 go_upto_region 3 with (go_at_call 7;refine (nf P A cap l 6 w1 (HK.out.below hE1 HP.out) (by omega)).mono ?_;rw [HK6.out];rintro e w2 ⟨A2,c2,rfl,hr2,hE2⟩)
 have HE:=zF (za hE1 hE2)
 have HS:=zF (fun X (hX:Ext w2 X)=>(show RN X (Al X) A2 c2 k6 from RN.al hr2.rn hX (fun q hq=>hq.2) hX.bsize))
 have HFm:=zF (kA (Al w2) A2 c2 k6 w2 (HS.out w2 (zd _)) (fun q hq=>hq) Hlen.out)
 rw [HX.out] at HFm
 clear hr2 hE1 hE2
 go_upto_region 4 with (go_at_call 8;refine HFm.out.mono ?_;rintro e w3 ⟨A3,c3,rfl,hr3,hE3⟩)
 replace HE:=zF (za HE.out hE3)
 replace HS:=zF (fun X (hX:Ext w3 X)=>And.intro (show RN X (Al X) A3 c3 (digs 4294967296 x) from RN.al hr3.rn hX (fun q hq=>hq.2) hX.bsize) (HS.out X (za hE3 hX)))
 have HPt3:=zF (HPt.out w3 HE.out)
 clear hr3 hE3 HFm HPt
 go_upto_region 5 with (go_at_call 9;refine HPt3.out.mono ?_;rintro e w4 ⟨d,bi,B1,n1,d1,B2,n2,d2,rfl,hp,hE4⟩)
 have hA4:=zR w4 (.cells #[.bool bi,.slice B1 n1 d1,.slice B2 n2 d2] 29)
 have hq4:=zN w4 (.cells #[.bool bi,.slice B1 n1 d1,.slice B2 n2 d2] 29)
 obtain ⟨g,hg⟩:=eV w4.heap.size
 rw [hg] at hq4 ⊢
 replace HE:=zF (za HE.out (za hE4 hA4))
 have hpp:=HuPp.out _ _ _ _ hp hA4
 generalize w4.alloc (.cells #[.bool bi,.slice B1 n1 d1,.slice B2 n2 d2] 29)=W4 at *
 replace HS:=zF (fun X (hX:Ext W4 X)=>And.intro (Ext.at_ hX hq4) (And.intro (HuPp.out _ _ _ _ hpp hX) (HS.out X (za hE4 (za hA4 hX)))))
 have HFr4:=zF (HFr.out W4 _ d hpp)
 clear hp hE4 hA4 hg hpp HPt3 HFr
 obtain ⟨z0,z1,z2,f0,f1,f2⟩:=qc hq4
 go_upto_region 6 with (go_at_call 10;refine HFr4.out.mono ?_;rintro e w5 ⟨bj,C1,m1,e1,C2,m2,e2,rfl,hu,hE5⟩)
 have hA5:=zR w5 (.cells #[.bool bj,.slice C1 m1 e1,.slice C2 m2 e2] 32)
 have hq5:=zN w5 (.cells #[.bool bj,.slice C1 m1 e1,.slice C2 m2 e2] 32)
 obtain ⟨g5,hg5⟩:=eV w5.heap.size
 rw [hg5] at hq5 ⊢
 replace HE:=zF (za HE.out (za hE5 hA5))
 have huu:=HuPu.out _ _ _ _ hu hA5
 generalize w5.alloc (.cells #[.bool bj,.slice C1 m1 e1,.slice C2 m2 e2] 32)=W5 at *
 replace HS:=zF (fun X (hX:Ext W5 X)=>And.intro (Ext.at_ hX hq5) (And.intro (HuPu.out _ _ _ _ huu hX) (HS.out X (za hE5 (za hA5 hX)))))
 clear hu hE5 hA5 hg5 huu HFr4 z0 z1 z2 f0 f1 f2 hq4 hq5
 have HEc:=HEC.out W5 A2 c2 k6 (HS.out W5 (zd _)).2.2.2.2.2 HX.out
 have HEc:=zF HEc
 obtain ⟨o1,ho1⟩:=eV R1.isSome
 obtain ⟨b1,hb1⟩:=eV (R1.getD [])
 obtain ⟨o2,ho2⟩:=eV ((R2 d).isSome)
 obtain ⟨b2,hb2⟩:=eV ((R2 d).getD [])
 unfold WrB at HEc HRC HPK HRP
 have Hg1:Hid (o1=true→R1=some b1):=zF (fun h=>by rw [←hb1];rw [←ho1] at h;obtain ⟨y,hy⟩:=Option.isSome_iff_exists.1 h;rw [hy];rfl)
 have Hg2:Hid (o2=true→R2 d=some b2):=zF (fun h=>by rw [←hb2];rw [←ho2] at h;obtain ⟨y,hy⟩:=Option.isSome_iff_exists.1 h;rw [hy];rfl)
 have HPK:=zF (fun X v=>HPK.out X v d)
 have HRP:=zF (fun X v=>HRP.out X v d)
 simp only [ho1,hb1,ho2,hb2] at HEc HRC HPK HRP
 clear ho1 hb1 ho2 hb2 HEC
 go_upto_region 7 with (go_at_call 11;refine HEc.out.mono ?_;rintro e w6 ⟨⟨A6,c6,rfl,hr6⟩,hE6⟩)
 replace HE:=zF (za HE.out hE6)
 replace HS:=zF (fun X (hX:Ext w6 X)=>And.intro (jr hr6 hX) (HS.out X (za hE6 hX)))
 have HRc:=zF (HRC.out w6 A3 c3 (HS.out w6 (zd _)).2.2.2.2.2.1)
 clear hr6 hE6 HEc HRC
 go_upto_region 8 with (go_at_call 12;refine HRc.out.mono ?_;rintro e w7 ⟨⟨A7,c7,rfl,hr7⟩,hE7⟩)
 replace HE:=zF (za HE.out hE7)
 replace HS:=zF (fun X (hX:Ext w7 X)=>And.intro (jr hr7 hX) (HS.out X (za hE7 hX)))
 clear hr7 hE7 HRc
 obtain ⟨-,-,-,-,hq,hp,-⟩:=HS.out w7 (zd _)
 have HPk:=zF (HPK.out w7 _ hp)
 obtain ⟨z0,z1,z2,f0,f1,f2⟩:=qc hq
 clear hq hp HPK
 go_upto_region 9 with (go_at_call 13;refine HPk.out.mono ?_;rintro e w8 ⟨⟨A8,c8,rfl,hr8⟩,hE8⟩)
 replace HE:=zF (za HE.out hE8)
 replace HS:=zF (fun X (hX:Ext w8 X)=>And.intro (jr hr8 hX) (HS.out X (za hE8 hX)))
 clear hr8 hE8 HPk z0 z1 z2 f0 f1 f2
 obtain ⟨-,-,-,hq,hp,-⟩:=HS.out w8 (zd _)
 have HRp:=zF (HRP.out w8 _ hp)
 obtain ⟨z0,z1,z2,f0,f1,f2⟩:=qc hq
 clear hq hp HRP
 go_upto_region 10 with (go_at_call 14;refine HRp.out.mono ?_;rintro e w9 ⟨⟨A9,c9,rfl,hr9⟩,hE9⟩)
 replace HE:=zF (za HE.out hE9)
 replace HS:=zF (fun X (hX:Ext w9 X)=>And.intro (jr hr9 hX) (HS.out X (za hE9 hX)))
 clear hr9 hE9 HRp z0 z1 z2 f0 f1 f2
 obtain ⟨s9,s8,s7,s6,-⟩:=HS.out w9 (zd _)
 have t9:=s9.str (P:=Tryz.prog) 34 5 9 Tryz.underlying34 Tryz.underlying5 Tryz.underlying9
 have t8:=s8.str (P:=Tryz.prog) 34 5 9 Tryz.underlying34 Tryz.underlying5 Tryz.underlying9
 have t7:=s7.str (P:=Tryz.prog) 34 5 9 Tryz.underlying34 Tryz.underlying5 Tryz.underlying9
 have t6:=s6.str (P:=Tryz.prog) 34 5 9 Tryz.underlying34 Tryz.underlying5 Tryz.underlying9
 clear s9 s8 s7 s6
 have ne1:(o1 != o1)=false:=by cases o1 <;> rfl
 have ne2:(o2 != o2)=false:=by cases o2 <;> rfl
 go_upto_region 12 with fail
 clear t9 t8 t7 t6 ne1 ne2
 cases o1
 rotate_left
 focus
  have hrd:=H1.out b1 (Hg1.out rfl)
  obtain ⟨-,-,-,s6,-⟩:=HS.out w9 (zd _)
  have HRd:=fe (Al w9) A6 c6 b1 w9 s6 (fun q hq=>hq)
  rw [hrd] at HRd
  have HRd:=zF HRd
  clear hrd s6
  go_upto_region 13 with fail
  go_upto_region 14 with (go_at_call 15;refine HRd.out.mono ?_;rintro e w10 ⟨⟨Aa,ka,rfl,hra⟩,hEa⟩)
  replace HE:=zF (za HE.out hEa)
  replace HS:=zF (fun X (hX:Ext w10 X)=>HS.out X (za hEa hX))
  have HIs:=zF (zAT (Al w10) (Al w10) Aa A3 ka c3 x w10 hra (HS.out w10 (zd _)).2.2.2.2.2.2.2.2.1 (fun q hq=>hq) (fun q hq=>hq))
  have nec:(c != c)=false:=by simp
  clear hra hEa HRd
  go_upto_region 16 with (go_at_call 16;refine HIs.out.mono ?_;rintro e w11 ⟨rfl,hEb⟩)
  replace HE:=zF (za HE.out hEb)
  replace HS:=zF (fun X (hX:Ext w11 X)=>HS.out X (za hEb hX))
  clear hEb HIs nec
 rotate_left
 focus
  go_upto_region 16 with fail
 all_goals
  cases o2
  · go_wp2
    go_ret
    exact ⟨rfl,HE.out⟩
  · obtain ⟨xx,yy,hrd,hup⟩:=H2.out d b2 (Hg2.out rfl)
    obtain ⟨-,s8,-⟩:=HS.out _ (zd _)
    have HRd:=aB _ A8 c8 b2 _ s8 (fun q hq=>hq)
    rw [hrd] at HRd
    have HRd:=zF HRd
    have Hup:=zF hup
    clear hrd s8 hup
    go_upto_region 17 with fail
    go_upto_region 18 with (go_at_call 17;refine HRd.out.mono ?_;rintro e v10 ⟨⟨pv,rfl,F1,j1,F2,j2,rfl,hf1,hf2⟩,hEc⟩)
    have hAp:=zR v10 (.cells #[.bool false,.slice F1 (digs 18446744073709551616 xx).length j1,.slice F2 (digs 18446744073709551616 yy).length j2] 29)
    have hqp:=zN v10 (.cells #[.bool false,.slice F1 (digs 18446744073709551616 xx).length j1,.slice F2 (digs 18446744073709551616 yy).length j2] 29)
    obtain ⟨gp,hgp⟩:=eV v10.heap.size
    rw [hgp] at hqp ⊢
    replace HE:=zF (za HE.out (za hEc hAp))
    have hf1:=RN.al hf1 hAp (fun q hq=>hq) hAp.bsize
    have hf2:=RN.al hf2 hAp (fun q hq=>hq) hAp.bsize
    generalize v10.alloc (.cells #[.bool false,.slice F1 (digs 18446744073709551616 xx).length j1,.slice F2 (digs 18446744073709551616 yy).length j2] 29)=V at *
    replace HS:=zF (fun X (hX:Ext V X)=>HS.out X (za hEc (za hAp hX)))
    obtain ⟨-,-,-,-,hqu,huu,-⟩:=HS.out V (zd _)
    have hyes:=ris_n (bi:=false) (bj:=false) V ⟨F1,F2,j1,j2,rfl,hf1,hf2⟩ (Hup.out V _ huu)
    simp only [beq_self_eq_true,decide_true,Bool.and_self] at hyes
    have Hyes:=zF hyes
    obtain ⟨y0,y1,y2,q0,q1,q2⟩:=qc hqp
    obtain ⟨z0,z1,z2,f0,f1,f2⟩:=qc hqu
    have nec:(c != c)=false:=by simp
    clear hyes hEc hAp hgp huu hqu hqp hf1 hf2 HRd
    go_wp2_with (go_at_call 18;refine Hyes.out.mono ?_;rintro e v12 ⟨rfl,hEd⟩)
    go_ret
    exact ⟨rfl,za HE.out hEd⟩
end Go.Proofs.YtmlbicgpehchhaaGreat.Ec
namespace Go.Proofs.YtmlbicgpehchhaaGreat
open Go.RowKit
def gV (A B:Option Addr) (m n:Nat):Prop:=∀ a b,A=some a→B=some b→0<m→0<n→a.block<b.block
theorem OB.apart {X Y:World} {base:Nat} {A B:Option Addr} {c d:Nat} {l m:List Nat} (h:OB X base A c l) (k:OB Y X.heap.size B d m):gV A B l.length m.length:=by
 intro a b e1 e2 h1 h2
 obtain ⟨g,cur,e,_,hg,_⟩:=h.2.2.2 h1
 obtain ⟨g',cur',e',hg',_,_⟩:=k.2.2.2 h2
 rw [e1] at e;rw [e2] at e'
 injection e with e;injection e' with e'
 subst e e'
 exact zP (ql hg) hg'
theorem OB.ext {X Y:World} {base:Nat} {A:Option Addr} {c:Nat} {l:List Nat} (h:OB X base A c l) (hE:Ext X Y):OB Y base A c l:=h.below hE (zG _)
theorem rto_n {p:Value} {bi:Bool} {x y:Nat} (w:World) (hp:RPv w p bi x y):Calls Tryz.prog 38 #[p] w fun e w'=>∃ A B c d,e=.returned (.agg #[.bool bi,.slice A (digs 18446744073709551616 x).length c,.slice B (digs 18446744073709551616 y).length d]) ∧
 OB w' w.heap.size A c (digs 18446744073709551616 x)∧OB w' w.heap.size B d (digs 18446744073709551616 y)∧gV A B (digs 18446744073709551616 x).length (digs 18446744073709551616 y).length∧Ext w w':=by
 obtain ⟨A1,A2,c1,c2,rfl,hx,hy⟩:=hp
 obtain ⟨W0,hW0⟩:=eW ((w.alloc (.cells #[.bool bi,.slice A1 (digs 4294967296 x).length c1,.slice A2 (digs 4294967296 y).length c2] 32)).alloc (.cells #[.bool false,.slice none 0 0,.slice none 0 0] 29))
 obtain ⟨q,hq⟩:=eV w.heap.size
 have hE0:Ext w W0:=by rw [hW0];exact (zR _ _).trans (zR _ _)
 obtain ⟨h1,h2,hz0⟩:=kW w (.cells #[.bool bi,.slice A1 (digs 4294967296 x).length c1,.slice A2 (digs 4294967296 y).length c2] 32) (.cells #[.bool false,.slice none 0 0,.slice none 0 0] 29)
 rw [←hW0,hq] at h1 h2 hz0
 have p0:=zH h1 0
 have p1:=zH h1 1
 have p2:=zH h1 2
 simp only [zI,zJ,zL] at p0 p1 p2
 have Hx:=zF (zb hx hE0)
 have Hy:=zF (zb hy hE0)
 have HE0:=zF hE0
 clear hx hy hE0 hz0 h1
 go_enter Tryz.func38,Tryz.ntmps38
 go_upto_region 1 with fail
 rw [←hW0]
 have Hq:=zF hq
 clear hW0 hq
 refine zj (by kernel_rfl) 9 [0,1,0,4,12,0,32,124,255,511] [] (fun j f X=>match j with
  | 0=>f 0=.pointer (some ⟨q,0,none⟩)
  | 1=>f 1=.bool bi
  | 2=>f 2=.pointer (some ⟨q,1,none⟩)
  | 3=>f 3=.slice A1 (digs 4294967296 x).length c1
  | 4=>∃ A c,f 4=.slice A (digs 18446744073709551616 x).length c∧OB X W0.heap.size A c (digs 18446744073709551616 x)
  | 5=>f 5=.pointer (some ⟨q,2,none⟩)
  | 6=>f 6=.slice A2 (digs 4294967296 y).length c2
  | 7=>∃ A c,f 7=.slice A (digs 18446744073709551616 y).length c∧OB X W0.heap.size A c (digs 18446744073709551616 y)∧∀ B d,f 4=.slice B (digs 18446744073709551616 x).length d→gV B A (digs 18446744073709551616 x).length (digs 18446744073709551616 y).length
  | 8=>∃ A B c d,f 8=.agg #[.bool bi,.slice A (digs 18446744073709551616 x).length c,.slice B (digs 18446744073709551616 y).length d]∧OB X W0.heap.size A c (digs 18446744073709551616 x)∧OB X W0.heap.size B d (digs 18446744073709551616 y)∧gV A B (digs 18446744073709551616 x).length (digs 18446744073709551616 y).length
  | _=>True) (by kernel_rfl) [(3,0),(4,1),(5,2),(6,3),(7,4),(8,5),(9,6),(10,7),(11,8)] (by kernel_rfl) ?_
 refine zT 1 8 ?_
 refine qG 2 7 0 p0 ?_
 refine zT 3 6 ?_
 refine qG 4 5 2 p1 ?_
 refine qC 5 4 (fun f=>#[f 3]) (F':=67) (fun f X hX hR=>?_) ?_
 · have e3:f 3=_:=hR.out 3 rfl
   simp only [e3]
   refine (mM _ A1 c1 x X (zb Hx.out hX) (fun _ h=>h)).mono ?_
   rintro e w2 ⟨A,c,rfl,h,hB⟩
   exact ⟨(.slice A (digs 18446744073709551616 x).length c),rfl,hB,fun Y hY=>⟨A,c,rfl,(h.mono hX.bsize).ext hY⟩⟩
 refine zT 6 3 ?_
 refine qG 7 2 5 p2 ?_
 refine zt 8 1 [(3,0),(4,1),(5,2),(6,3),(7,4),(8,5),(9,6)] (fun f X hX hR K hK=>?_) ?_
 · have e6:f 6=_:=hR.out 6 rfl
   obtain ⟨A4,c4,(e4:f 4=_),h4⟩:=hR.out 4 rfl
   have E4:=zF e4
   clear e4
   simp only [yZ,e6]
   refine ⟨?_⟩
   go_simp
   refine (mM _ A2 c2 y X (zb Hy.out hX) (fun _ h=>h)).mono ?_
   rintro e w2 ⟨A,c,rfl,h,hB⟩
   refine hK.out _ (.slice A (digs 18446744073709551616 y).length c) _ (by simp only [yZ,e6]) hB trivial (fun Y hY=>⟨A,c,rfl,(h.mono hX.bsize).ext hY,fun B d e=>?_⟩)
   obtain ⟨rfl,_⟩:A4=B∧c4=d:=by have e':f 4=.slice B (digs 18446744073709551616 x).length d:=e;rw [E4.out] at e';injection e' with a1 a2 a3;exact ⟨a1,a3⟩
   exact h4.apart h
 refine zt 9 0 [(3,0),(4,1),(5,2),(6,3),(7,4),(8,5),(9,6),(10,7)] (fun f X hX hR K hK=>?_) ?_
 · have e1:f 1=_:=hR.out 1 rfl
   obtain ⟨A4,c4,(e4:f 4=_),h4⟩:=hR.out 4 rfl
   obtain ⟨A7,c7,e7,h7,k7⟩:∃ A c,f 7=.slice A (digs 18446744073709551616 y).length c∧OB X W0.heap.size A c (digs 18446744073709551616 y)∧∀ B d,f 4=.slice B (digs 18446744073709551616 x).length d→gV B A (digs 18446744073709551616 x).length (digs 18446744073709551616 y).length:=hR.out 7 rfl
   simp only [yZ,e1,e4,e7]
   refine ⟨?_⟩
   go_simp
   exact hK.out _ (.agg #[.bool bi,.slice A4 (digs 18446744073709551616 x).length c4,.slice A7 (digs 18446744073709551616 y).length c7]) _ (by simp only [yZ,e1,e4,e7]) (zd _) trivial (fun Y hY=>⟨A4,A7,c4,c7,rfl,h4.ext hY,h7.ext hY,k7 A4 c4 e4⟩)
 refine yF ⟨fun f X hX hR hal hap=>?_⟩
 obtain ⟨A4,c4,(e4:f 4=_),h4⟩:=hR 4 (by decide)
 obtain ⟨A7,c7,e7,h7,k7⟩:∃ A c,f 7=.slice A (digs 18446744073709551616 y).length c∧OB X W0.heap.size A c (digs 18446744073709551616 y)∧∀ B d,f 4=.slice B (digs 18446744073709551616 x).length d→gV B A (digs 18446744073709551616 x).length (digs 18446744073709551616 y).length:=hR 7 (by decide)
 obtain ⟨A8,B8,c8,d8,(e8:f 8=_),h8,k8,K8⟩:=hR 8 (by decide)
 simp only [yZ,e4,e7,e8]
 clear hR hal hap e4 e7 e8
 refine zZ (fun K hK=>⟨zc (by kernel_rfl) (qo (cs':=#[.bool bi,.slice A8 (digs 18446744073709551616 x).length c8,.slice B8 (digs 18446744073709551616 y).length d8]) (t:=29) 29 (.tmp 2) (.tmp 11) rfl rfl rfl rfl (hX.at_ h2) vG rfl (vO _ _ _ _ _ _ _) (fun Y hY1 hY2 hY3=>hK.out _ _ ?_))⟩)
 refine zK ?_
 go_wp2
 exact ul rfl rfl rfl hY1 ⟨_,_,_,_,rfl,(h8.just hY2 (hX.at_ h2) (by decide)).mono HE0.out.bsize,(k8.just hY2 (hX.at_ h2) (by decide)).mono HE0.out.bsize,K8,hY2.ext (HE0.out.trans hX) (by have:=Hq.out;omega)⟩
theorem kg {M:Nat} (h:0<M) (a b:Nat):mm M a b<M:=qS _ h
theorem am_lt {M:Nat} (h:0<M) (a b:Nat):am M a b<M:=qS _ h
theorem uA {M:Nat} (h:0<M) (a b:Nat):sm M a b<M:=qS _ h
theorem Crv.Fine.len' {C:Crv} (h:C.Fine) {x:Nat} (hx:x<C.M):(digs 4294967296 x).length≤96:=wz (qr hx) h.len
section
variable {C:Crv} {v:Value} {A A':Option Addr} {c c' x y:Nat}
theorem jT (w:World) (hF:C.Fine) (hc:RC w C v) (h:RU w A c (digs 4294967296 x)) (h':RU w A' c' (digs 4294967296 y)) (hx:x<C.M) (hy:y<C.M) :
 Calls Tryz.prog 96 #[v,.slice A (digs 4294967296 x).length c,.slice A' (digs 4294967296 y).length c'] w fun e w'=>∃ A1 c1,e=.returned (.slice A1 (digs 4294967296 (mm C.M x y)).length c1)∧RU w' A1 c1 (digs 4294967296 (mm C.M x y))∧Ext w w' :=
 yG A A' c c' x y w hc h h' (by have:=hF.len' hx;omega) (by have:=hF.len' hy;omega) (by have:=hF.three;omega)
theorem vU (w:World) (hF:C.Fine) (hc:RC w C v) (h:RU w A c (digs 4294967296 x)) (h':RU w A' c' (digs 4294967296 y)) (hx:x<C.M) (hy:y<C.M) :
 Calls Tryz.prog 110 #[v,.slice A (digs 4294967296 x).length c,.slice A' (digs 4294967296 y).length c'] w fun e w'=>∃ A1 c1,e=.returned (.slice A1 (digs 4294967296 (sm C.M x y)).length c1)∧RU w' A1 c1 (digs 4294967296 (sm C.M x y))∧Ext w w':=by
 rw [show sm C.M x y=(x+C.M - y) % C.M by rw [sm,qJ hy]]
 exact cL A A' c c' x y w hc h h' (by have:=hF.len' hx;omega) (by have:=hF.len;omega) (by omega) (by have:=hF.three;omega)
theorem add_r (w:World) (hF:C.Fine) (h:RU w A c (digs 4294967296 x)) (h':RU w A' c' (digs 4294967296 y)) (hx:x<C.M) (hy:y<C.M) :
 Calls Tryz.prog 109 #[.slice A (digs 4294967296 x).length c,.slice A' (digs 4294967296 y).length c'] w fun e w'=>∃ A1 c1,e=.returned (.slice A1 (digs 4294967296 (x+y)).length c1)∧RU w' A1 c1 (digs 4294967296 (x+y))∧Ext w w' :=
 (yd _ _ A A' c c' x y w h h' (fun _ h=>h) (fun _ h=>h) (by have:=hF.len' hx;omega) (by have:=hF.len' hy;omega)).mono fun _ _ ⟨A1,c1,h1,h2,h3⟩=>⟨A1,c1,h1,h2.ru,h3⟩
theorem mod_r (w:World) (hF:C.Fine) (h:RU w A c (digs 4294967296 x)) (h':RU w A' c' (digs 4294967296 C.M)) (hx:x<2*C.M) :
 Calls Tryz.prog 79 #[.slice A (digs 4294967296 x).length c,.slice A' (digs 4294967296 C.M).length c'] w fun e w'=>∃ A1 c1,e=.returned (.slice A1 (digs 4294967296 (x % C.M)).length c1)∧RU w' A1 c1 (digs 4294967296 (x % C.M))∧Ext w w' :=
 wd A A' c c' x C.M w h h' (by
  have h1:x<4294967296 ^ 97:=by
   have h2:=hF.len
   have h3:C.M<4294967296 ^ 96:=by
    have:=ji (jm (B:=4294967296) (by omega) C.M)
    rw [z7 (by omega)] at this
    exact zP this (zy (by omega) h2)
   rw [zv]
   omega
  have:=qV (by omega) h1
  omega) (by have:=hF.three;omega)
theorem pu (x:Nat) (w:World) (hx:x<18446744073709551616) :
 Calls Tryz.prog 78 #[.int .u64 (x:Int)] w fun e w'=>∃ A' c',e=.returned (.slice A' (digs 4294967296 x).length c')∧RU w' A' c' (digs 4294967296 x)∧Ext w w' :=
 (yI x w hx).mono fun _ _ ⟨A1,c1,h1,h2,h3⟩=>⟨A1,c1,h1,h2.ru,h3⟩
end
section
variable {Q:Exit→Act→World→Prop} {ol:List Oper} {m:Nat} {L AL:List Nat} {R:Nat→(Nat→Value)→World→Prop} {a:Act} {w:World} {F:List Oper→Prop} {k n:Nat} {o:Oper} {l:List Oper}
theorem rc (k' n' i j j':Nat) {F':FuncId} {pf:Value} {x y z z':Nat} (h1:∀ f X,Ext w X→R j (Par.jb (fun i=>L.getD i 0) j f) X→∃ A c,f j=.slice A (digs 4294967296 x).length c∧RU X A c (digs 4294967296 x)) (h2:∀ f X,Ext w X→R j' (Par.jb (fun i=>L.getD i 0) j' f) X→∃ A c,f j'=.slice A (digs 4294967296 y).length c∧RU X A c (digs 4294967296 y))
 (hc:∀ X,Ext w X→∀ A c A' c',RU X A c (digs 4294967296 x)→RU X A' c' (digs 4294967296 y)→Calls Tryz.prog F' #[pf,.slice A (digs 4294967296 x).length c,.slice A' (digs 4294967296 y).length c'] X fun e w'=>∃ A1 c1,e=.returned (.slice A1 (digs 4294967296 z').length c1)∧RU w' A1 c1 (digs 4294967296 z')∧Ext X w') (hz:z'=z) (hs:Par.qd (Par.jU Tryz.prog ol Q Ext m L AL R a w) F k' n' l)
 (hr:∀ f X,R i (Par.jb (fun i=>L.getD i 0) i f) X→f i=pf:=by exact fun _ _ h=>h)
 (hR:∀ f X,(∃ A c,f k=.slice A (digs 4294967296 z).length c∧RU X A c (digs 4294967296 z))→R k (Par.jb (fun i=>L.getD i 0) k f) X:=by exact fun _ _ h=>h) (hk:k+1=k':=by rfl) (hn:n'+1=n:=by rfl) (ha:AL.contains k=false:=by kernel_rfl) (hi:(L.getD k 0).testBit i=true:=by kernel_rfl) (hj:(L.getD k 0).testBit j=true:=by kernel_rfl) (hj':(L.getD k 0).testBit j'=true:=by kernel_rfl)
 (hw:∀ f,Region.wanted o (yielded ol.toArray (Par.put ol.toArray (Par.nd (fun i=>L.getD i 0) k) f (List.range m) a).tmps)=true:=by intro _;kernel_rfl)
 (hrun:∀ f X,(execOp (Par.put ol.toArray (Par.nd (fun i=>L.getD i 0) k) f (List.range m) a).eval o).run Tryz.prog X=.ok (.enter F' #[f i,f j,f j']) X:=by intro _ _;kernel_rfl):Par.qd (Par.jU Tryz.prog ol Q Ext m L AL R a w) F k n (o :: l) :=
 Par.cx (args:=fun f=>#[f i,f j,f j']) hs hk hn ha (fun f _ _=>hw f) hrun fun f X hX h=>by
  obtain ⟨A,c,e1,g1⟩:=h1 f X hX (h.out j hj)
  obtain ⟨A',c',e2,g2⟩:=h2 f X hX (h.out j' hj')
  rw [hr f X (h.out i hi),e1,e2]
  refine (hc X hX A c A' c' g1 g2).mono ?_
  rintro e w' ⟨A1,c1,rfl,hv,hE⟩
  subst hz
  exact ⟨_,rfl,hE,fun Y hY=>hR _ _ ⟨A1,c1,by simp [Par.upd],zb hv hY⟩⟩
end
def JN (w:World) (C:Crv) (v:Value) (p:Nat×Nat×Nat):Prop:=∃ (A1 A2 A3:Option Addr) (c1 c2 c3:Nat),v=.agg #[.slice A1 (digs 4294967296 p.1).length c1,.slice A2 (digs 4294967296 p.2.1).length c2,.slice A3 (digs 4294967296 p.2.2).length c3] ∧
 RU w A1 c1 (digs 4294967296 p.1)∧RU w A2 c2 (digs 4294967296 p.2.1)∧RU w A3 c3 (digs 4294967296 p.2.2)∧p.1<C.M∧p.2.1<C.M∧p.2.2<C.M
theorem JN.ext {w X:World} {C:Crv} {v:Value} {p:Nat×Nat×Nat} (h:JN w C v p) (hE:Ext w X):JN X C v p:=by
 obtain ⟨A1,A2,A3,c1,c2,c3,e,h1,h2,h3,h4⟩:=h
 exact ⟨A1,A2,A3,c1,c2,c3,e,zb h1 hE,zb h2 hE,zb h3 hE,h4⟩
theorem xv:(Tryz.prog.info? 132).map (·.size)=some 3:=by kernel_rfl
theorem us {fn:Func} {R:Ending→World→Prop} {a:Act} {W:World} {p:Tmp} {g:Nat} {ty:TypeId} {fr:Nat×Nat} {x0 x1 x2:Value} (hr:fn.results=#[.cell p 132]) (hp:a.tmps.getD p undef=.pointer (some ⟨g,0,none⟩)) (hd:a.defers=[])
 (hg:W.heap[g]?=some (.cells #[x0,x1,x2] ty fr)) (hR:R (.returned (.agg #[x0,x1,x2])) W):bodyPost Tryz.prog fn R .ret a W :=
 qF (vi hr a.tmps W g _ _ _ _ hp hg Tryz.underlying132 rfl xv) hd hR
theorem gZ (A1 A2 A3:Option Addr) (n1 n2 n3 c1 c2 c3:Nat):(#[Value.slice A1 n1 c1,.slice A2 n2 c2,.slice A3 n3 c3]:Array Value).all (·.oneCell')=true:=by simp [Value.oneCell']
end Go.Proofs.YtmlbicgpehchhaaGreat
