/- Laws that the proof rests on. -/
import Derived.Test.YtmlbicgpehchhaaGreatQ9f43067de0ea
set_option maxRecDepth 100000
set_option maxHeartbeats 16000000
namespace Go.Proofs.YtmlbicgpehchhaaGreat.Der
open Go.RowKit Go.Shelf
attribute [local go_sem] Oper.semAt_some
def tB:Value→Nat
 | .slice _ n _=>n
 | _=>0
theorem mV {w w':World} {base size n:Nat} {e:TypeId} {v:Value} {xs:List Value} (h:w.ownsRow base e size v n xs) (hk:∀ k,base≤k→k<w.heap.size→w'.heap[k]?=w.heap[k]?):w'.ownsRow base e size v n xs:=by
 obtain ⟨h1,h2⟩:=h
 refine ⟨h1,?_⟩
 rcases h2 with h2 | ⟨g,cap,cur,e1,hg,hh,r⟩
 · exact .inl h2
 · exact .inr ⟨g,cap,cur,e1,hg,(hk g hg (ql hh)).trans hh,r⟩
theorem pk {w:World} {base size n:Nat} {e:TypeId} {v:Value} {xs:List Value} (h:w.ownsRow base e size v n xs) {q:Nat} (hq:v.ownBlock=some q):base≤q∧q<w.heap.size:=by
 rcases h.2 with ⟨rfl,-⟩ | ⟨g,cap,cur,rfl,hg,hh,-⟩
 · cases hq
 · simp [Value.ownBlock] at hq
   subst hq
   exact ⟨hg,ql hh⟩
def Vp (b:Nat) (w:World) (v:Value) (q:Nat):Prop:=b<q∧q<w.heap.size∧some q≠v.ownBlock
theorem dI {rd:Nat→List Nat→Option (DN×List Nat×Nat)} {f left:Nat} {acc:List DN} : kQ rd f left acc []=some (acc,left):=by
 cases f <;> simp [kQ]
theorem oO {rd:Nat→List Nat→Option (DN×List Nat×Nat)} {f left:Nat} {acc:List DN} {b:List Nat} (hb:b≠[]) (h:rd left b=none):kQ rd f left acc b=none:=by
 cases f <;> simp [kQ,hb,h]
theorem dH {rd:Nat→List Nat→Option (DN×List Nat×Nat)} {f left l:Nat} {acc:List DN} {b r:List Nat} {k:DN} (hb:b≠[]) (h:rd left b=some (k,r,l)):kQ rd (f+1) left acc b=kQ rd f l (acc++[k]) r:=by
 rw [kQ,zr hb,h]
theorem py {d left:Nat} {b:List Nat} (h0:left≠0) (h:kq b=none):jO (d+1) left b=none:=by rw [jO,zr h0,h]
theorem cH {d left t:Nat} {b h r:List Nat} (h0:left≠0) (hh:kq b=some (t,h,r)) (ht:t≠48):jO (d+1) left b=if jY t h then some (.mk t h [],r,left - 1) else none:=by
 rw [jO,zr h0,hh]
 show (if t≠48 then _ else _)=_
 rw [qE ht]
def zAE (r:List Nat):Option (List DN×Nat)→Option (DN×List Nat×Nat)
 | none=>none
 | some (ks,l)=>some (.mk 48 [] ks,r,l)
theorem aL {d left:Nat} {b h r:List Nat} (h0:left≠0) (hh:kq b=some (48,h,r)):jO (d+1) left b=zAE r (kQ (jO d) h.length (left - 1) [] h):=by
 rw [jO,zr h0,hh]
 show (if 48≠48 then _ else _)=_
 rw [zr (by omega)]
 generalize kQ (jO d) h.length (left - 1) [] h=K
 cases K <;> rfl
theorem seqP {P:Nat→Prop} {g s sn:Nat} {w w':World} {l:Nat} {Ak A2:Option Addr} {ck c2:Nat} {acc:List DN} {cs:List Value} {r:List Nat} (hg:w'.heap[g]?=some (.cells #[.int .i64 (l:Int)] 191 (0,0))) (hs:s<sn) (hsz:w'.heap.size=w.heap.size) (hk:∀ q,q≠s→w'.heap[q]?=w.heap[q]?) (hown:w.ownsRow (sn+1) 80 3 (.slice Ak acc.length ck) acc.length cs) (hds:RDs w (Vp sn w (.slice Ak acc.length ck)) acc cs) (h2:RB w P A2 c2 r) (hP:∀ q,P q→q<s) :
 mI (zAE r (some (acc,l))) P g s (.returned (.tuple #[.agg #[.int .i64 48,.slice none 0 0,.slice Ak acc.length ck],.slice A2 r.length c2,.bool true])) w':=by
 refine ⟨_,hg,rfl,_,A2,c2,rfl,?_,h2.keep fun p hp=>zS (hk _ (by have:=hP _ hp;omega))⟩
 unfold RD
 refine ⟨none,0,Ak,ck,cs,rfl,vY _ _,fun _=>⟨rfl,rfl⟩,((RS.of_own hown).keep fun p hp=>zS (hk _ (by have:=hp.1;omega))).mono fun q hq=>?_,RDs.mono (fun q hq=>?_) (RDs.keep (fun p hp=>zS (hk _ (by have:=hp.1;omega))) hds)⟩
 · obtain ⟨q1,q2⟩:=hq
   exact ⟨by omega,by omega⟩
 · obtain ⟨q1,q2,-⟩:=hq
   exact ⟨by omega,by omega⟩
theorem leafP {P:Nat→Prop} {g s sz:Nat} {w w':World} {t l:Nat} {A3 A2:Option Addr} {c3 c2:Nat} {h r:List Nat} {b:Bool} (ht:t≠48) (hg:w'.heap[g]?=some (.cells #[.int .i64 (l:Int)] 191 (0,0))) (h3:RB w (In sz w.heap.size) A3 c3 h) (hs:s<sz) (hsz:w'.heap.size=w.heap.size) (hk:∀ q,q≠s→w'.heap[q]?=w.heap[q]?) (h2:RB w' P A2 c2 r) :
 mI (if b then some (.mk t h [],r,l) else none) P g s (.returned (.tuple #[.agg #[.int .i64 (t:Int),.slice A3 h.length c3,.slice none 0 0],.slice A2 r.length c2,.bool b])) w':=by
 cases b
 · exact xY hg
 · refine ⟨_,hg,rfl,_,A2,c2,rfl,?_,h2⟩
   unfold RD
   refine ⟨A3,c3,none,0,[],rfl,(h3.keep fun p hp=>zS (hk _ (by have:=hp.1;omega))).mono fun q hq=>?_,fun e=>absurd e ht,RS.nil_ _ _ _,by unfold RDs;rfl⟩
   obtain ⟨q1,q2⟩:=hq
   exact ⟨by omega,by omega⟩
theorem pz (d:Nat):∀ (z:Int) (left g:Nat) (P:Nat→Prop) (A:Option Addr) (c:Nat) (b:List Nat) (w:World),0≤z→z+d=16→left≤1024→w.heap[g]?=some (.cells #[.int .i64 left] 191 (0,0))→RB w P A c b→(∀ q,P q→q<w.heap.size∧q≠g) →
    Calls Tryz.prog 153 #[.pointer (some ⟨g,0,none⟩),.slice A b.length c,.int .i64 z] w fun e w'=>mI (jO d left b) P g w.heap.size e w'∧Bb w.heap.size g w w':=by
  induction d with
  | zero =>
    intro z left g P A c b w hz0 hz hl h hb hP
    rw [show jO 0 left b=none by simp [jO]]
    exact cE z left g P A c b.length w (.inr (by omega)) ⟨by omega,by omega⟩ h
  | succ d ih =>
  intro z left g P A c b w hz0 hz hl h hb hP
  by_cases h0:left=0
  · rw [show jO (d+1) left b=none by rw [jO,qE h0]]
    exact cE z left g P A c b.length w (.inl (by omega)) ⟨by omega,by omega⟩ h
  obtain ⟨R,hR⟩:=eV (jO (d+1) left b)
  rw [hR]
  have HR:=zF hR
  have H0:=zF h0
  obtain ⟨n,hn⟩:∃ n:Int,(left:Int)=n:=⟨_,rfl⟩
  rw [hn] at h
  have hn0:0<n:=by omega
  have hn1:n≤1024:=by omega
  have HN:=zF (show n - 1=((left - 1:Nat):Int) by omega)
  have Hl:=zF hl
  have hz1:z<16:=by omega
  have HZ:=zF (show z+1+(d:Int)=16 by push_cast at hz;omega)
  have HP:=zF hP
  have Hb:=zF hb
  clear hR h0 hn hl hz hb hP
  have hg:=ql h
  have x0:=(zm w (.cells #[.int .i64 0,.slice none 0 0,.slice none 0 0] 80) g hg).trans h
  have y0:=zH x0 0
  have f0:=zp x0 0
  simp at y0
  have x1:=mB x0 0 (.int .i64 (n - 1))
  have hr:=zN w (.cells #[.int .i64 0,.slice none 0 0,.slice none 0 0] 80)
  have hr1:=(zO (w.alloc (.cells #[.int .i64 0,.slice none 0 0,.slice none 0 0] 80)) ⟨g,0,none⟩ (.int .i64 (n - 1)) w.heap.size (Nat.ne_of_gt hg)).trans hr
  have hB0:Bb w.heap.size g w ((w.alloc (.cells #[.int .i64 0,.slice none 0 0,.slice none 0 0] 80)).setCell ⟨g,0,none⟩ (.int .i64 (n - 1))):=((Bb.refl w.heap.size g w).alloc (zG _) _).set 0 _
  have HB0:=zF hB0
  have Hr:=zF hr1
  have Hx1:Hid (((w.alloc (.cells #[.int .i64 0,.slice none 0 0,.slice none 0 0] 80)).setCell ⟨g,0,none⟩ (.int .i64 (n - 1))).heap[g]?=some (.cells #[.int .i64 (n - 1)] 191 (0,0))):=zF (by simpa using x1)
  have Hsz:Hid (((w.alloc (.cells #[.int .i64 0,.slice none 0 0,.slice none 0 0] 80)).setCell ⟨g,0,none⟩ (.int .i64 (n - 1))).heap.size=w.heap.size+1):=zF (by simp [World.setCell])
  obtain ⟨s,hs⟩:=eV w.heap.size
  rw [hs] at Hr HB0 Hsz hg ⊢
  have Hs:=zF hs
  clear x0 x1 h hr hr1 hB0 hs
  have z0:=zH Hx1.out 0
  simp at z0
  have hk1:¬ n - 1<0:=by omega
  have hk2:¬ 16≤z:=by omega
  go_enter Tryz.func153,Tryz.ntmps153
  go_wp2
  go_step3
  go_upto_region 3 with fail
  clear z0 f0 y0
  rw [Hs.out]
  generalize (w.alloc (.cells #[.int .i64 0,.slice none 0 0,.slice none 0 0] 80)).setCell ⟨g,0,none⟩ (.int .i64 (n - 1))=W1 at *
  have Hb1:=zF (Bb.rb Hb.out HB0.out (fun q hq=>⟨by have:=(HP.out q hq).1;have:=Hs.out;omega,(HP.out q hq).2⟩))
  have hP1:∀ q,P q→q<W1.heap.size:=fun q hq=>by have:=(HP.out q hq).1;have:=Hs.out;have:=Hsz.out;omega
  have HP1:=zF hP1
  have HHd:=zF (rJ P A c b W1 Hb1.out hP1)
  clear hP1
  go_wp2_with fail
  refine HHd.out.mono ?_
  obtain ⟨R0,hR0⟩:=eV (kq b)
  rw [hR0]
  have HR0:=zF hR0
  clear hR0 HHd
  rintro e w2 ⟨hH,hB2⟩
  have Hr2:=zF ((hB2.block s (by have:=Hsz.out;omega)).trans Hr.out)
  have Hx2:=zF ((hB2.block g (by have:=Hsz.out;omega)).trans Hx1.out)
  have hB2':=HB0.out.trans (wO (hB2.mono (show s≤W1.heap.size by have:=Hsz.out;omega)) g)
  have HB2:=zF hB2'
  have Hsz2:=zF (show s<w2.heap.size by have:=hB2.size;have:=Hsz.out;omega)
  have HP2:=zF (show ∀ q,P q→q<w2.heap.size∧q≠g from fun q hq=>⟨by have:=HP1.out q hq;have:=hB2.size;omega,(HP.out q hq).2⟩)
  have HPs:=zF (show ∀ q,P q→q<s∧q≠g from fun q hq=>⟨by have:=(HP.out q hq).1;have:=Hs.out;omega,(HP.out q hq).2⟩)
  clear hB2 hB2' Hr Hx1 HB0 Hsz HP1 HP Hb Hb1
  cases R0 with
  | none =>
    unfold nr at hH
    subst hH
    have hR:R=none:=HR.out.symm.trans (py H0.out HR0.out)
    subst hR
    go_upto_region 6 with fail
    have q0:=zH Hr2.out 0
    have q1:=zH Hr2.out 1
    have q2:=zH Hr2.out 2
    have p0:=zp Hr2.out 0
    have p1:=zp Hr2.out 1
    have p2:=zp Hr2.out 2
    simp only [zI,zJ,zL] at q0 q1 q2
    go_wp2
    have r:=wK Hr2.out (.int .i64 0) (.slice none 0 0) (.slice none 0 0)
    have r0:=zH r 0
    have r1:=zH r 1
    have r2:=zH r 2
    simp only [zI,zJ,zL] at r0 r1 r2
    rw [jV]
    refine qF (v:=.tuple #[.agg #[.int .i64 0,.slice none 0 0,.slice none 0 0],.slice none 0 0,.bool false]) (by simp [results,Tryz.results153,go_sem,r0,r1,r2]) rfl ⟨xY (uR Hx2.out (by omega) _ _ _),?_⟩
    exact ((HB2.out.setCell (p:=⟨s,0,none⟩) (zG _) _).setCell (p:=⟨s,1,none⟩) (zG _) _).setCell (p:=⟨s,2,none⟩) (zG _) _
  | some q =>
    obtain ⟨t,h,r⟩:=q
    unfold nr at hH
    obtain ⟨A1,c1,A2,c2,rfl,h1,h2,ht⟩:=hH
    have H1:=zF h1
    have H2:=zF h2
    clear h1 h2
    by_cases h48:t=48
    rotate_left
    · have h48':((t:Int)==48)=false:=beq_eq_false_iff_ne.2 (by omega)
      have hR:R=if jY t h then some (.mk t h [],r,left - 1) else none:=HR.out.symm.trans (cH H0.out HR0.out h48)
      obtain ⟨pb,hpb⟩:=eV (jY t h)
      rw [hpb] at hR
      subst hR
      have HPb:=zF hpb
      have H48:=zF h48
      clear hpb h48 HR HR0
      go_upto_region 8 with fail
      go_wp2_with fail
      refine (m9 P A1 c1 h w2 H1.out (fun q hq=>(HP2.out q hq).1)).mono ?_
      rintro e w3 ⟨A3,c3,rfl,hr3,hB3⟩
      have Hr3:=zF hr3
      have HB3:=zF hB3
      have HPl:=zF (dw P A1 c1 t h w3 (H1.out.below hB3 (fun q hq=>(HP2.out q hq).1)))
      rw [HPb.out] at HPl
      clear hr3 hB3
      go_wp2_with fail
      refine HPl.out.mono ?_
      rintro e w4 ⟨rfl,d4,rfl⟩
      have HB4:=zF (qT HB3.out d4)
      have Hr4:=zF (Hr3.out.keep (w':=w3.drewN d4) fun _ _=>rfl)
      have hsz4:(w3.drewN d4).heap.size=w3.heap.size:=rfl
      rw [←hsz4] at Hr4
      clear hsz4 Hr3 HB3 HPl
      generalize w3.drewN d4=W4 at *
      have Hq4:=zF ((HB4.out.block s Hsz2.out).trans Hr2.out)
      have Hx4:=zF ((HB4.out.block g (by have:=Hsz2.out;omega)).trans Hx2.out)
      have H24:=zF (H2.out.below HB4.out (fun q hq=>(HP2.out q hq).1))
      have HB5:=zF (HB2.out.trans (wO (HB4.out.mono (qr Hsz2.out)) g))
      have q0:=zH Hq4.out 0
      have q1:=zH Hq4.out 1
      have q2:=zH Hq4.out 2
      have p0:=zp Hq4.out 0
      have p1:=zp Hq4.out 1
      have p2:=zp Hq4.out 2
      simp only [zI,zJ,zL] at q0 q1 q2
      go_wp2
      have r':=wK Hq4.out (.int .i64 (t:Int)) (.slice A3 h.length c3) (.slice none 0 0)
      have r0:=zH r' 0
      have r1:=zH r' 1
      have r2:=zH r' 2
      simp only [zI,zJ,zL] at r0 r1 r2
      rw [jV]
      refine qF (v:=.tuple #[.agg #[.int .i64 (t:Int),.slice A3 h.length c3,.slice none 0 0],.slice A2 r.length c2,.bool pb]) (by simp [results,Tryz.results153,go_sem,r0,r1,r2]) rfl ⟨?_,?_⟩
      · refine leafP (w:=W4) (sz:=w2.heap.size) H48.out ?_ Hr4.out Hsz2.out (by simp [World.setCell]) (fun q hq=>?_) ?_
        · rw [←HN.out];exact uR Hx4.out (by omega) _ _ _
        · exact (zO _ _ _ _ hq).trans ((zO _ _ _ _ hq).trans (zO _ _ _ _ hq))
        · exact H24.out.keep fun p hp=>zS (by
            have hq:p.block≠s:=by have:=(HPs.out _ hp).1;omega
            exact (zO _ _ _ _ hq).trans ((zO _ _ _ _ hq).trans (zO _ _ _ _ hq)))
      · exact ((HB5.out.setCell (p:=⟨s,0,none⟩) (zG _) _).setCell (p:=⟨s,1,none⟩) (zG _) _).setCell (p:=⟨s,2,none⟩) (zG _) _
    subst h48
    have hR:R=zAE r (kQ (jO d) h.length (left - 1) [] h):=HR.out.symm.trans (aL H0.out HR0.out)
    obtain ⟨RK,hRK⟩:=eV (kQ (jO d) h.length (left - 1) [] h)
    rw [hRK] at hR
    subst hR
    have HRK:=zF hRK
    clear hRK HR HR0
    have ht48:((48:Nat):Int)=48:=rfl
    rw [ht48]
    clear ht48
    obtain ⟨sn,hsn⟩:=eV w2.heap.size
    rw [hsn] at Hsz2 HP2
    have hn3:=zN w2 (.cells #[.int .i64 48,.slice none 0 0,.slice none 0 0] 80)
    rw [hsn] at hn3
    have hB3:Below sn w2 (w2.alloc (.cells #[.int .i64 48,.slice none 0 0,.slice none 0 0] 80)):=(zQ sn w2).alloc (by omega) _
    have hz3:(w2.alloc (.cells #[.int .i64 48,.slice none 0 0,.slice none 0 0] 80)).heap.size=sn+1:=by simp;exact hsn
    have HB3:=zF hB3
    have Hn3:=zF hn3
    have Hz3:=zF hz3
    have Hsn:=zF hsn
    clear hn3 hB3 hz3 hsn
    go_upto_region 10 with fail
    rw [Hsn.out]
    generalize w2.alloc (.cells #[.int .i64 48,.slice none 0 0,.slice none 0 0] 80)=W3 at *
    have Hx3:=zF ((HB3.out.block g (by have:=Hsz2.out;omega)).trans Hx2.out)
    rw [HN.out] at Hx3
    have Hr3:=zF ((HB3.out.block s Hsz2.out).trans Hr2.out)
    have H13:=zF (H1.out.below HB3.out (fun q hq=>(HP2.out q hq).1))
    have H23:=zF (H2.out.below HB3.out (fun q hq=>(HP2.out q hq).1))
    have HB4:=zF (HB2.out.trans (wO (HB3.out.mono (qr Hsz2.out)) g))
    have H20:=zF (H2.out.keep (w':=w) fun p hp=>(HB2.out.cell (HPs.out _ hp).1 (HPs.out _ hp).2).symm)
    have Hl2:=zF (show left - 1+0≤1024 by have:=Hl.out;omega)
    clear HB2 Hx2 Hr2 H1 H2 Hsn HP2 HB3
    go_step3
    go_wp2
    go_loopw [10] (fun v wr=>∃ (h':List Nat) (A':Option Addr) (c':Nat) (acc:List DN) (lf f:Nat) (Ak:Option Addr) (ck:Nat) (cs:List Value),v=.slice A' h'.length c'∧RB wr P A' c' h'∧wr.heap[g]?=some (.cells #[.int .i64 (lf:Int)] 191 (0,0))∧wr.heap[s]?=some (.cells #[.int .i64 0,.slice none 0 0,.slice none 0 0] 80 (0,0))∧wr.heap[sn]?=some (.cells #[.int .i64 48,.slice none 0 0,.slice Ak acc.length ck] 80 (0,0))∧wr.ownsRow (sn+1) 80 3 (.slice Ak acc.length ck) acc.length cs∧RDs wr (Vp sn wr (.slice Ak acc.length ck)) acc cs∧h'.length≤f∧kQ (jO d) f lf acc h'=RK∧lf+acc.length≤1024∧Bb s g w wr∧sn+1≤wr.heap.size) (fun v _=>tB v)
    case atStart =>
      exact ⟨h,A1,c1,[],left - 1,h.length,none,0,[],rfl,H13.out,Hx3.out,Hr3.out,Hn3.out,kV _ _ _ _,by unfold RDs;rfl,zG _,HRK.out,Hl2.out,HB4.out,yY Hz3.out.symm⟩
    case round =>
      obtain ⟨h',A',c',acc,lf,f,Ak,ck,cs,rfl,hb',hx',hr',hn',hown,hds,hf,hK,hla,hB,hsz⟩:=hrel
      have Hb':=zF hb'
      have Hx':=zF hx'
      have Hr':=zF hr'
      have Hn':=zF hn'
      have Hown:=zF hown
      have Hds:=zF hds
      have Hf:=zF hf
      have HK:=zF hK
      have Hla:=zF hla
      have HB:=zF hB
      have Hsz':=zF hsz
      clear hb' hx' hr' hn' hown hds hf hK hla hB hsz H13 Hx3 Hr3 Hn3 HRK HB4 Hz3
      by_cases he:h'=[]
      · subst he
        have hK:=HK.out
        rw [dI] at hK
        subst hK
        have hlen:([]:List Nat).length=0:=rfl
        rw [hlen]
        have m0:=zH Hn'.out 0
        have m1:=zH Hn'.out 1
        have m2:=zH Hn'.out 2
        simp only [zI,zJ,zL] at m0 m1 m2
        have q0:=zH Hr'.out 0
        have q1:=zH Hr'.out 1
        have q2:=zH Hr'.out 2
        have p0:=zp Hr'.out 0
        have p1:=zp Hr'.out 1
        have p2:=zp Hr'.out 2
        simp only [zI,zJ,zL] at q0 q1 q2
        have hs2:=Hsz2.out
        have hg3:=uR Hx'.out (show g≠s by omega) (.int .i64 48) (.slice none 0 0) (.slice Ak acc.length ck)
        have Hg3:=zF hg3
        have r':=wK Hr'.out (.int .i64 48) (.slice none 0 0) (.slice Ak acc.length ck)
        have H2r:=zF (Bb.rb H20.out HB.out (fun q hq=>HPs.out q hq))
        have Hr'':=zF r'
        clear hg3 r' hlen
        go_wp2
        have r':=Hr''.out
        have r0:=zH r' 0
        have r1:=zH r' 1
        have r2:=zH r' 2
        simp only [zI,zJ,zL] at r0 r1 r2
        rw [jV]
        refine qF (v:=.tuple #[.agg #[.int .i64 48,.slice none 0 0,.slice Ak acc.length ck],.slice A2 r.length c2,.bool true]) (by simp [results,Tryz.results153,go_sem,r0,r1,r2]) rfl ⟨?_,?_⟩
        · exact seqP (w:=wr) Hg3.out hs2 (by simp [World.setCell]) (fun q hq=>(zO _ _ _ _ hq).trans ((zO _ _ _ _ hq).trans (zO _ _ _ _ hq))) Hown.out Hds.out (H2r.out.keep fun _ _=>rfl) (fun q hq=>(HPs.out q hq).1)
        · exact ((HB.out.setCell (p:=⟨s,0,none⟩) (zG _) _).setCell (p:=⟨s,1,none⟩) (zG _) _).setCell (p:=⟨s,2,none⟩) (zG _) _
      have hpos:(0:Int)<(h'.length:Int):=by
        have:=List.length_pos_iff.2 he
        omega
      have He:=zF he
      clear he
      obtain ⟨sk,hsk⟩:=eV wr.heap.size
      have hk5:=zN wr (.cells #[.int .i64 0,.slice none 0 0,.slice none 0 0] 80)
      rw [hsk] at hk5
      have hB5:Below sk wr (wr.alloc (.cells #[.int .i64 0,.slice none 0 0,.slice none 0 0] 80)):=(zQ sk wr).alloc (by omega) _
      have hz5:(wr.alloc (.cells #[.int .i64 0,.slice none 0 0,.slice none 0 0] 80)).heap.size=sk+1:=by simp;exact hsk
      have HB5:=zF hB5
      have Hk5:=zF hk5
      have Hz5:=zF hz5
      have Hsk:=zF hsk
      have Hsk2:=zF (show sn+1≤sk by rw [←hsk];exact Hsz'.out)
      clear hk5 hB5 hz5 hsk
      go_upto_region 12 with fail
      rw [Hsk.out]
      generalize wr.alloc (.cells #[.int .i64 0,.slice none 0 0,.slice none 0 0] 80)=W5 at *
      have Hx5:=zF ((HB5.out.block g (by have:=Hsz2.out;have:=Hsk2.out;omega)).trans Hx'.out)
      have Hr5:=zF ((HB5.out.block s (by have:=Hsz2.out;have:=Hsk2.out;omega)).trans Hr'.out)
      have Hn5:=zF ((HB5.out.block sn (by have:=Hsk2.out;omega)).trans Hn'.out)
      have HP5:=zF (show ∀ q,P q→q<W5.heap.size∧q≠g from fun q hq=>⟨by have:=(HPs.out q hq).1;have:=Hz5.out;have:=Hsk2.out;have:=Hsz2.out;omega,(HPs.out q hq).2⟩)
      have Hb5:=zF (Hb'.out.keep (w':=W5) fun p hp=>HB5.out.cell (by have:=(HPs.out _ hp).1;have:=Hsk2.out;have:=Hsz2.out;omega))
      have HB6:=zF (HB.out.trans (wO (HB5.out.mono (show s≤sk by have:=Hsk2.out;have:=Hsz2.out;omega)) g))
      have IH:=zF (ih (z+1) lf g P A' c' h' W5 (by omega) HZ.out (by have:=Hla.out;omega) Hx5.out Hb5.out HP5.out)
      clear Hx' Hr' Hn' Hb' HB
      go_wp2_with fail
      refine IH.out.mono ?_
      rintro e w6 ⟨⟨lf2,hx6,hM⟩,hB6⟩
      have hzz:=Hz5.out
      have hss:=Hsk2.out
      have hs2:=Hsz2.out
      have Hr6:=zF ((hB6.block s (by omega) (by omega)).trans Hr5.out)
      have Hn6:=zF ((hB6.block sn (by omega) (by omega)).trans Hn5.out)
      have Hk6:=zF ((hB6.block sk (by omega) (by omega)).trans Hk5.out)
      have HB7:=zF (HB6.out.trans (hB6.mono (show s≤W5.heap.size by omega)))
      have HB56:=zF hB6
      have Hx6:=zF hx6
      have Hz6:=zF (show sk<w6.heap.size by have:=hB6.size;omega)
      clear hB6 hx6 hzz hss hs2 IH Hx5 Hr5 Hn5 Hb5 HB6
      have q0:=zH Hk6.out 0
      have q1:=zH Hk6.out 1
      have q2:=zH Hk6.out 2
      have p0:=zp Hk6.out 0
      have p1:=zp Hk6.out 1
      have p2:=zp Hk6.out 2
      simp only [zI,zJ,zL] at q0 q1 q2
      obtain ⟨R1,hR1⟩:=eV (jO d lf h')
      rw [hR1] at hM
      have HR1:=zF hR1
      clear hR1
      cases R1 with
      | none =>
        obtain ⟨xi,B1,n1,d1,B2,n2,d2,v2,rfl⟩:=hM
        have hRK:RK=none:=HK.out.symm.trans (oO He.out HR1.out)
        subst hRK
        go_upto_region 13 with fail
        have Hr7:=zF (uR Hr6.out (show s≠sk by have:=Hsk2.out;have:=Hsz2.out;omega) (.int .i64 xi) (.slice B1 n1 d1) (.slice B2 n2 d2))
        have Hx7:=zF (uR Hx6.out (show g≠sk by have:=Hsk2.out;have:=Hsz2.out;omega) (.int .i64 xi) (.slice B1 n1 d1) (.slice B2 n2 d2))
        have HB8:=zF (((HB7.out.setCell (p:=⟨sk,0,none⟩) (by have:=Hsk2.out;have:=Hsz2.out;show s≤sk;omega) (.int .i64 xi)).setCell (p:=⟨sk,1,none⟩) (by have:=Hsk2.out;have:=Hsz2.out;show s≤sk;omega) (.slice B1 n1 d1)).setCell (p:=⟨sk,2,none⟩) (by have:=Hsk2.out;have:=Hsz2.out;show s≤sk;omega) (.slice B2 n2 d2))
        generalize ((w6.setCell ⟨sk,0,none⟩ (.int .i64 xi)).setCell ⟨sk,1,none⟩ (.slice B1 n1 d1)).setCell ⟨sk,2,none⟩ (.slice B2 n2 d2)=W7 at *
        clear q0 q1 q2 p0 p1 p2
        have q0:=zH Hr7.out 0
        have q1:=zH Hr7.out 1
        have q2:=zH Hr7.out 2
        have p0:=zp Hr7.out 0
        have p1:=zp Hr7.out 1
        have p2:=zp Hr7.out 2
        simp only [zI,zJ,zL] at q0 q1 q2
        go_wp2
        have r:=wK Hr7.out (.int .i64 0) (.slice none 0 0) (.slice none 0 0)
        have r0:=zH r 0
        have r1:=zH r 1
        have r2:=zH r 2
        simp only [zI,zJ,zL] at r0 r1 r2
        rw [jV]
        refine qF (v:=.tuple #[.agg #[.int .i64 0,.slice none 0 0,.slice none 0 0],.slice none 0 0,.bool false]) (by simp [results,Tryz.results153,go_sem,r0,r1,r2]) rfl ⟨xY (uR Hx7.out (by have:=Hsz2.out;omega) _ _ _),?_⟩
        exact ((HB8.out.setCell (p:=⟨s,0,none⟩) (zG _) _).setCell (p:=⟨s,1,none⟩) (zG _) _).setCell (p:=⟨s,2,none⟩) (zG _) _
      | some q =>
        obtain ⟨k,r',l'⟩:=q
        obtain ⟨rfl,v,A6,c6,rfl,hRD,hRB⟩:=hM
        obtain ⟨xi,B1,n1,d1,B2,n2,d2,rfl⟩:=hRD.shape
        cases f with
        | zero=>exact absurd (qH (by have:=Hf.out;omega)) He.out
        | succ f =>
        have HK2:=zF ((dH He.out HR1.out).symm.trans HK.out)
        have Hf2:=zF (show r'.length≤f by have:=uO HR1.out;have:=Hf.out;omega)
        have Hla2:=zF (show l'+(acc++[k]).length≤1024 by rw [zk];simp;have:=cF HR1.out;have:=Hla.out;omega)
        have Hal:=zF (show acc.length≤1024 by have:=Hla.out;omega)
        have Hlen:=zF (show tB (.slice A6 r'.length c6)<tB (.slice A' h'.length c') by have:=uO HR1.out;simp only [tB];omega)
        have hwr:=Hsk.out
        have hzz:=Hz5.out
        have hss:=Hsk2.out
        have hs2:=Hsz2.out
        have hz6:=Hz6.out
        go_upto_region 13 with fail
        have Hk7:=zF (wK Hk6.out (.int .i64 xi) (.slice B1 n1 d1) (.slice B2 n2 d2))
        have Hr7:=zF (uR Hr6.out (show s≠sk by omega) (.int .i64 xi) (.slice B1 n1 d1) (.slice B2 n2 d2))
        have Hx7:=zF (uR Hx6.out (show g≠sk by omega) (.int .i64 xi) (.slice B1 n1 d1) (.slice B2 n2 d2))
        have Hn7:=zF (uR Hn6.out (show sn≠sk by omega) (.int .i64 xi) (.slice B1 n1 d1) (.slice B2 n2 d2))
        have Hz7:=zF (show (((w6.setCell ⟨sk,0,none⟩ (.int .i64 xi)).setCell ⟨sk,1,none⟩ (.slice B1 n1 d1)).setCell ⟨sk,2,none⟩ (.slice B2 n2 d2)).heap.size=w6.heap.size by simp [World.setCell])
        have hk7:∀ q,q≠sk→(((w6.setCell ⟨sk,0,none⟩ (.int .i64 xi)).setCell ⟨sk,1,none⟩ (.slice B1 n1 d1)).setCell ⟨sk,2,none⟩ (.slice B2 n2 d2)).heap[q]?=w6.heap[q]?:=fun q hq=>(zO _ _ _ _ hq).trans ((zO _ _ _ _ hq).trans (zO _ _ _ _ hq))
        have hk7':∀ q,q<sk→q≠g→(((w6.setCell ⟨sk,0,none⟩ (.int .i64 xi)).setCell ⟨sk,1,none⟩ (.slice B1 n1 d1)).setCell ⟨sk,2,none⟩ (.slice B2 n2 d2)).heap[q]?=wr.heap[q]?:=fun q hq hqg=>(hk7 q (by omega)).trans ((HB56.out.block q (by omega) hqg).trans (HB5.out.block q hq))
        have HB8:=zF (((HB7.out.setCell (p:=⟨sk,0,none⟩) (by show s≤sk;omega) (.int .i64 xi)).setCell (p:=⟨sk,1,none⟩) (by show s≤sk;omega) (.slice B1 n1 d1)).setCell (p:=⟨sk,2,none⟩) (by show s≤sk;omega) (.slice B2 n2 d2))
        have HRD7:=zF (RD.keep (w':=((w6.setCell ⟨sk,0,none⟩ (.int .i64 xi)).setCell ⟨sk,1,none⟩ (.slice B1 n1 d1)).setCell ⟨sk,2,none⟩ (.slice B2 n2 d2)) (fun p hp=>zS (hk7 _ (by have:=hp.1;omega))) hRD)
        have HRB7:=zF (hRB.keep (w':=((w6.setCell ⟨sk,0,none⟩ (.int .i64 xi)).setCell ⟨sk,1,none⟩ (.slice B1 n1 d1)).setCell ⟨sk,2,none⟩ (.slice B2 n2 d2)) fun p hp=>zS (hk7 _ (by have:=(HPs.out _ hp).1;omega)))
        have Hown7:=zF (mV (w':=((w6.setCell ⟨sk,0,none⟩ (.int .i64 xi)).setCell ⟨sk,1,none⟩ (.slice B1 n1 d1)).setCell ⟨sk,2,none⟩ (.slice B2 n2 d2)) Hown.out fun q h1 h2=>hk7' q (by omega) (by omega))
        have Hds7:=zF (RDs.keep (w':=((w6.setCell ⟨sk,0,none⟩ (.int .i64 xi)).setCell ⟨sk,1,none⟩ (.slice B1 n1 d1)).setCell ⟨sk,2,none⟩ (.slice B2 n2 d2)) (fun p hp=>zS (hk7' _ (by have:=hp.2.1;omega) (by have:=hp.1;omega))) Hds.out)
        have Hlt:=zF (fun q=>pk (q:=q) Hown.out)
        generalize ((w6.setCell ⟨sk,0,none⟩ (.int .i64 xi)).setCell ⟨sk,1,none⟩ (.slice B1 n1 d1)).setCell ⟨sk,2,none⟩ (.slice B2 n2 d2)=W7 at *
        clear hk7 hk7' hRD hRB q0 q1 q2 p0 p1 p2 Hk6 Hr6 Hx6 Hn6 HB7 Hown Hds HK Hf Hla HB56 HB5 Hk5
        clear hwr hzz hss hs2 hz6
        go_upto_region 14 with fail
        have m2:=zH Hn7.out 2
        have k0:=zH Hk7.out 0
        have k1:=zH Hk7.out 1
        have k2:=zH Hk7.out 2
        simp only [zI,zJ,zL] at m2 k0 k1 k2
        obtain ⟨i0,hi,hzr,hzs,hzb⟩:=info_parts oS
        have Hz8:=zF (show (W7.alloc (.cells #[(.int .i64 xi),(.slice B1 n1 d1),(.slice B2 n2 d2)] 80)).heap.size=w6.heap.size+1 by simp;exact Hz7.out)
        have hr8:=jW (w:=W7) (P:=fun _=>True) #[(.int .i64 xi),(.slice B1 n1 d1),(.slice B2 n2 d2)] 80 3 1 rfl (by unfold maxLen;omega) trivial
        have Hown8:=zF (mV (w':=W7.alloc (.cells #[(.int .i64 xi),(.slice B1 n1 d1),(.slice B2 n2 d2)] 80)) Hown7.out fun q h1 h2=>zm _ _ _ h2)
        have hb8:∀ q,q<W7.heap.size→(W7.alloc (.cells #[(.int .i64 xi),(.slice B1 n1 d1),(.slice B2 n2 d2)] 80)).heap[q]?=W7.heap[q]?:=fun q hq=>zm _ _ _ hq
        have Hb8:=zF hb8
        have Hr8:=zF hr8
        clear hb8 hr8
        go_wp2_with (at_builtin;refine qz _ rfl _ _ 78 rfl (sn+1) 80 i0 (.agg #[.int .i64 0,.slice none 0 0,.slice none 0 0]) 3 56 Tryz.underlying78 hi hzr hzs hzb rfl (by decide) _ _ _ rfl Hown8.out (fun _=>True) (some ⟨W7.heap.size,0,none⟩) 1 1 [(.int .i64 xi),(.slice B1 n1 d1),(.slice B2 n2 d2)] rfl Hr8.out (by intro u hu;simp only [List.mem_cons,List.not_mem_nil,or_false] at hu;rcases hu with rfl | rfl | rfl <;> rfl) (acc.length+1) rfl (by have:=Hal.out;unfold maxLen;omega) (by have:=Hal.out;omega) (by have:=Hz8.out;have:=Hz6.out;have:=Hsk2.out;omega) ?_)
        intro A9 c9 w9 hown9 hgrow9 hor9
        have hss:=Hsk2.out
        have hs2:=Hsz2.out
        have hz6:=Hz6.out
        have hz8:=Hz8.out
        have hwr:=Hsk.out
        have hzz:=Hz5.out
        have hlt:=Hlt.out
        have hz7:=Hz7.out
        have hne:∀ q,q<sn+1→some q≠(Value.slice Ak acc.length ck).ownBlock:=fun q hq e=>by have:=(hlt q e.symm).1;omega
        have h9:∀ q,q<W7.heap.size→some q≠(Value.slice Ak acc.length ck).ownBlock→w9.heap[q]?=W7.heap[q]?:=fun q hq hqo=>(hgrow9.block q (by rw [hz8];omega) hqo).trans (Hb8.out q hq)
        have hz9:=hgrow9.size
        have Hn9:=zF ((h9 sn (by omega) (hne _ (by omega))).trans Hn7.out)
        have Hx9:=zF ((h9 g (by omega) (hne _ (by omega))).trans Hx7.out)
        have Hr9:=zF ((h9 s (by omega) (hne _ (by omega))).trans Hr7.out)
        have HRB9:=zF (HRB7.out.keep (w':=w9) fun p hp=>zS (h9 _ (by have:=(HPs.out _ hp).1;omega) (hne _ (by have:=(HPs.out _ hp).1;omega))))
        have hkk:∀ q,In W5.heap.size w6.heap.size q→q<W7.heap.size∧some q≠(Value.slice Ak acc.length ck).ownBlock:=fun q hq=>⟨by have:=hq.2;omega,fun e=>by have:=(hlt q e.symm).2;have:=hq.1;omega⟩
        have Hds9:=zF (RDs.snoc (RD.mono (P':=Vp sn w9 (.slice A9 (acc.length+1) c9)) (fun q hq=>⟨by have:=hq.1;omega,by have:=hq.2;omega,fun e=>by
            rcases hor9 with h | h
            · exact (hkk q hq).2 (e.trans h)
            · rw [h] at e;injection e with e;have:=hq.2;omega⟩) (RD.keep (w':=w9) (fun p hp=>zS (h9 _ (hkk _ hp).1 (hkk _ hp).2)) HRD7.out))
          (RDs.mono (P':=Vp sn w9 (.slice A9 (acc.length+1) c9)) (fun q hq=>⟨hq.1,by have:=hq.2.1;omega,fun e=>by
            rcases hor9 with h | h
            · exact hq.2.2 (e.trans h)
            · rw [h] at e;injection e with e;have:=hq.2.1;omega⟩) (RDs.keep (w':=w9) (fun p hp=>zS (h9 _ (by have:=hp.2.1;omega) hp.2.2)) Hds7.out)))
        have HB9:=zF (HB8.out.trans (wO (⟨hgrow9.os,hgrow9.tape,hgrow9.output,by omega,fun q hq=>h9 q (by omega) (hne _ (by omega))⟩:Below s W7 w9) g))
        have Hsz9:=zF (show sn+1≤w9.heap.size by omega)
        have Hown9:=zF hown9
        clear hown9 hgrow9 hor9 hss hs2 hz6 hz8 hwr hzz hlt hz7 hne h9 hz9 hkk HRB7 HRD7 Hds7 Hown7 Hown8 Hr8 Hb8 HB8 Hr7 Hx7 Hn7 m2 k0 k1 k2 Hk7 Hz7 Hz8 Hlt
        have n0:=zH Hn9.out 0
        have n1':=zH Hn9.out 1
        have n2':=zH Hn9.out 2
        have f2:=zp Hn9.out 2
        simp only [zI,zJ,zL] at n0 n1' n2'
        have hst:∀ q,q≠sn→(w9.setCell ⟨sn,2,none⟩ (.slice A9 (acc.length+1) c9)).heap[q]?=w9.heap[q]?:=fun q hq=>zO _ _ _ _ hq
        have Hst:=zF hst
        have Hz10:=zF (show (w9.setCell ⟨sn,2,none⟩ (.slice A9 (acc.length+1) c9)).heap.size=w9.heap.size by simp [World.setCell])
        have Hn10:=zF (show (w9.setCell ⟨sn,2,none⟩ (.slice A9 (acc.length+1) c9)).heap[sn]?=some (.cells #[.int .i64 48,.slice none 0 0,.slice A9 (acc.length+1) c9] 80 (0,0)) by simpa using mB Hn9.out 2 (.slice A9 (acc.length+1) c9))
        have Hal2:=zF (show (acc++[k]).length=acc.length+1 by simp)
        clear hst
        go_wp2
        go_roundw
        case rel =>
          have hs2:=Hsz2.out
          refine ⟨r',A6,c6,acc++[k],l',f,A9,c9,cs++[.int .i64 xi,.slice B1 n1 d1,.slice B2 n2 d2],rfl,HRB9.out.keep (fun p hp=>zS (Hst.out _ (by have:=(HPs.out _ hp).1;omega))),(Hst.out g (by omega)).trans Hx9.out,(Hst.out s (by omega)).trans Hr9.out,?_,?_,?_,Hf2.out,HK2.out,Hla2.out,HB9.out.setCell (by show s≤sn;omega) _,by rw [Hz10.out];exact Hsz9.out⟩
          · rw [Hal2.out];exact Hn10.out
          · rw [Hal2.out];exact mV Hown9.out fun q h1 h2=>Hst.out q (by omega)
          · rw [Hal2.out]
            exact RDs.mono (fun q hq=>⟨hq.1,by rw [Hz10.out];exact hq.2.1,hq.2.2⟩) (RDs.keep (fun p hp=>zS (Hst.out _ (by have:=hp.1;omega))) Hds9.out)
        case measure=>exact Hlen.out
def vD (b:List Nat):Option (DN×Nat) :=
 match jO 16 1024 b with
 | none=>none
 | some (t,r,_)=>if 65536<b.length - r.length then none else some (t,b.length - r.length)
def sC (R:Option (DN×Nat)) (s:Nat) (e:Ending) (w':World):Prop :=
 match R with
 | none=>e=.returned (.tuple #[.agg #[.int .i64 0,.slice none 0 0,.slice none 0 0],.int .i64 0,.bool false])
 | some (t,n)=>∃ v,e=.returned (.tuple #[v,.int .i64 (n:Int),.bool true])∧RD w' (In s w'.heap.size) t v
theorem td {w:World} {s:Nat} {t:TypeId} {a b c:Value} (h:w.heap[s]?=some (.cells #[a,b,c] t (0,0))) (u v x:Value) (o:Obj):((((w.setCell ⟨s,0,none⟩ u).setCell ⟨s,1,none⟩ v).setCell ⟨s,2,none⟩ x).alloc o).heap[s]?=some (.cells #[u,v,x] t (0,0)) :=
 (zm _ _ _ (ql (wK h u v x))).trans (wK h u v x)
theorem au (P:Nat→Prop) (A:Option Addr) (c:Nat) (b:List Nat) (w:World) (hb:RB w P A c b) (hP:∀ q,P q→q<w.heap.size) :
    Calls Tryz.prog 112 #[.slice A b.length c] w fun e w'=>sC (vD b) w.heap.size e w'∧Below w.heap.size w w':=by
  obtain ⟨R,hR⟩:=eV (vD b)
  rw [hR]
  obtain ⟨hlc,hc,hl⟩:=hb.cap
  have hB:=((zQ w.heap.size w).alloc (zG _) (.cells #[.int .i64 0,.slice none 0 0,.slice none 0 0] 80)).alloc (by simp) (.cells #[.int .i64 1024] 191)
  have h0:=(zm (w.alloc (.cells #[.int .i64 0,.slice none 0 0,.slice none 0 0] 80)) (.cells #[.int .i64 1024] 191) w.heap.size (by simp)).trans (zN w _)
  have h1:=zN (w.alloc (.cells #[.int .i64 0,.slice none 0 0,.slice none 0 0] 80)) (.cells #[.int .i64 1024] 191)
  rw [zu] at h1
  have hz:((w.alloc (.cells #[.int .i64 0,.slice none 0 0,.slice none 0 0] 80)).alloc (.cells #[.int .i64 1024] 191)).heap.size=w.heap.size+2:=by simp
  have hb1:=hb.below hB hP
  have HB:=zF hB
  have H0:=zF h0
  have H1:=zF h1
  have Hz:=zF hz
  have Hb1:=zF hb1
  have HR:=zF hR
  clear hB h0 h1 hz hb1 hR hb
  go_enter Tryz.func112,Tryz.ntmps112
  go_wp2_with fail
  obtain ⟨s,hs⟩:=eV w.heap.size
  rw [hs] at HB H0 H1 Hz ⊢
  have Hs:=zF hs
  clear hs
  generalize (w.alloc (.cells #[.int .i64 0,.slice none 0 0,.slice none 0 0] 80)).alloc (.cells #[.int .i64 1024] 191)=W1 at *
  have HP:=zF (show ∀ q,P q→q<s from fun q hq=>by have:=hP q hq;have:=Hs.out;omega)
  clear hP
  refine (pz 16 0 1024 (s+1) P A c b W1 (by omega) (by omega) (by omega) H1.out Hb1.out (fun q hq=>by have:=HP.out q hq;have:=Hz.out;exact ⟨by omega,by omega⟩)).mono ?_
  obtain ⟨R0,hR0⟩:=eV (jO 16 1024 b)
  rw [hR0]
  have HR0:=zF hR0
  clear hR0
  rintro e w2 ⟨⟨lf,-,hN⟩,hB2⟩
  have h2:=(hB2.block s (by have:=Hz.out;omega) (by omega)).trans H0.out
  have hB3:Below s w w2:=HB.out.trans ⟨hB2.os,hB2.tape,hB2.output,hB2.size,fun q hq=>hB2.block q (by have:=Hz.out;omega) (by omega)⟩
  have H2:=zF h2
  have HB3:=zF hB3
  have Hlt:=zF (show s+2≤w2.heap.size by have:=Hz.out;have:=hB2.size;omega)
  clear h2 hB3 hB2 H0 H1 HB
  cases R0 with
  | none =>
    obtain ⟨xi,B1,n1,d1,B2,n2,d2,v2,rfl⟩:=hN
    have hR:R=none:=by rw [←HR.out];unfold vD;rw [HR0.out]
    subst hR
    have hn2:=(zm w2 (.cells #[.int .i64 xi,.slice B1 n1 d1,.slice B2 n2 d2] 80) s (by have:=Hlt.out;omega)).trans H2.out
    have HB4:=zF (HB3.out.alloc (by have:=Hlt.out;omega) (.cells #[.int .i64 xi,.slice B1 n1 d1,.slice B2 n2 d2] 80))
    go_upto_region 3 with fail
    have q0:=zH hn2 0
    have q1:=zH hn2 1
    have q2:=zH hn2 2
    have p0:=zp hn2 0
    have p1:=zp hn2 1
    have p2:=zp hn2 2
    simp only [zI,zJ,zL] at q0 q1 q2
    generalize w2.alloc (.cells #[.int .i64 xi,.slice B1 n1 d1,.slice B2 n2 d2] 80)=W4 at *
    go_wp2
    have r:=wK hn2 (.int .i64 0) (.slice none 0 0) (.slice none 0 0)
    have r0:=zH r 0
    have r1:=zH r 1
    have r2:=zH r 2
    simp only [zI,zJ,zL] at r0 r1 r2
    refine qF (v:=.tuple #[.agg #[.int .i64 0,.slice none 0 0,.slice none 0 0],.int .i64 0,.bool false]) (by simp [results,Tryz.results112,go_sem,r0,r1,r2]) rfl ⟨rfl,?_⟩
    rw [Hs.out]
    exact ((HB4.out.setCell (p:=⟨s,0,none⟩) (zG _) _).setCell (p:=⟨s,1,none⟩) (zG _) _).setCell (p:=⟨s,2,none⟩) (zG _) _
  | some q =>
    obtain ⟨t,r,l⟩:=q
    obtain ⟨-,v,A6,c6,rfl,hRD,-⟩:=hN
    obtain ⟨xi,B1,n1,d1,B2,n2,d2,rfl⟩:=hRD.shape
    have hn2:=(zm w2 (.cells #[.int .i64 xi,.slice B1 n1 d1,.slice B2 n2 d2] 80) s (by have:=Hlt.out;omega)).trans H2.out
    have hk4:=zN w2 (.cells #[.int .i64 xi,.slice B1 n1 d1,.slice B2 n2 d2] 80)
    have HB4:=zF (HB3.out.alloc (by have:=Hlt.out;omega) (.cells #[.int .i64 xi,.slice B1 n1 d1,.slice B2 n2 d2] 80))
    have HRD4:=zF (RD.keep (w':=w2.alloc (.cells #[.int .i64 xi,.slice B1 n1 d1,.slice B2 n2 d2] 80)) (fun p hp=>zS (zm _ _ _ hp.2)) hRD)
    have Hz4:=zF (show (w2.alloc (.cells #[.int .i64 xi,.slice B1 n1 d1,.slice B2 n2 d2] 80)).heap.size=w2.heap.size+1 by simp)
    have Hln:=zF (uO HR0.out)
    have HR2:Hid (R=if 65536<b.length - r.length then none else some (t,b.length - r.length)):=zF (by rw [←HR.out];unfold vD;rw [HR0.out])
    obtain ⟨N,hN⟩:=eV b.length
    obtain ⟨M,hM⟩:=eV r.length
    rw [hN] at hlc hl ⊢
    rw [hN,hM] at Hln HR2
    rw [hM]
    clear hRD HR HR0 hN hM
    have k1:IntKind.i64.wrap ((N:Int) - (M:Int))=(N:Int) - (M:Int):=by have:=Hln.out;rw [qm];omega
    have g0:(0:Int)≤(N:Int) - (M:Int):=by have:=Hln.out;omega
    go_upto_region 3 with fail
    obtain ⟨s4,hs4⟩:=eV w2.heap.size
    rw [hs4] at hk4 Hz4 Hlt HRD4 ⊢
    clear hs4
    generalize w2.alloc (.cells #[.int .i64 xi,.slice B1 n1 d1,.slice B2 n2 d2] 80)=W4 at *
    have q0:=zH hn2 0
    have q1:=zH hn2 1
    have q2:=zH hn2 2
    have p0:=zp hn2 0
    have p1:=zp hn2 1
    have p2:=zp hn2 2
    simp only [zI,zJ,zL] at q0 q1 q2
    by_cases h6:65536<N - M
    · have hR:R=none:=HR2.out.trans (qE h6)
      subst hR
      have k2:(65536:Int)<(N:Int) - (M:Int):=by omega
      go_wp2
      have r:=wK hn2 (.int .i64 0) (.slice none 0 0) (.slice none 0 0)
      have r0:=zH r 0
      have r1:=zH r 1
      have r2:=zH r 2
      simp only [zI,zJ,zL] at r0 r1 r2
      refine qF (v:=.tuple #[.agg #[.int .i64 0,.slice none 0 0,.slice none 0 0],.int .i64 0,.bool false]) (by simp [results,Tryz.results112,go_sem,r0,r1,r2]) rfl ⟨rfl,?_⟩
      rw [Hs.out]
      exact ((HB4.out.setCell (p:=⟨s,0,none⟩) (zG _) _).setCell (p:=⟨s,1,none⟩) (zG _) _).setCell (p:=⟨s,2,none⟩) (zG _) _
    · have hR:R=some (t,N - M):=HR2.out.trans (zr h6)
      subst hR
      have k2:¬ (65536:Int)<(N:Int) - (M:Int):=by omega
      have m0:=zH hk4 0
      have m1:=zH hk4 1
      have m2:=zH hk4 2
      simp only [zI,zJ,zL] at m0 m1 m2
      have Hk:=zF (show ((N:Int) - (M:Int))=((N - M:Nat):Int) by have:=Hln.out;omega)
      have Hset:=zF (wK hn2 (.int .i64 xi) (.slice B1 n1 d1) (.slice B2 n2 d2))
      clear hn2 hk4
      go_wp2
      have r:=Hset.out
      have r0:=zH r 0
      have r1:=zH r 1
      have r2:=zH r 2
      simp only [zI,zJ,zL] at r0 r1 r2
      refine qF (v:=.tuple #[.agg #[.int .i64 xi,.slice B1 n1 d1,.slice B2 n2 d2],.int .i64 ((N:Int) - (M:Int)),.bool true]) (by simp [results,Tryz.results112,go_sem,r0,r1,r2]) rfl ⟨⟨_,by rw [Hk.out],?_⟩,?_⟩
      · rw [Hs.out];exact RD.mono (P:=In W1.heap.size s4) (fun q hq=>⟨by have:=hq.1;have:=Hz.out;omega,by have:=hq.2;have:=Hz4.out;simp [World.setCell];omega⟩) (RD.keep (fun p hp=>zS (have hq:p.block≠s:=by have:=hp.1;have:=Hz.out;omega
          (zO _ _ _ _ hq).trans ((zO _ _ _ _ hq).trans (zO _ _ _ _ hq)))) HRD4.out)
      · rw [Hs.out];exact ((HB4.out.setCell (p:=⟨s,0,none⟩) (zG _) _).setCell (p:=⟨s,1,none⟩) (zG _) _).setCell (p:=⟨s,2,none⟩) (zG _) _
def nC (R:Option (DN×Nat)) (N s:Nat) (e:Ending) (w':World):Prop :=
 match R with
 | none=>e=.returned (.tuple #[.agg #[.int .i64 0,.slice none 0 0,.slice none 0 0],.bool false])
 | some (t,n)=>∃ v,e=.returned (.tuple #[v,.bool (n==N)])∧RD w' (In s w'.heap.size) t v
theorem cN (P:Nat→Prop) (A:Option Addr) (c:Nat) (b:List Nat) (w:World) (hb:RB w P A c b) (hP:∀ q,P q→q<w.heap.size) :
    Calls Tryz.prog 68 #[.slice A b.length c] w fun e w'=>nC (vD b) b.length w.heap.size e w'∧Below w.heap.size w w':=by
  have hB:=(zQ w.heap.size w).alloc (zG _) (.cells #[.int .i64 0,.slice none 0 0,.slice none 0 0] 80)
  have h0:=zN w (.cells #[.int .i64 0,.slice none 0 0,.slice none 0 0] 80)
  have hz:(w.alloc (.cells #[.int .i64 0,.slice none 0 0,.slice none 0 0] 80)).heap.size=w.heap.size+1:=by simp
  have hb1:=hb.below hB hP
  have HC:=zF (au P A c b _ hb1 (fun q hq=>by have:=hP q hq;omega))
  obtain ⟨R,hR⟩:=eV (vD b)
  rw [hR] at HC ⊢
  have HB:=zF hB
  have H0:=zF h0
  have Hz:=zF hz
  obtain ⟨N,hN⟩:=eV b.length
  rw [hN] at HC ⊢
  clear hB h0 hz hb1 hb hR hN
  go_enter Tryz.func68,Tryz.ntmps68
  go_wp2_with fail
  obtain ⟨s,hs⟩:=eV w.heap.size
  rw [hs] at HB H0 Hz ⊢
  have Hs:=zF hs
  clear hs
  refine HC.out.mono ?_
  clear HC
  generalize w.alloc (.cells #[.int .i64 0,.slice none 0 0,.slice none 0 0] 80)=W1 at *
  rintro e w2 ⟨hRd,hB2⟩
  have h2:=(hB2.block s (by have:=Hz.out;omega)).trans H0.out
  have hlt:s<w2.heap.size:=by have:=Hz.out;have:=hB2.size;omega
  have HB3:=zF (HB.out.trans (hB2.mono (by have:=Hz.out;omega)))
  have H2:=zF h2
  have Hlt:=zF hlt
  clear h2 hB2 H0 hlt
  cases R with
  | none =>
    unfold sC at hRd
    subst hRd
    have hn2:=(zm w2 (.cells #[.int .i64 0,.slice none 0 0,.slice none 0 0] 80) s Hlt.out).trans H2.out
    have hk4:=zN w2 (.cells #[.int .i64 0,.slice none 0 0,.slice none 0 0] 80)
    have HB4:=zF (HB3.out.alloc (qr Hlt.out) (.cells #[.int .i64 0,.slice none 0 0,.slice none 0 0] 80))
    go_upto_region 2 with fail
    generalize w2.alloc (.cells #[.int .i64 0,.slice none 0 0,.slice none 0 0] 80)=W4 at *
    obtain ⟨s4,hs4⟩:=eV w2.heap.size
    rw [hs4] at hk4 Hlt ⊢
    clear hs4
    have m0:=zH hk4 0
    have m1:=zH hk4 1
    have m2:=zH hk4 2
    simp only [zI,zJ,zL] at m0 m1 m2
    have q0:=zH hn2 0
    have q1:=zH hn2 1
    have q2:=zH hn2 2
    have p0:=zp hn2 0
    have p1:=zp hn2 1
    have p2:=zp hn2 2
    simp only [zI,zJ,zL] at q0 q1 q2
    have Hset:=zF (wK hn2 (.int .i64 0) (.slice none 0 0) (.slice none 0 0))
    clear hn2 hk4
    go_wp2
    have r:=Hset.out
    have r0:=zH r 0
    have r1:=zH r 1
    have r2:=zH r 2
    simp only [zI,zJ,zL] at r0 r1 r2
    refine qF (v:=.tuple #[.agg #[.int .i64 0,.slice none 0 0,.slice none 0 0],.bool false]) (by simp [results,Tryz.results68,go_sem,r0,r1,r2]) rfl ⟨rfl,?_⟩
    rw [Hs.out]
    exact ((HB4.out.setCell (p:=⟨s,0,none⟩) (zG _) _).setCell (p:=⟨s,1,none⟩) (zG _) _).setCell (p:=⟨s,2,none⟩) (zG _) _
  | some q =>
    obtain ⟨t,n⟩:=q
    unfold sC at hRd
    obtain ⟨v,rfl,hRD⟩:=hRd
    obtain ⟨xi,B1,n1,d1,B2,n2,d2,rfl⟩:=hRD.shape
    have hn2:=(zm w2 (.cells #[.int .i64 xi,.slice B1 n1 d1,.slice B2 n2 d2] 80) s Hlt.out).trans H2.out
    have hk4:=zN w2 (.cells #[.int .i64 xi,.slice B1 n1 d1,.slice B2 n2 d2] 80)
    have HB4:=zF (HB3.out.alloc (qr Hlt.out) (.cells #[.int .i64 xi,.slice B1 n1 d1,.slice B2 n2 d2] 80))
    have HRD4:=zF (RD.keep (w':=w2.alloc (.cells #[.int .i64 xi,.slice B1 n1 d1,.slice B2 n2 d2] 80)) (fun p hp=>zS (zm _ _ _ hp.2)) hRD)
    have Hz4:=zF (show (w2.alloc (.cells #[.int .i64 xi,.slice B1 n1 d1,.slice B2 n2 d2] 80)).heap.size=w2.heap.size+1 by simp)
    clear hRD
    go_upto_region 2 with fail
    obtain ⟨s4,hs4⟩:=eV w2.heap.size
    rw [hs4] at hk4 Hz4 Hlt HRD4 ⊢
    clear hs4
    generalize w2.alloc (.cells #[.int .i64 xi,.slice B1 n1 d1,.slice B2 n2 d2] 80)=W4 at *
    have m0:=zH hk4 0
    have m1:=zH hk4 1
    have m2:=zH hk4 2
    simp only [zI,zJ,zL] at m0 m1 m2
    have q0:=zH hn2 0
    have q1:=zH hn2 1
    have q2:=zH hn2 2
    have p0:=zp hn2 0
    have p1:=zp hn2 1
    have p2:=zp hn2 2
    simp only [zI,zJ,zL] at q0 q1 q2
    have Hset:=zF (wK hn2 (.int .i64 xi) (.slice B1 n1 d1) (.slice B2 n2 d2))
    obtain ⟨bb,hbb⟩:∃ bb,(n==N)=bb:=⟨_,rfl⟩
    have hbi:((n:Int)==(N:Int))=bb:=by rw [←hbb,Bool.eq_iff_iff];simp;omega
    have Hbb:=zF hbb
    clear hn2 hk4 hbb
    go_wp2
    have r:=Hset.out
    have r0:=zH r 0
    have r1:=zH r 1
    have r2:=zH r 2
    simp only [zI,zJ,zL] at r0 r1 r2
    refine qF (v:=.tuple #[.agg #[.int .i64 xi,.slice B1 n1 d1,.slice B2 n2 d2],.bool bb]) (by simp [results,Tryz.results68,go_sem,r0,r1,r2]) rfl ⟨⟨_,by rw [Hbb.out],?_⟩,?_⟩
    · rw [Hs.out]
      exact RD.mono (P:=In W1.heap.size s4) (fun q hq=>⟨by have:=hq.1;have:=Hz.out;omega,by have:=hq.2;have:=Hz4.out;simp [World.setCell];omega⟩) (RD.keep (fun p hp=>zS (have hq:p.block≠s:=by have:=hp.1;have:=Hz.out;omega
          (zO _ _ _ _ hq).trans ((zO _ _ _ _ hq).trans (zO _ _ _ _ hq)))) HRD4.out)
    · rw [Hs.out]
      exact ((HB4.out.setCell (p:=⟨s,0,none⟩) (zG _) _).setCell (p:=⟨s,1,none⟩) (zG _) _).setCell (p:=⟨s,2,none⟩) (zG _) _
def up7:Nat→Nat→List Nat→List Nat
 | 0,_,out=>out
 | f+1,n,out=>if n=0 then out else up7 f (n / 128) ((128+n % 128) :: out)
def yU (n:Nat):List Nat:=up7 9 (n / 128) [n % 128]
def wU (l:List Int):List Nat:=yU (40*(l.getD 0 0).toNat+(l.getD 1 0).toNat)++((l.drop 2).flatMap fun z=>yU z.toNat)
theorem nF:∀ (f n:Nat) (out:List Nat),(up7 f n out).length≤out.length+f
  | 0,_,_=>zG _
  | f + 1, n, out => by
    rw [up7]
    split
    · omega
    · have:=nF f (n / 128) ((128+n % 128) :: out)
      simp at this;omega
theorem mD (n:Nat):(yU n).length≤10:=by
 have:=nF 9 (n / 128) [n % 128]
 simpa [yU] using this
theorem zAK (x:Nat):bits .or .i64 ((x:Int) % 128) 128=((128+x % 128:Nat):Int):=by
 have h1:(BitVec.ofInt 64 ((x:Int) % 128)).toNat=x % 128:=by
  rw [show (x:Int) % 128=((x % 128:Nat):Int) by omega,BitVec.ofInt_natCast,BitVec.toNat_ofNat];exact qJ (by omega)
 have h2:(BitVec.ofInt 64 (128:Int)).toNat=128:=by decide
 have h3:x % 128 ||| 128=128+x % 128:=by
  have:=Nat.shiftLeft_add_eq_or_of_lt (b:=x % 128) (i:=7) (by omega) 1
  rw [Nat.shiftLeft_eq] at this
  rw [Nat.or_comm];rw [←this]
 show IntKind.i64.wrap ((BitVec.ofInt 64 ((x:Int) % 128) ||| BitVec.ofInt 64 (128:Int)).toNat:Int)=_
 rw [BitVec.toNat_or,h1,h2,h3,qm]
 omega
theorem ni (z:Int):∃ b:Nat,b<256∧z % 256=(b:Int):=⟨(z % 256).toNat,by omega,by omega⟩
theorem j6 {w:World} {base b':Nat} {A:Option Addr} {c:Nat} {bs:List Nat} (h:OW w base A c bs) (hb:b'≤base):OW w b' A c bs:=by
 obtain ⟨⟨h1,h2⟩,h3⟩:=h
 refine ⟨⟨h1,?_⟩,h3⟩
 rcases h2 with h2 | ⟨g,cap,cur,e,hg,r⟩
 · exact .inl h2
 · exact .inr ⟨g,cap,cur,e,by omega,r⟩
theorem dQ (n:Nat) (w:World) (hn:n<268435456) :
 Calls Tryz.prog 177 #[.int .i64 n] w fun e w'=>∃ A c,e=.returned (.slice A (yU n).length c)∧OW w' w.heap.size A c (yU n)∧Below w.heap.size w w':=by
 obtain ⟨R,hR⟩:=eV (yU n)
 rw [hR]
 have HR:=zF hR
 clear hR
 obtain ⟨b0,hb0,he0⟩:=ni (bits .and .i64 (n:Int) 127)
 have Hb0:=zF (show b0=n % 128 by rw [i64_and127] at he0;omega)
 have hO:=zF (xB w b0 hb0)
 go_enter Tryz.func177,Tryz.ntmps177
 go_wp2
 go_loopw [0,3] (fun v s wr=>∃ (x:Nat) (A:Option Addr) (c:Nat) (bs:List Nat),v=.int .i64 (x:Int)∧s=.slice A bs.length c∧OW wr w.heap.size A c bs∧0<bs.length∧bs.length≤10∧x<128 ^ (10 - bs.length)∧up7 (10 - bs.length) x bs=R∧Below w.heap.size w wr) (fun v _ _=>(intOf v).toNat)
 case atStart=>exact ⟨n / 128,_,1,[b0],by simp,rfl,hO.out,by simp,by simp,by simp;omega,by rw [Hb0.out];exact HR.out,(zQ _ w).alloc (zG _) _⟩
 case round =>
  clear hO he0 hb0
  obtain ⟨x,A,c,bs,rfl,rfl,hO,h0,hl,hx,hup,hB⟩:=hrel
  have HUp:=zF hup
  clear hup
  by_cases hx0:0<x
  · obtain ⟨b,hb,hbe⟩:=ni (bits .or .i64 (bits .and .i64 (x:Int) 127) 128)
    have Hbe:=zF (show b=128+x % 128 by rw [i64_and127,zAK x] at hbe;omega)
    have hl9:bs.length≤9:=by
     rcases qB 9 bs.length with h | h
     · have:bs.length=10:=by omega
       rw [this] at hx
       simp at hx
       omega
     · exact h
    have hx':x / 128<128 ^ (10 - (bs.length+1)):=by
     rw [show 10 - bs.length=10 - (bs.length+1)+1 by omega,zv] at hx
     exact qP (by rw [zh];exact hx)
    have HX:=zF hx'
    have HUp2:=zF (show up7 (10 - (bs.length+1)) (x / 128) (b :: bs)=R by rw [Hbe.out,←HUp.out,show 10 - bs.length=10 - (bs.length+1)+1 by omega,up7,zr (by omega)])
    have hs:=hB.size
    have HO:=zF (xB wr b hb)
    have HR:=zF ((hO.rb (by omega)).below ((zQ _ wr).alloc (zG _) (.cells #[.int .u8 (b:Int)] 5)) fun q hq=>hq.2)
    have hi:(0:Int)<(x:Int):=by omega
    clear hx hx' hO
    go_wp2_with (at_builtin;refine wf rfl (.tmp 18) (.tmp 19) rfl wr.heap.size (bs:=[b]) rfl HO.out rfl HR.out (by simp;omega) (by simp) ?_;intro A2 c2 w2 hw2 hb2)
    have HB:=zF ((hB.alloc hs (.cells #[.int .u8 (b:Int)] 5)).trans (hb2.mono hs))
    go_roundw
    case rel=>exact ⟨x / 128,A2,c2,b :: bs,by simp,rfl,j6 hw2 hs,by simp,by simp;omega,by simpa using HX.out,by simpa using HUp2.out,HB.out⟩
    case measure=>simp [intOf];omega
  · have hx0':x=0:=by omega
    subst hx0'
    go_wp2
    go_ret
    have hRb:bs=R:=by rw [←HUp.out];cases 10 - bs.length <;> simp [up7]
    subst hRb
    exact ⟨A,c,rfl,hO,hB⟩
def RZ (w:World) (P:Nat→Prop) (A:Option Addr) (c:Nat) (l:List Int):Prop:=RS w P 1 A l.length c (l.map fun x=>.int .i64 x)
theorem RZ.keep {w w':World} {P:Nat→Prop} {A:Option Addr} {c:Nat} {l:List Int} (h:RZ w P A c l) (hk:∀ p:Addr,P p.block→w'.cell? p=w.cell? p):RZ w' P A c l:=RS.keep h hk
theorem RZ.below {w w':World} {P:Nat→Prop} {A:Option Addr} {c:Nat} {l:List Int} {B:Nat} (h:RZ w P A c l) (hb:Below B w w') (hB:∀ b,P b→b<B):RZ w' P A c l:=RS.below h hb hB
theorem RZ.at_ {w:World} {P:Nat→Prop} {A:Option Addr} {c:Nat} {l:List Int} (h:RZ w P A c l) {i:Nat} (hi:i<l.length):∃ ad,A=some ad∧P ad.block∧w.cell? (ad.add i)=some (.int .i64 (l.getD i 0)):=by
 obtain ⟨h1,h2,h3,h4⟩:=h
 obtain ⟨ad,rfl,hb,hc⟩:=h4 (by omega)
 exact ⟨ad,rfl,hb,hc _ _ (by simp [qK hi])⟩
end Go.Proofs.YtmlbicgpehchhaaGreat.Der
namespace Go.Proofs.YtmlbicgpehchhaaGreat
open Go
namespace Par
def wi (o:Oper):Bool:=match o.op with | .defer _=>false | _=>true
theorem bM {o:Oper} (h:wi o=true) (c:Call):o.op≠.defer c:=fun e=>by simp [wi,e] at h
def cI (Q:Exit→Act→World→Prop):Exit→Act→World→Prop:=fun e a w=>e≠.outgrown∧Q e a w
section
variable {P:Program} {ops:Array Oper} {Q:Exit→Act→World→Prop} {md:Region.Mode} {l n:Nat}
theorem aK:¬ LetsOut (cI Q):=fun ⟨_,_,h,_⟩=>h rfl
theorem mW {o:Oper} {a:Act} {w:World} {K:Act→World→Prop} (hd:wi o=true) (hh:o.wp P a w K Q):o.wpIn (Fence.wide.inRound l) n P a w K Q:=by
  refine ⟨fun _ _=>trivial,?_⟩
  rw [Oper.semAt_eq _ _ _ (bM hd)]
  unfold Oper.wp at hh
  generalize (execOp a.eval o).run P w=r at *
  cases r with
  | ok x w' =>
    cases x <;> simp only [Oper.upon,Oper.uponIn] at hh ⊢
    case enter f args=>exact ⟨(fun h=>by cases h),(callsIn_wide (n:=n - 1)).2 hh⟩
    case row r args=>exact ⟨(fun h=>by cases h),fun c cs _=>let ⟨v,w'',r,s⟩:=hh c cs;⟨v,w'',r,stepsIn_wide.2 s⟩⟩
    all_goals first | exact hh | exact hh.elim
  | halt x w'=>cases x <;> simp only [Oper.upon,Oper.uponIn] at hh ⊢ <;> exact hh
theorem aH (hd:∀ (i:Nat) o,ops[i]?=some o→wi o=true) (hq:¬ LetsOut Q) {i:Nat} {K K':Act→World→Prop} (hK:∀ a w,K a w→K' a w) {a:Act} {w:World} (hh:wpOp P ops Q i K a w) :
 wpOpIn (Fence.wide.inRound l) n P ops Q i K' a w:=by
 unfold wpOp at hh
 unfold wpOpIn
 split
 · rename_i h
   simp only [h] at hh
   exact hK _ _ hh
 · rename_i o h
   simp only [h] at hh
   split
   · rename_i hw
     simp only [hw,if_true] at hh
     rcases hh with hh | hh
     · exact Oper.wpIn_mono hK (mW (hd _ _ h) hh)
     · exact absurd hh.2 hq
   · rename_i hw
     simp only [hw] at hh
     exact ⟨fun _ _=>trivial,hK _ _ hh⟩
theorem bA (hd:∀ (i:Nat) o,ops[i]?=some o→wi o=true) (hq:¬ LetsOut Q):∀ (fuel:Nat) (listed:Array Bool) (a:Act) (w:World),wpAny P md ops Q fuel listed a w→wpAnyIn (Fence.wide.inRound l) n P md ops Q fuel listed a w
 | 0,_,_,_,h=>h
 | fuel+1,_,_,_,h=>⟨h.1,fun i hi=>aH hd hq (fun a' w' h'=>bA hd hq fuel _ a' w' h') (h.2 i hi)⟩
theorem cC (hd:∀ (i:Nat) o,ops[i]?=some o→wi o=true) (hq:¬ LetsOut Q):∀ (k:List Nat) (a:Act) (w:World),wpOps P ops Q k a w→wpOpsIn (Fence.wide.inRound l) n P ops Q k a w
  | [],_,_,h=>h
  | i :: k, a, w, h => by
    rw [wpOpsIn_cons]
    refine aH (K:=wpOps P ops Q k) hd hq (fun a' w' h'=>cC hd hq k a' w' h') ?_
    unfold wpOps at h
    unfold wpOp
    exact h
theorem gx {ol:List Oper} (h:ol.all wi=true) (i:Nat) (o:Oper) (ho:ol.toArray[i]?=some o):wi o=true:=by
 rw [zI] at ho
 exact List.all_eq_true.1 h o (List.mem_of_getElem? ho)
theorem ao {c:Code} {a:Act} {w:World} (h:c.wpIn (Fence.wide.inRound l) n P (cI Q) a w):c.wpIn (Fence.wide.inRound l) n P Q a w:=wpIn_mono h fun _ _ _ h=>h.2
theorem dZ {ol:List Oper} {id:Nat} {a:Act} {w:World} (hm:P.follows .mixedOrders=true) (m:Nat) (L AL:List Nat) (R:Nat→(Nat→Value)→World→Prop) (hok:ok ol.toArray (fun i=>L.getD i 0) m=true) (pl:List (Nat×Nat)) (hpl:sel ol.toArray (fun _=>true) (List.range m)=pl) (hd:ol.all wi=true)
 (hstep:qd (jU P ol (cI Q) Ext m L AL R a w) (Fin P ol (cI Q) Ext m L AL R pl a w) 0 m ol):(Code.region id ol.toArray true).wpIn (Fence.wide.inRound l) n P Q a w :=
 ao (wpIn_region_any hm (bA (gx hd) aK _ _ _ _ (fO zd (fun _ _ _=>za) (fun _ _=>Ext.bsize) (Ext.drew w) m L AL R hok pl hpl hstep)))
theorem xt {ol:List Oper} {id:Nat} {a:Act} {w:World} (m:Nat) (L AL:List Nat) (R:Nat→(Nat→Value)→World→Prop) (hok:ok ol.toArray (fun i=>L.getD i 0) m=true) (pl:List (Nat×Nat)) (hpl:sel ol.toArray (fun _=>true) (List.range m)=pl) (hd:ol.all wi=true)
 (hstep:qd (jU P ol (cI Q) Ext m L AL R a w) (Fin P ol (cI Q) Ext m L AL R pl a w) 0 m ol):(Code.region id ol.toArray false).wpIn (Fence.wide.inRound l) n P Q a w:=by
 refine ao (wpIn_region (cC (gx hd) aK _ _ _ ?_))
 have h:=fO zd (fun _ _ _=>za) (fun _ _=>Ext.bsize) (zd w) m L AL R hok pl hpl hstep
 rw [dl] at h
 rw [List.range_eq_range']
 exact mE (ok.form hok) _ 0 a w (by omega) h
end
end Par
end Go.Proofs.YtmlbicgpehchhaaGreat
namespace Go.Proofs.YtmlbicgpehchhaaGreat.Der
open Go.RowKit Go.Shelf
attribute [local go_sem] Oper.semAt_some
theorem wv {w X:World} {base:Nat} {A:Option Addr} {c:Nat} {bs:List Nat} (h:OW w base A c bs) (hY:Below w.heap.size w X):OW X base A c bs :=
 OW.ext h ⟨hY.os,hY.tape,hY.output,hY.size,fun k hk _=>hY.block k hk⟩
theorem aI {l:List Int} {k z:Nat} (hk:k+2<l.length) (hz:l.getD (k+2) 0=(z:Int)) {bb:List Nat} : bb++((l.drop 2).take k).flatMap (fun z=>yU z.toNat)++yU z=bb++((l.drop 2).take (k+1)).flatMap (fun z=>yU z.toNat):=by
 have hd:k<(l.drop 2).length:=by rw [jI];omega
 rw [vz hd,List.flatMap_append,kH]
 congr 2
 have:(l.drop 2)[k]=(z:Int):=by rw [←hz,gD _ _ hk,xf];congr 1;omega
 rw [this];simp
theorem sh (P:Nat→Prop) (g c:Nat) (l:List Int) (w:World) (hv:RZ w P (some ⟨g,0,none⟩) c l) (hP:∀ b,P b→b<w.heap.size) (hl:3≤l.length∧l.length≤100) (h0:l.getD 0 0=1) (h1:0≤l.getD 1 0∧l.getD 1 0≤39) (ha:∀ k,0≤l.getD k 0∧l.getD k 0<268435456) :
 Calls Tryz.prog 137 #[.slice (some ⟨g,0,none⟩) l.length c] w fun e w'=>(∃ A1 c1,e=.returned (.tuple #[.agg #[.int .i64 6,.slice A1 (wU l).length c1,.slice none 0 0],.bool true])∧RB w' (In w.heap.size w'.heap.size) A1 c1 (wU l))∧Below w.heap.size w w':=by
 obtain ⟨hlc,hc⟩:=(show l.length≤c∧c≤9223372036854775807 from ⟨hv.1,hv.2.1⟩)
 have hB0:=(zQ w.heap.size w).alloc (zG _) (.cells #[.int .i64 0,.slice none 0 0,.slice none 0 0] 80)
 have hb0:=zN w (.cells #[.int .i64 0,.slice none 0 0,.slice none 0 0] 80)
 have hz0:(w.alloc (.cells #[.int .i64 0,.slice none 0 0,.slice none 0 0] 80)).heap.size=w.heap.size+1:=by simp
 obtain ⟨W0,hW0⟩:=eV (w.alloc (.cells #[.int .i64 0,.slice none 0 0,.slice none 0 0] 80))
 rw [hW0] at hB0 hb0 hz0
 have hv0:=hv.below hB0 hP
 obtain ⟨a,ea,hPg,x0⟩:=hv0.at_ (i:=0) (by omega)
 injection ea with ea
 subst ea
 obtain ⟨a',ea,_,x1⟩:=hv0.at_ (i:=1) (by omega)
 injection ea with ea
 subst ea
 have H0':=zF h0
 rw [h0] at x0
 obtain ⟨y,hy⟩:=eV (l.getD 1 0)
 rw [hy] at x1 h1
 simp [Addr.add] at x0 x1
 have y0:=x0
 have y1:=x1
 rw [←hW0] at y0 y1
 have HW:=zF hW0
 have HB0:=zF hB0
 have Hb0:=zF hb0
 have Hz0:=zF hz0
 have HA:=zF ha
 have Hy:=zF hy
 have k0:¬ (l.length:Int)<2:=by omega
 have k1:¬ (39:Int)<y:=by omega
 clear hB0 hb0 hz0 hW0 h0 ha hy
 go_enter Tryz.func137,Tryz.ntmps137
 go_wp2
 rw [HW.out]
 clear y0 y1
 go_loopw [33] (fun i wr=>∃ k:Nat,k≤l.length∧i=.int .i64 k∧∃ d,wr=W0.drewN d) (fun i _=>l.length - (intOf i).toNat)
 case atStart=>exact ⟨0,by omega,rfl,0,rfl⟩
 case round =>
  obtain ⟨k,hk,rfl,d,rfl⟩:=hrel
  by_cases hlt:k<l.length
  · obtain ⟨a,ea,_,hx⟩:=(hv0.keep (w':=W0.drewN d) fun _ _=>rfl).at_ hlt
    injection ea with ea
    subst ea
    have h1:=HA.out k
    obtain ⟨z,hz⟩:=eV (l.getD k 0)
    rw [hz] at hx h1
    have hx':(W0.drewN d).cell? ⟨g,k,none⟩=some (.int .i64 z):=by
     have e:Addr.add ⟨g,0,none⟩ k=⟨g,k,none⟩:=by by_cases h:k=0 <;> simp [Addr.add,h]
     rw [←e];exact hx
    clear hx
    have Hz:=zF hz
    clear hz
    have k2:¬ z<0:=by omega
    have k3:¬ 268435456<z:=by omega
    go_wp2
    go_roundw
    case rel=>exact ⟨k+1,by omega,by go_num,d,rfl⟩
    case measure=>simp [intOf];omega
  · obtain rfl:k=l.length:=by omega
    have X0:(W0.drewN d).cell? ⟨g,0,none⟩=some (.int .i64 1):=x0
    have X1:(W0.drewN d).cell? ⟨g,1,none⟩=some (.int .i64 y):=x1
    obtain ⟨yn,hyn⟩:∃ yn:Nat,y=(yn:Int):=⟨y.toNat,by omega⟩
    subst hyn
    have HD:=fun X=>dQ (40+yn) X (by omega)
    obtain ⟨bb,hbb⟩:=eV (yU (40+yn))
    simp only [hbb] at HD
    have hbl:bb.length≤10:=hbb▸mD _
    have Hbb:=zF hbb
    clear hbb
    simp only [vr,qf] at HD
    have HDD:=zF HD
    have hwr:IntKind.i64.wrap (40+(yn:Int))=40+(yn:Int):=by rw [qm];omega
    clear k0 k1 hk hlt x0 x1 HD
    go_wp2_with fail
    refine zj (by kernel_rfl) 10 [0,1,3,7,0,16,48,127,255,511] [] (fun j f X=>match j with
     | 0=>f 0=.slice (some ⟨g,0,none⟩) l.length c
     | 1=>f 1=.pointer (some ⟨g,0,none⟩)
     | 2=>f 2=.int .i64 1
     | 3=>f 3=.int .i64 40
     | 4=>f 4=.slice (some ⟨g,0,none⟩) l.length c
     | 5=>f 5=.pointer (some ⟨g,1,none⟩)
     | 6=>f 6=.int .i64 (yn:Int)
     | 7=>f 7=.int .i64 (40+(yn:Int))
     | 8=>∃ A8 c8,f 8=.slice A8 bb.length c8∧OW X W0.heap.size A8 c8 bb
     | 9=>∃ A8 c8,f 9=.slice A8 bb.length c8∧OW X W0.heap.size A8 c8 bb
     | _=>True) (by kernel_rfl) [(45,0),(46,1),(47,2),(48,3),(49,4),(50,5),(51,6),(52,7),(53,8),(6,9)] (by kernel_rfl) ?_
    refine zT 1 9 ?_
    refine zt 2 8 [(45,0),(49,4),(50,5),(51,6)] (fun f X hX hR K hK=>?_) ?_
    · have e0:f 0=_:=hR.out 0 rfl
      have q1:0<l.length:=by omega
      simp only [yZ,e0]
      refine ⟨?_⟩
      go_simp
      exact qe hK (s:=by simp only [yZ,e0])
    refine qG 3 7 1 X0 ?_
    refine qL 4 6 2 ?_
    refine zT 5 5 ?_
    refine zt 6 4 [(45,0),(46,1),(47,2),(48,3),(49,4)] (fun f X hX hR K hK=>?_) ?_
    · have e4:f 4=_:=hR.out 4 rfl
      have q5:1<l.length:=by omega
      have q6:(1:Int)<(l.length:Int):=by omega
      simp only [yZ,e4]
      refine ⟨?_⟩
      go_simp
      exact qe hK (s:=by simp only [yZ,e4])
    refine qG 7 3 5 X1 ?_
    refine vv 8 2 3 6 (hR:=fun _ _ h=>h.trans ((congrArg (Value.int .i64) hwr))) ?_
    refine qC 9 1 (fun f=>#[f 7]) (F':=177) (fun f X hX hR=>?_) ?_
    · have e7:f 7=_:=hR.out 7 rfl
      simp only [e7]
      refine (HDD.out X).mono ?_
      rintro e w2 ⟨A8,c8,rfl,hO8,hB⟩
      exact ⟨(.slice A8 bb.length c8),rfl,hB,fun Y hY=>⟨A8,c8,rfl,wv (j6 hO8 hX.bsize) hY⟩⟩
    refine zt 10 0 [(45,0),(46,1),(47,2),(48,3),(49,4),(50,5),(51,6),(52,7),(53,8)] (fun f X hX hR K hK=>?_) ?_
    · obtain ⟨A8,c8,(e8:f 8=_),r8⟩:=hR.out 8 rfl
      simp only [yZ,e8]
      refine ⟨?_⟩
      go_simp
      exact hK.out _ (.slice A8 bb.length c8) _ (by simp only [yZ,e8]) (zd _) trivial (fun Y hY=>⟨A8,c8,rfl,wv r8 hY⟩)
    refine yF ⟨fun f X hX hR hal hap=>?_⟩
    obtain ⟨A8,c8,(e8:f 8=_),r8⟩:=hR 8 (by decide)
    obtain ⟨A9,c9,(e9:f 9=_),r9⟩:=hR 9 (by decide)
    simp only [yZ,e8,e9]
    clear hR hal hap e8 e9
    refine zK ?_
    have hXB:Below W0.heap.size W0 X:=kU (qT (zQ _ W0) d) hX
    have e9':=r9
    have HO9:=zF r9
    have HXB:=zF hXB
    clear r9 e9' hXB hX X0 X1 HDD hwr
    have m0:(0:Int)≤2:=by omega
    have m1:(2:Int)≤(l.length:Int):=by omega
    have m2:¬ (c:Int)=2:=by omega
    have m3:¬ c=2:=by omega
    have m4:(2:Int)≤(c:Int):=by omega
    go_wp2
    go_loopw [6,57] (fun s i wr=>∃ (k:Nat) (A6:Option Addr) (c6:Nat) (bs:List Nat),k+2≤l.length∧i=.int .i64 k∧s=.slice A6 bs.length c6∧OW wr W0.heap.size A6 c6 bs∧bs.length≤10+10*k∧bs=bb++((l.drop 2).take k).flatMap (fun z=>yU z.toNat)∧Below W0.heap.size W0 wr) (fun _ i _=>l.length - (intOf i).toNat)
    case atStart=>exact ⟨0,A9,c9,bb,by omega,rfl,rfl,HO9.out,by omega,by simp,HXB.out⟩
    case round =>
     clear HO9 HXB r8
     obtain ⟨k,A6,c6,bs,hk,rfl,rfl,hO6,hl6,hbs,hB⟩:=hrel
     have HBs:=zF hbs
     clear hbs
     have hs:=hB.size
     by_cases hlt:k+2<l.length
     · obtain ⟨a,ea,_,hx⟩:=(hv0.below hB (fun b hb=>by have:=hP b hb;have:=Hz0.out;omega)).at_ (i:=k+2) hlt
       injection ea with ea
       subst ea
       have h1:=HA.out (k+2)
       obtain ⟨z,hz⟩:=eV (l.getD (k+2) 0)
       rw [hz] at hx h1
       obtain ⟨zn,hzn⟩:∃ zn:Nat,z=(zn:Int):=⟨z.toNat,by omega⟩
       subst hzn
       have hx':wr.cell? ⟨g,2+k,none⟩=some (.int .i64 (zn:Int)):=by
        have e:Addr.add ⟨g,0,none⟩ (k+2)=⟨g,2+k,none⟩:=by simp [Addr.add];omega
        rw [←e];exact hx
       have HO6:=zF hO6
       have k1:k<l.length - 2:=by omega
       have k1':(k:Int)<((l.length - 2:Nat):Int):=by omega
       have HD:=zF (dQ zn wr (by omega))
       have hl7:=mD zn
       have HSt:=zF (aI (bb:=bb) hlt hz)
       obtain ⟨b7,hb7⟩:=eV (yU zn)
       rw [hb7] at HD hl7 HSt
       clear hx hO6 hz hb7
       go_wp2_with fail
       refine HD.out.mono ?_
       rintro e w2 ⟨A7,c7,rfl,hO7,hB7⟩
       have HO7:=zF (hO7.rb (by omega))
       have HO8:=zF (wv HO6.out hB7)
       have HB7:=zF (hB.trans (hB7.mono hs))
       have hs7:=HB7.out.size
       clear hO7 hB7 HO6 HD
       go_wp2_with (at_builtin;refine wf rfl (.tmp 61) (.tmp 63) rfl W0.heap.size (bs:=bs) rfl HO8.out rfl HO7.out (by omega) hs7 ?_;intro A2 c2 w3 hw3 hb3)
       have HB8:=zF (HB7.out.trans hb3)
       have HW3:=zF hw3
       clear hw3 hb3
       go_roundw
       case rel=>exact ⟨k+1,A2,c2,bs++b7,by omega,by go_num,by rw [zk],HW3.out,by rw [zk];omega,by rw [HBs.out];exact HSt.out,HB8.out⟩
       case measure=>simp [intOf];omega
     · have hk2:k=l.length - 2:=by omega
       have k1:¬ k<l.length - 2:=by omega
       have k1':¬ (k:Int)<((l.length - 2:Nat):Int):=by omega
       have hbo:bs=wU l:=by
        rw [HBs.out,hk2,zx (by simp),←Hbb.out]
        unfold wU
        rw [H0'.out,Hy.out];rfl
       have HBo:=zF hbo
       have HOr:=zF (hO6.rb (by omega))
       have Hs0:=zF (Hz0.out)
       clear hbo
       have hb1:=(hB.block w.heap.size (by have:=Hz0.out;omega)).trans Hb0.out
       have HBB:=zF (HB0.out.trans (hB.mono (by have:=Hz0.out;omega)))
       obtain ⟨s,hs0⟩:=eV w.heap.size
       rw [hs0] at hb1 HBB
       have q0:=zH hb1 0
       have q1:=zH hb1 1
       have q2:=zH hb1 2
       have p0:=zp hb1 0
       have p1:=zp hb1 1
       have p2:=zp hb1 2
       simp only [zI,zJ,zL] at q0 q1 q2
       have r:=wK hb1 (.int .i64 6) (.slice A6 bs.length c6) (.slice none 0 0)
       have r0:=zH r 0
       have r1:=zH r 1
       have r2:=zH r 2
       simp only [zI,zJ,zL] at r0 r1 r2
       have R0:=zF r0
       have R1:=zF r1
       have R2:=zF r2
       clear r r0 r1 r2 hb1 hO6 hB hk2
       go_wp2
       have r0:=R0.out
       have r1:=R1.out
       have r2:=R2.out
       refine qF (v:=.tuple #[.agg #[.int .i64 6,.slice A6 bs.length c6,.slice none 0 0],.bool true]) (by simp [results,Tryz.results137,go_sem,r0,r1,r2]) rfl ⟨⟨A6,c6,by rw [←HBo.out],?_⟩,?_⟩
       · rw [←HBo.out]
         refine (HOr.out.keep fun p hp=>zS ?_).mono fun q hq=>⟨by have:=hq.1;have:=Hs0.out;omega,by have:=hq.2;simpa [World.setCell] using this⟩
         have hq:p.block≠s:=by have:=hp.1;have:=Hs0.out;omega
         exact (zO _ _ _ _ hq).trans ((zO _ _ _ _ hq).trans (zO _ _ _ _ hq))
       · exact ((HBB.out.setCell (p:=⟨s,0,none⟩) (zG _) _).setCell (p:=⟨s,1,none⟩) (zG _) _).setCell (p:=⟨s,2,none⟩) (zG _) _
end Go.Proofs.YtmlbicgpehchhaaGreat.Der
namespace Go.Proofs.YtmlbicgpehchhaaGreat
open Go.RowKit
def bh (bs:List Nat):ByteArray:=strOfNums (bs.map fun b:Nat=>(b:Int))
theorem pK {a b:List Nat} (ha:∀ x∈a,x<256) (hb:∀ x∈b,x<256) (h:(bh a).toList=(bh b).toList):a=b:=by
 have e:∀ l:List Nat,(∀ x∈l,x<256)→(bh l).toList.map UInt8.toNat=l:=by
  intro l hl
  rw [bh,Lib.strOfNums_toList,Lib.bytesOf]
  simp only [List.map_map]
  conv=>rhs;rw [←List.map_id l]
  apply List.map_congr_left
  intro x hx
  have:=hl x hx
  simp
  omega
 rw [←e a ha,←e b hb,h]
section
variable {w:World} {Q:Nat→Prop} {A:Option Addr} {c:Nat} {bs:List Nat}
theorem RB.str {P:Program} (h:RB w Q A c bs) (src e dst:TypeId) (hs:P.underlying src=some (.slice e)) (he:P.underlying e=some (.int .u8)) (hd:P.underlying dst=some .string) :
 (convert src dst (.slice A bs.length c)).run P w=.ok (.string (bh bs)) w:=by
 rcases A with _ | ad
 · have hl:bs.length=0:=by
    rcases zo bs.length with h0 | h0
    · exact h0
    · obtain ⟨ad,h,_⟩:=h.1.2.2.2 h0
      cases h
   obtain rfl:=qH hl
   rw [run_convert_bytes_nil w src e hs he _ _ dst hd]
   rfl
 · have hc:∀ j v,(bys bs)[j]?=some v→w.cell? (ad.add j)=some v:=by
    intro j v hj
    rcases zo bs.length with h0 | h0
    · obtain rfl:=qH h0
      simp [bys] at hj
    · obtain ⟨ad',h,_,hc⟩:=h.1.2.2.2 h0
      injection h with h
      subst h
      exact hc j v hj
   have hl:(loadCells ad bs.length).run P w=.ok ((bs.map fun b:Nat=>(b:Int)).map (Value.int .u8)).toArray w:=by
    have:=run_loadCells_list (P:=P) w ad (bys bs) hc
    simpa [bys,Function.comp_def] using this
   rw [run_convert_bytes_string w src dst e _ _ c hs he hd,run_bytesToString w _ _ c _ hl,foldl_push_bytes]
   simp [bh,strOfNums,ByteArray.empty,ByteArray.emptyWithCapacity]
   rfl
end
end Go.Proofs.YtmlbicgpehchhaaGreat
namespace Go.Proofs.YtmlbicgpehchhaaGreat.Der
open Go.RowKit Go.Shelf
attribute [local go_sem] Oper.semAt_some
def yL:List Nat:=[42,134,72,206,61,3,1,7]
def yK:List Nat:=[43,129,4,0,34]
theorem nQ:wU [1,2,840,10045,3,1,7]=yL:=by decide
theorem nP:wU [1,3,132,0,34]=yK:=by decide
theorem yu (P P':Nat→Prop) (A A':Option Addr) (c c':Nat) (bs bs':List Nat) (w:World) (h:RB w P A c bs) (h':RB w P' A' c' bs') :
 Calls Tryz.prog 66 #[.slice A bs.length c,.slice A' bs'.length c'] w fun e w'=>e=.returned (.bool (decide (bs=bs')))∧w=w':=by
 have s1:=h.str (P:=Tryz.prog) 34 5 9 Tryz.underlying34 Tryz.underlying5 Tryz.underlying9
 have s2:=h'.str (P:=Tryz.prog) 34 5 9 Tryz.underlying34 Tryz.underlying5 Tryz.underlying9
 by_cases e:bs=bs'
 · subst e
   go_enter Tryz.func66,Tryz.ntmps66
   go_wp2
   go_ret
   exact ⟨by simp,rfl⟩
 · have hne:((bh bs).toList==(bh bs').toList)=false:=by
    rw [beq_eq_false_iff_ne]
    exact fun h1=>e (pK h.2.1 h'.2.1 h1)
   go_enter Tryz.func66,Tryz.ntmps66
   go_wp2
   go_ret
   exact ⟨by simp [e],rfl⟩
theorem gh (P:Nat→Prop) (g c:Nat) (l:List Int) (w:World) (hv:RZ w P (some ⟨g,0,none⟩) c l) (hP:∀ b,P b→b<w.heap.size) (hl:3≤l.length∧l.length≤100) (h0:l.getD 0 0=1) (h1:0≤l.getD 1 0∧l.getD 1 0≤39) (ha:∀ k,0≤l.getD k 0∧l.getD k 0<268435456) :
 Calls Tryz.prog 97 #[.slice (some ⟨g,0,none⟩) l.length c] w fun e w'=>(∃ A1 c1,e=.returned (.agg #[.int .i64 6,.slice A1 (wU l).length c1,.slice none 0 0])∧RB w' (In w.heap.size w'.heap.size) A1 c1 (wU l))∧Below w.heap.size w w':=by
 have hB:=(zQ w.heap.size w).alloc (zG _) (.cells #[.int .i64 0,.slice none 0 0,.slice none 0 0] 80)
 have hb:=zN w (.cells #[.int .i64 0,.slice none 0 0,.slice none 0 0] 80)
 have hz:(w.alloc (.cells #[.int .i64 0,.slice none 0 0,.slice none 0 0] 80)).heap.size=w.heap.size+1:=by simp
 have hO:=sh P g c l _ (hv.below hB hP) (fun b hb=>by have:=hP b hb;rw [hz];omega) hl h0 h1 ha
 have HB:=zF hB
 have H0:=zF hb
 have Hz:=zF hz
 obtain ⟨bb,hbb⟩:=eV (wU l)
 rw [hbb] at hO ⊢
 have HO:=zF hO
 clear hB hb hz hO hv hP hl h0 h1 ha hbb
 go_enter Tryz.func97,Tryz.ntmps97
 go_wp2_with fail
 obtain ⟨s,hs⟩:=eV w.heap.size
 rw [hs] at HB H0 Hz ⊢
 have Hs:=zF hs
 clear hs
 generalize w.alloc (.cells #[.int .i64 0,.slice none 0 0,.slice none 0 0] 80)=W1 at *
 refine HO.out.mono ?_
 rintro e w2 ⟨⟨A1,c1,rfl,hr1⟩,hB2⟩
 obtain ⟨n,hn⟩:=eV bb.length
 rw [hn]
 have Hn:=zF hn
 have Hr1:=zF hr1
 clear hn hr1
 have h2:=(hB2.block s (by have:=Hz.out;omega)).trans H0.out
 have hlt:s<w2.heap.size:=by have:=Hz.out;have:=hB2.size;omega
 have HB3:=zF (HB.out.trans (hB2.mono (by have:=Hz.out;omega)))
 have H2:=zF h2
 have q0:=zH h2 0
 have q1:=zH h2 1
 have q2:=zH h2 2
 have p0:=zp h2 0
 have p1:=zp h2 1
 have p2:=zp h2 2
 simp only [zI,zJ,zL] at q0 q1 q2
 clear h2 hB2 H0
 go_wp2
 have r:=td H2.out (.int .i64 6) (.slice A1 n c1) (.slice none 0 0) (.cells #[.int .i64 6,.slice A1 n c1,.slice none 0 0] 80)
 have r0:=zH r 0
 have r1:=zH r 1
 have r2:=zH r 2
 simp only [zI,zJ,zL] at r0 r1 r2
 refine qF (v:=.agg #[.int .i64 6,.slice A1 n c1,.slice none 0 0]) (by simp [results,Tryz.results97,go_sem,r0,r1,r2]) rfl ⟨⟨A1,c1,by rw [Hn.out],?_⟩,?_⟩
 · rw [Hs.out]
   refine (Hr1.out.keep fun p hp=>zS ?_).mono fun q hq=>⟨by have:=hq.1;have:=Hz.out;omega,by have:=hq.2;simp [World.setCell];omega⟩
   have hq:p.block≠s:=by have:=hp.1;have:=Hz.out;omega
   have hq2:p.block<w2.heap.size:=hp.2
   exact (zm _ _ _ (by simpa [World.setCell] using hq2)).trans ((zO _ _ _ _ hq).trans ((zO _ _ _ _ hq).trans (zO _ _ _ _ hq)))
 · rw [Hs.out]
   exact (((HB3.out.setCell (p:=⟨s,0,none⟩) (by simp) _).setCell (p:=⟨s,1,none⟩) (by simp) _).setCell (p:=⟨s,2,none⟩) (by simp) _).alloc (by simp;omega) _
theorem gl {l:List Int} (h:∀ x∈l,0≤x∧x<268435456) (k:Nat):0≤l.getD k 0∧l.getD k 0<268435456:=by
 rcases qB k l.length with hk | hk
 · rw [zi,qK hk];exact h _ (jX hk)
 · rw [zi,jD hk];simp
theorem aF (w:World):Calls Tryz.prog 41 #[.int .i64 1] w fun e w'=>(∃ A1 c1,e=.returned (.tuple #[.agg #[.int .i64 6,.slice A1 8 c1,.slice none 0 0],.bool true])∧RB w' (In w.heap.size w'.heap.size) A1 c1 yL)∧Below w.heap.size w w':=by
 have hB:=((zQ w.heap.size w).alloc (zG _) (.cells #[.int .i64 0,.slice none 0 0,.slice none 0 0] 80)).alloc (by simp) (.cells #[.int .i64 1,.int .i64 2,.int .i64 840,.int .i64 10045,.int .i64 3,.int .i64 1,.int .i64 7] 3)
 have hb:=(zm (w.alloc (.cells #[.int .i64 0,.slice none 0 0,.slice none 0 0] 80)) (.cells #[.int .i64 1,.int .i64 2,.int .i64 840,.int .i64 10045,.int .i64 3,.int .i64 1,.int .i64 7] 3) w.heap.size (by simp)).trans (zN w _)
 have hz:((w.alloc (.cells #[.int .i64 0,.slice none 0 0,.slice none 0 0] 80)).alloc (.cells #[.int .i64 1,.int .i64 2,.int .i64 840,.int .i64 10045,.int .i64 3,.int .i64 1,.int .i64 7] 3)).heap.size=w.heap.size+2:=by simp
 have hR:RZ _ (fun b=>b<w.heap.size+2) _ 7 [1,2,840,10045,3,1,7]:=jW (w:=(w.alloc (.cells #[.int .i64 0,.slice none 0 0,.slice none 0 0] 80))) (P:=fun b=>b<w.heap.size+2) #[.int .i64 1,.int .i64 2,.int .i64 840,.int .i64 10045,.int .i64 3,.int .i64 1,.int .i64 7] 3 1 7 rfl (by unfold maxLen;omega) (by simp)
 rw [zu] at hR
 have hO:=gh (fun b=>b<w.heap.size+2) (w.heap.size+1) 7 [1,2,840,10045,3,1,7] _ hR (fun b hb=>by rw [hz];exact hb) (by simp) rfl (by simp) (gl (by simp))
 have HB:=zF hB
 have H0:=zF hb
 have Hz:=zF hz
 rw [nQ] at hO
 have HO:=zF hO
 clear hB hb hz hO hR
 go_enter Tryz.func41,Tryz.ntmps41
 go_wp2_with fail
 obtain ⟨s,hs⟩:=eV w.heap.size
 rw [hs] at HB H0 Hz HO ⊢
 have Hs:=zF hs
 clear hs
 generalize (w.alloc (.cells #[.int .i64 0,.slice none 0 0,.slice none 0 0] 80)).alloc (.cells #[.int .i64 1,.int .i64 2,.int .i64 840,.int .i64 10045,.int .i64 3,.int .i64 1,.int .i64 7] 3)=W1 at *
 refine HO.out.mono ?_
 rintro e w2 ⟨⟨A1,c1,rfl,hr1⟩,hB2⟩
 have Hr1:=zF hr1
 have hn:yL.length=8:=rfl
 rw [hn]
 clear hr1 hn
 have h2:=(hB2.block s (by have:=Hz.out;omega)).trans H0.out
 have hlt:s<w2.heap.size:=by have:=Hz.out;have:=hB2.size;omega
 have HB3:=zF (HB.out.trans (hB2.mono (by have:=Hz.out;omega)))
 have H2:=zF h2
 have q0:=zH h2 0
 have q1:=zH h2 1
 have q2:=zH h2 2
 have p0:=zp h2 0
 have p1:=zp h2 1
 have p2:=zp h2 2
 simp only [zI,zJ,zL] at q0 q1 q2
 clear h2 hB2 H0
 go_wp2
 have r:=wK H2.out (.int .i64 6) (.slice A1 8 c1) (.slice none 0 0)
 have r0:=zH r 0
 have r1:=zH r 1
 have r2:=zH r 2
 simp only [zI,zJ,zL] at r0 r1 r2
 refine qF (v:=.tuple #[.agg #[.int .i64 6,.slice A1 8 c1,.slice none 0 0],.bool true]) (by simp [results,Tryz.results41,go_sem,r0,r1,r2]) rfl ⟨⟨A1,c1,rfl,?_⟩,?_⟩
 · rw [Hs.out]
   refine (Hr1.out.keep fun p hp=>zS ?_).mono fun q hq=>⟨by have:=hq.1;have:=Hz.out;omega,by have:=hq.2;simpa [World.setCell] using this⟩
   have hq:p.block≠s:=by have:=hp.1;have:=Hz.out;omega
   exact (zO _ _ _ _ hq).trans ((zO _ _ _ _ hq).trans (zO _ _ _ _ hq))
 · rw [Hs.out]
   exact ((HB3.out.setCell (p:=⟨s,0,none⟩) (by simp) _).setCell (p:=⟨s,1,none⟩) (by simp) _).setCell (p:=⟨s,2,none⟩) (by simp) _
theorem aE (w:World):Calls Tryz.prog 41 #[.int .i64 2] w fun e w'=>(∃ A1 c1,e=.returned (.tuple #[.agg #[.int .i64 6,.slice A1 5 c1,.slice none 0 0],.bool true])∧RB w' (In w.heap.size w'.heap.size) A1 c1 yK)∧Below w.heap.size w w':=by
 have hB:=((zQ w.heap.size w).alloc (zG _) (.cells #[.int .i64 0,.slice none 0 0,.slice none 0 0] 80)).alloc (by simp) (.cells #[.int .i64 1,.int .i64 3,.int .i64 132,.int .i64 0,.int .i64 34] 3)
 have hb:=(zm (w.alloc (.cells #[.int .i64 0,.slice none 0 0,.slice none 0 0] 80)) (.cells #[.int .i64 1,.int .i64 3,.int .i64 132,.int .i64 0,.int .i64 34] 3) w.heap.size (by simp)).trans (zN w _)
 have hz:((w.alloc (.cells #[.int .i64 0,.slice none 0 0,.slice none 0 0] 80)).alloc (.cells #[.int .i64 1,.int .i64 3,.int .i64 132,.int .i64 0,.int .i64 34] 3)).heap.size=w.heap.size+2:=by simp
 have hR:RZ _ (fun b=>b<w.heap.size+2) _ 5 [1,3,132,0,34]:=jW (w:=(w.alloc (.cells #[.int .i64 0,.slice none 0 0,.slice none 0 0] 80))) (P:=fun b=>b<w.heap.size+2) #[.int .i64 1,.int .i64 3,.int .i64 132,.int .i64 0,.int .i64 34] 3 1 5 rfl (by unfold maxLen;omega) (by simp)
 rw [zu] at hR
 have hO:=gh (fun b=>b<w.heap.size+2) (w.heap.size+1) 5 [1,3,132,0,34] _ hR (fun b hb=>by rw [hz];exact hb) (by simp) rfl (by simp) (gl (by simp))
 have HB:=zF hB
 have H0:=zF hb
 have Hz:=zF hz
 rw [nP] at hO
 have HO:=zF hO
 clear hB hb hz hO hR
 go_enter Tryz.func41,Tryz.ntmps41
 go_wp2_with fail
 obtain ⟨s,hs⟩:=eV w.heap.size
 rw [hs] at HB H0 Hz HO ⊢
 have Hs:=zF hs
 clear hs
 generalize (w.alloc (.cells #[.int .i64 0,.slice none 0 0,.slice none 0 0] 80)).alloc (.cells #[.int .i64 1,.int .i64 3,.int .i64 132,.int .i64 0,.int .i64 34] 3)=W1 at *
 refine HO.out.mono ?_
 rintro e w2 ⟨⟨A1,c1,rfl,hr1⟩,hB2⟩
 have Hr1:=zF hr1
 have hn:yK.length=5:=rfl
 rw [hn]
 clear hr1 hn
 have h2:=(hB2.block s (by have:=Hz.out;omega)).trans H0.out
 have hlt:s<w2.heap.size:=by have:=Hz.out;have:=hB2.size;omega
 have HB3:=zF (HB.out.trans (hB2.mono (by have:=Hz.out;omega)))
 have H2:=zF h2
 have q0:=zH h2 0
 have q1:=zH h2 1
 have q2:=zH h2 2
 have p0:=zp h2 0
 have p1:=zp h2 1
 have p2:=zp h2 2
 simp only [zI,zJ,zL] at q0 q1 q2
 clear h2 hB2 H0
 go_wp2
 have r:=wK H2.out (.int .i64 6) (.slice A1 5 c1) (.slice none 0 0)
 have r0:=zH r 0
 have r1:=zH r 1
 have r2:=zH r 2
 simp only [zI,zJ,zL] at r0 r1 r2
 refine qF (v:=.tuple #[.agg #[.int .i64 6,.slice A1 5 c1,.slice none 0 0],.bool true]) (by simp [results,Tryz.results41,go_sem,r0,r1,r2]) rfl ⟨⟨A1,c1,rfl,?_⟩,?_⟩
 · rw [Hs.out]
   refine (Hr1.out.keep fun p hp=>zS ?_).mono fun q hq=>⟨by have:=hq.1;have:=Hz.out;omega,by have:=hq.2;simpa [World.setCell] using this⟩
   have hq:p.block≠s:=by have:=hp.1;have:=Hz.out;omega
   exact (zO _ _ _ _ hq).trans ((zO _ _ _ _ hq).trans (zO _ _ _ _ hq))
 · rw [Hs.out]
   exact ((HB3.out.setCell (p:=⟨s,0,none⟩) (by simp) _).setCell (p:=⟨s,1,none⟩) (by simp) _).setCell (p:=⟨s,2,none⟩) (by simp) _
theorem cA (z:Int) (w:World) (h1:z≠1) (h2:z≠2):Calls Tryz.prog 41 #[.int .i64 z] w fun e w'=>e=.returned (.tuple #[.agg #[.int .i64 0,.slice none 0 0,.slice none 0 0],.bool false])∧Below w.heap.size w w':=by
 have h1':(z==1)=false:=by simpa using h1
 have h2':(z==2)=false:=by simpa using h2
 have hb:=zN w (.cells #[.int .i64 0,.slice none 0 0,.slice none 0 0] 80)
 have HB:=zF ((zQ w.heap.size w).alloc (zG _) (.cells #[.int .i64 0,.slice none 0 0,.slice none 0 0] 80))
 clear h1 h2
 go_enter Tryz.func41,Tryz.ntmps41
 go_wp2
 refine qF (v:=.tuple #[.agg #[.int .i64 0,.slice none 0 0,.slice none 0 0],.bool false]) (by simp [results,Tryz.results41,go_sem]) rfl ⟨rfl,HB.out⟩
def uN (l:List Int) (k:Nat):List Nat:=if k≤1 then [] else yU (40*(l.getD 0 0).toNat+(l.getD 1 0).toNat)++((l.drop 2).take (k - 2)).flatMap fun z=>yU z.toNat
theorem sj {l:List Int} {z N:Nat} (h0:l.getD 0 0=1) (h1:l.getD 1 0=(z:Int)) (hN:z+40=N):uN l 1++yU N=uN l (1+1):=by
 unfold uN
 rw [qE (by omega),zr (by omega),h0,h1,←hN]
 simp [kG]
theorem si {l:List Int} {k z:Nat} (hk:2≤k) (hlt:k<l.length) (hz:l.getD k 0=(z:Int)):uN l k++yU z=uN l (k+1):=by
 unfold uN
 rw [zr (by omega),zr (by omega)]
 have:=aI (l:=l) (k:=k - 2) (z:=z) (by omega) (by rw [show k - 2+2=k by omega];exact hz) (bb:=yU (40*(l.getD 0 0).toNat+(l.getD 1 0).toNat))
 rw [this,show k - 2+1=k+1 - 2 by omega]
theorem oI {l:List Int} (h:2≤l.length):uN l l.length=wU l:=by
 unfold uN wU
 rw [zr (by omega),zx (by simp)]
theorem p9:(128:Nat) ^ 9=9223372036854775808:=by decide
theorem tg {l x:Nat} (h0:0<l) (h:x<128 ^ (10 - l)):x<9223372036854775808 :=
 zP h (p9▸zy (by omega) (by omega))
theorem mN (P:Nat→Prop) (g c:Nat) (l:List Int) (w:World) (hv:RZ w P (some ⟨g,0,none⟩) c l) (hP:∀ b,P b→b<w.heap.size) (hl:3≤l.length∧l.length≤12) (h0:l.getD 0 0=1) (h1:0≤l.getD 1 0∧l.getD 1 0≤39) (ha:∀ k,0≤l.getD k 0∧l.getD k 0<268435400) :
 Calls Tryz.prog 148 #[.slice (some ⟨g,0,none⟩) l.length c] w fun e w'=>(∃ A1 c1,e=.returned (.tuple #[.agg #[.int .i64 6,.slice A1 (wU l).length c1,.slice none 0 0],.bool true])∧RB w' (In w.heap.size w'.heap.size) A1 c1 (wU l))∧Below w.heap.size w w':=by
 obtain ⟨hlc,hc⟩:=(show l.length≤c∧c≤9223372036854775807 from ⟨hv.1,hv.2.1⟩)
 have hB0:=(zQ w.heap.size w).alloc (zG _) (.cells #[.int .i64 0,.slice none 0 0,.slice none 0 0] 80)
 have hb0:=zN w (.cells #[.int .i64 0,.slice none 0 0,.slice none 0 0] 80)
 have hz0:(w.alloc (.cells #[.int .i64 0,.slice none 0 0,.slice none 0 0] 80)).heap.size=w.heap.size+1:=by simp
 have hv0:=hv.below hB0 hP
 obtain ⟨a,ea,hPg,x0⟩:=hv0.at_ (i:=0) (by omega)
 injection ea with ea
 subst ea
 obtain ⟨a',ea,_,x1⟩:=hv0.at_ (i:=1) (by omega)
 injection ea with ea
 subst ea
 rw [h0] at x0
 obtain ⟨y,hy⟩:=eV (l.getD 1 0)
 rw [hy] at x1 h1
 simp only [show Addr.add ⟨g,0,none⟩ 0=⟨g,0,none⟩ by simp [Addr.add],show Addr.add ⟨g,0,none⟩ 1=⟨g,1,none⟩ by simp [Addr.add]] at x0 x1
 have HB0:=zF hB0
 have Hb0:=zF hb0
 have Hz0:=zF hz0
 have HA:=zF ha
 have HV0:=zF hv0
 have Hy:=zF hy
 have H0:=zF h0
 have k0:¬ (l.length:Int)<2:=by omega
 have k1:¬ (39:Int)<y:=by omega
 clear hB0 hb0 hz0 h0 ha hy hv0
 go_enter Tryz.func148,Tryz.ntmps148
 go_wp2
 generalize w.alloc (.cells #[.int .i64 0,.slice none 0 0,.slice none 0 0] 80)=W0 at *
 go_loopw [4,5] (fun s i wr=>∃ (k:Nat) (A6:Option Addr) (c6:Nat) (bs:List Nat),k≤l.length∧i=.int .i64 k∧s=.slice A6 bs.length c6∧OW wr W0.heap.size A6 c6 bs∧bs.length≤10*k∧bs=uN l k∧Below W0.heap.size W0 wr) (fun _ i _=>l.length - (intOf i).toNat)
 case atStart=>exact ⟨0,none,0,[],by omega,rfl,rfl,⟨kV _ _ _ _,by simp⟩,by simp,by simp [uN],zQ _ _⟩
 case round =>
  obtain ⟨k,A6,c6,bs,hk,rfl,rfl,hO6,hl6,hbs,hB⟩:=hrel
  have HBs:=zF hbs
  clear hbs
  have hs:=hB.size
  by_cases hlt:k<l.length
  · obtain ⟨a,ea,_,hx⟩:=(HV0.out.below hB (fun b hb=>by have:=hP b hb;have:=Hz0.out;omega)).at_ (i:=k) hlt
    injection ea with ea
    subst ea
    have h1':=HA.out k
    have X0:=(hB.cell (p:=⟨g,0,none⟩) (by have:=hP g hPg;have:=Hz0.out;show g<_;omega)).trans x0
    obtain ⟨z,hz⟩:=eV (l.getD k 0)
    rw [hz] at hx h1'
    have Hz:=zF hz
    have hx':wr.cell? ⟨g,k,none⟩=some (.int .i64 z):=by
     have e:Addr.add ⟨g,0,none⟩ k=⟨g,k,none⟩:=by by_cases h:k=0 <;> simp [Addr.add,h]
     rw [←e];exact hx
    have z1:¬ z<0:=by omega
    have z2:¬ 268435456<z:=by omega
    clear hx hz
    obtain ⟨zn,hzn⟩:∃ zn:Nat,z=(zn:Int):=⟨z.toNat,by omega⟩
    subst hzn
    have HO6:=zF hO6
    clear hO6
    by_cases hk0:k=0
    · subst hk0
      go_wp2
      go_roundw
      case rel=>exact ⟨1,A6,c6,bs,by omega,by go_num,rfl,HO6.out,by omega,by rw [HBs.out];simp [uN],hB⟩
      case measure=>simp [intOf];omega
    have e0:((k:Int)==0)=false:=by simp;omega
    have q1:k<l.length:=hlt
    by_cases hk1:k=1
    · subst hk1
      obtain ⟨N,hN⟩:∃ N:Nat,zn+40=N:=⟨_,rfl⟩
      have hN0:=hN
      have hN1:(zn:Int)+40=(N:Int):=by omega
      have q2:(0:Int)<(l.length:Int):=by omega
      have q3:0<l.length:=by omega
      have hN2:IntKind.i64.wrap ((zn:Int)+40)=(N:Int):=by rw [qm];omega
      obtain ⟨wo,rfl⟩:=eW wr
      obtain ⟨b0,hb0',he0⟩:∃ b:Nat,b<256∧(N:Int) % 128=(b:Int):=⟨N % 128,by omega,by omega⟩
      have HL:=zF (xB wo b0 hb0')
      obtain ⟨R2,hR2⟩:=eV (yU N)
      have HR2':=zF hR2
      have Hb0':=zF (show b0=N % 128 by omega)
      clear hR2
      have hN:N<268435456:=by omega
      go_wp2
      go_loopw [6,7] (fun v s wr2=>∃ (x:Nat) (A:Option Addr) (c:Nat) (bs:List Nat),v=.int .i64 (x:Int)∧s=.slice A bs.length c∧OW wr2 wo.heap.size A c bs∧0<bs.length∧bs.length≤10∧x<128 ^ (10 - bs.length)∧up7 (10 - bs.length) x bs=R2∧Below wo.heap.size wo wr2) (fun v _ _=>(intOf v).toNat)
      case atStart=>exact ⟨N / 128,_,1,[b0],by simp,rfl,HL.out,by simp,by simp,by simp;omega,(by rw [Hb0'.out];exact HR2'.out),(zQ _ wo).alloc (zG _) _⟩
      case round =>
       clear HL he0 hb0'
       obtain ⟨x,A,c3,b2,rfl,rfl,hO,h0,hl2,hx,hup,hB2⟩:=hrel
       have HUp:=zF hup
       clear hup
       have hs2:=hB2.size
       by_cases hx0:0<x
       · obtain ⟨b,hb,hbe⟩:∃ b:Nat,b<256∧128+(x:Int) % 128=(b:Int):=⟨128+x % 128,by omega,by omega⟩
         have Hbe:=zF (show b=128+x % 128 by omega)
         have hl9:b2.length≤9:=by
          rcases qB 9 b2.length with h | h
          · have:b2.length=10:=by omega
            rw [this] at hx
            simp at hx
            omega
          · exact h
         have hx':x / 128<128 ^ (10 - (b2.length+1)):=by
          rw [show 10 - b2.length=10 - (b2.length+1)+1 by omega,zv] at hx
          exact qP (by rw [zh];exact hx)
         have HX:=zF hx'
         have HUp2:=zF (show up7 (10 - (b2.length+1)) (x / 128) (b :: b2)=R2 by rw [Hbe.out,←HUp.out,show 10 - b2.length=10 - (b2.length+1)+1 by omega,up7,zr (by omega)])
         have Hw2:=zF (show wrap64 ((x:Int) / 128)=(x:Int) / 128 by have:=tg h0 hx;rw [←IntWalk.i64_left,qm];omega)
         have HO:=zF (xB wr b hb)
         have HRb:=zF ((hO.rb (by omega)).below ((zQ _ wr).alloc (zG _) (.cells #[.int .u8 (b:Int)] 5)) fun q hq=>hq.2)
         have hi:(0:Int)<(x:Int):=by omega
         have HB2:=zF hB2
         clear hx hx' hO hB2
         go_wp2_with (at_builtin;refine wf rfl (.tmp 77) (.tmp 78) rfl wr.heap.size (bs:=[b]) rfl HO.out rfl HRb.out (by simp;omega) (by simp) ?_;intro A2 c2 w2 hw2 hb2)
         have HB:=zF ((HB2.out.alloc hs2 (.cells #[.int .u8 (b:Int)] 5)).trans (hb2.mono hs2))
         go_roundw
         case rel=>exact ⟨x / 128,A2,c2,b :: b2,by rw [Hw2.out];simp,rfl,j6 hw2 hs2,by simp,by simp;omega,by simpa using HX.out,by simpa using HUp2.out,HB.out⟩
         case measure=>rw [Hw2.out];simp [intOf];omega
       · have hx0':x=0:=by omega
         subst hx0'
         have hRb:b2=R2:=by rw [←HUp.out];cases 10 - b2.length <;> simp [up7]
         have HRb2:=zF hRb
         clear hRb
         have HR2:=zF (hO.rb (by omega))
         have HO8:=zF (wv HO6.out hB2)
         have HB2:=zF (hB.trans (hB2.mono hs))
         have hsz:=HB2.out.size
         clear hO hB2
         go_wp2_with (at_builtin;refine wf rfl (.tmp 80) (.tmp 81) rfl W0.heap.size (bs:=bs) rfl HO8.out rfl HR2.out (by omega) hsz ?_;intro A2 c2 w3 hw3 hb3)
         have HB8:=zF (HB2.out.trans hb3)
         have HW3:=zF hw3
         clear hw3 hb3
         go_roundw
         case rel=>exact ⟨1+1,A2,c2,bs++b2,by omega,by go_num,by rw [zk],HW3.out,by rw [zk];omega,by rw [HBs.out,HRb2.out,←HR2'.out];exact sj H0.out Hz.out hN0,HB8.out⟩
         case measure=>simp [intOf];omega
    have e1:((k:Int)==1)=false:=by simp;omega
    obtain ⟨wo,rfl⟩:=eW wr
    obtain ⟨b0,hb0',he0⟩:∃ b:Nat,b<256∧(zn:Int) % 128=(b:Int):=⟨zn % 128,by omega,by omega⟩
    have HL:=zF (xB wo b0 hb0')
    obtain ⟨R2,hR2⟩:=eV (yU zn)
    have HR2':=zF hR2
    have Hb0':=zF (show b0=zn % 128 by omega)
    clear hR2
    have hN:zn<268435456:=by omega
    go_wp2
    go_loopw [6,7] (fun v s wr2=>∃ (x:Nat) (A:Option Addr) (c:Nat) (bs:List Nat),v=.int .i64 (x:Int)∧s=.slice A bs.length c∧OW wr2 wo.heap.size A c bs∧0<bs.length∧bs.length≤10∧x<128 ^ (10 - bs.length)∧up7 (10 - bs.length) x bs=R2∧Below wo.heap.size wo wr2) (fun v _ _=>(intOf v).toNat)
    case atStart=>exact ⟨zn / 128,_,1,[b0],by simp,rfl,HL.out,by simp,by simp,by simp;omega,(by rw [Hb0'.out];exact HR2'.out),(zQ _ wo).alloc (zG _) _⟩
    case round =>
     clear HL he0 hb0'
     obtain ⟨x,A,c3,b2,rfl,rfl,hO,h0,hl2,hx,hup,hB2⟩:=hrel
     have HUp:=zF hup
     clear hup
     have hs2:=hB2.size
     by_cases hx0:0<x
     · obtain ⟨b,hb,hbe⟩:∃ b:Nat,b<256∧128+(x:Int) % 128=(b:Int):=⟨128+x % 128,by omega,by omega⟩
       have Hbe:=zF (show b=128+x % 128 by omega)
       have hl9:b2.length≤9:=by
        rcases qB 9 b2.length with h | h
        · have:b2.length=10:=by omega
          rw [this] at hx
          simp at hx
          omega
        · exact h
       have hx':x / 128<128 ^ (10 - (b2.length+1)):=by
        rw [show 10 - b2.length=10 - (b2.length+1)+1 by omega,zv] at hx
        exact qP (by rw [zh];exact hx)
       have HX:=zF hx'
       have HUp2:=zF (show up7 (10 - (b2.length+1)) (x / 128) (b :: b2)=R2 by rw [Hbe.out,←HUp.out,show 10 - b2.length=10 - (b2.length+1)+1 by omega,up7,zr (by omega)])
       have Hw2:=zF (show wrap64 ((x:Int) / 128)=(x:Int) / 128 by have:=tg h0 hx;rw [←IntWalk.i64_left,qm];omega)
       have HO:=zF (xB wr b hb)
       have HRb:=zF ((hO.rb (by omega)).below ((zQ _ wr).alloc (zG _) (.cells #[.int .u8 (b:Int)] 5)) fun q hq=>hq.2)
       have hi:(0:Int)<(x:Int):=by omega
       have HB2:=zF hB2
       clear hx hx' hO hB2
       go_wp2_with (at_builtin;refine wf rfl (.tmp 77) (.tmp 78) rfl wr.heap.size (bs:=[b]) rfl HO.out rfl HRb.out (by simp;omega) (by simp) ?_;intro A2 c2 w2 hw2 hb2)
       have HB:=zF ((HB2.out.alloc hs2 (.cells #[.int .u8 (b:Int)] 5)).trans (hb2.mono hs2))
       go_roundw
       case rel=>exact ⟨x / 128,A2,c2,b :: b2,by rw [Hw2.out];simp,rfl,j6 hw2 hs2,by simp,by simp;omega,by simpa using HX.out,by simpa using HUp2.out,HB.out⟩
       case measure=>rw [Hw2.out];simp [intOf];omega
     · have hx0':x=0:=by omega
       subst hx0'
       have hRb:b2=R2:=by rw [←HUp.out];cases 10 - b2.length <;> simp [up7]
       have HRb2:=zF hRb
       clear hRb
       have HR2:=zF (hO.rb (by omega))
       have HO8:=zF (wv HO6.out hB2)
       have HB2:=zF (hB.trans (hB2.mono hs))
       have hsz:=HB2.out.size
       clear hO hB2
       go_wp2_with (at_builtin;refine wf rfl (.tmp 80) (.tmp 81) rfl W0.heap.size (bs:=bs) rfl HO8.out rfl HR2.out (by omega) hsz ?_;intro A2 c2 w3 hw3 hb3)
       have HB8:=zF (HB2.out.trans hb3)
       have HW3:=zF hw3
       clear hw3 hb3
       go_roundw
       case rel=>exact ⟨k+1,A2,c2,bs++b2,by omega,by go_num,by rw [zk],HW3.out,by rw [zk];omega,by rw [HBs.out,HRb2.out,←HR2'.out];exact si (by omega) hlt Hz.out,HB8.out⟩
       case measure=>simp [intOf];omega
  · obtain rfl:k=l.length:=by omega
    have hbo:bs=wU l:=by rw [HBs.out];exact oI (by omega)
    have HBo:=zF hbo
    clear hbo
    have hb1:=(hB.block w.heap.size (by have:=Hz0.out;omega)).trans Hb0.out
    have HBB:=zF (HB0.out.trans (hB.mono (by have:=Hz0.out;omega)))
    have HRb:=zF ((hO6.rb (by omega)).mono (P':=In W0.heap.size wr.heap.size) fun b hb=>hb)
    obtain ⟨s,hs0⟩:=eV w.heap.size
    have hsW:s<W0.heap.size:=by have:=Hz0.out;omega
    rw [hs0] at hb1 HBB
    have q0:=zH hb1 0
    have q1:=zH hb1 1
    have q2:=zH hb1 2
    have p0:=zp hb1 0
    have p1:=zp hb1 1
    have p2:=zp hb1 2
    simp only [zI,zJ,zL] at q0 q1 q2
    have r:=wK hb1 (.int .i64 6) (.slice A6 bs.length c6) (.slice none 0 0)
    have r0:=zH r 0
    have r1:=zH r 1
    have r2:=zH r 2
    simp only [zI,zJ,zL] at r0 r1 r2
    have R0:=zF r0
    have R1:=zF r1
    have R2:=zF r2
    clear r r0 r1 r2 hb1 hO6 hB
    go_wp2
    have r0:=R0.out
    have r1:=R1.out
    have r2:=R2.out
    refine qF (v:=.tuple #[.agg #[.int .i64 6,.slice A6 bs.length c6,.slice none 0 0],.bool true]) (by simp [results,Tryz.results148,go_sem,hs0,r0,r1,r2]) rfl ⟨⟨A6,c6,by rw [←HBo.out],?_⟩,?_⟩
    · rw [←HBo.out]
      refine (HRb.out.keep fun p hp=>zS ?_).mono fun q hq=>⟨by have:=hq.1;have:=Hz0.out;omega,by have:=hq.2;simpa [World.setCell] using this⟩
      have hq:p.block≠s:=by have:=hp.1;omega
      exact (zO _ _ _ _ hq).trans ((zO _ _ _ _ hq).trans (zO _ _ _ _ hq))
    · rw [hs0]
      exact ((HBB.out.setCell (p:=⟨s,0,none⟩) (zG _) _).setCell (p:=⟨s,1,none⟩) (zG _) _).setCell (p:=⟨s,2,none⟩) (zG _) _
theorem dB:∀ {bg:Bool} {b:List Nat},0<b.length→128≤b.getD (b.length - 1) 0→xm bg b=false
  | bg, [x], _, h => by
    simp at h
    simp only [xm]
    split
    · rfl
    · simp;omega
  | bg, x :: y :: r, _, h => by
    rw [xm]
    split
    · rfl
    · exact dB (b:=y :: r) (by simp) (by simpa using h)
theorem ax (P:Nat→Prop) (A:Option Addr) (c tag:Nat) (b:List Nat) (w:World) (h:RB w P A c b) :
 Calls Tryz.prog 175 #[.int .i64 tag,.slice A b.length c] w fun e w'=>e=.returned (.bool (jY tag b))∧∃ d,w'=w.drewN d:=by
 obtain ⟨hlc,hc,hl⟩:=h.cap
 have H:=zF h
 obtain ⟨R,hR⟩:=eV (jY tag b)
 rw [hR]
 have fin:∀ {v:Bool},v=R→Ending.returned (.bool v)=Ending.returned (.bool R)∧∃ d,w=w.drewN d:=fun h=>⟨by rw [h],0,rfl⟩
 obtain ⟨n,hn⟩:=eV b.length
 rw [hn] at hlc hl ⊢
 have Hn:=zF hn
 clear h hn
 obtain ⟨z,hz⟩:∃ z:Int,(tag:Int)=z:=⟨_,rfl⟩
 rw [hz]
 by_cases t2:tag=2
 · subst t2
   obtain rfl:z=2:=hz.symm
   clear hz
   unfold jY at hR
   rw [qE rfl,Hn.out] at hR
   by_cases h0:n=0
   · have hR':false=R:=by rw [←hR];simp [h0]
     subst h0
     clear hR
     subst hR'
     go_enter Tryz.func175,Tryz.ntmps175
     go_wp2
     go_ret
     exact fin rfl
   have h0':(0:Int)<(n:Int):=by omega
   have h0'':0<n:=by omega
   obtain ⟨ad,rfl,-,x0,y0⟩:=RB.get0 H.out (by rw [Hn.out];omega)
   obtain ⟨b0,hb0⟩:=eV (b.getD 0 0)
   rw [hb0] at x0 y0 hR
   by_cases h1:b0<128
   rotate_left
   · have hR':false=R:=by rw [←hR];simp [h1]
     have h1':¬ (b0:Int)<128:=by omega
     clear hR
     subst hR'
     go_enter Tryz.func175,Tryz.ntmps175
     go_wp2
     go_ret
     exact fin rfl
   have h1':(b0:Int)<128:=by omega
   by_cases h2:0<b0
   · have hR':true=R:=by rw [←hR];simp [h0'',h1,h2]
     have h2':((b0:Int)==0)=false:=beq_eq_false_iff_ne.2 (by omega)
     have h2'':¬ (b0:Int)=0:=by omega
     clear hR
     subst hR'
     go_enter Tryz.func175,Tryz.ntmps175
     go_wp2
     go_ret
     exact fin rfl
   obtain rfl:b0=0:=by omega
   have x0':w.cell? ad=some (.int .u8 0):=x0
   clear x0
   by_cases h3:n=1
   · have hR':true=R:=by rw [←hR];simp [h1,h2,h3]
     subst h3
     clear hR
     subst hR'
     go_enter Tryz.func175,Tryz.ntmps175
     go_wp2
     go_ret
     exact fin rfl
   have h3':((n:Int)==1)=false:=beq_eq_false_iff_ne.2 (by omega)
   have h4:1<n:=by omega
   have h4':(1:Int)<(n:Int):=by omega
   obtain ⟨x1,y1⟩:=RB.get1 H.out (by rw [Hn.out];omega)
   obtain ⟨b1,hb1⟩:=eV (b.getD 1 0)
   rw [hb1] at x1 y1 hR
   have hR':decide (128≤b1)=R:=by rw [←hR];simp [h0'',h1,h2,h3]
   by_cases h5:128≤b1
   · have h5':(128:Int)≤(b1:Int):=by omega
     have hR2:true=R:=by rw [←hR'];simp [h5]
     clear hR hR'
     subst hR2
     go_enter Tryz.func175,Tryz.ntmps175
     go_wp2
     go_ret
     exact fin rfl
   · have h5':¬ (128:Int)≤(b1:Int):=by omega
     have hR2:false=R:=by rw [←hR'];simp [h5]
     clear hR hR'
     subst hR2
     go_enter Tryz.func175,Tryz.ntmps175
     go_wp2
     go_ret
     exact fin rfl
 have t2':(z==2)=false:=beq_eq_false_iff_ne.2 (by omega)
 by_cases t3:tag=3
 · subst t3
   obtain rfl:z=3:=hz.symm
   clear hz
   unfold jY at hR
   rw [zr (by omega),qE rfl,Hn.out] at hR
   by_cases h0:n=0
   · have hR':false=R:=by rw [←hR];simp [h0]
     subst h0
     clear hR t2 t2'
     subst hR'
     go_enter Tryz.func175,Tryz.ntmps175
     go_wp2
     go_ret
     exact fin rfl
   have h0':(0:Int)<(n:Int):=by omega
   have h0'':0<n:=by omega
   obtain ⟨ad,rfl,-,x0,y0⟩:=RB.get0 H.out (by rw [Hn.out];omega)
   obtain ⟨b0,hb0⟩:=eV (b.getD 0 0)
   rw [hb0] at x0 y0 hR
   have hR':(b0==0)=R:=by rw [←hR];simp [h0'']
   by_cases h5:b0=0
   · subst h5
     have hR2:true=R:=by rw [←hR'];simp
     clear hR hR' t2 t2'
     subst hR2
     go_enter Tryz.func175,Tryz.ntmps175
     go_wp2
     go_ret
     exact fin rfl
   · have h5':((b0:Int)==0)=false:=by simp;omega
     have hR2:false=R:=by rw [←hR'];simp [h5]
     clear hR hR' t2 t2'
     subst hR2
     go_enter Tryz.func175,Tryz.ntmps175
     go_wp2
     go_ret
     exact fin rfl
 have t3':(z==3)=false:=beq_eq_false_iff_ne.2 (by omega)
 by_cases t4:tag=4
 · subst t4
   obtain rfl:z=4:=hz.symm
   clear hz
   have hR2:true=R:=by rw [←hR];rfl
   clear hR t2 t2' t3 t3'
   subst hR2
   go_enter Tryz.func175,Tryz.ntmps175
   go_wp2
   go_ret
   exact fin rfl
 have t4':(z==4)=false:=beq_eq_false_iff_ne.2 (by omega)
 by_cases t5:tag=5
 · subst t5
   obtain rfl:z=5:=hz.symm
   clear hz
   have hR':(n==0)=R:=by rw [←hR,←Hn.out];rfl
   clear hR t2 t2' t3 t3' t4 t4'
   by_cases h0:n=0
   · subst h0
     have hR2:true=R:=by rw [←hR'];simp
     clear hR'
     subst hR2
     go_enter Tryz.func175,Tryz.ntmps175
     go_wp2
     go_ret
     exact fin rfl
   · have h0':((n:Int)==0)=false:=beq_eq_false_iff_ne.2 (by omega)
     have hR2:false=R:=by rw [←hR'];simp [h0]
     clear hR'
     subst hR2
     go_enter Tryz.func175,Tryz.ntmps175
     go_wp2
     go_ret
     exact fin rfl
 have t5':(z==5)=false:=beq_eq_false_iff_ne.2 (by omega)
 by_cases t6:tag=6
 · subst t6
   obtain rfl:z=6:=hz.symm
   clear hz
   have hR':xF b=R:=by rw [←hR];rfl
   clear hR t2 t2' t3 t3' t4 t4' t5 t5'
   have HR:=zF hR'
   clear hR'
   by_cases hn0:n=0
   · have hR2:false=R:=by rw [←HR.out];unfold xF;rw [Hn.out,hn0];simp
     subst hn0
     subst hR2
     go_enter Tryz.func175,Tryz.ntmps175
     go_wp2
     go_ret
     exact fin rfl
   obtain ⟨m,hm⟩:∃ m,n=m+1:=⟨n - 1,by omega⟩
   obtain ⟨ad,rfl,-,ym,-⟩:=RB.getD H.out (i:=m) (by rw [Hn.out];omega)
   obtain ⟨y,hy⟩:=eV (b.getD m 0)
   rw [hy] at ym
   have Hy:=zF hy
   have Hm:=zF hm
   have e1:((n:Int)==0)=false:=beq_eq_false_iff_ne.2 (by omega)
   have e2:(n:Int) - 1=(m:Int):=by omega
   have e3:m<n:=by omega
   have e4:(m:Int)<(n:Int):=by omega
   have e7:IntKind.i64.wrap (m:Int)=(m:Int):=by rw [qm];omega
   have fin2:∀ {v:Bool} {d:Nat},v=R→Ending.returned (Value.bool v)=Ending.returned (Value.bool R)∧∃ d',w.drewN d=w.drewN d':=fun h=>⟨by rw [h],_,rfl⟩
   clear hn0 hy hm
   by_cases hy1:y<128
   rotate_left
   · have hR2:false=R:=by
      rw [←HR.out];unfold xF
      rw [dB (b:=b) (by rw [Hn.out];omega) (by rw [Hn.out,show n - 1=m by have:=Hm.out;omega,Hy.out];omega)];simp
     have hy2:(128:Int)≤(y:Int):=by omega
     subst hR2
     go_enter Tryz.func175,Tryz.ntmps175
     go_wp2
     go_ret
     exact fin rfl
   have hy2:¬ (128:Int)≤(y:Int):=by omega
   go_enter Tryz.func175,Tryz.ntmps175
   go_wp2
   clear e1 e2 e3 e4 e7 ym
   go_loopw [6] (fun i wr=>∃ k:Nat,k≤n∧i=.int .i64 k∧xm true b=xm (k==0 || decide (b.getD (k - 1) 0<128)) (b.drop k)∧∃ d,wr=w.drewN d) (fun i _=>n - (intOf i).toNat)
   case atStart=>exact ⟨0,by omega,rfl,by simp,0,rfl⟩
   case round =>
    obtain ⟨k,hk,rfl,hN,d,rfl⟩:=hrel
    by_cases hlt:k<n
    · obtain ⟨ad',ea,-,x0,x1⟩:=RB.getD (H.out.keep (w':=w.drewN d) fun _ _=>rfl) (i:=k) (by rw [Hn.out];exact hlt)
      injection ea with ea
      subst ea
      have hst:=cK (bg:=(k==0 || decide (b.getD (k - 1) 0<128))) (b:=b) (k:=k) (by rw [Hn.out];exact hlt) (x:=b.getD k 0) (gD _ _ (by rw [Hn.out];exact hlt)).symm
      obtain ⟨x,hx⟩:=eV (b.getD k 0)
      rw [hx] at x0 x1 hst
      have HN:=zF (hN.trans hst)
      have Hnx:=zF (show ((k+1==0) || decide (b.getD (k+1 - 1) 0<128))=decide (x<128) by rw [jC,hx];simp)
      have q1:(k:Int)<(n:Int):=by omega
      clear hN hst hx
      by_cases h1:x=128
      rotate_left
      · have hx2:((x:Int)==128)=false:=beq_eq_false_iff_ne.2 (by omega)
        have HN2:=zF (HN.out.trans (zr (by simp [h1])))
        clear h1
        go_wp2
        go_roundw
        case rel=>exact ⟨k+1,by omega,by go_num,by rw [Hnx.out];exact HN2.out,d,rfl⟩
        case measure=>simp [intOf];omega
      · subst h1
        have x0':(w.drewN d).cell? (ad.add k)=some (.int .u8 128):=x0
        clear x0
        by_cases hk0:k=0
        · have hR2:false=R:=by rw [←HR.out];unfold xF;rw [HN.out,hk0];simp
          subst hR2
          have q2:((k:Int)==0)=true:=by simp;omega
          clear hk0
          go_wp2
          go_ret
          exact fin2 rfl
        obtain ⟨j,hj⟩:=eV (k - 1)
        obtain ⟨ad',ea,-,z0,z1⟩:=RB.getD (H.out.keep (w':=w.drewN d) fun _ _=>rfl) (i:=j) (by rw [Hn.out];omega)
        injection ea with ea
        subst ea
        obtain ⟨v,hv⟩:=eV (b.getD j 0)
        rw [hj,hv] at HN
        rw [hv] at z0
        have q2:((k:Int)==0)=false:=beq_eq_false_iff_ne.2 (by omega)
        have q3:j<n:=by omega
        have q4:(j:Int)<(n:Int):=by omega
        have q5:(k:Int) - 1=(j:Int):=by omega
        have q6:IntKind.i64.wrap (j:Int)=(j:Int):=by rw [qm];omega
        have HK0:=zF hk0
        clear hk0 hj hv
        by_cases hv1:v<128
        · have hR2:false=R:=by rw [←HR.out];unfold xF;rw [HN.out];simp [hv1]
          subst hR2
          have hv2:(v:Int)<128:=by omega
          go_wp2
          go_ret
          exact fin2 rfl
        · have hv2:¬ (v:Int)<128:=by omega
          have HN2:=zF (HN.out.trans (zr (by simp [hv1,HK0.out])))
          go_wp2
          go_roundw
          case rel=>exact ⟨k+1,by omega,by go_num,by rw [Hnx.out];exact HN2.out,d,rfl⟩
          case measure=>simp [intOf];omega
    · obtain rfl:k=n:=by omega
      have hR2:true=R:=by
       rw [←HR.out];unfold xF
       rw [hN,List.drop_of_length_le (by rw [Hn.out];omega),show k - 1=m by have:=Hm.out;omega,Hy.out,Hn.out]
       have:=Hm.out
       simp [xm,hy1];omega
      subst hR2
      clear hN
      have q1:¬ (k:Int)<(k:Int):=by omega
      go_wp2
      go_ret
      exact fin2 rfl
 have t6':(z==6)=false:=beq_eq_false_iff_ne.2 (by omega)
 have hR2:false=R:=by rw [←hR];unfold jY;rw [zr t2,zr t3,zr t4,zr t5,zr t6]
 clear hR t2 t3 t4 t5 t6 hz
 subst hR2
 go_enter Tryz.func175,Tryz.ntmps175
 go_wp2
 go_ret
 exact fin rfl
end Go.Proofs.YtmlbicgpehchhaaGreat.Der
