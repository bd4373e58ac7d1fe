/- (*der.reader).node: a node is read at a depth, its kids one by one. -/
import Derived.Test.YtendnkpiidhogaaGreatQc80e428bffeb
import Derived.Laws.Bits128
import Derived.WalkMore
set_option maxRecDepth 100000
set_option maxHeartbeats 16000000
namespace Go.Proofs.YtendnkpiidhogaaGreat.Der
open Go.RowKit Go.Shelf
attribute [local go_sem] Oper.semAt_some
def lenV:Value→Nat
 | .slice _ n _=>n
 | _=>0
theorem own_at {w w':World} {base size n:Nat} {e:TypeId} {v:Value} {xs:List Value} (h:w.ownsRow base e size v n xs) (hk:∀ k,base≤k→k<w.heap.size→w'.heap[k]?=w.heap[k]?):w'.ownsRow base e size v n xs:=by
 obtain ⟨h1,h2⟩:=h
 refine ⟨h1,?_⟩
 rcases h2 with h2 | ⟨g,cap,cur,e1,hg,hh,r⟩
 · exact .inl h2
 · exact .inr ⟨g,cap,cur,e1,hg,(hk g hg (blk_lt hh)).trans hh,r⟩
theorem own_lt {w:World} {base size n:Nat} {e:TypeId} {v:Value} {xs:List Value} (h:w.ownsRow base e size v n xs) {q:Nat} (hq:v.ownBlock=some q):base≤q∧q<w.heap.size:=by
 rcases h.2 with ⟨rfl,-⟩ | ⟨g,cap,cur,rfl,hg,hh,-⟩
 · cases hq
 · simp [Value.ownBlock] at hq
   subst hq
   exact ⟨hg,blk_lt hh⟩
def Vp (b:Nat) (w:World) (v:Value) (q:Nat):Prop:=b<q∧q<w.heap.size∧some q≠v.ownBlock
theorem kidsOn_nil {rd:Nat→List Nat→Option (DN×List Nat×Nat)} {f left:Nat} {acc:List DN} : kidsOn rd f left acc []=some (acc,left):=by
 cases f <;> simp [kidsOn]
theorem kidsOn_no {rd:Nat→List Nat→Option (DN×List Nat×Nat)} {f left:Nat} {acc:List DN} {b:List Nat} (hb:b≠[]) (h:rd left b=none):kidsOn rd f left acc b=none:=by
 cases f <;> simp [kidsOn,hb,h]
theorem kidsOn_yes {rd:Nat→List Nat→Option (DN×List Nat×Nat)} {f left l:Nat} {acc:List DN} {b r:List Nat} {k:DN} (hb:b≠[]) (h:rd left b=some (k,r,l)):kidsOn rd (f+1) left acc b=kidsOn rd f l (acc++[k]) r:=by
 rw [kidsOn,if_neg hb,h]
theorem node_bad {d left:Nat} {b:List Nat} (h0:left≠0) (h:headOf b=none):nodeOf (d+1) left b=none:=by rw [nodeOf,if_neg h0,h]
theorem node_leaf {d left t:Nat} {b h r:List Nat} (h0:left≠0) (hh:headOf b=some (t,h,r)) (ht:t≠48):nodeOf (d+1) left b=if plainOf t h then some (.mk t h [],r,left - 1) else none:=by
 rw [nodeOf,if_neg h0,hh]
 show (if t≠48 then _ else _)=_
 rw [if_pos ht]
def seqR (r:List Nat):Option (List DN×Nat)→Option (DN×List Nat×Nat)
 | none=>none
 | some (ks,l)=>some (.mk 48 [] ks,r,l)
theorem node_seq {d left:Nat} {b h r:List Nat} (h0:left≠0) (hh:headOf b=some (48,h,r)):nodeOf (d+1) left b=seqR r (kidsOn (nodeOf d) h.length (left - 1) [] h):=by
 rw [nodeOf,if_neg h0,hh]
 show (if 48≠48 then _ else _)=_
 rw [if_neg (by omega)]
 generalize kidsOn (nodeOf d) h.length (left - 1) [] h=K
 cases K <;> rfl
theorem seqP {P:Nat→Prop} {g s sn:Nat} {w w':World} {l:Nat} {Ak A2:Option Addr} {ck c2:Nat} {acc:List DN} {cs:List Value} {r:List Nat} (hg:w'.heap[g]?=some (.cells #[.int .i64 (l:Int)] 241 (0,0))) (hs:s<sn) (hsz:w'.heap.size=w.heap.size) (hk:∀ q,q≠s→w'.heap[q]?=w.heap[q]?) (hown:w.ownsRow (sn+1) 172 3 (.slice Ak acc.length ck) acc.length cs) (hds:RDs w (Vp sn w (.slice Ak acc.length ck)) acc cs) (h2:RB w P A2 c2 r) (hP:∀ q,P q→q<s) :
 NodeP (seqR r (some (acc,l))) P g s (.returned (.tuple #[.agg #[.int .i64 48,.slice none 0 0,.slice Ak acc.length ck],.slice A2 r.length c2,.bool true])) w':=by
 refine ⟨_,hg,rfl,_,A2,c2,rfl,?_,h2.keep fun p hp=>World.cell?_of_block (hk _ (by have:=hP _ hp;omega))⟩
 unfold RD
 refine ⟨none,0,Ak,ck,cs,rfl,RB.nil_ _ _,fun _=>⟨rfl,rfl⟩,((RS.of_own hown).keep fun p hp=>World.cell?_of_block (hk _ (by have:=hp.1;omega))).mono fun q hq=>?_,RDs.mono (fun q hq=>?_) (RDs.keep (fun p hp=>World.cell?_of_block (hk _ (by have:=hp.1;omega))) hds)⟩
 · obtain ⟨q1,q2⟩:=hq
   exact ⟨by omega,by omega⟩
 · obtain ⟨q1,q2,-⟩:=hq
   exact ⟨by omega,by omega⟩
theorem leafP {P:Nat→Prop} {g s sz:Nat} {w w':World} {t l:Nat} {A3 A2:Option Addr} {c3 c2:Nat} {h r:List Nat} {b:Bool} (ht:t≠48) (hg:w'.heap[g]?=some (.cells #[.int .i64 (l:Int)] 241 (0,0))) (h3:RB w (In sz w.heap.size) A3 c3 h) (hs:s<sz) (hsz:w'.heap.size=w.heap.size) (hk:∀ q,q≠s→w'.heap[q]?=w.heap[q]?) (h2:RB w' P A2 c2 r) :
 NodeP (if b then some (.mk t h [],r,l) else none) P g s (.returned (.tuple #[.agg #[.int .i64 (t:Int),.slice A3 h.length c3,.slice none 0 0],.slice A2 r.length c2,.bool b])) w':=by
 cases b
 · exact nodeP_none hg
 · refine ⟨_,hg,rfl,_,A2,c2,rfl,?_,h2⟩
   unfold RD
   refine ⟨A3,c3,none,0,[],rfl,(h3.keep fun p hp=>World.cell?_of_block (hk _ (by have:=hp.1;omega))).mono fun q hq=>?_,fun e=>absurd e ht,RS.nil_ _ _ _,by unfold RDs;rfl⟩
   obtain ⟨q1,q2⟩:=hq
   exact ⟨by omega,by omega⟩
theorem node_any (d:Nat):∀ (z:Int) (left g:Nat) (P:Nat→Prop) (A:Option Addr) (c:Nat) (b:List Nat) (w:World),0≤z→z+d=16→left≤1024→w.heap[g]?=some (.cells #[.int .i64 left] 241 (0,0))→RB w P A c b→(∀ q,P q→q<w.heap.size∧q≠g) →
    Calls Tryz.prog 218 #[.pointer (some ⟨g,0,none⟩),.slice A b.length c,.int .i64 z] w fun e w'=>NodeP (nodeOf d left b) P g w.heap.size e w'∧Bb w.heap.size g w w':=by
  induction d with
  | zero =>
    intro z left g P A c b w hz0 hz hl h hb hP
    rw [show nodeOf 0 left b=none by simp [nodeOf]]
    exact node_stop z left g P A c b.length w (.inr (by omega)) ⟨by omega,by omega⟩ h
  | succ d ih =>
  intro z left g P A c b w hz0 hz hl h hb hP
  by_cases h0:left=0
  · rw [show nodeOf (d+1) left b=none by rw [nodeOf,if_pos h0]]
    exact node_stop z left g P A c b.length w (.inl (by omega)) ⟨by omega,by omega⟩ h
  obtain ⟨R,hR⟩:∃ R,nodeOf (d+1) left b=R:=⟨_,rfl⟩
  rw [hR]
  have HR:=Lib.hid hR
  have H0:=Lib.hid h0
  obtain ⟨n,hn⟩:∃ n:Int,(left:Int)=n:=⟨_,rfl⟩
  rw [hn] at h
  have hn0:0<n:=by omega
  have hn1:n≤1024:=by omega
  have HN:=Lib.hid (show n - 1=((left - 1:Nat):Int) by omega)
  have Hl:=Lib.hid hl
  have hz1:z<16:=by omega
  have HZ:=Lib.hid (show z+1+(d:Int)=16 by push_cast at hz;omega)
  have HP:=Lib.hid hP
  have Hb:=Lib.hid hb
  clear hR h0 hn hl hz hb hP
  have hg:=blk_lt h
  have x0:=(Below.heap_alloc w (.cells #[.int .i64 0,.slice none 0 0,.slice none 0 0] 172) g hg).trans h
  have y0:=blk_cell x0 0
  have f0:=blk_free x0 0
  simp at y0
  have x1:=bset x0 0 (.int .i64 (n - 1))
  have hr:=heap_alloc_new w (.cells #[.int .i64 0,.slice none 0 0,.slice none 0 0] 172)
  have hr1:=(Below.heap_setCell (w.alloc (.cells #[.int .i64 0,.slice none 0 0,.slice none 0 0] 172)) ⟨g,0,none⟩ (.int .i64 (n - 1)) w.heap.size (Nat.ne_of_gt hg)).trans hr
  have hB0:Bb w.heap.size g w ((w.alloc (.cells #[.int .i64 0,.slice none 0 0,.slice none 0 0] 172)).setCell ⟨g,0,none⟩ (.int .i64 (n - 1))):=((Bb.refl w.heap.size g w).alloc (Nat.le_refl _) _).set 0 _
  have HB0:=Lib.hid hB0
  have Hr:=Lib.hid hr1
  have Hx1:Hid (((w.alloc (.cells #[.int .i64 0,.slice none 0 0,.slice none 0 0] 172)).setCell ⟨g,0,none⟩ (.int .i64 (n - 1))).heap[g]?=some (.cells #[.int .i64 (n - 1)] 241 (0,0))):=Lib.hid (by simpa using x1)
  have Hsz:Hid (((w.alloc (.cells #[.int .i64 0,.slice none 0 0,.slice none 0 0] 172)).setCell ⟨g,0,none⟩ (.int .i64 (n - 1))).heap.size=w.heap.size+1):=Lib.hid (by simp [World.setCell])
  obtain ⟨s,hs⟩:∃ s,w.heap.size=s:=⟨_,rfl⟩
  rw [hs] at Hr HB0 Hsz hg ⊢
  have Hs:=Lib.hid hs
  clear x0 x1 h hr hr1 hB0 hs
  have z0:=blk_cell Hx1.out 0
  simp at z0
  have hk1:¬ n - 1<0:=by omega
  have hk2:¬ 16≤z:=by omega
  go_enter Tryz.func218,Tryz.ntmps218
  go_wp2
  go_step3
  go_upto_region 3 with fail
  clear z0 f0 y0
  rw [Hs.out]
  generalize (w.alloc (.cells #[.int .i64 0,.slice none 0 0,.slice none 0 0] 172)).setCell ⟨g,0,none⟩ (.int .i64 (n - 1))=W1 at *
  have Hb1:=Lib.hid (Bb.rb Hb.out HB0.out (fun q hq=>⟨by have:=(HP.out q hq).1;have:=Hs.out;omega,(HP.out q hq).2⟩))
  have hP1:∀ q,P q→q<W1.heap.size:=fun q hq=>by have:=(HP.out q hq).1;have:=Hs.out;have:=Hsz.out;omega
  have HP1:=Lib.hid hP1
  have HHd:=Lib.hid (head_any P A c b W1 Hb1.out hP1)
  clear hP1
  go_wp2_with fail
  refine HHd.out.mono ?_
  obtain ⟨R0,hR0⟩:∃ R0,headOf b=R0:=⟨_,rfl⟩
  rw [hR0]
  have HR0:=Lib.hid hR0
  clear hR0 HHd
  rintro e w2 ⟨hH,hB2⟩
  have Hr2:=Lib.hid ((hB2.block s (by have:=Hsz.out;omega)).trans Hr.out)
  have Hx2:=Lib.hid ((hB2.block g (by have:=Hsz.out;omega)).trans Hx1.out)
  have hB2':=HB0.out.trans (below_bb (hB2.mono (show s≤W1.heap.size by have:=Hsz.out;omega)) g)
  have HB2:=Lib.hid hB2'
  have Hsz2:=Lib.hid (show s<w2.heap.size by have:=hB2.size;have:=Hsz.out;omega)
  have HP2:=Lib.hid (show ∀ q,P q→q<w2.heap.size∧q≠g from fun q hq=>⟨by have:=HP1.out q hq;have:=hB2.size;omega,(HP.out q hq).2⟩)
  have HPs:=Lib.hid (show ∀ q,P q→q<s∧q≠g from fun q hq=>⟨by have:=(HP.out q hq).1;have:=Hs.out;omega,(HP.out q hq).2⟩)
  clear hB2 hB2' Hr Hx1 HB0 Hsz HP1 HP Hb Hb1
  cases R0 with
  | none =>
    unfold HeadP at hH
    subst hH
    have hR:R=none:=HR.out.symm.trans (node_bad H0.out HR0.out)
    subst hR
    go_upto_region 6 with fail
    have q0:=blk_cell Hr2.out 0
    have q1:=blk_cell Hr2.out 1
    have q2:=blk_cell Hr2.out 2
    have p0:=blk_free Hr2.out 0
    have p1:=blk_free Hr2.out 1
    have p2:=blk_free Hr2.out 2
    simp only [List.getElem?_toArray,List.getElem?_cons_zero,List.getElem?_cons_succ] at q0 q1 q2
    go_wp2
    have r:=set3 Hr2.out (.int .i64 0) (.slice none 0 0) (.slice none 0 0)
    have r0:=blk_cell r 0
    have r1:=blk_cell r 1
    have r2:=blk_cell r 2
    simp only [List.getElem?_toArray,List.getElem?_cons_zero,List.getElem?_cons_succ] at r0 r1 r2
    rw [Exit.noGoto_ret]
    refine bodyPost_ret (v:=.tuple #[.agg #[.int .i64 0,.slice none 0 0,.slice none 0 0],.slice none 0 0,.bool false]) (by simp [results,Tryz.results218,go_sem,r0,r1,r2]) rfl ⟨nodeP_none (gone3 Hx2.out (by omega) _ _ _),?_⟩
    exact ((HB2.out.setCell (p:=⟨s,0,none⟩) (Nat.le_refl _) _).setCell (p:=⟨s,1,none⟩) (Nat.le_refl _) _).setCell (p:=⟨s,2,none⟩) (Nat.le_refl _) _
  | some q =>
    obtain ⟨t,h,r⟩:=q
    unfold HeadP at hH
    obtain ⟨A1,c1,A2,c2,rfl,h1,h2,ht⟩:=hH
    have H1:=Lib.hid h1
    have H2:=Lib.hid h2
    clear h1 h2
    by_cases h48:t=48
    rotate_left
    · have h48':((t:Int)==48)=false:=beq_eq_false_iff_ne.2 (by omega)
      have hR:R=if plainOf t h then some (.mk t h [],r,left - 1) else none:=HR.out.symm.trans (node_leaf H0.out HR0.out h48)
      obtain ⟨pb,hpb⟩:∃ pb,plainOf t h=pb:=⟨_,rfl⟩
      rw [hpb] at hR
      subst hR
      have HPb:=Lib.hid hpb
      have H48:=Lib.hid h48
      clear hpb h48 HR HR0
      go_upto_region 8 with fail
      go_wp2_with fail
      refine (bclone_any P A1 c1 h w2 H1.out (fun q hq=>(HP2.out q hq).1)).mono ?_
      rintro e w3 ⟨A3,c3,rfl,hr3,hB3⟩
      have Hr3:=Lib.hid hr3
      have HB3:=Lib.hid hB3
      have HPl:=Lib.hid (plain_any P A1 c1 t h w3 (H1.out.below hB3 (fun q hq=>(HP2.out q hq).1)))
      rw [HPb.out] at HPl
      clear hr3 hB3
      go_wp2_with fail
      refine HPl.out.mono ?_
      rintro e w4 ⟨rfl,d4,rfl⟩
      have HB4:=Lib.hid (below_drewN HB3.out d4)
      have Hr4:=Lib.hid (Hr3.out.keep (w':=w3.drewN d4) fun _ _=>rfl)
      have hsz4:(w3.drewN d4).heap.size=w3.heap.size:=rfl
      rw [←hsz4] at Hr4
      clear hsz4 Hr3 HB3 HPl
      generalize w3.drewN d4=W4 at *
      have Hq4:=Lib.hid ((HB4.out.block s Hsz2.out).trans Hr2.out)
      have Hx4:=Lib.hid ((HB4.out.block g (by have:=Hsz2.out;omega)).trans Hx2.out)
      have H24:=Lib.hid (H2.out.below HB4.out (fun q hq=>(HP2.out q hq).1))
      have HB5:=Lib.hid (HB2.out.trans (below_bb (HB4.out.mono (Nat.le_of_lt Hsz2.out)) g))
      have q0:=blk_cell Hq4.out 0
      have q1:=blk_cell Hq4.out 1
      have q2:=blk_cell Hq4.out 2
      have p0:=blk_free Hq4.out 0
      have p1:=blk_free Hq4.out 1
      have p2:=blk_free Hq4.out 2
      simp only [List.getElem?_toArray,List.getElem?_cons_zero,List.getElem?_cons_succ] at q0 q1 q2
      go_wp2
      have r':=set3 Hq4.out (.int .i64 (t:Int)) (.slice A3 h.length c3) (.slice none 0 0)
      have r0:=blk_cell r' 0
      have r1:=blk_cell r' 1
      have r2:=blk_cell r' 2
      simp only [List.getElem?_toArray,List.getElem?_cons_zero,List.getElem?_cons_succ] at r0 r1 r2
      rw [Exit.noGoto_ret]
      refine bodyPost_ret (v:=.tuple #[.agg #[.int .i64 (t:Int),.slice A3 h.length c3,.slice none 0 0],.slice A2 r.length c2,.bool pb]) (by simp [results,Tryz.results218,go_sem,r0,r1,r2]) rfl ⟨?_,?_⟩
      · refine leafP (w:=W4) (sz:=w2.heap.size) H48.out ?_ Hr4.out Hsz2.out (by simp [World.setCell]) (fun q hq=>?_) ?_
        · rw [←HN.out];exact gone3 Hx4.out (by omega) _ _ _
        · exact (Below.heap_setCell _ _ _ _ hq).trans ((Below.heap_setCell _ _ _ _ hq).trans (Below.heap_setCell _ _ _ _ hq))
        · exact H24.out.keep fun p hp=>World.cell?_of_block (by
            have hq:p.block≠s:=by have:=(HPs.out _ hp).1;omega
            exact (Below.heap_setCell _ _ _ _ hq).trans ((Below.heap_setCell _ _ _ _ hq).trans (Below.heap_setCell _ _ _ _ hq)))
      · exact ((HB5.out.setCell (p:=⟨s,0,none⟩) (Nat.le_refl _) _).setCell (p:=⟨s,1,none⟩) (Nat.le_refl _) _).setCell (p:=⟨s,2,none⟩) (Nat.le_refl _) _
    subst h48
    have hR:R=seqR r (kidsOn (nodeOf d) h.length (left - 1) [] h):=HR.out.symm.trans (node_seq H0.out HR0.out)
    obtain ⟨RK,hRK⟩:∃ RK,kidsOn (nodeOf d) h.length (left - 1) [] h=RK:=⟨_,rfl⟩
    rw [hRK] at hR
    subst hR
    have HRK:=Lib.hid hRK
    clear hRK HR HR0
    have ht48:((48:Nat):Int)=48:=rfl
    rw [ht48]
    clear ht48
    obtain ⟨sn,hsn⟩:∃ sn,w2.heap.size=sn:=⟨_,rfl⟩
    rw [hsn] at Hsz2 HP2
    have hn3:=heap_alloc_new w2 (.cells #[.int .i64 48,.slice none 0 0,.slice none 0 0] 172)
    rw [hsn] at hn3
    have hB3:Below sn w2 (w2.alloc (.cells #[.int .i64 48,.slice none 0 0,.slice none 0 0] 172)):=(Below.refl sn w2).alloc (by omega) _
    have hz3:(w2.alloc (.cells #[.int .i64 48,.slice none 0 0,.slice none 0 0] 172)).heap.size=sn+1:=by simp;exact hsn
    have HB3:=Lib.hid hB3
    have Hn3:=Lib.hid hn3
    have Hz3:=Lib.hid hz3
    have Hsn:=Lib.hid hsn
    clear hn3 hB3 hz3 hsn
    go_upto_region 10 with fail
    rw [Hsn.out]
    generalize w2.alloc (.cells #[.int .i64 48,.slice none 0 0,.slice none 0 0] 172)=W3 at *
    have Hx3:=Lib.hid ((HB3.out.block g (by have:=Hsz2.out;omega)).trans Hx2.out)
    rw [HN.out] at Hx3
    have Hr3:=Lib.hid ((HB3.out.block s Hsz2.out).trans Hr2.out)
    have H13:=Lib.hid (H1.out.below HB3.out (fun q hq=>(HP2.out q hq).1))
    have H23:=Lib.hid (H2.out.below HB3.out (fun q hq=>(HP2.out q hq).1))
    have HB4:=Lib.hid (HB2.out.trans (below_bb (HB3.out.mono (Nat.le_of_lt Hsz2.out)) g))
    have H20:=Lib.hid (H2.out.keep (w':=w) fun p hp=>(HB2.out.cell (HPs.out _ hp).1 (HPs.out _ hp).2).symm)
    have Hl2:=Lib.hid (show left - 1+0≤1024 by have:=Hl.out;omega)
    clear HB2 Hx2 Hr2 H1 H2 Hsn HP2 HB3
    go_step3
    go_wp2
    go_loopw [10] (fun v wr=>∃ (h':List Nat) (A':Option Addr) (c':Nat) (acc:List DN) (lf f:Nat) (Ak:Option Addr) (ck:Nat) (cs:List Value),v=.slice A' h'.length c'∧RB wr P A' c' h'∧wr.heap[g]?=some (.cells #[.int .i64 (lf:Int)] 241 (0,0))∧wr.heap[s]?=some (.cells #[.int .i64 0,.slice none 0 0,.slice none 0 0] 172 (0,0))∧wr.heap[sn]?=some (.cells #[.int .i64 48,.slice none 0 0,.slice Ak acc.length ck] 172 (0,0))∧wr.ownsRow (sn+1) 172 3 (.slice Ak acc.length ck) acc.length cs∧RDs wr (Vp sn wr (.slice Ak acc.length ck)) acc cs∧h'.length≤f∧kidsOn (nodeOf d) f lf acc h'=RK∧lf+acc.length≤1024∧Bb s g w wr∧sn+1≤wr.heap.size) (fun v _=>lenV v)
    case atStart =>
      exact ⟨h,A1,c1,[],left - 1,h.length,none,0,[],rfl,H13.out,Hx3.out,Hr3.out,Hn3.out,World.ownsRow_nil _ _ _ _,by unfold RDs;rfl,Nat.le_refl _,HRK.out,Hl2.out,HB4.out,Nat.le_of_eq Hz3.out.symm⟩
    case round =>
      obtain ⟨h',A',c',acc,lf,f,Ak,ck,cs,rfl,hb',hx',hr',hn',hown,hds,hf,hK,hla,hB,hsz⟩:=hrel
      have Hb':=Lib.hid hb'
      have Hx':=Lib.hid hx'
      have Hr':=Lib.hid hr'
      have Hn':=Lib.hid hn'
      have Hown:=Lib.hid hown
      have Hds:=Lib.hid hds
      have Hf:=Lib.hid hf
      have HK:=Lib.hid hK
      have Hla:=Lib.hid hla
      have HB:=Lib.hid hB
      have Hsz':=Lib.hid hsz
      clear hb' hx' hr' hn' hown hds hf hK hla hB hsz H13 Hx3 Hr3 Hn3 HRK HB4 Hz3
      by_cases he:h'=[]
      · subst he
        have hK:=HK.out
        rw [kidsOn_nil] at hK
        subst hK
        have hlen:([]:List Nat).length=0:=rfl
        rw [hlen]
        have m0:=blk_cell Hn'.out 0
        have m1:=blk_cell Hn'.out 1
        have m2:=blk_cell Hn'.out 2
        simp only [List.getElem?_toArray,List.getElem?_cons_zero,List.getElem?_cons_succ] at m0 m1 m2
        have q0:=blk_cell Hr'.out 0
        have q1:=blk_cell Hr'.out 1
        have q2:=blk_cell Hr'.out 2
        have p0:=blk_free Hr'.out 0
        have p1:=blk_free Hr'.out 1
        have p2:=blk_free Hr'.out 2
        simp only [List.getElem?_toArray,List.getElem?_cons_zero,List.getElem?_cons_succ] at q0 q1 q2
        have hs2:=Hsz2.out
        have hg3:=gone3 Hx'.out (show g≠s by omega) (.int .i64 48) (.slice none 0 0) (.slice Ak acc.length ck)
        have Hg3:=Lib.hid hg3
        have r':=set3 Hr'.out (.int .i64 48) (.slice none 0 0) (.slice Ak acc.length ck)
        have H2r:=Lib.hid (Bb.rb H20.out HB.out (fun q hq=>HPs.out q hq))
        have Hr'':=Lib.hid r'
        clear hg3 r' hlen
        go_wp2
        have r':=Hr''.out
        have r0:=blk_cell r' 0
        have r1:=blk_cell r' 1
        have r2:=blk_cell r' 2
        simp only [List.getElem?_toArray,List.getElem?_cons_zero,List.getElem?_cons_succ] at r0 r1 r2
        rw [Exit.noGoto_ret]
        refine bodyPost_ret (v:=.tuple #[.agg #[.int .i64 48,.slice none 0 0,.slice Ak acc.length ck],.slice A2 r.length c2,.bool true]) (by simp [results,Tryz.results218,go_sem,r0,r1,r2]) rfl ⟨?_,?_⟩
        · exact seqP (w:=wr) Hg3.out hs2 (by simp [World.setCell]) (fun q hq=>(Below.heap_setCell _ _ _ _ hq).trans ((Below.heap_setCell _ _ _ _ hq).trans (Below.heap_setCell _ _ _ _ hq))) Hown.out Hds.out (H2r.out.keep fun _ _=>rfl) (fun q hq=>(HPs.out q hq).1)
        · exact ((HB.out.setCell (p:=⟨s,0,none⟩) (Nat.le_refl _) _).setCell (p:=⟨s,1,none⟩) (Nat.le_refl _) _).setCell (p:=⟨s,2,none⟩) (Nat.le_refl _) _
      have hpos:(0:Int)<(h'.length:Int):=by
        have:=List.length_pos_iff.2 he
        omega
      have He:=Lib.hid he
      clear he
      obtain ⟨sk,hsk⟩:∃ sk,wr.heap.size=sk:=⟨_,rfl⟩
      have hk5:=heap_alloc_new wr (.cells #[.int .i64 0,.slice none 0 0,.slice none 0 0] 172)
      rw [hsk] at hk5
      have hB5:Below sk wr (wr.alloc (.cells #[.int .i64 0,.slice none 0 0,.slice none 0 0] 172)):=(Below.refl sk wr).alloc (by omega) _
      have hz5:(wr.alloc (.cells #[.int .i64 0,.slice none 0 0,.slice none 0 0] 172)).heap.size=sk+1:=by simp;exact hsk
      have HB5:=Lib.hid hB5
      have Hk5:=Lib.hid hk5
      have Hz5:=Lib.hid hz5
      have Hsk:=Lib.hid hsk
      have Hsk2:=Lib.hid (show sn+1≤sk by rw [←hsk];exact Hsz'.out)
      clear hk5 hB5 hz5 hsk
      go_upto_region 12 with fail
      rw [Hsk.out]
      generalize wr.alloc (.cells #[.int .i64 0,.slice none 0 0,.slice none 0 0] 172)=W5 at *
      have Hx5:=Lib.hid ((HB5.out.block g (by have:=Hsz2.out;have:=Hsk2.out;omega)).trans Hx'.out)
      have Hr5:=Lib.hid ((HB5.out.block s (by have:=Hsz2.out;have:=Hsk2.out;omega)).trans Hr'.out)
      have Hn5:=Lib.hid ((HB5.out.block sn (by have:=Hsk2.out;omega)).trans Hn'.out)
      have HP5:=Lib.hid (show ∀ q,P q→q<W5.heap.size∧q≠g from fun q hq=>⟨by have:=(HPs.out q hq).1;have:=Hz5.out;have:=Hsk2.out;have:=Hsz2.out;omega,(HPs.out q hq).2⟩)
      have Hb5:=Lib.hid (Hb'.out.keep (w':=W5) fun p hp=>HB5.out.cell (by have:=(HPs.out _ hp).1;have:=Hsk2.out;have:=Hsz2.out;omega))
      have HB6:=Lib.hid (HB.out.trans (below_bb (HB5.out.mono (show s≤sk by have:=Hsk2.out;have:=Hsz2.out;omega)) g))
      have IH:=Lib.hid (ih (z+1) lf g P A' c' h' W5 (by omega) HZ.out (by have:=Hla.out;omega) Hx5.out Hb5.out HP5.out)
      clear Hx' Hr' Hn' Hb' HB
      go_wp2_with fail
      refine IH.out.mono ?_
      rintro e w6 ⟨⟨lf2,hx6,hM⟩,hB6⟩
      have hzz:=Hz5.out
      have hss:=Hsk2.out
      have hs2:=Hsz2.out
      have Hr6:=Lib.hid ((hB6.block s (by omega) (by omega)).trans Hr5.out)
      have Hn6:=Lib.hid ((hB6.block sn (by omega) (by omega)).trans Hn5.out)
      have Hk6:=Lib.hid ((hB6.block sk (by omega) (by omega)).trans Hk5.out)
      have HB7:=Lib.hid (HB6.out.trans (hB6.mono (show s≤W5.heap.size by omega)))
      have HB56:=Lib.hid hB6
      have Hx6:=Lib.hid hx6
      have Hz6:=Lib.hid (show sk<w6.heap.size by have:=hB6.size;omega)
      clear hB6 hx6 hzz hss hs2 IH Hx5 Hr5 Hn5 Hb5 HB6
      have q0:=blk_cell Hk6.out 0
      have q1:=blk_cell Hk6.out 1
      have q2:=blk_cell Hk6.out 2
      have p0:=blk_free Hk6.out 0
      have p1:=blk_free Hk6.out 1
      have p2:=blk_free Hk6.out 2
      simp only [List.getElem?_toArray,List.getElem?_cons_zero,List.getElem?_cons_succ] at q0 q1 q2
      obtain ⟨R1,hR1⟩:∃ R1,nodeOf d lf h'=R1:=⟨_,rfl⟩
      rw [hR1] at hM
      have HR1:=Lib.hid hR1
      clear hR1
      cases R1 with
      | none =>
        obtain ⟨xi,B1,n1,d1,B2,n2,d2,v2,rfl⟩:=hM
        have hRK:RK=none:=HK.out.symm.trans (kidsOn_no He.out HR1.out)
        subst hRK
        go_upto_region 13 with fail
        have Hr7:=Lib.hid (gone3 Hr6.out (show s≠sk by have:=Hsk2.out;have:=Hsz2.out;omega) (.int .i64 xi) (.slice B1 n1 d1) (.slice B2 n2 d2))
        have Hx7:=Lib.hid (gone3 Hx6.out (show g≠sk by have:=Hsk2.out;have:=Hsz2.out;omega) (.int .i64 xi) (.slice B1 n1 d1) (.slice B2 n2 d2))
        have HB8:=Lib.hid (((HB7.out.setCell (p:=⟨sk,0,none⟩) (by have:=Hsk2.out;have:=Hsz2.out;show s≤sk;omega) (.int .i64 xi)).setCell (p:=⟨sk,1,none⟩) (by have:=Hsk2.out;have:=Hsz2.out;show s≤sk;omega) (.slice B1 n1 d1)).setCell (p:=⟨sk,2,none⟩) (by have:=Hsk2.out;have:=Hsz2.out;show s≤sk;omega) (.slice B2 n2 d2))
        generalize ((w6.setCell ⟨sk,0,none⟩ (.int .i64 xi)).setCell ⟨sk,1,none⟩ (.slice B1 n1 d1)).setCell ⟨sk,2,none⟩ (.slice B2 n2 d2)=W7 at *
        clear q0 q1 q2 p0 p1 p2
        have q0:=blk_cell Hr7.out 0
        have q1:=blk_cell Hr7.out 1
        have q2:=blk_cell Hr7.out 2
        have p0:=blk_free Hr7.out 0
        have p1:=blk_free Hr7.out 1
        have p2:=blk_free Hr7.out 2
        simp only [List.getElem?_toArray,List.getElem?_cons_zero,List.getElem?_cons_succ] at q0 q1 q2
        go_wp2
        have r:=set3 Hr7.out (.int .i64 0) (.slice none 0 0) (.slice none 0 0)
        have r0:=blk_cell r 0
        have r1:=blk_cell r 1
        have r2:=blk_cell r 2
        simp only [List.getElem?_toArray,List.getElem?_cons_zero,List.getElem?_cons_succ] at r0 r1 r2
        rw [Exit.noGoto_ret]
        refine bodyPost_ret (v:=.tuple #[.agg #[.int .i64 0,.slice none 0 0,.slice none 0 0],.slice none 0 0,.bool false]) (by simp [results,Tryz.results218,go_sem,r0,r1,r2]) rfl ⟨nodeP_none (gone3 Hx7.out (by have:=Hsz2.out;omega) _ _ _),?_⟩
        exact ((HB8.out.setCell (p:=⟨s,0,none⟩) (Nat.le_refl _) _).setCell (p:=⟨s,1,none⟩) (Nat.le_refl _) _).setCell (p:=⟨s,2,none⟩) (Nat.le_refl _) _
      | some q =>
        obtain ⟨k,r',l'⟩:=q
        obtain ⟨rfl,v,A6,c6,rfl,hRD,hRB⟩:=hM
        obtain ⟨xi,B1,n1,d1,B2,n2,d2,rfl⟩:=hRD.shape
        cases f with
        | zero=>exact absurd (List.eq_nil_of_length_eq_zero (by have:=Hf.out;omega)) He.out
        | succ f =>
        have HK2:=Lib.hid ((kidsOn_yes He.out HR1.out).symm.trans HK.out)
        have Hf2:=Lib.hid (show r'.length≤f by have:=node_len HR1.out;have:=Hf.out;omega)
        have Hla2:=Lib.hid (show l'+(acc++[k]).length≤1024 by rw [List.length_append];simp;have:=node_left HR1.out;have:=Hla.out;omega)
        have Hal:=Lib.hid (show acc.length≤1024 by have:=Hla.out;omega)
        have Hlen:=Lib.hid (show lenV (.slice A6 r'.length c6)<lenV (.slice A' h'.length c') by have:=node_len HR1.out;simp only [lenV];omega)
        have hwr:=Hsk.out
        have hzz:=Hz5.out
        have hss:=Hsk2.out
        have hs2:=Hsz2.out
        have hz6:=Hz6.out
        go_upto_region 13 with fail
        have Hk7:=Lib.hid (set3 Hk6.out (.int .i64 xi) (.slice B1 n1 d1) (.slice B2 n2 d2))
        have Hr7:=Lib.hid (gone3 Hr6.out (show s≠sk by omega) (.int .i64 xi) (.slice B1 n1 d1) (.slice B2 n2 d2))
        have Hx7:=Lib.hid (gone3 Hx6.out (show g≠sk by omega) (.int .i64 xi) (.slice B1 n1 d1) (.slice B2 n2 d2))
        have Hn7:=Lib.hid (gone3 Hn6.out (show sn≠sk by omega) (.int .i64 xi) (.slice B1 n1 d1) (.slice B2 n2 d2))
        have Hz7:=Lib.hid (show (((w6.setCell ⟨sk,0,none⟩ (.int .i64 xi)).setCell ⟨sk,1,none⟩ (.slice B1 n1 d1)).setCell ⟨sk,2,none⟩ (.slice B2 n2 d2)).heap.size=w6.heap.size by simp [World.setCell])
        have hk7:∀ q,q≠sk→(((w6.setCell ⟨sk,0,none⟩ (.int .i64 xi)).setCell ⟨sk,1,none⟩ (.slice B1 n1 d1)).setCell ⟨sk,2,none⟩ (.slice B2 n2 d2)).heap[q]?=w6.heap[q]?:=fun q hq=>(Below.heap_setCell _ _ _ _ hq).trans ((Below.heap_setCell _ _ _ _ hq).trans (Below.heap_setCell _ _ _ _ hq))
        have hk7':∀ q,q<sk→q≠g→(((w6.setCell ⟨sk,0,none⟩ (.int .i64 xi)).setCell ⟨sk,1,none⟩ (.slice B1 n1 d1)).setCell ⟨sk,2,none⟩ (.slice B2 n2 d2)).heap[q]?=wr.heap[q]?:=fun q hq hqg=>(hk7 q (by omega)).trans ((HB56.out.block q (by omega) hqg).trans (HB5.out.block q hq))
        have HB8:=Lib.hid (((HB7.out.setCell (p:=⟨sk,0,none⟩) (by show s≤sk;omega) (.int .i64 xi)).setCell (p:=⟨sk,1,none⟩) (by show s≤sk;omega) (.slice B1 n1 d1)).setCell (p:=⟨sk,2,none⟩) (by show s≤sk;omega) (.slice B2 n2 d2))
        have HRD7:=Lib.hid (RD.keep (w':=((w6.setCell ⟨sk,0,none⟩ (.int .i64 xi)).setCell ⟨sk,1,none⟩ (.slice B1 n1 d1)).setCell ⟨sk,2,none⟩ (.slice B2 n2 d2)) (fun p hp=>World.cell?_of_block (hk7 _ (by have:=hp.1;omega))) hRD)
        have HRB7:=Lib.hid (hRB.keep (w':=((w6.setCell ⟨sk,0,none⟩ (.int .i64 xi)).setCell ⟨sk,1,none⟩ (.slice B1 n1 d1)).setCell ⟨sk,2,none⟩ (.slice B2 n2 d2)) fun p hp=>World.cell?_of_block (hk7 _ (by have:=(HPs.out _ hp).1;omega)))
        have Hown7:=Lib.hid (own_at (w':=((w6.setCell ⟨sk,0,none⟩ (.int .i64 xi)).setCell ⟨sk,1,none⟩ (.slice B1 n1 d1)).setCell ⟨sk,2,none⟩ (.slice B2 n2 d2)) Hown.out fun q h1 h2=>hk7' q (by omega) (by omega))
        have Hds7:=Lib.hid (RDs.keep (w':=((w6.setCell ⟨sk,0,none⟩ (.int .i64 xi)).setCell ⟨sk,1,none⟩ (.slice B1 n1 d1)).setCell ⟨sk,2,none⟩ (.slice B2 n2 d2)) (fun p hp=>World.cell?_of_block (hk7' _ (by have:=hp.2.1;omega) (by have:=hp.1;omega))) Hds.out)
        have Hlt:=Lib.hid (fun q=>own_lt (q:=q) Hown.out)
        generalize ((w6.setCell ⟨sk,0,none⟩ (.int .i64 xi)).setCell ⟨sk,1,none⟩ (.slice B1 n1 d1)).setCell ⟨sk,2,none⟩ (.slice B2 n2 d2)=W7 at *
        clear hk7 hk7' hRD hRB q0 q1 q2 p0 p1 p2 Hk6 Hr6 Hx6 Hn6 HB7 Hown Hds HK Hf Hla HB56 HB5 Hk5
        clear hwr hzz hss hs2 hz6
        go_upto_region 14 with fail
        have m2:=blk_cell Hn7.out 2
        have k0:=blk_cell Hk7.out 0
        have k1:=blk_cell Hk7.out 1
        have k2:=blk_cell Hk7.out 2
        simp only [List.getElem?_toArray,List.getElem?_cons_zero,List.getElem?_cons_succ] at m2 k0 k1 k2
        obtain ⟨i0,hi,hzr,hzs,hzb⟩:=info_parts info_node
        have Hz8:=Lib.hid (show (W7.alloc (.cells #[(.int .i64 xi),(.slice B1 n1 d1),(.slice B2 n2 d2)] 172)).heap.size=w6.heap.size+1 by simp;exact Hz7.out)
        have hr8:=RS.fresh (w:=W7) (P:=fun _=>True) #[(.int .i64 xi),(.slice B1 n1 d1),(.slice B2 n2 d2)] 172 3 1 rfl (by unfold maxLen;omega) trivial
        have Hown8:=Lib.hid (own_at (w':=W7.alloc (.cells #[(.int .i64 xi),(.slice B1 n1 d1),(.slice B2 n2 d2)] 172)) Hown7.out fun q h1 h2=>Below.heap_alloc _ _ _ h2)
        have hb8:∀ q,q<W7.heap.size→(W7.alloc (.cells #[(.int .i64 xi),(.slice B1 n1 d1),(.slice B2 n2 d2)] 172)).heap[q]?=W7.heap[q]?:=fun q hq=>Below.heap_alloc _ _ _ hq
        have Hb8:=Lib.hid hb8
        have Hr8:=Lib.hid hr8
        clear hb8 hr8
        go_wp2_with (at_builtin;refine wpList_append_rs _ rfl _ _ 170 rfl (sn+1) 172 i0 (.agg #[.int .i64 0,.slice none 0 0,.slice none 0 0]) 3 56 Tryz.underlying170 hi hzr hzs hzb rfl (by decide) _ _ _ rfl Hown8.out (fun _=>True) (some ⟨W7.heap.size,0,none⟩) 1 1 [(.int .i64 xi),(.slice B1 n1 d1),(.slice B2 n2 d2)] rfl Hr8.out (by intro u hu;simp only [List.mem_cons,List.not_mem_nil,or_false] at hu;rcases hu with rfl | rfl | rfl <;> rfl) (acc.length+1) rfl (by have:=Hal.out;unfold maxLen;omega) (by have:=Hal.out;omega) (by have:=Hz8.out;have:=Hz6.out;have:=Hsk2.out;omega) ?_)
        intro A9 c9 w9 hown9 hgrow9 hor9
        have hss:=Hsk2.out
        have hs2:=Hsz2.out
        have hz6:=Hz6.out
        have hz8:=Hz8.out
        have hwr:=Hsk.out
        have hzz:=Hz5.out
        have hlt:=Hlt.out
        have hz7:=Hz7.out
        have hne:∀ q,q<sn+1→some q≠(Value.slice Ak acc.length ck).ownBlock:=fun q hq e=>by have:=(hlt q e.symm).1;omega
        have h9:∀ q,q<W7.heap.size→some q≠(Value.slice Ak acc.length ck).ownBlock→w9.heap[q]?=W7.heap[q]?:=fun q hq hqo=>(hgrow9.block q (by rw [hz8];omega) hqo).trans (Hb8.out q hq)
        have hz9:=hgrow9.size
        have Hn9:=Lib.hid ((h9 sn (by omega) (hne _ (by omega))).trans Hn7.out)
        have Hx9:=Lib.hid ((h9 g (by omega) (hne _ (by omega))).trans Hx7.out)
        have Hr9:=Lib.hid ((h9 s (by omega) (hne _ (by omega))).trans Hr7.out)
        have HRB9:=Lib.hid (HRB7.out.keep (w':=w9) fun p hp=>World.cell?_of_block (h9 _ (by have:=(HPs.out _ hp).1;omega) (hne _ (by have:=(HPs.out _ hp).1;omega))))
        have hkk:∀ q,In W5.heap.size w6.heap.size q→q<W7.heap.size∧some q≠(Value.slice Ak acc.length ck).ownBlock:=fun q hq=>⟨by have:=hq.2;omega,fun e=>by have:=(hlt q e.symm).2;have:=hq.1;omega⟩
        have Hds9:=Lib.hid (RDs.snoc (RD.mono (P':=Vp sn w9 (.slice A9 (acc.length+1) c9)) (fun q hq=>⟨by have:=hq.1;omega,by have:=hq.2;omega,fun e=>by
            rcases hor9 with h | h
            · exact (hkk q hq).2 (e.trans h)
            · rw [h] at e;injection e with e;have:=hq.2;omega⟩) (RD.keep (w':=w9) (fun p hp=>World.cell?_of_block (h9 _ (hkk _ hp).1 (hkk _ hp).2)) HRD7.out))
          (RDs.mono (P':=Vp sn w9 (.slice A9 (acc.length+1) c9)) (fun q hq=>⟨hq.1,by have:=hq.2.1;omega,fun e=>by
            rcases hor9 with h | h
            · exact hq.2.2 (e.trans h)
            · rw [h] at e;injection e with e;have:=hq.2.1;omega⟩) (RDs.keep (w':=w9) (fun p hp=>World.cell?_of_block (h9 _ (by have:=hp.2.1;omega) hp.2.2)) Hds7.out)))
        have HB9:=Lib.hid (HB8.out.trans (below_bb (⟨hgrow9.os,hgrow9.tape,hgrow9.output,by omega,fun q hq=>h9 q (by omega) (hne _ (by omega))⟩:Below s W7 w9) g))
        have Hsz9:=Lib.hid (show sn+1≤w9.heap.size by omega)
        have Hown9:=Lib.hid hown9
        clear hown9 hgrow9 hor9 hss hs2 hz6 hz8 hwr hzz hlt hz7 hne h9 hz9 hkk HRB7 HRD7 Hds7 Hown7 Hown8 Hr8 Hb8 HB8 Hr7 Hx7 Hn7 m2 k0 k1 k2 Hk7 Hz7 Hz8 Hlt
        have n0:=blk_cell Hn9.out 0
        have n1':=blk_cell Hn9.out 1
        have n2':=blk_cell Hn9.out 2
        have f2:=blk_free Hn9.out 2
        simp only [List.getElem?_toArray,List.getElem?_cons_zero,List.getElem?_cons_succ] at n0 n1' n2'
        have hst:∀ q,q≠sn→(w9.setCell ⟨sn,2,none⟩ (.slice A9 (acc.length+1) c9)).heap[q]?=w9.heap[q]?:=fun q hq=>Below.heap_setCell _ _ _ _ hq
        have Hst:=Lib.hid hst
        have Hz10:=Lib.hid (show (w9.setCell ⟨sn,2,none⟩ (.slice A9 (acc.length+1) c9)).heap.size=w9.heap.size by simp [World.setCell])
        have Hn10:=Lib.hid (show (w9.setCell ⟨sn,2,none⟩ (.slice A9 (acc.length+1) c9)).heap[sn]?=some (.cells #[.int .i64 48,.slice none 0 0,.slice A9 (acc.length+1) c9] 172 (0,0)) by simpa using bset Hn9.out 2 (.slice A9 (acc.length+1) c9))
        have Hal2:=Lib.hid (show (acc++[k]).length=acc.length+1 by simp)
        clear hst
        go_wp2
        go_roundw
        case rel =>
          have hs2:=Hsz2.out
          refine ⟨r',A6,c6,acc++[k],l',f,A9,c9,cs++[.int .i64 xi,.slice B1 n1 d1,.slice B2 n2 d2],rfl,HRB9.out.keep (fun p hp=>World.cell?_of_block (Hst.out _ (by have:=(HPs.out _ hp).1;omega))),(Hst.out g (by omega)).trans Hx9.out,(Hst.out s (by omega)).trans Hr9.out,?_,?_,?_,Hf2.out,HK2.out,Hla2.out,HB9.out.setCell (by show s≤sn;omega) _,by rw [Hz10.out];exact Hsz9.out⟩
          · rw [Hal2.out];exact Hn10.out
          · rw [Hal2.out];exact own_at Hown9.out fun q h1 h2=>Hst.out q (by omega)
          · rw [Hal2.out]
            exact RDs.mono (fun q hq=>⟨hq.1,by rw [Hz10.out];exact hq.2.1,hq.2.2⟩) (RDs.keep (fun p hp=>World.cell?_of_block (Hst.out _ (by have:=hp.1;omega))) Hds9.out)
        case measure=>exact Hlen.out
end Go.Proofs.YtendnkpiidhogaaGreat.Der

namespace Go.Proofs.YtendnkpiidhogaaGreat.Der
open Go.RowKit Go.Shelf
attribute [local go_sem] Oper.semAt_some
def readOf (b:List Nat):Option (DN×Nat) :=
 match nodeOf 16 1024 b with
 | none=>none
 | some (t,r,_)=>if 65536<b.length - r.length then none else some (t,b.length - r.length)
def ReadP (R:Option (DN×Nat)) (s:Nat) (e:Ending) (w':World):Prop :=
 match R with
 | none=>e=.returned (.tuple #[.agg #[.int .i64 0,.slice none 0 0,.slice none 0 0],.int .i64 0,.bool false])
 | some (t,n)=>∃ v,e=.returned (.tuple #[v,.int .i64 (n:Int),.bool true])∧RD w' (In s w'.heap.size) t v
theorem set3a {w:World} {s:Nat} {t:TypeId} {a b c:Value} (h:w.heap[s]?=some (.cells #[a,b,c] t (0,0))) (u v x:Value) (o:Obj):((((w.setCell ⟨s,0,none⟩ u).setCell ⟨s,1,none⟩ v).setCell ⟨s,2,none⟩ x).alloc o).heap[s]?=some (.cells #[u,v,x] t (0,0)) :=
 (Below.heap_alloc _ _ _ (blk_lt (set3 h u v x))).trans (set3 h u v x)
theorem derRead_any (P:Nat→Prop) (A:Option Addr) (c:Nat) (b:List Nat) (w:World) (hb:RB w P A c b) (hP:∀ q,P q→q<w.heap.size) :
    Calls Tryz.prog 185 #[.slice A b.length c] w fun e w'=>ReadP (readOf b) w.heap.size e w'∧Below w.heap.size w w':=by
  obtain ⟨R,hR⟩:∃ R,readOf b=R:=⟨_,rfl⟩
  rw [hR]
  obtain ⟨hlc,hc,hl⟩:=hb.cap
  have hB:=((Below.refl w.heap.size w).alloc (Nat.le_refl _) (.cells #[.int .i64 0,.slice none 0 0,.slice none 0 0] 172)).alloc (by simp) (.cells #[.int .i64 1024] 241)
  have h0:=(Below.heap_alloc (w.alloc (.cells #[.int .i64 0,.slice none 0 0,.slice none 0 0] 172)) (.cells #[.int .i64 1024] 241) w.heap.size (by simp)).trans (heap_alloc_new w _)
  have h1:=heap_alloc_new (w.alloc (.cells #[.int .i64 0,.slice none 0 0,.slice none 0 0] 172)) (.cells #[.int .i64 1024] 241)
  rw [World.size_alloc] at h1
  have hz:((w.alloc (.cells #[.int .i64 0,.slice none 0 0,.slice none 0 0] 172)).alloc (.cells #[.int .i64 1024] 241)).heap.size=w.heap.size+2:=by simp
  have hb1:=hb.below hB hP
  have HB:=Lib.hid hB
  have H0:=Lib.hid h0
  have H1:=Lib.hid h1
  have Hz:=Lib.hid hz
  have Hb1:=Lib.hid hb1
  have HR:=Lib.hid hR
  clear hB h0 h1 hz hb1 hR hb
  go_enter Tryz.func185,Tryz.ntmps185
  go_wp2_with fail
  obtain ⟨s,hs⟩:∃ s,w.heap.size=s:=⟨_,rfl⟩
  rw [hs] at HB H0 H1 Hz ⊢
  have Hs:=Lib.hid hs
  clear hs
  generalize (w.alloc (.cells #[.int .i64 0,.slice none 0 0,.slice none 0 0] 172)).alloc (.cells #[.int .i64 1024] 241)=W1 at *
  have HP:=Lib.hid (show ∀ q,P q→q<s from fun q hq=>by have:=hP q hq;have:=Hs.out;omega)
  clear hP
  refine (node_any 16 0 1024 (s+1) P A c b W1 (by omega) (by omega) (by omega) H1.out Hb1.out (fun q hq=>by have:=HP.out q hq;have:=Hz.out;exact ⟨by omega,by omega⟩)).mono ?_
  obtain ⟨R0,hR0⟩:∃ R0,nodeOf 16 1024 b=R0:=⟨_,rfl⟩
  rw [hR0]
  have HR0:=Lib.hid hR0
  clear hR0
  rintro e w2 ⟨⟨lf,-,hN⟩,hB2⟩
  have h2:=(hB2.block s (by have:=Hz.out;omega) (by omega)).trans H0.out
  have hB3:Below s w w2:=HB.out.trans ⟨hB2.os,hB2.tape,hB2.output,hB2.size,fun q hq=>hB2.block q (by have:=Hz.out;omega) (by omega)⟩
  have H2:=Lib.hid h2
  have HB3:=Lib.hid hB3
  have Hlt:=Lib.hid (show s+2≤w2.heap.size by have:=Hz.out;have:=hB2.size;omega)
  clear h2 hB3 hB2 H0 H1 HB
  cases R0 with
  | none =>
    obtain ⟨xi,B1,n1,d1,B2,n2,d2,v2,rfl⟩:=hN
    have hR:R=none:=by rw [←HR.out];unfold readOf;rw [HR0.out]
    subst hR
    have hn2:=(Below.heap_alloc w2 (.cells #[.int .i64 xi,.slice B1 n1 d1,.slice B2 n2 d2] 172) s (by have:=Hlt.out;omega)).trans H2.out
    have HB4:=Lib.hid (HB3.out.alloc (by have:=Hlt.out;omega) (.cells #[.int .i64 xi,.slice B1 n1 d1,.slice B2 n2 d2] 172))
    go_upto_region 3 with fail
    have q0:=blk_cell hn2 0
    have q1:=blk_cell hn2 1
    have q2:=blk_cell hn2 2
    have p0:=blk_free hn2 0
    have p1:=blk_free hn2 1
    have p2:=blk_free hn2 2
    simp only [List.getElem?_toArray,List.getElem?_cons_zero,List.getElem?_cons_succ] at q0 q1 q2
    generalize w2.alloc (.cells #[.int .i64 xi,.slice B1 n1 d1,.slice B2 n2 d2] 172)=W4 at *
    go_wp2
    have r:=set3 hn2 (.int .i64 0) (.slice none 0 0) (.slice none 0 0)
    have r0:=blk_cell r 0
    have r1:=blk_cell r 1
    have r2:=blk_cell r 2
    simp only [List.getElem?_toArray,List.getElem?_cons_zero,List.getElem?_cons_succ] at r0 r1 r2
    refine bodyPost_ret (v:=.tuple #[.agg #[.int .i64 0,.slice none 0 0,.slice none 0 0],.int .i64 0,.bool false]) (by simp [results,Tryz.results185,go_sem,r0,r1,r2]) rfl ⟨rfl,?_⟩
    rw [Hs.out]
    exact ((HB4.out.setCell (p:=⟨s,0,none⟩) (Nat.le_refl _) _).setCell (p:=⟨s,1,none⟩) (Nat.le_refl _) _).setCell (p:=⟨s,2,none⟩) (Nat.le_refl _) _
  | some q =>
    obtain ⟨t,r,l⟩:=q
    obtain ⟨-,v,A6,c6,rfl,hRD,-⟩:=hN
    obtain ⟨xi,B1,n1,d1,B2,n2,d2,rfl⟩:=hRD.shape
    have hn2:=(Below.heap_alloc w2 (.cells #[.int .i64 xi,.slice B1 n1 d1,.slice B2 n2 d2] 172) s (by have:=Hlt.out;omega)).trans H2.out
    have hk4:=heap_alloc_new w2 (.cells #[.int .i64 xi,.slice B1 n1 d1,.slice B2 n2 d2] 172)
    have HB4:=Lib.hid (HB3.out.alloc (by have:=Hlt.out;omega) (.cells #[.int .i64 xi,.slice B1 n1 d1,.slice B2 n2 d2] 172))
    have HRD4:=Lib.hid (RD.keep (w':=w2.alloc (.cells #[.int .i64 xi,.slice B1 n1 d1,.slice B2 n2 d2] 172)) (fun p hp=>World.cell?_of_block (Below.heap_alloc _ _ _ hp.2)) hRD)
    have Hz4:=Lib.hid (show (w2.alloc (.cells #[.int .i64 xi,.slice B1 n1 d1,.slice B2 n2 d2] 172)).heap.size=w2.heap.size+1 by simp)
    have Hln:=Lib.hid (node_len HR0.out)
    have HR2:Hid (R=if 65536<b.length - r.length then none else some (t,b.length - r.length)):=Lib.hid (by rw [←HR.out];unfold readOf;rw [HR0.out])
    obtain ⟨N,hN⟩:∃ N,b.length=N:=⟨_,rfl⟩
    obtain ⟨M,hM⟩:∃ M,r.length=M:=⟨_,rfl⟩
    rw [hN] at hlc hl ⊢
    rw [hN,hM] at Hln HR2
    rw [hM]
    clear hRD HR HR0 hN hM
    have k1:IntKind.i64.wrap ((N:Int) - (M:Int))=(N:Int) - (M:Int):=by have:=Hln.out;rw [IntKind.wrap_i64];omega
    have g0:(0:Int)≤(N:Int) - (M:Int):=by have:=Hln.out;omega
    go_upto_region 3 with fail
    obtain ⟨s4,hs4⟩:∃ s4,w2.heap.size=s4:=⟨_,rfl⟩
    rw [hs4] at hk4 Hz4 Hlt HRD4 ⊢
    clear hs4
    generalize w2.alloc (.cells #[.int .i64 xi,.slice B1 n1 d1,.slice B2 n2 d2] 172)=W4 at *
    have q0:=blk_cell hn2 0
    have q1:=blk_cell hn2 1
    have q2:=blk_cell hn2 2
    have p0:=blk_free hn2 0
    have p1:=blk_free hn2 1
    have p2:=blk_free hn2 2
    simp only [List.getElem?_toArray,List.getElem?_cons_zero,List.getElem?_cons_succ] at q0 q1 q2
    by_cases h6:65536<N - M
    · have hR:R=none:=HR2.out.trans (if_pos h6)
      subst hR
      have k2:(65536:Int)<(N:Int) - (M:Int):=by omega
      go_wp2
      have r:=set3 hn2 (.int .i64 0) (.slice none 0 0) (.slice none 0 0)
      have r0:=blk_cell r 0
      have r1:=blk_cell r 1
      have r2:=blk_cell r 2
      simp only [List.getElem?_toArray,List.getElem?_cons_zero,List.getElem?_cons_succ] at r0 r1 r2
      refine bodyPost_ret (v:=.tuple #[.agg #[.int .i64 0,.slice none 0 0,.slice none 0 0],.int .i64 0,.bool false]) (by simp [results,Tryz.results185,go_sem,r0,r1,r2]) rfl ⟨rfl,?_⟩
      rw [Hs.out]
      exact ((HB4.out.setCell (p:=⟨s,0,none⟩) (Nat.le_refl _) _).setCell (p:=⟨s,1,none⟩) (Nat.le_refl _) _).setCell (p:=⟨s,2,none⟩) (Nat.le_refl _) _
    · have hR:R=some (t,N - M):=HR2.out.trans (if_neg h6)
      subst hR
      have k2:¬ (65536:Int)<(N:Int) - (M:Int):=by omega
      have m0:=blk_cell hk4 0
      have m1:=blk_cell hk4 1
      have m2:=blk_cell hk4 2
      simp only [List.getElem?_toArray,List.getElem?_cons_zero,List.getElem?_cons_succ] at m0 m1 m2
      have Hk:=Lib.hid (show ((N:Int) - (M:Int))=((N - M:Nat):Int) by have:=Hln.out;omega)
      have Hset:=Lib.hid (set3 hn2 (.int .i64 xi) (.slice B1 n1 d1) (.slice B2 n2 d2))
      clear hn2 hk4
      go_wp2
      have r:=Hset.out
      have r0:=blk_cell r 0
      have r1:=blk_cell r 1
      have r2:=blk_cell r 2
      simp only [List.getElem?_toArray,List.getElem?_cons_zero,List.getElem?_cons_succ] at r0 r1 r2
      refine bodyPost_ret (v:=.tuple #[.agg #[.int .i64 xi,.slice B1 n1 d1,.slice B2 n2 d2],.int .i64 ((N:Int) - (M:Int)),.bool true]) (by simp [results,Tryz.results185,go_sem,r0,r1,r2]) rfl ⟨⟨_,by rw [Hk.out],?_⟩,?_⟩
      · rw [Hs.out];exact RD.mono (P:=In W1.heap.size s4) (fun q hq=>⟨by have:=hq.1;have:=Hz.out;omega,by have:=hq.2;have:=Hz4.out;simp [World.setCell];omega⟩) (RD.keep (fun p hp=>World.cell?_of_block (have hq:p.block≠s:=by have:=hp.1;have:=Hz.out;omega
          (Below.heap_setCell _ _ _ _ hq).trans ((Below.heap_setCell _ _ _ _ hq).trans (Below.heap_setCell _ _ _ _ hq)))) HRD4.out)
      · rw [Hs.out];exact ((HB4.out.setCell (p:=⟨s,0,none⟩) (Nat.le_refl _) _).setCell (p:=⟨s,1,none⟩) (Nat.le_refl _) _).setCell (p:=⟨s,2,none⟩) (Nat.le_refl _) _
end Go.Proofs.YtendnkpiidhogaaGreat.Der

namespace Go.Proofs.YtendnkpiidhogaaGreat.Der
open Go.RowKit Go.Shelf
attribute [local go_sem] Oper.semAt_some
def KreadP (R:Option (DN×Nat)) (N s:Nat) (e:Ending) (w':World):Prop :=
 match R with
 | none=>e=.returned (.tuple #[.agg #[.int .i64 0,.slice none 0 0,.slice none 0 0],.bool false])
 | some (t,n)=>∃ v,e=.returned (.tuple #[v,.bool (n==N)])∧RD w' (In s w'.heap.size) t v
theorem kread_any (P:Nat→Prop) (A:Option Addr) (c:Nat) (b:List Nat) (w:World) (hb:RB w P A c b) (hP:∀ q,P q→q<w.heap.size) :
    Calls Tryz.prog 151 #[.slice A b.length c] w fun e w'=>KreadP (readOf b) b.length w.heap.size e w'∧Below w.heap.size w w':=by
  have hB:=(Below.refl w.heap.size w).alloc (Nat.le_refl _) (.cells #[.int .i64 0,.slice none 0 0,.slice none 0 0] 172)
  have h0:=heap_alloc_new w (.cells #[.int .i64 0,.slice none 0 0,.slice none 0 0] 172)
  have hz:(w.alloc (.cells #[.int .i64 0,.slice none 0 0,.slice none 0 0] 172)).heap.size=w.heap.size+1:=by simp
  have hb1:=hb.below hB hP
  have HC:=Lib.hid (derRead_any P A c b _ hb1 (fun q hq=>by have:=hP q hq;omega))
  obtain ⟨R,hR⟩:∃ R,readOf b=R:=⟨_,rfl⟩
  rw [hR] at HC ⊢
  have HB:=Lib.hid hB
  have H0:=Lib.hid h0
  have Hz:=Lib.hid hz
  obtain ⟨N,hN⟩:∃ N,b.length=N:=⟨_,rfl⟩
  rw [hN] at HC ⊢
  clear hB h0 hz hb1 hb hR hN
  go_enter Tryz.func151,Tryz.ntmps151
  go_wp2_with fail
  obtain ⟨s,hs⟩:∃ s,w.heap.size=s:=⟨_,rfl⟩
  rw [hs] at HB H0 Hz ⊢
  have Hs:=Lib.hid hs
  clear hs
  refine HC.out.mono ?_
  clear HC
  generalize w.alloc (.cells #[.int .i64 0,.slice none 0 0,.slice none 0 0] 172)=W1 at *
  rintro e w2 ⟨hRd,hB2⟩
  have h2:=(hB2.block s (by have:=Hz.out;omega)).trans H0.out
  have hlt:s<w2.heap.size:=by have:=Hz.out;have:=hB2.size;omega
  have HB3:=Lib.hid (HB.out.trans (hB2.mono (by have:=Hz.out;omega)))
  have H2:=Lib.hid h2
  have Hlt:=Lib.hid hlt
  clear h2 hB2 H0 hlt
  cases R with
  | none =>
    unfold ReadP at hRd
    subst hRd
    have hn2:=(Below.heap_alloc w2 (.cells #[.int .i64 0,.slice none 0 0,.slice none 0 0] 172) s Hlt.out).trans H2.out
    have hk4:=heap_alloc_new w2 (.cells #[.int .i64 0,.slice none 0 0,.slice none 0 0] 172)
    have HB4:=Lib.hid (HB3.out.alloc (Nat.le_of_lt Hlt.out) (.cells #[.int .i64 0,.slice none 0 0,.slice none 0 0] 172))
    go_upto_region 2 with fail
    generalize w2.alloc (.cells #[.int .i64 0,.slice none 0 0,.slice none 0 0] 172)=W4 at *
    obtain ⟨s4,hs4⟩:∃ s4,w2.heap.size=s4:=⟨_,rfl⟩
    rw [hs4] at hk4 Hlt ⊢
    clear hs4
    have m0:=blk_cell hk4 0
    have m1:=blk_cell hk4 1
    have m2:=blk_cell hk4 2
    simp only [List.getElem?_toArray,List.getElem?_cons_zero,List.getElem?_cons_succ] at m0 m1 m2
    have q0:=blk_cell hn2 0
    have q1:=blk_cell hn2 1
    have q2:=blk_cell hn2 2
    have p0:=blk_free hn2 0
    have p1:=blk_free hn2 1
    have p2:=blk_free hn2 2
    simp only [List.getElem?_toArray,List.getElem?_cons_zero,List.getElem?_cons_succ] at q0 q1 q2
    have Hset:=Lib.hid (set3 hn2 (.int .i64 0) (.slice none 0 0) (.slice none 0 0))
    clear hn2 hk4
    go_wp2
    have r:=Hset.out
    have r0:=blk_cell r 0
    have r1:=blk_cell r 1
    have r2:=blk_cell r 2
    simp only [List.getElem?_toArray,List.getElem?_cons_zero,List.getElem?_cons_succ] at r0 r1 r2
    refine bodyPost_ret (v:=.tuple #[.agg #[.int .i64 0,.slice none 0 0,.slice none 0 0],.bool false]) (by simp [results,Tryz.results151,go_sem,r0,r1,r2]) rfl ⟨rfl,?_⟩
    rw [Hs.out]
    exact ((HB4.out.setCell (p:=⟨s,0,none⟩) (Nat.le_refl _) _).setCell (p:=⟨s,1,none⟩) (Nat.le_refl _) _).setCell (p:=⟨s,2,none⟩) (Nat.le_refl _) _
  | some q =>
    obtain ⟨t,n⟩:=q
    unfold ReadP at hRd
    obtain ⟨v,rfl,hRD⟩:=hRd
    obtain ⟨xi,B1,n1,d1,B2,n2,d2,rfl⟩:=hRD.shape
    have hn2:=(Below.heap_alloc w2 (.cells #[.int .i64 xi,.slice B1 n1 d1,.slice B2 n2 d2] 172) s Hlt.out).trans H2.out
    have hk4:=heap_alloc_new w2 (.cells #[.int .i64 xi,.slice B1 n1 d1,.slice B2 n2 d2] 172)
    have HB4:=Lib.hid (HB3.out.alloc (Nat.le_of_lt Hlt.out) (.cells #[.int .i64 xi,.slice B1 n1 d1,.slice B2 n2 d2] 172))
    have HRD4:=Lib.hid (RD.keep (w':=w2.alloc (.cells #[.int .i64 xi,.slice B1 n1 d1,.slice B2 n2 d2] 172)) (fun p hp=>World.cell?_of_block (Below.heap_alloc _ _ _ hp.2)) hRD)
    have Hz4:=Lib.hid (show (w2.alloc (.cells #[.int .i64 xi,.slice B1 n1 d1,.slice B2 n2 d2] 172)).heap.size=w2.heap.size+1 by simp)
    clear hRD
    go_upto_region 2 with fail
    obtain ⟨s4,hs4⟩:∃ s4,w2.heap.size=s4:=⟨_,rfl⟩
    rw [hs4] at hk4 Hz4 Hlt HRD4 ⊢
    clear hs4
    generalize w2.alloc (.cells #[.int .i64 xi,.slice B1 n1 d1,.slice B2 n2 d2] 172)=W4 at *
    have m0:=blk_cell hk4 0
    have m1:=blk_cell hk4 1
    have m2:=blk_cell hk4 2
    simp only [List.getElem?_toArray,List.getElem?_cons_zero,List.getElem?_cons_succ] at m0 m1 m2
    have q0:=blk_cell hn2 0
    have q1:=blk_cell hn2 1
    have q2:=blk_cell hn2 2
    have p0:=blk_free hn2 0
    have p1:=blk_free hn2 1
    have p2:=blk_free hn2 2
    simp only [List.getElem?_toArray,List.getElem?_cons_zero,List.getElem?_cons_succ] at q0 q1 q2
    have Hset:=Lib.hid (set3 hn2 (.int .i64 xi) (.slice B1 n1 d1) (.slice B2 n2 d2))
    obtain ⟨bb,hbb⟩:∃ bb,(n==N)=bb:=⟨_,rfl⟩
    have hbi:((n:Int)==(N:Int))=bb:=by rw [←hbb,Bool.eq_iff_iff];simp;omega
    have Hbb:=Lib.hid hbb
    clear hn2 hk4 hbb
    go_wp2
    have r:=Hset.out
    have r0:=blk_cell r 0
    have r1:=blk_cell r 1
    have r2:=blk_cell r 2
    simp only [List.getElem?_toArray,List.getElem?_cons_zero,List.getElem?_cons_succ] at r0 r1 r2
    refine bodyPost_ret (v:=.tuple #[.agg #[.int .i64 xi,.slice B1 n1 d1,.slice B2 n2 d2],.bool bb]) (by simp [results,Tryz.results151,go_sem,r0,r1,r2]) rfl ⟨⟨_,by rw [Hbb.out],?_⟩,?_⟩
    · rw [Hs.out]
      exact RD.mono (P:=In W1.heap.size s4) (fun q hq=>⟨by have:=hq.1;have:=Hz.out;omega,by have:=hq.2;have:=Hz4.out;simp [World.setCell];omega⟩) (RD.keep (fun p hp=>World.cell?_of_block (have hq:p.block≠s:=by have:=hp.1;have:=Hz.out;omega
          (Below.heap_setCell _ _ _ _ hq).trans ((Below.heap_setCell _ _ _ _ hq).trans (Below.heap_setCell _ _ _ _ hq)))) HRD4.out)
    · rw [Hs.out]
      exact ((HB4.out.setCell (p:=⟨s,0,none⟩) (Nat.le_refl _) _).setCell (p:=⟨s,1,none⟩) (Nat.le_refl _) _).setCell (p:=⟨s,2,none⟩) (Nat.le_refl _) _
end Go.Proofs.YtendnkpiidhogaaGreat.Der

namespace Go.Proofs.YtendnkpiidhogaaGreat.Der
open Go.RowKit Go.Shelf
attribute [local go_sem] Oper.semAt_some
def up7:Nat→Nat→List Nat→List Nat
 | 0,_,out=>out
 | f+1,n,out=>if n=0 then out else up7 f (n / 128) ((128+n % 128) :: out)
def b128 (n:Nat):List Nat:=up7 9 (n / 128) [n % 128]
def oidOf (l:List Int):List Nat:=b128 (40*(l.getD 0 0).toNat+(l.getD 1 0).toNat)++((l.drop 2).flatMap fun z=>b128 z.toNat)
theorem up7_len:∀ (f n:Nat) (out:List Nat),(up7 f n out).length≤out.length+f
  | 0,_,_=>Nat.le_refl _
  | f + 1, n, out => by
    rw [up7]
    split
    · omega
    · have:=up7_len f (n / 128) ((128+n % 128) :: out)
      simp at this;omega
theorem b128_len (n:Nat):(b128 n).length≤10:=by
 have:=up7_len 9 (n / 128) [n % 128]
 simpa [b128] using this
theorem or_128 (x:Nat):bits .or .i64 ((x:Int) % 128) 128=((128+x % 128:Nat):Int):=by
 have h1:(BitVec.ofInt 64 ((x:Int) % 128)).toNat=x % 128:=by
  rw [show (x:Int) % 128=((x % 128:Nat):Int) by omega,BitVec.ofInt_natCast,BitVec.toNat_ofNat];exact Nat.mod_eq_of_lt (by omega)
 have h2:(BitVec.ofInt 64 (128:Int)).toNat=128:=by decide
 have h3:x % 128 ||| 128=128+x % 128:=by
  have:=Nat.shiftLeft_add_eq_or_of_lt (b:=x % 128) (i:=7) (by omega) 1
  rw [Nat.shiftLeft_eq] at this
  rw [Nat.or_comm];rw [←this]
 show IntKind.i64.wrap ((BitVec.ofInt 64 ((x:Int) % 128) ||| BitVec.ofInt 64 (128:Int)).toNat:Int)=_
 rw [BitVec.toNat_or,h1,h2,h3,IntKind.wrap_i64]
 omega
theorem byte_of (z:Int):∃ b:Nat,b<256∧z % 256=(b:Int):=⟨(z % 256).toNat,by omega,by omega⟩
theorem ow_lower {w:World} {base b':Nat} {A:Option Addr} {c:Nat} {bs:List Nat} (h:OW w base A c bs) (hb:b'≤base):OW w b' A c bs:=by
 obtain ⟨⟨h1,h2⟩,h3⟩:=h
 refine ⟨⟨h1,?_⟩,h3⟩
 rcases h2 with h2 | ⟨g,cap,cur,e,hg,r⟩
 · exact .inl h2
 · exact .inr ⟨g,cap,cur,e,by omega,r⟩
theorem digits_any (n:Nat) (w:World) (hn:n<268435456) :
 Calls Tryz.prog 240 #[.int .i64 n] w fun e w'=>∃ A c,e=.returned (.slice A (b128 n).length c)∧OW w' w.heap.size A c (b128 n)∧Below w.heap.size w w':=by
 obtain ⟨R,hR⟩:∃ R,b128 n=R:=⟨_,rfl⟩
 rw [hR]
 have HR:=Lib.hid hR
 clear hR
 obtain ⟨b0,hb0,he0⟩:=byte_of (bits .and .i64 (n:Int) 127)
 have Hb0:=Lib.hid (show b0=n % 128 by rw [i64_and127] at he0;omega)
 have hO:=Lib.hid (OW.lit w b0 hb0)
 go_enter Tryz.func240,Tryz.ntmps240
 go_wp2
 go_loopw [0,3] (fun v s wr=>∃ (x:Nat) (A:Option Addr) (c:Nat) (bs:List Nat),v=.int .i64 (x:Int)∧s=.slice A bs.length c∧OW wr w.heap.size A c bs∧0<bs.length∧bs.length≤10∧x<128 ^ (10 - bs.length)∧up7 (10 - bs.length) x bs=R∧Below w.heap.size w wr) (fun v _ _=>(intOf v).toNat)
 case atStart=>exact ⟨n / 128,_,1,[b0],by simp,rfl,hO.out,by simp,by simp,by simp;omega,by rw [Hb0.out];exact HR.out,(Below.refl _ w).alloc (Nat.le_refl _) _⟩
 case round =>
  clear hO he0 hb0
  obtain ⟨x,A,c,bs,rfl,rfl,hO,h0,hl,hx,hup,hB⟩:=hrel
  have HUp:=Lib.hid hup
  clear hup
  by_cases hx0:0<x
  · obtain ⟨b,hb,hbe⟩:=byte_of (bits .or .i64 (bits .and .i64 (x:Int) 127) 128)
    have Hbe:=Lib.hid (show b=128+x % 128 by rw [i64_and127,or_128 x] at hbe;omega)
    have hl9:bs.length≤9:=by
     rcases Nat.lt_or_ge 9 bs.length with h | h
     · have:bs.length=10:=by omega
       rw [this] at hx
       simp at hx
       omega
     · exact h
    have hx':x / 128<128 ^ (10 - (bs.length+1)):=by
     rw [show 10 - bs.length=10 - (bs.length+1)+1 by omega,Nat.pow_succ] at hx
     exact Nat.div_lt_of_lt_mul (by rw [Nat.mul_comm];exact hx)
    have HX:=Lib.hid hx'
    have HUp2:=Lib.hid (show up7 (10 - (bs.length+1)) (x / 128) (b :: bs)=R by rw [Hbe.out,←HUp.out,show 10 - bs.length=10 - (bs.length+1)+1 by omega,up7,if_neg (by omega)])
    have hs:=hB.size
    have HO:=Lib.hid (OW.lit wr b hb)
    have HR:=Lib.hid ((hO.rb (by omega)).below ((Below.refl _ wr).alloc (Nat.le_refl _) (.cells #[.int .u8 (b:Int)] 5)) fun q hq=>hq.2)
    have hi:(0:Int)<(x:Int):=by omega
    clear hx hx' hO
    go_wp2_with (at_builtin;refine app8 rfl (.tmp 18) (.tmp 19) rfl wr.heap.size (bs:=[b]) rfl HO.out rfl HR.out (by simp;omega) (by simp) ?_;intro A2 c2 w2 hw2 hb2)
    have HB:=Lib.hid ((hB.alloc hs (.cells #[.int .u8 (b:Int)] 5)).trans (hb2.mono hs))
    go_roundw
    case rel=>exact ⟨x / 128,A2,c2,b :: bs,by simp,rfl,ow_lower hw2 hs,by simp,by simp;omega,by simpa using HX.out,by simpa using HUp2.out,HB.out⟩
    case measure=>simp [intOf];omega
  · have hx0':x=0:=by omega
    subst hx0'
    go_wp2
    go_ret
    have hRb:bs=R:=by rw [←HUp.out];cases 10 - bs.length <;> simp [up7]
    subst hRb
    exact ⟨A,c,rfl,hO,hB⟩
def RZ (w:World) (P:Nat→Prop) (A:Option Addr) (c:Nat) (l:List Int):Prop:=RS w P 1 A l.length c (l.map fun x=>.int .i64 x)
theorem RZ.keep {w w':World} {P:Nat→Prop} {A:Option Addr} {c:Nat} {l:List Int} (h:RZ w P A c l) (hk:∀ p:Addr,P p.block→w'.cell? p=w.cell? p):RZ w' P A c l:=RS.keep h hk
theorem RZ.below {w w':World} {P:Nat→Prop} {A:Option Addr} {c:Nat} {l:List Int} {B:Nat} (h:RZ w P A c l) (hb:Below B w w') (hB:∀ b,P b→b<B):RZ w' P A c l:=RS.below h hb hB
theorem RZ.at_ {w:World} {P:Nat→Prop} {A:Option Addr} {c:Nat} {l:List Int} (h:RZ w P A c l) {i:Nat} (hi:i<l.length):∃ ad,A=some ad∧P ad.block∧w.cell? (ad.add i)=some (.int .i64 (l.getD i 0)):=by
 obtain ⟨h1,h2,h3,h4⟩:=h
 obtain ⟨ad,rfl,hb,hc⟩:=h4 (by omega)
 exact ⟨ad,rfl,hb,hc _ _ (by simp [List.getD_eq_getElem?_getD,List.getElem?_eq_getElem hi])⟩
end Go.Proofs.YtendnkpiidhogaaGreat.Der

namespace Go.Proofs.YtendnkpiidhogaaGreat.Der
open Go.RowKit Go.Shelf
attribute [local go_sem] Oper.semAt_some
theorem ow_up {w X:World} {base:Nat} {A:Option Addr} {c:Nat} {bs:List Nat} (h:OW w base A c bs) (hY:Below w.heap.size w X):OW X base A c bs :=
 OW.ext h ⟨hY.os,hY.tape,hY.output,hY.size,fun k hk _=>hY.block k hk⟩
theorem oid_step {l:List Int} {k z:Nat} (hk:k+2<l.length) (hz:l.getD (k+2) 0=(z:Int)) {bb:List Nat} : bb++((l.drop 2).take k).flatMap (fun z=>b128 z.toNat)++b128 z=bb++((l.drop 2).take (k+1)).flatMap (fun z=>b128 z.toNat):=by
 have hd:k<(l.drop 2).length:=by rw [List.length_drop];omega
 rw [List.take_succ_eq_append_getElem hd,List.flatMap_append,List.append_assoc]
 congr 2
 have:(l.drop 2)[k]=(z:Int):=by rw [←hz,gD _ _ hk,List.getElem_drop];congr 1;omega
 rw [this];simp
theorem oid_any (P:Nat→Prop) (g c:Nat) (l:List Int) (w:World) (hv:RZ w P (some ⟨g,0,none⟩) c l) (hP:∀ b,P b→b<w.heap.size) (hl:3≤l.length∧l.length≤100) (h0:l.getD 0 0=1) (h1:0≤l.getD 1 0∧l.getD 1 0≤39) (ha:∀ k,0≤l.getD k 0∧l.getD k 0<268435456) :
 Calls Tryz.prog 235 #[.slice (some ⟨g,0,none⟩) l.length c] w fun e w'=>(∃ A1 c1,e=.returned (.tuple #[.agg #[.int .i64 6,.slice A1 (oidOf l).length c1,.slice none 0 0],.bool true])∧RB w' (In w.heap.size w'.heap.size) A1 c1 (oidOf l))∧Below w.heap.size w w':=by
 obtain ⟨hlc,hc⟩:=(show l.length≤c∧c≤9223372036854775807 from ⟨hv.1,hv.2.1⟩)
 have hB0:=(Below.refl w.heap.size w).alloc (Nat.le_refl _) (.cells #[.int .i64 0,.slice none 0 0,.slice none 0 0] 172)
 have hb0:=heap_alloc_new w (.cells #[.int .i64 0,.slice none 0 0,.slice none 0 0] 172)
 have hz0:(w.alloc (.cells #[.int .i64 0,.slice none 0 0,.slice none 0 0] 172)).heap.size=w.heap.size+1:=by simp
 obtain ⟨W0,hW0⟩:∃ W0,w.alloc (.cells #[.int .i64 0,.slice none 0 0,.slice none 0 0] 172)=W0:=⟨_,rfl⟩
 rw [hW0] at hB0 hb0 hz0
 have hv0:=hv.below hB0 hP
 obtain ⟨a,ea,hPg,x0⟩:=hv0.at_ (i:=0) (by omega)
 injection ea with ea
 subst ea
 obtain ⟨a',ea,_,x1⟩:=hv0.at_ (i:=1) (by omega)
 injection ea with ea
 subst ea
 have H0':=Lib.hid h0
 rw [h0] at x0
 obtain ⟨y,hy⟩:∃ y,l.getD 1 0=y:=⟨_,rfl⟩
 rw [hy] at x1 h1
 simp [Addr.add] at x0 x1
 have y0:=x0
 have y1:=x1
 rw [←hW0] at y0 y1
 have HW:=Lib.hid hW0
 have HB0:=Lib.hid hB0
 have Hb0:=Lib.hid hb0
 have Hz0:=Lib.hid hz0
 have HA:=Lib.hid ha
 have Hy:=Lib.hid hy
 have k0:¬ (l.length:Int)<2:=by omega
 have k1:¬ (39:Int)<y:=by omega
 clear hB0 hb0 hz0 hW0 h0 ha hy
 go_enter Tryz.func235,Tryz.ntmps235
 go_wp2
 rw [HW.out]
 clear y0 y1
 go_loopw [33] (fun i wr=>∃ k:Nat,k≤l.length∧i=.int .i64 k∧∃ d,wr=W0.drewN d) (fun i _=>l.length - (intOf i).toNat)
 case atStart=>exact ⟨0,by omega,rfl,0,rfl⟩
 case round =>
  obtain ⟨k,hk,rfl,d,rfl⟩:=hrel
  by_cases hlt:k<l.length
  · obtain ⟨a,ea,_,hx⟩:=(hv0.keep (w':=W0.drewN d) fun _ _=>rfl).at_ hlt
    injection ea with ea
    subst ea
    have h1:=HA.out k
    obtain ⟨z,hz⟩:∃ z,l.getD k 0=z:=⟨_,rfl⟩
    rw [hz] at hx h1
    have hx':(W0.drewN d).cell? ⟨g,k,none⟩=some (.int .i64 z):=by
     have e:Addr.add ⟨g,0,none⟩ k=⟨g,k,none⟩:=by by_cases h:k=0 <;> simp [Addr.add,h]
     rw [←e];exact hx
    clear hx
    have Hz:=Lib.hid hz
    clear hz
    have k2:¬ z<0:=by omega
    have k3:¬ 268435456<z:=by omega
    go_wp2
    go_roundw
    case rel=>exact ⟨k+1,by omega,by go_num,d,rfl⟩
    case measure=>simp [intOf];omega
  · obtain rfl:k=l.length:=by omega
    have X0:(W0.drewN d).cell? ⟨g,0,none⟩=some (.int .i64 1):=x0
    have X1:(W0.drewN d).cell? ⟨g,1,none⟩=some (.int .i64 y):=x1
    obtain ⟨yn,hyn⟩:∃ yn:Nat,y=(yn:Int):=⟨y.toNat,by omega⟩
    subst hyn
    have HD:=fun X=>digits_any (40+yn) X (by omega)
    obtain ⟨bb,hbb⟩:∃ bb,b128 (40+yn)=bb:=⟨_,rfl⟩
    simp only [hbb] at HD
    have hbl:bb.length≤10:=hbb▸b128_len _
    have Hbb:=Lib.hid hbb
    clear hbb
    simp only [Int.natCast_add,Int.cast_ofNat_Int] at HD
    have HDD:=Lib.hid HD
    have hwr:IntKind.i64.wrap (40+(yn:Int))=40+(yn:Int):=by rw [IntKind.wrap_i64];omega
    clear k0 k1 hk hlt x0 x1 HD
    go_wp2_with fail
    refine Par.region_ext (by kernel_rfl) 10 [0,1,3,7,0,16,48,127,255,511] [] (fun j f X=>match j with
     | 0=>f 0=.slice (some ⟨g,0,none⟩) l.length c
     | 1=>f 1=.pointer (some ⟨g,0,none⟩)
     | 2=>f 2=.int .i64 1
     | 3=>f 3=.int .i64 40
     | 4=>f 4=.slice (some ⟨g,0,none⟩) l.length c
     | 5=>f 5=.pointer (some ⟨g,1,none⟩)
     | 6=>f 6=.int .i64 (yn:Int)
     | 7=>f 7=.int .i64 (40+(yn:Int))
     | 8=>∃ A8 c8,f 8=.slice A8 bb.length c8∧OW X W0.heap.size A8 c8 bb
     | 9=>∃ A8 c8,f 9=.slice A8 bb.length c8∧OW X W0.heap.size A8 c8 bb
     | _=>True) (by kernel_rfl) [(45,0),(46,1),(47,2),(48,3),(49,4),(50,5),(51,6),(52,7),(53,8),(6,9)] (by kernel_rfl) ?_
    refine Par.v0 1 9 ?_
    refine Par.S 2 8 [(45,0),(49,4),(50,5),(51,6)] (fun f X hX hR K hK=>?_) ?_
    · have e0:f 0=_:=hR.out 0 rfl
      have q1:0<l.length:=by omega
      simp only [yA,yB,yC,yD,yE,e0]
      refine ⟨?_⟩
      go_simp
      exact Par.k hK (s:=by simp only [yA,yB,yC,yD,yE,e0])
    refine Par.ld1 3 7 1 X0 ?_
    refine Par.v1 4 6 2 ?_
    refine Par.v0 5 5 ?_
    refine Par.S 6 4 [(45,0),(46,1),(47,2),(48,3),(49,4)] (fun f X hX hR K hK=>?_) ?_
    · have e4:f 4=_:=hR.out 4 rfl
      have q5:1<l.length:=by omega
      have q6:(1:Int)<(l.length:Int):=by omega
      simp only [yA,yB,yC,yD,yE,e4]
      refine ⟨?_⟩
      go_simp
      exact Par.k hK (s:=by simp only [yA,yB,yC,yD,yE,e4])
    refine Par.ld1 7 3 5 X1 ?_
    refine Par.v2 8 2 3 6 (hR:=fun _ _ h=>h.trans ((congrArg (Value.int .i64) hwr))) ?_
    refine Par.c0 9 1 (fun f=>#[f 7]) (F':=240) (fun f X hX hR=>?_) ?_
    · have e7:f 7=_:=hR.out 7 rfl
      simp only [e7]
      refine (HDD.out X).mono ?_
      rintro e w2 ⟨A8,c8,rfl,hO8,hB⟩
      exact ⟨(.slice A8 bb.length c8),rfl,hB,fun Y hY=>⟨A8,c8,rfl,ow_up (ow_lower hO8 hX.bsize) hY⟩⟩
    refine Par.S 10 0 [(45,0),(46,1),(47,2),(48,3),(49,4),(50,5),(51,6),(52,7),(53,8)] (fun f X hX hR K hK=>?_) ?_
    · obtain ⟨A8,c8,(e8:f 8=_),r8⟩:=hR.out 8 rfl
      simp only [yA,yB,yC,yD,yE,e8]
      refine ⟨?_⟩
      go_simp
      exact hK.out _ (.slice A8 bb.length c8) _ (by simp only [yA,yB,yC,yD,yE,e8]) (Ext.refl _) trivial (fun Y hY=>⟨A8,c8,rfl,ow_up r8 hY⟩)
    refine Par.AllOps.fin ⟨fun f X hX hR hal hap=>?_⟩
    obtain ⟨A8,c8,(e8:f 8=_),r8⟩:=hR 8 (by decide)
    obtain ⟨A9,c9,(e9:f 9=_),r9⟩:=hR 9 (by decide)
    simp only [yA,yB,yD,yE,e8,e9]
    clear hR hal hap e8 e9
    refine Par.Chain.done ?_
    have hXB:Below W0.heap.size W0 X:=Below.trans (below_drewN (Below.refl _ W0) d) hX
    have e9':=r9
    have HO9:=Lib.hid r9
    have HXB:=Lib.hid hXB
    clear r9 e9' hXB hX X0 X1 HDD hwr
    have m0:(0:Int)≤2:=by omega
    have m1:(2:Int)≤(l.length:Int):=by omega
    have m2:¬ (c:Int)=2:=by omega
    have m3:¬ c=2:=by omega
    have m4:(2:Int)≤(c:Int):=by omega
    go_wp2
    go_loopw [6,57] (fun s i wr=>∃ (k:Nat) (A6:Option Addr) (c6:Nat) (bs:List Nat),k+2≤l.length∧i=.int .i64 k∧s=.slice A6 bs.length c6∧OW wr W0.heap.size A6 c6 bs∧bs.length≤10+10*k∧bs=bb++((l.drop 2).take k).flatMap (fun z=>b128 z.toNat)∧Below W0.heap.size W0 wr) (fun _ i _=>l.length - (intOf i).toNat)
    case atStart=>exact ⟨0,A9,c9,bb,by omega,rfl,rfl,HO9.out,by omega,by simp,HXB.out⟩
    case round =>
     clear HO9 HXB r8
     obtain ⟨k,A6,c6,bs,hk,rfl,rfl,hO6,hl6,hbs,hB⟩:=hrel
     have HBs:=Lib.hid hbs
     clear hbs
     have hs:=hB.size
     by_cases hlt:k+2<l.length
     · obtain ⟨a,ea,_,hx⟩:=(hv0.below hB (fun b hb=>by have:=hP b hb;have:=Hz0.out;omega)).at_ (i:=k+2) hlt
       injection ea with ea
       subst ea
       have h1:=HA.out (k+2)
       obtain ⟨z,hz⟩:∃ z,l.getD (k+2) 0=z:=⟨_,rfl⟩
       rw [hz] at hx h1
       obtain ⟨zn,hzn⟩:∃ zn:Nat,z=(zn:Int):=⟨z.toNat,by omega⟩
       subst hzn
       have hx':wr.cell? ⟨g,2+k,none⟩=some (.int .i64 (zn:Int)):=by
        have e:Addr.add ⟨g,0,none⟩ (k+2)=⟨g,2+k,none⟩:=by simp [Addr.add];omega
        rw [←e];exact hx
       have HO6:=Lib.hid hO6
       have k1:k<l.length - 2:=by omega
       have k1':(k:Int)<((l.length - 2:Nat):Int):=by omega
       have HD:=Lib.hid (digits_any zn wr (by omega))
       have hl7:=b128_len zn
       have HSt:=Lib.hid (oid_step (bb:=bb) hlt hz)
       obtain ⟨b7,hb7⟩:∃ b7,b128 zn=b7:=⟨_,rfl⟩
       rw [hb7] at HD hl7 HSt
       clear hx hO6 hz hb7
       go_wp2_with fail
       refine HD.out.mono ?_
       rintro e w2 ⟨A7,c7,rfl,hO7,hB7⟩
       have HO7:=Lib.hid (hO7.rb (by omega))
       have HO8:=Lib.hid (ow_up HO6.out hB7)
       have HB7:=Lib.hid (hB.trans (hB7.mono hs))
       have hs7:=HB7.out.size
       clear hO7 hB7 HO6 HD
       go_wp2_with (at_builtin;refine app8 rfl (.tmp 61) (.tmp 63) rfl W0.heap.size (bs:=bs) rfl HO8.out rfl HO7.out (by omega) hs7 ?_;intro A2 c2 w3 hw3 hb3)
       have HB8:=Lib.hid (HB7.out.trans hb3)
       have HW3:=Lib.hid hw3
       clear hw3 hb3
       go_roundw
       case rel=>exact ⟨k+1,A2,c2,bs++b7,by omega,by go_num,by rw [List.length_append],HW3.out,by rw [List.length_append];omega,by rw [HBs.out];exact HSt.out,HB8.out⟩
       case measure=>simp [intOf];omega
     · have hk2:k=l.length - 2:=by omega
       have k1:¬ k<l.length - 2:=by omega
       have k1':¬ (k:Int)<((l.length - 2:Nat):Int):=by omega
       have hbo:bs=oidOf l:=by
        rw [HBs.out,hk2,List.take_of_length_le (by simp),←Hbb.out]
        unfold oidOf
        rw [H0'.out,Hy.out];rfl
       have HBo:=Lib.hid hbo
       have HOr:=Lib.hid (hO6.rb (by omega))
       have Hs0:=Lib.hid (Hz0.out)
       clear hbo
       have hb1:=(hB.block w.heap.size (by have:=Hz0.out;omega)).trans Hb0.out
       have HBB:=Lib.hid (HB0.out.trans (hB.mono (by have:=Hz0.out;omega)))
       obtain ⟨s,hs0⟩:∃ s,w.heap.size=s:=⟨_,rfl⟩
       rw [hs0] at hb1 HBB
       have q0:=blk_cell hb1 0
       have q1:=blk_cell hb1 1
       have q2:=blk_cell hb1 2
       have p0:=blk_free hb1 0
       have p1:=blk_free hb1 1
       have p2:=blk_free hb1 2
       simp only [List.getElem?_toArray,List.getElem?_cons_zero,List.getElem?_cons_succ] at q0 q1 q2
       have r:=set3 hb1 (.int .i64 6) (.slice A6 bs.length c6) (.slice none 0 0)
       have r0:=blk_cell r 0
       have r1:=blk_cell r 1
       have r2:=blk_cell r 2
       simp only [List.getElem?_toArray,List.getElem?_cons_zero,List.getElem?_cons_succ] at r0 r1 r2
       have R0:=Lib.hid r0
       have R1:=Lib.hid r1
       have R2:=Lib.hid r2
       clear r r0 r1 r2 hb1 hO6 hB hk2
       go_wp2
       have r0:=R0.out
       have r1:=R1.out
       have r2:=R2.out
       refine bodyPost_ret (v:=.tuple #[.agg #[.int .i64 6,.slice A6 bs.length c6,.slice none 0 0],.bool true]) (by simp [results,Tryz.results235,go_sem,r0,r1,r2]) rfl ⟨⟨A6,c6,by rw [←HBo.out],?_⟩,?_⟩
       · rw [←HBo.out]
         refine (HOr.out.keep fun p hp=>World.cell?_of_block ?_).mono fun q hq=>⟨by have:=hq.1;have:=Hs0.out;omega,by have:=hq.2;simpa [World.setCell] using this⟩
         have hq:p.block≠s:=by have:=hp.1;have:=Hs0.out;omega
         exact (Below.heap_setCell _ _ _ _ hq).trans ((Below.heap_setCell _ _ _ _ hq).trans (Below.heap_setCell _ _ _ _ hq))
       · exact ((HBB.out.setCell (p:=⟨s,0,none⟩) (Nat.le_refl _) _).setCell (p:=⟨s,1,none⟩) (Nat.le_refl _) _).setCell (p:=⟨s,2,none⟩) (Nat.le_refl _) _
end Go.Proofs.YtendnkpiidhogaaGreat.Der

namespace Go.Proofs.YtendnkpiidhogaaGreat.Der
open Go.RowKit Go.Shelf
attribute [local go_sem] Oper.semAt_some
def oid1:List Nat:=[42,134,72,206,61,3,1,7]
def oid2:List Nat:=[43,129,4,0,34]
theorem oid1_eq:oidOf [1,2,840,10045,3,1,7]=oid1:=by decide
theorem oid2_eq:oidOf [1,3,132,0,34]=oid2:=by decide
theorem bequal_any (P P':Nat→Prop) (A A':Option Addr) (c c':Nat) (bs bs':List Nat) (w:World) (h:RB w P A c bs) (h':RB w P' A' c' bs') :
 Calls Tryz.prog 85 #[.slice A bs.length c,.slice A' bs'.length c'] w fun e w'=>e=.returned (.bool (decide (bs=bs')))∧w=w':=by
 have s1:=h.str (P:=Tryz.prog) 33 5 9 Tryz.underlying33 Tryz.underlying5 Tryz.underlying9
 have s2:=h'.str (P:=Tryz.prog) 33 5 9 Tryz.underlying33 Tryz.underlying5 Tryz.underlying9
 by_cases e:bs=bs'
 · subst e
   go_enter Tryz.func85,Tryz.ntmps85
   go_wp2
   go_ret
   exact ⟨by simp,rfl⟩
 · have hne:((strB bs).toList==(strB bs').toList)=false:=by
    rw [beq_eq_false_iff_ne]
    exact fun h1=>e (strB_inj h.2.1 h'.2.1 h1)
   go_enter Tryz.func85,Tryz.ntmps85
   go_wp2
   go_ret
   exact ⟨by simp [e],rfl⟩
theorem kname_any (P:Nat→Prop) (g c:Nat) (l:List Int) (w:World) (hv:RZ w P (some ⟨g,0,none⟩) c l) (hP:∀ b,P b→b<w.heap.size) (hl:3≤l.length∧l.length≤100) (h0:l.getD 0 0=1) (h1:0≤l.getD 1 0∧l.getD 1 0≤39) (ha:∀ k,0≤l.getD k 0∧l.getD k 0<268435456) :
 Calls Tryz.prog 219 #[.slice (some ⟨g,0,none⟩) l.length c] w fun e w'=>(∃ A1 c1,e=.returned (.agg #[.int .i64 6,.slice A1 (oidOf l).length c1,.slice none 0 0])∧RB w' (In w.heap.size w'.heap.size) A1 c1 (oidOf l))∧Below w.heap.size w w':=by
 have hB:=(Below.refl w.heap.size w).alloc (Nat.le_refl _) (.cells #[.int .i64 0,.slice none 0 0,.slice none 0 0] 172)
 have hb:=heap_alloc_new w (.cells #[.int .i64 0,.slice none 0 0,.slice none 0 0] 172)
 have hz:(w.alloc (.cells #[.int .i64 0,.slice none 0 0,.slice none 0 0] 172)).heap.size=w.heap.size+1:=by simp
 have hO:=oid_any P g c l _ (hv.below hB hP) (fun b hb=>by have:=hP b hb;rw [hz];omega) hl h0 h1 ha
 have HB:=Lib.hid hB
 have H0:=Lib.hid hb
 have Hz:=Lib.hid hz
 obtain ⟨bb,hbb⟩:∃ bb,oidOf l=bb:=⟨_,rfl⟩
 rw [hbb] at hO ⊢
 have HO:=Lib.hid hO
 clear hB hb hz hO hv hP hl h0 h1 ha hbb
 go_enter Tryz.func219,Tryz.ntmps219
 go_wp2_with fail
 obtain ⟨s,hs⟩:∃ s,w.heap.size=s:=⟨_,rfl⟩
 rw [hs] at HB H0 Hz ⊢
 have Hs:=Lib.hid hs
 clear hs
 generalize w.alloc (.cells #[.int .i64 0,.slice none 0 0,.slice none 0 0] 172)=W1 at *
 refine HO.out.mono ?_
 rintro e w2 ⟨⟨A1,c1,rfl,hr1⟩,hB2⟩
 obtain ⟨n,hn⟩:∃ n,bb.length=n:=⟨_,rfl⟩
 rw [hn]
 have Hn:=Lib.hid hn
 have Hr1:=Lib.hid hr1
 clear hn hr1
 have h2:=(hB2.block s (by have:=Hz.out;omega)).trans H0.out
 have hlt:s<w2.heap.size:=by have:=Hz.out;have:=hB2.size;omega
 have HB3:=Lib.hid (HB.out.trans (hB2.mono (by have:=Hz.out;omega)))
 have H2:=Lib.hid h2
 have q0:=blk_cell h2 0
 have q1:=blk_cell h2 1
 have q2:=blk_cell h2 2
 have p0:=blk_free h2 0
 have p1:=blk_free h2 1
 have p2:=blk_free h2 2
 simp only [List.getElem?_toArray,List.getElem?_cons_zero,List.getElem?_cons_succ] at q0 q1 q2
 clear h2 hB2 H0
 go_wp2
 have r:=set3a H2.out (.int .i64 6) (.slice A1 n c1) (.slice none 0 0) (.cells #[.int .i64 6,.slice A1 n c1,.slice none 0 0] 172)
 have r0:=blk_cell r 0
 have r1:=blk_cell r 1
 have r2:=blk_cell r 2
 simp only [List.getElem?_toArray,List.getElem?_cons_zero,List.getElem?_cons_succ] at r0 r1 r2
 refine bodyPost_ret (v:=.agg #[.int .i64 6,.slice A1 n c1,.slice none 0 0]) (by simp [results,Tryz.results219,go_sem,r0,r1,r2]) rfl ⟨⟨A1,c1,by rw [Hn.out],?_⟩,?_⟩
 · rw [Hs.out]
   refine (Hr1.out.keep fun p hp=>World.cell?_of_block ?_).mono fun q hq=>⟨by have:=hq.1;have:=Hz.out;omega,by have:=hq.2;simp [World.setCell];omega⟩
   have hq:p.block≠s:=by have:=hp.1;have:=Hz.out;omega
   have hq2:p.block<w2.heap.size:=hp.2
   exact (Below.heap_alloc _ _ _ (by simpa [World.setCell] using hq2)).trans ((Below.heap_setCell _ _ _ _ hq).trans ((Below.heap_setCell _ _ _ _ hq).trans (Below.heap_setCell _ _ _ _ hq)))
 · rw [Hs.out]
   exact (((HB3.out.setCell (p:=⟨s,0,none⟩) (by simp) _).setCell (p:=⟨s,1,none⟩) (by simp) _).setCell (p:=⟨s,2,none⟩) (by simp) _).alloc (by simp;omega) _
theorem all_small {l:List Int} (h:∀ x∈l,0≤x∧x<268435456) (k:Nat):0≤l.getD k 0∧l.getD k 0<268435456:=by
 rcases Nat.lt_or_ge k l.length with hk | hk
 · rw [List.getD_eq_getElem?_getD,List.getElem?_eq_getElem hk];exact h _ (List.getElem_mem hk)
 · rw [List.getD_eq_getElem?_getD,List.getElem?_eq_none hk];simp
theorem params_1 (w:World):Calls Tryz.prog 186 #[.int .i64 1] w fun e w'=>(∃ A1 c1,e=.returned (.tuple #[.agg #[.int .i64 6,.slice A1 8 c1,.slice none 0 0],.bool true])∧RB w' (In w.heap.size w'.heap.size) A1 c1 oid1)∧Below w.heap.size w w':=by
 have hB:=((Below.refl w.heap.size w).alloc (Nat.le_refl _) (.cells #[.int .i64 0,.slice none 0 0,.slice none 0 0] 172)).alloc (by simp) (.cells #[.int .i64 1,.int .i64 2,.int .i64 840,.int .i64 10045,.int .i64 3,.int .i64 1,.int .i64 7] 3)
 have hb:=(Below.heap_alloc (w.alloc (.cells #[.int .i64 0,.slice none 0 0,.slice none 0 0] 172)) (.cells #[.int .i64 1,.int .i64 2,.int .i64 840,.int .i64 10045,.int .i64 3,.int .i64 1,.int .i64 7] 3) w.heap.size (by simp)).trans (heap_alloc_new w _)
 have hz:((w.alloc (.cells #[.int .i64 0,.slice none 0 0,.slice none 0 0] 172)).alloc (.cells #[.int .i64 1,.int .i64 2,.int .i64 840,.int .i64 10045,.int .i64 3,.int .i64 1,.int .i64 7] 3)).heap.size=w.heap.size+2:=by simp
 have hR:RZ _ (fun b=>b<w.heap.size+2) _ 7 [1,2,840,10045,3,1,7]:=RS.fresh (w:=(w.alloc (.cells #[.int .i64 0,.slice none 0 0,.slice none 0 0] 172))) (P:=fun b=>b<w.heap.size+2) #[.int .i64 1,.int .i64 2,.int .i64 840,.int .i64 10045,.int .i64 3,.int .i64 1,.int .i64 7] 3 1 7 rfl (by unfold maxLen;omega) (by simp)
 rw [World.size_alloc] at hR
 have hO:=kname_any (fun b=>b<w.heap.size+2) (w.heap.size+1) 7 [1,2,840,10045,3,1,7] _ hR (fun b hb=>by rw [hz];exact hb) (by simp) rfl (by simp) (all_small (by simp))
 have HB:=Lib.hid hB
 have H0:=Lib.hid hb
 have Hz:=Lib.hid hz
 rw [oid1_eq] at hO
 have HO:=Lib.hid hO
 clear hB hb hz hO hR
 go_enter Tryz.func186,Tryz.ntmps186
 go_wp2_with fail
 obtain ⟨s,hs⟩:∃ s,w.heap.size=s:=⟨_,rfl⟩
 rw [hs] at HB H0 Hz HO ⊢
 have Hs:=Lib.hid hs
 clear hs
 generalize (w.alloc (.cells #[.int .i64 0,.slice none 0 0,.slice none 0 0] 172)).alloc (.cells #[.int .i64 1,.int .i64 2,.int .i64 840,.int .i64 10045,.int .i64 3,.int .i64 1,.int .i64 7] 3)=W1 at *
 refine HO.out.mono ?_
 rintro e w2 ⟨⟨A1,c1,rfl,hr1⟩,hB2⟩
 have Hr1:=Lib.hid hr1
 have hn:oid1.length=8:=rfl
 rw [hn]
 clear hr1 hn
 have h2:=(hB2.block s (by have:=Hz.out;omega)).trans H0.out
 have hlt:s<w2.heap.size:=by have:=Hz.out;have:=hB2.size;omega
 have HB3:=Lib.hid (HB.out.trans (hB2.mono (by have:=Hz.out;omega)))
 have H2:=Lib.hid h2
 have q0:=blk_cell h2 0
 have q1:=blk_cell h2 1
 have q2:=blk_cell h2 2
 have p0:=blk_free h2 0
 have p1:=blk_free h2 1
 have p2:=blk_free h2 2
 simp only [List.getElem?_toArray,List.getElem?_cons_zero,List.getElem?_cons_succ] at q0 q1 q2
 clear h2 hB2 H0
 go_wp2
 have r:=set3 H2.out (.int .i64 6) (.slice A1 8 c1) (.slice none 0 0)
 have r0:=blk_cell r 0
 have r1:=blk_cell r 1
 have r2:=blk_cell r 2
 simp only [List.getElem?_toArray,List.getElem?_cons_zero,List.getElem?_cons_succ] at r0 r1 r2
 refine bodyPost_ret (v:=.tuple #[.agg #[.int .i64 6,.slice A1 8 c1,.slice none 0 0],.bool true]) (by simp [results,Tryz.results186,go_sem,r0,r1,r2]) rfl ⟨⟨A1,c1,rfl,?_⟩,?_⟩
 · rw [Hs.out]
   refine (Hr1.out.keep fun p hp=>World.cell?_of_block ?_).mono fun q hq=>⟨by have:=hq.1;have:=Hz.out;omega,by have:=hq.2;simpa [World.setCell] using this⟩
   have hq:p.block≠s:=by have:=hp.1;have:=Hz.out;omega
   exact (Below.heap_setCell _ _ _ _ hq).trans ((Below.heap_setCell _ _ _ _ hq).trans (Below.heap_setCell _ _ _ _ hq))
 · rw [Hs.out]
   exact ((HB3.out.setCell (p:=⟨s,0,none⟩) (by simp) _).setCell (p:=⟨s,1,none⟩) (by simp) _).setCell (p:=⟨s,2,none⟩) (by simp) _
theorem params_2 (w:World):Calls Tryz.prog 186 #[.int .i64 2] w fun e w'=>(∃ A1 c1,e=.returned (.tuple #[.agg #[.int .i64 6,.slice A1 5 c1,.slice none 0 0],.bool true])∧RB w' (In w.heap.size w'.heap.size) A1 c1 oid2)∧Below w.heap.size w w':=by
 have hB:=((Below.refl w.heap.size w).alloc (Nat.le_refl _) (.cells #[.int .i64 0,.slice none 0 0,.slice none 0 0] 172)).alloc (by simp) (.cells #[.int .i64 1,.int .i64 3,.int .i64 132,.int .i64 0,.int .i64 34] 3)
 have hb:=(Below.heap_alloc (w.alloc (.cells #[.int .i64 0,.slice none 0 0,.slice none 0 0] 172)) (.cells #[.int .i64 1,.int .i64 3,.int .i64 132,.int .i64 0,.int .i64 34] 3) w.heap.size (by simp)).trans (heap_alloc_new w _)
 have hz:((w.alloc (.cells #[.int .i64 0,.slice none 0 0,.slice none 0 0] 172)).alloc (.cells #[.int .i64 1,.int .i64 3,.int .i64 132,.int .i64 0,.int .i64 34] 3)).heap.size=w.heap.size+2:=by simp
 have hR:RZ _ (fun b=>b<w.heap.size+2) _ 5 [1,3,132,0,34]:=RS.fresh (w:=(w.alloc (.cells #[.int .i64 0,.slice none 0 0,.slice none 0 0] 172))) (P:=fun b=>b<w.heap.size+2) #[.int .i64 1,.int .i64 3,.int .i64 132,.int .i64 0,.int .i64 34] 3 1 5 rfl (by unfold maxLen;omega) (by simp)
 rw [World.size_alloc] at hR
 have hO:=kname_any (fun b=>b<w.heap.size+2) (w.heap.size+1) 5 [1,3,132,0,34] _ hR (fun b hb=>by rw [hz];exact hb) (by simp) rfl (by simp) (all_small (by simp))
 have HB:=Lib.hid hB
 have H0:=Lib.hid hb
 have Hz:=Lib.hid hz
 rw [oid2_eq] at hO
 have HO:=Lib.hid hO
 clear hB hb hz hO hR
 go_enter Tryz.func186,Tryz.ntmps186
 go_wp2_with fail
 obtain ⟨s,hs⟩:∃ s,w.heap.size=s:=⟨_,rfl⟩
 rw [hs] at HB H0 Hz HO ⊢
 have Hs:=Lib.hid hs
 clear hs
 generalize (w.alloc (.cells #[.int .i64 0,.slice none 0 0,.slice none 0 0] 172)).alloc (.cells #[.int .i64 1,.int .i64 3,.int .i64 132,.int .i64 0,.int .i64 34] 3)=W1 at *
 refine HO.out.mono ?_
 rintro e w2 ⟨⟨A1,c1,rfl,hr1⟩,hB2⟩
 have Hr1:=Lib.hid hr1
 have hn:oid2.length=5:=rfl
 rw [hn]
 clear hr1 hn
 have h2:=(hB2.block s (by have:=Hz.out;omega)).trans H0.out
 have hlt:s<w2.heap.size:=by have:=Hz.out;have:=hB2.size;omega
 have HB3:=Lib.hid (HB.out.trans (hB2.mono (by have:=Hz.out;omega)))
 have H2:=Lib.hid h2
 have q0:=blk_cell h2 0
 have q1:=blk_cell h2 1
 have q2:=blk_cell h2 2
 have p0:=blk_free h2 0
 have p1:=blk_free h2 1
 have p2:=blk_free h2 2
 simp only [List.getElem?_toArray,List.getElem?_cons_zero,List.getElem?_cons_succ] at q0 q1 q2
 clear h2 hB2 H0
 go_wp2
 have r:=set3 H2.out (.int .i64 6) (.slice A1 5 c1) (.slice none 0 0)
 have r0:=blk_cell r 0
 have r1:=blk_cell r 1
 have r2:=blk_cell r 2
 simp only [List.getElem?_toArray,List.getElem?_cons_zero,List.getElem?_cons_succ] at r0 r1 r2
 refine bodyPost_ret (v:=.tuple #[.agg #[.int .i64 6,.slice A1 5 c1,.slice none 0 0],.bool true]) (by simp [results,Tryz.results186,go_sem,r0,r1,r2]) rfl ⟨⟨A1,c1,rfl,?_⟩,?_⟩
 · rw [Hs.out]
   refine (Hr1.out.keep fun p hp=>World.cell?_of_block ?_).mono fun q hq=>⟨by have:=hq.1;have:=Hz.out;omega,by have:=hq.2;simpa [World.setCell] using this⟩
   have hq:p.block≠s:=by have:=hp.1;have:=Hz.out;omega
   exact (Below.heap_setCell _ _ _ _ hq).trans ((Below.heap_setCell _ _ _ _ hq).trans (Below.heap_setCell _ _ _ _ hq))
 · rw [Hs.out]
   exact ((HB3.out.setCell (p:=⟨s,0,none⟩) (by simp) _).setCell (p:=⟨s,1,none⟩) (by simp) _).setCell (p:=⟨s,2,none⟩) (by simp) _
end Go.Proofs.YtendnkpiidhogaaGreat.Der

namespace Go.Proofs.YtendnkpiidhogaaGreat.Der
open Go.RowKit Go.Shelf
attribute [local go_sem] Oper.semAt_some
def oidTo (l:List Int) (k:Nat):List Nat:=if k≤1 then [] else b128 (40*(l.getD 0 0).toNat+(l.getD 1 0).toNat)++((l.drop 2).take (k - 2)).flatMap fun z=>b128 z.toNat
theorem oidTo_2 {l:List Int} {z N:Nat} (h0:l.getD 0 0=1) (h1:l.getD 1 0=(z:Int)) (hN:z+40=N):oidTo l 1++b128 N=oidTo l (1+1):=by
 unfold oidTo
 rw [if_pos (by omega),if_neg (by omega),h0,h1,←hN]
 simp [Nat.add_comm]
theorem oidTo_n {l:List Int} {k z:Nat} (hk:2≤k) (hlt:k<l.length) (hz:l.getD k 0=(z:Int)):oidTo l k++b128 z=oidTo l (k+1):=by
 unfold oidTo
 rw [if_neg (by omega),if_neg (by omega)]
 have:=oid_step (l:=l) (k:=k - 2) (z:=z) (by omega) (by rw [show k - 2+2=k by omega];exact hz) (bb:=b128 (40*(l.getD 0 0).toNat+(l.getD 1 0).toNat))
 rw [this,show k - 2+1=k+1 - 2 by omega]
theorem oidTo_all {l:List Int} (h:2≤l.length):oidTo l l.length=oidOf l:=by
 unfold oidTo oidOf
 rw [if_neg (by omega),List.take_of_length_le (by simp)]
theorem p9:(128:Nat) ^ 9=9223372036854775808:=by decide
theorem pow10 {l x:Nat} (h0:0<l) (h:x<128 ^ (10 - l)):x<9223372036854775808 :=
 Nat.lt_of_lt_of_le h (p9▸Nat.pow_le_pow_right (by omega) (by omega))
theorem refOid_any (P:Nat→Prop) (g c:Nat) (l:List Int) (w:World) (hv:RZ w P (some ⟨g,0,none⟩) c l) (hP:∀ b,P b→b<w.heap.size) (hl:3≤l.length∧l.length≤12) (h0:l.getD 0 0=1) (h1:0≤l.getD 1 0∧l.getD 1 0≤39) (ha:∀ k,0≤l.getD k 0∧l.getD k 0<268435400) :
 Calls Tryz.prog 236 #[.slice (some ⟨g,0,none⟩) l.length c] w fun e w'=>(∃ A1 c1,e=.returned (.tuple #[.agg #[.int .i64 6,.slice A1 (oidOf l).length c1,.slice none 0 0],.bool true])∧RB w' (In w.heap.size w'.heap.size) A1 c1 (oidOf l))∧Below w.heap.size w w':=by
 obtain ⟨hlc,hc⟩:=(show l.length≤c∧c≤9223372036854775807 from ⟨hv.1,hv.2.1⟩)
 have hB0:=(Below.refl w.heap.size w).alloc (Nat.le_refl _) (.cells #[.int .i64 0,.slice none 0 0,.slice none 0 0] 172)
 have hb0:=heap_alloc_new w (.cells #[.int .i64 0,.slice none 0 0,.slice none 0 0] 172)
 have hz0:(w.alloc (.cells #[.int .i64 0,.slice none 0 0,.slice none 0 0] 172)).heap.size=w.heap.size+1:=by simp
 have hv0:=hv.below hB0 hP
 obtain ⟨a,ea,hPg,x0⟩:=hv0.at_ (i:=0) (by omega)
 injection ea with ea
 subst ea
 obtain ⟨a',ea,_,x1⟩:=hv0.at_ (i:=1) (by omega)
 injection ea with ea
 subst ea
 rw [h0] at x0
 obtain ⟨y,hy⟩:∃ y,l.getD 1 0=y:=⟨_,rfl⟩
 rw [hy] at x1 h1
 simp only [show Addr.add ⟨g,0,none⟩ 0=⟨g,0,none⟩ by simp [Addr.add],show Addr.add ⟨g,0,none⟩ 1=⟨g,1,none⟩ by simp [Addr.add]] at x0 x1
 have HB0:=Lib.hid hB0
 have Hb0:=Lib.hid hb0
 have Hz0:=Lib.hid hz0
 have HA:=Lib.hid ha
 have HV0:=Lib.hid hv0
 have Hy:=Lib.hid hy
 have H0:=Lib.hid h0
 have k0:¬ (l.length:Int)<2:=by omega
 have k1:¬ (39:Int)<y:=by omega
 clear hB0 hb0 hz0 h0 ha hy hv0
 go_enter Tryz.func236,Tryz.ntmps236
 go_wp2
 generalize w.alloc (.cells #[.int .i64 0,.slice none 0 0,.slice none 0 0] 172)=W0 at *
 go_loopw [4,5] (fun s i wr=>∃ (k:Nat) (A6:Option Addr) (c6:Nat) (bs:List Nat),k≤l.length∧i=.int .i64 k∧s=.slice A6 bs.length c6∧OW wr W0.heap.size A6 c6 bs∧bs.length≤10*k∧bs=oidTo l k∧Below W0.heap.size W0 wr) (fun _ i _=>l.length - (intOf i).toNat)
 case atStart=>exact ⟨0,none,0,[],by omega,rfl,rfl,⟨World.ownsRow_nil _ _ _ _,by simp⟩,by simp,by simp [oidTo],Below.refl _ _⟩
 case round =>
  obtain ⟨k,A6,c6,bs,hk,rfl,rfl,hO6,hl6,hbs,hB⟩:=hrel
  have HBs:=Lib.hid hbs
  clear hbs
  have hs:=hB.size
  by_cases hlt:k<l.length
  · obtain ⟨a,ea,_,hx⟩:=(HV0.out.below hB (fun b hb=>by have:=hP b hb;have:=Hz0.out;omega)).at_ (i:=k) hlt
    injection ea with ea
    subst ea
    have h1':=HA.out k
    have X0:=(hB.cell (p:=⟨g,0,none⟩) (by have:=hP g hPg;have:=Hz0.out;show g<_;omega)).trans x0
    obtain ⟨z,hz⟩:∃ z,l.getD k 0=z:=⟨_,rfl⟩
    rw [hz] at hx h1'
    have Hz:=Lib.hid hz
    have hx':wr.cell? ⟨g,k,none⟩=some (.int .i64 z):=by
     have e:Addr.add ⟨g,0,none⟩ k=⟨g,k,none⟩:=by by_cases h:k=0 <;> simp [Addr.add,h]
     rw [←e];exact hx
    have z1:¬ z<0:=by omega
    have z2:¬ 268435456<z:=by omega
    clear hx hz
    obtain ⟨zn,hzn⟩:∃ zn:Nat,z=(zn:Int):=⟨z.toNat,by omega⟩
    subst hzn
    have HO6:=Lib.hid hO6
    clear hO6
    by_cases hk0:k=0
    · subst hk0
      go_wp2
      go_roundw
      case rel=>exact ⟨1,A6,c6,bs,by omega,by go_num,rfl,HO6.out,by omega,by rw [HBs.out];simp [oidTo],hB⟩
      case measure=>simp [intOf];omega
    have e0:((k:Int)==0)=false:=by simp;omega
    have q1:k<l.length:=hlt
    by_cases hk1:k=1
    · subst hk1
      obtain ⟨N,hN⟩:∃ N:Nat,zn+40=N:=⟨_,rfl⟩
      have hN0:=hN
      have hN1:(zn:Int)+40=(N:Int):=by omega
      have q2:(0:Int)<(l.length:Int):=by omega
      have q3:0<l.length:=by omega
      have hN2:IntKind.i64.wrap ((zn:Int)+40)=(N:Int):=by rw [IntKind.wrap_i64];omega
      obtain ⟨wo,rfl⟩:∃ wo,wo=wr:=⟨_,rfl⟩
      obtain ⟨b0,hb0',he0⟩:∃ b:Nat,b<256∧(N:Int) % 128=(b:Int):=⟨N % 128,by omega,by omega⟩
      have HL:=Lib.hid (OW.lit wo b0 hb0')
      obtain ⟨R2,hR2⟩:∃ R2,b128 N=R2:=⟨_,rfl⟩
      have HR2':=Lib.hid hR2
      have Hb0':=Lib.hid (show b0=N % 128 by omega)
      clear hR2
      have hN:N<268435456:=by omega
      go_wp2
      go_loopw [6,7] (fun v s wr2=>∃ (x:Nat) (A:Option Addr) (c:Nat) (bs:List Nat),v=.int .i64 (x:Int)∧s=.slice A bs.length c∧OW wr2 wo.heap.size A c bs∧0<bs.length∧bs.length≤10∧x<128 ^ (10 - bs.length)∧up7 (10 - bs.length) x bs=R2∧Below wo.heap.size wo wr2) (fun v _ _=>(intOf v).toNat)
      case atStart=>exact ⟨N / 128,_,1,[b0],by simp,rfl,HL.out,by simp,by simp,by simp;omega,(by rw [Hb0'.out];exact HR2'.out),(Below.refl _ wo).alloc (Nat.le_refl _) _⟩
      case round =>
       clear HL he0 hb0'
       obtain ⟨x,A,c3,b2,rfl,rfl,hO,h0,hl2,hx,hup,hB2⟩:=hrel
       have HUp:=Lib.hid hup
       clear hup
       have hs2:=hB2.size
       by_cases hx0:0<x
       · obtain ⟨b,hb,hbe⟩:∃ b:Nat,b<256∧128+(x:Int) % 128=(b:Int):=⟨128+x % 128,by omega,by omega⟩
         have Hbe:=Lib.hid (show b=128+x % 128 by omega)
         have hl9:b2.length≤9:=by
          rcases Nat.lt_or_ge 9 b2.length with h | h
          · have:b2.length=10:=by omega
            rw [this] at hx
            simp at hx
            omega
          · exact h
         have hx':x / 128<128 ^ (10 - (b2.length+1)):=by
          rw [show 10 - b2.length=10 - (b2.length+1)+1 by omega,Nat.pow_succ] at hx
          exact Nat.div_lt_of_lt_mul (by rw [Nat.mul_comm];exact hx)
         have HX:=Lib.hid hx'
         have HUp2:=Lib.hid (show up7 (10 - (b2.length+1)) (x / 128) (b :: b2)=R2 by rw [Hbe.out,←HUp.out,show 10 - b2.length=10 - (b2.length+1)+1 by omega,up7,if_neg (by omega)])
         have Hw2:=Lib.hid (show wrap64 ((x:Int) / 128)=(x:Int) / 128 by have:=pow10 h0 hx;rw [←IntWalk.i64_left,IntKind.wrap_i64];omega)
         have HO:=Lib.hid (OW.lit wr b hb)
         have HRb:=Lib.hid ((hO.rb (by omega)).below ((Below.refl _ wr).alloc (Nat.le_refl _) (.cells #[.int .u8 (b:Int)] 5)) fun q hq=>hq.2)
         have hi:(0:Int)<(x:Int):=by omega
         have HB2:=Lib.hid hB2
         clear hx hx' hO hB2
         go_wp2_with (at_builtin;refine app8 rfl (.tmp 77) (.tmp 78) rfl wr.heap.size (bs:=[b]) rfl HO.out rfl HRb.out (by simp;omega) (by simp) ?_;intro A2 c2 w2 hw2 hb2)
         have HB:=Lib.hid ((HB2.out.alloc hs2 (.cells #[.int .u8 (b:Int)] 5)).trans (hb2.mono hs2))
         go_roundw
         case rel=>exact ⟨x / 128,A2,c2,b :: b2,by rw [Hw2.out];simp,rfl,ow_lower hw2 hs2,by simp,by simp;omega,by simpa using HX.out,by simpa using HUp2.out,HB.out⟩
         case measure=>rw [Hw2.out];simp [intOf];omega
       · have hx0':x=0:=by omega
         subst hx0'
         have hRb:b2=R2:=by rw [←HUp.out];cases 10 - b2.length <;> simp [up7]
         have HRb2:=Lib.hid hRb
         clear hRb
         have HR2:=Lib.hid (hO.rb (by omega))
         have HO8:=Lib.hid (ow_up HO6.out hB2)
         have HB2:=Lib.hid (hB.trans (hB2.mono hs))
         have hsz:=HB2.out.size
         clear hO hB2
         go_wp2_with (at_builtin;refine app8 rfl (.tmp 80) (.tmp 81) rfl W0.heap.size (bs:=bs) rfl HO8.out rfl HR2.out (by omega) hsz ?_;intro A2 c2 w3 hw3 hb3)
         have HB8:=Lib.hid (HB2.out.trans hb3)
         have HW3:=Lib.hid hw3
         clear hw3 hb3
         go_roundw
         case rel=>exact ⟨1+1,A2,c2,bs++b2,by omega,by go_num,by rw [List.length_append],HW3.out,by rw [List.length_append];omega,by rw [HBs.out,HRb2.out,←HR2'.out];exact oidTo_2 H0.out Hz.out hN0,HB8.out⟩
         case measure=>simp [intOf];omega
    have e1:((k:Int)==1)=false:=by simp;omega
    obtain ⟨wo,rfl⟩:∃ wo,wo=wr:=⟨_,rfl⟩
    obtain ⟨b0,hb0',he0⟩:∃ b:Nat,b<256∧(zn:Int) % 128=(b:Int):=⟨zn % 128,by omega,by omega⟩
    have HL:=Lib.hid (OW.lit wo b0 hb0')
    obtain ⟨R2,hR2⟩:∃ R2,b128 zn=R2:=⟨_,rfl⟩
    have HR2':=Lib.hid hR2
    have Hb0':=Lib.hid (show b0=zn % 128 by omega)
    clear hR2
    have hN:zn<268435456:=by omega
    go_wp2
    go_loopw [6,7] (fun v s wr2=>∃ (x:Nat) (A:Option Addr) (c:Nat) (bs:List Nat),v=.int .i64 (x:Int)∧s=.slice A bs.length c∧OW wr2 wo.heap.size A c bs∧0<bs.length∧bs.length≤10∧x<128 ^ (10 - bs.length)∧up7 (10 - bs.length) x bs=R2∧Below wo.heap.size wo wr2) (fun v _ _=>(intOf v).toNat)
    case atStart=>exact ⟨zn / 128,_,1,[b0],by simp,rfl,HL.out,by simp,by simp,by simp;omega,(by rw [Hb0'.out];exact HR2'.out),(Below.refl _ wo).alloc (Nat.le_refl _) _⟩
    case round =>
     clear HL he0 hb0'
     obtain ⟨x,A,c3,b2,rfl,rfl,hO,h0,hl2,hx,hup,hB2⟩:=hrel
     have HUp:=Lib.hid hup
     clear hup
     have hs2:=hB2.size
     by_cases hx0:0<x
     · obtain ⟨b,hb,hbe⟩:∃ b:Nat,b<256∧128+(x:Int) % 128=(b:Int):=⟨128+x % 128,by omega,by omega⟩
       have Hbe:=Lib.hid (show b=128+x % 128 by omega)
       have hl9:b2.length≤9:=by
        rcases Nat.lt_or_ge 9 b2.length with h | h
        · have:b2.length=10:=by omega
          rw [this] at hx
          simp at hx
          omega
        · exact h
       have hx':x / 128<128 ^ (10 - (b2.length+1)):=by
        rw [show 10 - b2.length=10 - (b2.length+1)+1 by omega,Nat.pow_succ] at hx
        exact Nat.div_lt_of_lt_mul (by rw [Nat.mul_comm];exact hx)
       have HX:=Lib.hid hx'
       have HUp2:=Lib.hid (show up7 (10 - (b2.length+1)) (x / 128) (b :: b2)=R2 by rw [Hbe.out,←HUp.out,show 10 - b2.length=10 - (b2.length+1)+1 by omega,up7,if_neg (by omega)])
       have Hw2:=Lib.hid (show wrap64 ((x:Int) / 128)=(x:Int) / 128 by have:=pow10 h0 hx;rw [←IntWalk.i64_left,IntKind.wrap_i64];omega)
       have HO:=Lib.hid (OW.lit wr b hb)
       have HRb:=Lib.hid ((hO.rb (by omega)).below ((Below.refl _ wr).alloc (Nat.le_refl _) (.cells #[.int .u8 (b:Int)] 5)) fun q hq=>hq.2)
       have hi:(0:Int)<(x:Int):=by omega
       have HB2:=Lib.hid hB2
       clear hx hx' hO hB2
       go_wp2_with (at_builtin;refine app8 rfl (.tmp 77) (.tmp 78) rfl wr.heap.size (bs:=[b]) rfl HO.out rfl HRb.out (by simp;omega) (by simp) ?_;intro A2 c2 w2 hw2 hb2)
       have HB:=Lib.hid ((HB2.out.alloc hs2 (.cells #[.int .u8 (b:Int)] 5)).trans (hb2.mono hs2))
       go_roundw
       case rel=>exact ⟨x / 128,A2,c2,b :: b2,by rw [Hw2.out];simp,rfl,ow_lower hw2 hs2,by simp,by simp;omega,by simpa using HX.out,by simpa using HUp2.out,HB.out⟩
       case measure=>rw [Hw2.out];simp [intOf];omega
     · have hx0':x=0:=by omega
       subst hx0'
       have hRb:b2=R2:=by rw [←HUp.out];cases 10 - b2.length <;> simp [up7]
       have HRb2:=Lib.hid hRb
       clear hRb
       have HR2:=Lib.hid (hO.rb (by omega))
       have HO8:=Lib.hid (ow_up HO6.out hB2)
       have HB2:=Lib.hid (hB.trans (hB2.mono hs))
       have hsz:=HB2.out.size
       clear hO hB2
       go_wp2_with (at_builtin;refine app8 rfl (.tmp 80) (.tmp 81) rfl W0.heap.size (bs:=bs) rfl HO8.out rfl HR2.out (by omega) hsz ?_;intro A2 c2 w3 hw3 hb3)
       have HB8:=Lib.hid (HB2.out.trans hb3)
       have HW3:=Lib.hid hw3
       clear hw3 hb3
       go_roundw
       case rel=>exact ⟨k+1,A2,c2,bs++b2,by omega,by go_num,by rw [List.length_append],HW3.out,by rw [List.length_append];omega,by rw [HBs.out,HRb2.out,←HR2'.out];exact oidTo_n (by omega) hlt Hz.out,HB8.out⟩
       case measure=>simp [intOf];omega
  · obtain rfl:k=l.length:=by omega
    have hbo:bs=oidOf l:=by rw [HBs.out];exact oidTo_all (by omega)
    have HBo:=Lib.hid hbo
    clear hbo
    have hb1:=(hB.block w.heap.size (by have:=Hz0.out;omega)).trans Hb0.out
    have HBB:=Lib.hid (HB0.out.trans (hB.mono (by have:=Hz0.out;omega)))
    have HRb:=Lib.hid ((hO6.rb (by omega)).mono (P':=In W0.heap.size wr.heap.size) fun b hb=>hb)
    obtain ⟨s,hs0⟩:∃ s,w.heap.size=s:=⟨_,rfl⟩
    have hsW:s<W0.heap.size:=by have:=Hz0.out;omega
    rw [hs0] at hb1 HBB
    have q0:=blk_cell hb1 0
    have q1:=blk_cell hb1 1
    have q2:=blk_cell hb1 2
    have p0:=blk_free hb1 0
    have p1:=blk_free hb1 1
    have p2:=blk_free hb1 2
    simp only [List.getElem?_toArray,List.getElem?_cons_zero,List.getElem?_cons_succ] at q0 q1 q2
    have r:=set3 hb1 (.int .i64 6) (.slice A6 bs.length c6) (.slice none 0 0)
    have r0:=blk_cell r 0
    have r1:=blk_cell r 1
    have r2:=blk_cell r 2
    simp only [List.getElem?_toArray,List.getElem?_cons_zero,List.getElem?_cons_succ] at r0 r1 r2
    have R0:=Lib.hid r0
    have R1:=Lib.hid r1
    have R2:=Lib.hid r2
    clear r r0 r1 r2 hb1 hO6 hB
    go_wp2
    have r0:=R0.out
    have r1:=R1.out
    have r2:=R2.out
    refine bodyPost_ret (v:=.tuple #[.agg #[.int .i64 6,.slice A6 bs.length c6,.slice none 0 0],.bool true]) (by simp [results,Tryz.results236,go_sem,hs0,r0,r1,r2]) rfl ⟨⟨A6,c6,by rw [←HBo.out],?_⟩,?_⟩
    · rw [←HBo.out]
      refine (HRb.out.keep fun p hp=>World.cell?_of_block ?_).mono fun q hq=>⟨by have:=hq.1;have:=Hz0.out;omega,by have:=hq.2;simpa [World.setCell] using this⟩
      have hq:p.block≠s:=by have:=hp.1;omega
      exact (Below.heap_setCell _ _ _ _ hq).trans ((Below.heap_setCell _ _ _ _ hq).trans (Below.heap_setCell _ _ _ _ hq))
    · rw [hs0]
      exact ((HBB.out.setCell (p:=⟨s,0,none⟩) (Nat.le_refl _) _).setCell (p:=⟨s,1,none⟩) (Nat.le_refl _) _).setCell (p:=⟨s,2,none⟩) (Nat.le_refl _) _
end Go.Proofs.YtendnkpiidhogaaGreat.Der

namespace Go.Proofs.YtendnkpiidhogaaGreat.Der
open Go.RowKit Go.Shelf
attribute [local go_sem] Oper.semAt_some
theorem nameF_last:∀ {bg:Bool} {b:List Nat},0<b.length→128≤b.getD (b.length - 1) 0→nameF bg b=false
  | bg, [x], _, h => by
    simp at h
    simp only [nameF]
    split
    · rfl
    · simp;omega
  | bg, x :: y :: r, _, h => by
    rw [nameF]
    split
    · rfl
    · exact nameF_last (b:=y :: r) (by simp) (by simpa using h)
theorem content_any (P:Nat→Prop) (A:Option Addr) (c tag:Nat) (b:List Nat) (w:World) (h:RB w P A c b) :
 Calls Tryz.prog 242 #[.int .i64 tag,.slice A b.length c] w fun e w'=>e=.returned (.bool (plainOf tag b))∧∃ d,w'=w.drewN d:=by
 obtain ⟨hlc,hc,hl⟩:=h.cap
 have H:=Lib.hid h
 obtain ⟨R,hR⟩:∃ R,plainOf tag b=R:=⟨_,rfl⟩
 rw [hR]
 have fin:∀ {v:Bool},v=R→Ending.returned (.bool v)=Ending.returned (.bool R)∧∃ d,w=w.drewN d:=fun h=>⟨by rw [h],0,rfl⟩
 obtain ⟨n,hn⟩:∃ n,b.length=n:=⟨_,rfl⟩
 rw [hn] at hlc hl ⊢
 have Hn:=Lib.hid hn
 clear h hn
 obtain ⟨z,hz⟩:∃ z:Int,(tag:Int)=z:=⟨_,rfl⟩
 rw [hz]
 by_cases t2:tag=2
 · subst t2
   obtain rfl:z=2:=hz.symm
   clear hz
   unfold plainOf at hR
   rw [if_pos rfl,Hn.out] at hR
   by_cases h0:n=0
   · have hR':false=R:=by rw [←hR];simp [h0]
     subst h0
     clear hR
     subst hR'
     go_enter Tryz.func242,Tryz.ntmps242
     go_wp2
     go_ret
     exact fin rfl
   have h0':(0:Int)<(n:Int):=by omega
   have h0'':0<n:=by omega
   obtain ⟨ad,rfl,-,x0,y0⟩:=RB.get0 H.out (by rw [Hn.out];omega)
   obtain ⟨b0,hb0⟩:∃ x,b.getD 0 0=x:=⟨_,rfl⟩
   rw [hb0] at x0 y0 hR
   by_cases h1:b0<128
   rotate_left
   · have hR':false=R:=by rw [←hR];simp [h1]
     have h1':¬ (b0:Int)<128:=by omega
     clear hR
     subst hR'
     go_enter Tryz.func242,Tryz.ntmps242
     go_wp2
     go_ret
     exact fin rfl
   have h1':(b0:Int)<128:=by omega
   by_cases h2:0<b0
   · have hR':true=R:=by rw [←hR];simp [h0'',h1,h2]
     have h2':((b0:Int)==0)=false:=beq_eq_false_iff_ne.2 (by omega)
     have h2'':¬ (b0:Int)=0:=by omega
     clear hR
     subst hR'
     go_enter Tryz.func242,Tryz.ntmps242
     go_wp2
     go_ret
     exact fin rfl
   obtain rfl:b0=0:=by omega
   have x0':w.cell? ad=some (.int .u8 0):=x0
   clear x0
   by_cases h3:n=1
   · have hR':true=R:=by rw [←hR];simp [h1,h2,h3]
     subst h3
     clear hR
     subst hR'
     go_enter Tryz.func242,Tryz.ntmps242
     go_wp2
     go_ret
     exact fin rfl
   have h3':((n:Int)==1)=false:=beq_eq_false_iff_ne.2 (by omega)
   have h4:1<n:=by omega
   have h4':(1:Int)<(n:Int):=by omega
   obtain ⟨x1,y1⟩:=RB.get1 H.out (by rw [Hn.out];omega)
   obtain ⟨b1,hb1⟩:∃ x,b.getD 1 0=x:=⟨_,rfl⟩
   rw [hb1] at x1 y1 hR
   have hR':decide (128≤b1)=R:=by rw [←hR];simp [h0'',h1,h2,h3]
   by_cases h5:128≤b1
   · have h5':(128:Int)≤(b1:Int):=by omega
     have hR2:true=R:=by rw [←hR'];simp [h5]
     clear hR hR'
     subst hR2
     go_enter Tryz.func242,Tryz.ntmps242
     go_wp2
     go_ret
     exact fin rfl
   · have h5':¬ (128:Int)≤(b1:Int):=by omega
     have hR2:false=R:=by rw [←hR'];simp [h5]
     clear hR hR'
     subst hR2
     go_enter Tryz.func242,Tryz.ntmps242
     go_wp2
     go_ret
     exact fin rfl
 have t2':(z==2)=false:=beq_eq_false_iff_ne.2 (by omega)
 by_cases t3:tag=3
 · subst t3
   obtain rfl:z=3:=hz.symm
   clear hz
   unfold plainOf at hR
   rw [if_neg (by omega),if_pos rfl,Hn.out] at hR
   by_cases h0:n=0
   · have hR':false=R:=by rw [←hR];simp [h0]
     subst h0
     clear hR t2 t2'
     subst hR'
     go_enter Tryz.func242,Tryz.ntmps242
     go_wp2
     go_ret
     exact fin rfl
   have h0':(0:Int)<(n:Int):=by omega
   have h0'':0<n:=by omega
   obtain ⟨ad,rfl,-,x0,y0⟩:=RB.get0 H.out (by rw [Hn.out];omega)
   obtain ⟨b0,hb0⟩:∃ x,b.getD 0 0=x:=⟨_,rfl⟩
   rw [hb0] at x0 y0 hR
   have hR':(b0==0)=R:=by rw [←hR];simp [h0'']
   by_cases h5:b0=0
   · subst h5
     have hR2:true=R:=by rw [←hR'];simp
     clear hR hR' t2 t2'
     subst hR2
     go_enter Tryz.func242,Tryz.ntmps242
     go_wp2
     go_ret
     exact fin rfl
   · have h5':((b0:Int)==0)=false:=by simp;omega
     have hR2:false=R:=by rw [←hR'];simp [h5]
     clear hR hR' t2 t2'
     subst hR2
     go_enter Tryz.func242,Tryz.ntmps242
     go_wp2
     go_ret
     exact fin rfl
 have t3':(z==3)=false:=beq_eq_false_iff_ne.2 (by omega)
 by_cases t4:tag=4
 · subst t4
   obtain rfl:z=4:=hz.symm
   clear hz
   have hR2:true=R:=by rw [←hR];rfl
   clear hR t2 t2' t3 t3'
   subst hR2
   go_enter Tryz.func242,Tryz.ntmps242
   go_wp2
   go_ret
   exact fin rfl
 have t4':(z==4)=false:=beq_eq_false_iff_ne.2 (by omega)
 by_cases t5:tag=5
 · subst t5
   obtain rfl:z=5:=hz.symm
   clear hz
   have hR':(n==0)=R:=by rw [←hR,←Hn.out];rfl
   clear hR t2 t2' t3 t3' t4 t4'
   by_cases h0:n=0
   · subst h0
     have hR2:true=R:=by rw [←hR'];simp
     clear hR'
     subst hR2
     go_enter Tryz.func242,Tryz.ntmps242
     go_wp2
     go_ret
     exact fin rfl
   · have h0':((n:Int)==0)=false:=beq_eq_false_iff_ne.2 (by omega)
     have hR2:false=R:=by rw [←hR'];simp [h0]
     clear hR'
     subst hR2
     go_enter Tryz.func242,Tryz.ntmps242
     go_wp2
     go_ret
     exact fin rfl
 have t5':(z==5)=false:=beq_eq_false_iff_ne.2 (by omega)
 by_cases t6:tag=6
 · subst t6
   obtain rfl:z=6:=hz.symm
   clear hz
   have hR':nameOf b=R:=by rw [←hR];rfl
   clear hR t2 t2' t3 t3' t4 t4' t5 t5'
   have HR:=Lib.hid hR'
   clear hR'
   by_cases hn0:n=0
   · have hR2:false=R:=by rw [←HR.out];unfold nameOf;rw [Hn.out,hn0];simp
     subst hn0
     subst hR2
     go_enter Tryz.func242,Tryz.ntmps242
     go_wp2
     go_ret
     exact fin rfl
   obtain ⟨m,hm⟩:∃ m,n=m+1:=⟨n - 1,by omega⟩
   obtain ⟨ad,rfl,-,ym,-⟩:=RB.getD H.out (i:=m) (by rw [Hn.out];omega)
   obtain ⟨y,hy⟩:∃ y,b.getD m 0=y:=⟨_,rfl⟩
   rw [hy] at ym
   have Hy:=Lib.hid hy
   have Hm:=Lib.hid hm
   have e1:((n:Int)==0)=false:=beq_eq_false_iff_ne.2 (by omega)
   have e2:(n:Int) - 1=(m:Int):=by omega
   have e3:m<n:=by omega
   have e4:(m:Int)<(n:Int):=by omega
   have e7:IntKind.i64.wrap (m:Int)=(m:Int):=by rw [IntKind.wrap_i64];omega
   have fin2:∀ {v:Bool} {d:Nat},v=R→Ending.returned (Value.bool v)=Ending.returned (Value.bool R)∧∃ d',w.drewN d=w.drewN d':=fun h=>⟨by rw [h],_,rfl⟩
   clear hn0 hy hm
   by_cases hy1:y<128
   rotate_left
   · have hR2:false=R:=by
      rw [←HR.out];unfold nameOf
      rw [nameF_last (b:=b) (by rw [Hn.out];omega) (by rw [Hn.out,show n - 1=m by have:=Hm.out;omega,Hy.out];omega)];simp
     have hy2:(128:Int)≤(y:Int):=by omega
     subst hR2
     go_enter Tryz.func242,Tryz.ntmps242
     go_wp2
     go_ret
     exact fin rfl
   have hy2:¬ (128:Int)≤(y:Int):=by omega
   go_enter Tryz.func242,Tryz.ntmps242
   go_wp2
   clear e1 e2 e3 e4 e7 ym
   go_loopw [6] (fun i wr=>∃ k:Nat,k≤n∧i=.int .i64 k∧nameF true b=nameF (k==0 || decide (b.getD (k - 1) 0<128)) (b.drop k)∧∃ d,wr=w.drewN d) (fun i _=>n - (intOf i).toNat)
   case atStart=>exact ⟨0,by omega,rfl,by simp,0,rfl⟩
   case round =>
    obtain ⟨k,hk,rfl,hN,d,rfl⟩:=hrel
    by_cases hlt:k<n
    · obtain ⟨ad',ea,-,x0,x1⟩:=RB.getD (H.out.keep (w':=w.drewN d) fun _ _=>rfl) (i:=k) (by rw [Hn.out];exact hlt)
      injection ea with ea
      subst ea
      have hst:=name_step (bg:=(k==0 || decide (b.getD (k - 1) 0<128))) (b:=b) (k:=k) (by rw [Hn.out];exact hlt) (x:=b.getD k 0) (gD _ _ (by rw [Hn.out];exact hlt)).symm
      obtain ⟨x,hx⟩:∃ x,b.getD k 0=x:=⟨_,rfl⟩
      rw [hx] at x0 x1 hst
      have HN:=Lib.hid (hN.trans hst)
      have Hnx:=Lib.hid (show ((k+1==0) || decide (b.getD (k+1 - 1) 0<128))=decide (x<128) by rw [Nat.add_sub_cancel,hx];simp)
      have q1:(k:Int)<(n:Int):=by omega
      clear hN hst hx
      by_cases h1:x=128
      rotate_left
      · have hx2:((x:Int)==128)=false:=beq_eq_false_iff_ne.2 (by omega)
        have HN2:=Lib.hid (HN.out.trans (if_neg (by simp [h1])))
        clear h1
        go_wp2
        go_roundw
        case rel=>exact ⟨k+1,by omega,by go_num,by rw [Hnx.out];exact HN2.out,d,rfl⟩
        case measure=>simp [intOf];omega
      · subst h1
        have x0':(w.drewN d).cell? (ad.add k)=some (.int .u8 128):=x0
        clear x0
        by_cases hk0:k=0
        · have hR2:false=R:=by rw [←HR.out];unfold nameOf;rw [HN.out,hk0];simp
          subst hR2
          have q2:((k:Int)==0)=true:=by simp;omega
          clear hk0
          go_wp2
          go_ret
          exact fin2 rfl
        obtain ⟨j,hj⟩:∃ j,k - 1=j:=⟨_,rfl⟩
        obtain ⟨ad',ea,-,z0,z1⟩:=RB.getD (H.out.keep (w':=w.drewN d) fun _ _=>rfl) (i:=j) (by rw [Hn.out];omega)
        injection ea with ea
        subst ea
        obtain ⟨v,hv⟩:∃ v,b.getD j 0=v:=⟨_,rfl⟩
        rw [hj,hv] at HN
        rw [hv] at z0
        have q2:((k:Int)==0)=false:=beq_eq_false_iff_ne.2 (by omega)
        have q3:j<n:=by omega
        have q4:(j:Int)<(n:Int):=by omega
        have q5:(k:Int) - 1=(j:Int):=by omega
        have q6:IntKind.i64.wrap (j:Int)=(j:Int):=by rw [IntKind.wrap_i64];omega
        have HK0:=Lib.hid hk0
        clear hk0 hj hv
        by_cases hv1:v<128
        · have hR2:false=R:=by rw [←HR.out];unfold nameOf;rw [HN.out];simp [hv1]
          subst hR2
          have hv2:(v:Int)<128:=by omega
          go_wp2
          go_ret
          exact fin2 rfl
        · have hv2:¬ (v:Int)<128:=by omega
          have HN2:=Lib.hid (HN.out.trans (if_neg (by simp [hv1,HK0.out])))
          go_wp2
          go_roundw
          case rel=>exact ⟨k+1,by omega,by go_num,by rw [Hnx.out];exact HN2.out,d,rfl⟩
          case measure=>simp [intOf];omega
    · obtain rfl:k=n:=by omega
      have hR2:true=R:=by
       rw [←HR.out];unfold nameOf
       rw [hN,List.drop_of_length_le (by rw [Hn.out];omega),show k - 1=m by have:=Hm.out;omega,Hy.out,Hn.out]
       have:=Hm.out
       simp [nameF,hy1];omega
      subst hR2
      clear hN
      have q1:¬ (k:Int)<(k:Int):=by omega
      go_wp2
      go_ret
      exact fin2 rfl
 have t6':(z==6)=false:=beq_eq_false_iff_ne.2 (by omega)
 have hR2:false=R:=by rw [←hR];unfold plainOf;rw [if_neg t2,if_neg t3,if_neg t4,if_neg t5,if_neg t6]
 clear hR t2 t3 t4 t5 t6 hz
 subst hR2
 go_enter Tryz.func242,Tryz.ntmps242
 go_wp2
 go_ret
 exact fin rfl
end Go.Proofs.YtendnkpiidhogaaGreat.Der
