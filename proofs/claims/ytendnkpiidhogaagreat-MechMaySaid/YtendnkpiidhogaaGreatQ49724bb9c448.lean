/- The reference's ReadParams: it answers with a curve, or none. -/
import Derived.Test.YtendnkpiidhogaaGreatQ0c840e69adb2
import Derived.Lib.Hide
import Derived.BigQuiet
import Derived.Deep.QuietTactic
set_option maxRecDepth 100000
set_option maxHeartbeats 16000000
namespace Go.Proofs.YtendnkpiidhogaaGreat.At
open Go.RowKit Go.Shelf
attribute [local go_sem] Oper.semAt_some
theorem write11_t (P:Nat→Prop) (A:Option Addr) (c:Nat) (bs:List Nat) (w:World) (h:RB w P A c bs) (hP:∀ b,P b→b<w.heap.size) (hl:bs.length≤120) :
 Calls Tryz.prog 222 #[.agg #[.int .i64 6,.slice A bs.length c,.slice none 0 0]] w fun e w'=>(∃ A1 c1 b1 b,e=.returned (.tuple #[.slice A1 (List.length b1) c1,.bool b])∧RB w' (fun b=>b<w'.heap.size) A1 c1 b1∧b1.length≤200)∧Below w.heap.size w w':=by
 have hE:=(Below.refl w.heap.size w).alloc (Nat.le_refl _) (.cells #[.int .i64 6,.slice A bs.length c,.slice none 0 0] 172)
 have hb:=h.below hE hP
 have hm:=may11_t P A c bs _ hb (fun b hb=>by have:=hP b hb;simp;omega)
 have m0:(w.alloc (.cells #[.int .i64 6,.slice A bs.length c,.slice none 0 0] 172)).cell? ⟨w.heap.size,0,none⟩=some (.int .i64 6):=by simp [go_sem]
 have m1:(w.alloc (.cells #[.int .i64 6,.slice A bs.length c,.slice none 0 0] 172)).cell? ⟨w.heap.size,1,none⟩=some (.slice A bs.length c):=by simp [go_sem]
 have m2:(w.alloc (.cells #[.int .i64 6,.slice A bs.length c,.slice none 0 0] 172)).cell? ⟨w.heap.size,2,none⟩=some (.slice none 0 0):=by simp [go_sem]
 have HM:=Lib.hid hm
 have HE:=Lib.hid hE
 have HB:=Lib.hid hb
 have HP:=Lib.hid hP
 have hz:w.heap.size<(w.alloc (.cells #[.int .i64 6,.slice A bs.length c,.slice none 0 0] 172)).heap.size:=by simp
 have Hz:=Lib.hid hz
 clear hE hb hm h hP hz
 go_enter Tryz.func222,Tryz.ntmps222
 go_wp2_with fail
 generalize w.alloc (.cells #[.int .i64 6,.slice A bs.length c,.slice none 0 0] 172)=W0 at *
 refine HM.out.mono ?_
 rintro e w1 ⟨⟨b,rfl⟩,hB1⟩
 have n0:=(hB1.cell (p:=⟨w.heap.size,0,none⟩) Hz.out).trans m0
 have n1:=(hB1.cell (p:=⟨w.heap.size,1,none⟩) Hz.out).trans m1
 have n2:=(hB1.cell (p:=⟨w.heap.size,2,none⟩) Hz.out).trans m2
 have hs1:=hB1.size
 have hsE:=HE.out.size
 have HB1:=Lib.hid (HE.out.trans (hB1.mono hsE))
 have hp:=put11_t P A c bs w1 (HB.out.below hB1 (fun b hb=>Nat.lt_of_lt_of_le (HP.out b hb) hsE)) (fun b hb=>Nat.lt_of_lt_of_le (HP.out b hb) (Nat.le_trans hsE hs1)) hl
 have HPut:=Lib.hid hp
 clear hB1 m0 m1 m2 hp
 cases b
 · go_wp2
   go_ret2
   exact ⟨⟨none,0,[],false,rfl,RB.nil_ _ _,by simp⟩,HB1.out⟩
 go_wp2_with fail
 refine HPut.out.mono ?_
 rintro e w2 ⟨⟨A1,c1,b1,rfl,hr1,hl1⟩,hB2⟩
 have HR1:=Lib.hid hr1
 have hl2:¬ (65536:Int)<(b1.length:Int):=by omega
 clear hr1
 go_wp2
 go_ret2
 exact ⟨⟨A1,c1,b1,true,rfl,HR1.out,hl1⟩,HB1.out.trans (hB2.mono (Nat.le_trans hsE hs1))⟩
theorem write12_t (P:Nat→Prop) (A:Option Addr) (c:Nat) (bs:List Nat) (w:World) (h:RB w P A c bs) (hP:∀ b,P b→b<w.heap.size) (hl:bs.length≤120) :
 Calls Tryz.prog 191 #[.agg #[.int .i64 6,.slice A bs.length c,.slice none 0 0]] w fun e w'=>(∃ A1 c1 b1 b,e=.returned (.tuple #[.slice A1 (List.length b1) c1,.bool b])∧RB w' (fun b=>b<w'.heap.size) A1 c1 b1∧b1.length≤200)∧Below w.heap.size w w':=by
 have hE:=(Below.refl w.heap.size w).alloc (Nat.le_refl _) (.cells #[.int .i64 6,.slice A bs.length c,.slice none 0 0] 172)
 have hm:=write11_t P A c bs _ (h.below hE hP) (fun b hb=>by have:=hP b hb;simp;omega) hl
 have HM:=Lib.hid hm
 have HE:=Lib.hid hE
 clear hE hm h hP
 go_enter Tryz.func191,Tryz.ntmps191
 go_wp2_with fail
 refine HM.out.mono ?_
 rintro e w1 ⟨⟨A1,c1,b1,b,rfl,hr1,hl1⟩,hB1⟩
 have HR1:=Lib.hid hr1
 have HB1:=Lib.hid (HE.out.trans (hB1.mono (by simp)))
 clear hr1 hB1
 go_wp2
 go_ret2
 exact ⟨⟨A1,c1,b1,b,rfl,HR1.out,hl1⟩,HB1.out⟩
theorem all_small2 {l:List Int} (h:∀ x∈l,0≤x∧x<268435400) (k:Nat):0≤l.getD k 0∧l.getD k 0<268435400:=by
 rcases Nat.lt_or_ge k l.length with hk | hk
 · rw [List.getD_eq_getElem?_getD,List.getElem?_eq_getElem hk];exact h _ (List.getElem_mem hk)
 · rw [List.getD_eq_getElem?_getD,List.getElem?_eq_none hk];simp
theorem oid12_any (P:Nat→Prop) (g c:Nat) (l:List Int) (w:World) (hv:RI w P (some ⟨g,0,none⟩) c l) (hP:∀ b,P b→b<w.heap.size) (hl:3≤l.length∧l.length≤12) (h0:l.getD 0 0=1) (h1:0≤l.getD 1 0∧l.getD 1 0≤39) (ha:∀ k,0≤l.getD k 0∧l.getD k 0<268435400) :
 Calls Tryz.prog 221 #[.slice (some ⟨g,0,none⟩) l.length c] w fun e w'=>(∃ A1 bs c1,e=.returned (.agg #[.int .i64 6,.slice A1 (List.length bs) c1,.slice none 0 0])∧RB w' (In w.heap.size w'.heap.size) A1 c1 bs∧bs.length≤120)∧Below w.heap.size w w':=by
 have hB:=(Below.refl w.heap.size w).alloc (Nat.le_refl _) (.cells #[.int .i64 0,.slice none 0 0,.slice none 0 0] 172)
 have hb:=heap_alloc_new w (.cells #[.int .i64 0,.slice none 0 0,.slice none 0 0] 172)
 have hz:(w.alloc (.cells #[.int .i64 0,.slice none 0 0,.slice none 0 0] 172)).heap.size=w.heap.size+1:=by simp
 have hO:=refOid_any P g c l _ (hv.below hB hP) (fun b hb=>by have:=hP b hb;rw [hz];omega) hl h0 h1 ha
 have HB:=Lib.hid hB
 have H0:=Lib.hid hb
 have Hz:=Lib.hid hz
 have HO:=Lib.hid hO
 clear hB hb hz hO hv hP hl h0 h1 ha
 go_enter Tryz.func221,Tryz.ntmps221
 go_wp2_with fail
 obtain ⟨s,hs⟩:∃ s,w.heap.size=s:=⟨_,rfl⟩
 rw [hs] at HB H0 Hz ⊢
 have Hs:=Lib.hid hs
 clear hs
 generalize w.alloc (.cells #[.int .i64 0,.slice none 0 0,.slice none 0 0] 172)=W1 at *
 refine HO.out.mono ?_
 rintro e w2 ⟨⟨A1,bs,c1,rfl,hr,hlb⟩,hB2⟩
 have h2:=(hB2.block s (by have:=Hz.out;omega)).trans H0.out
 have hlt:s<w2.heap.size:=by have:=Hz.out;have:=hB2.size;omega
 have HB3:=Lib.hid (HB.out.trans (hB2.mono (by have:=Hz.out;omega)))
 have H2:=Lib.hid h2
 have HR:=Lib.hid hr
 have q0:=blk_cell h2 0
 have q1:=blk_cell h2 1
 have q2:=blk_cell h2 2
 have p0:=blk_free h2 0
 have p1:=blk_free h2 1
 have p2:=blk_free h2 2
 simp only [List.getElem?_toArray,List.getElem?_cons_zero,List.getElem?_cons_succ] at q0 q1 q2
 clear h2 hB2 H0 hr
 go_wp2
 have r:=set3a H2.out (.int .i64 6) (.slice A1 bs.length c1) (.slice none 0 0) (.cells #[.int .i64 6,.slice A1 bs.length c1,.slice none 0 0] 172)
 have r0:=blk_cell r 0
 have r1:=blk_cell r 1
 have r2:=blk_cell r 2
 simp only [List.getElem?_toArray,List.getElem?_cons_zero,List.getElem?_cons_succ] at r0 r1 r2
 have hr3:=(((HR.out.setCell (p:=⟨s,0,none⟩) (fun h=>by have:=h.1;have:=Hz.out;simp at *;omega) (.int .i64 6)).setCell (p:=⟨s,1,none⟩) (fun h=>by have:=h.1;have:=Hz.out;simp at *;omega) (.slice A1 bs.length c1)).setCell (p:=⟨s,2,none⟩) (fun h=>by have:=h.1;have:=Hz.out;simp at *;omega) (.slice none 0 0))
 refine bodyPost_ret (v:=.agg #[.int .i64 6,.slice A1 bs.length c1,.slice none 0 0]) (by simp [results,Tryz.results221,go_sem,r0,r1,r2]) rfl ⟨⟨A1,bs,c1,rfl,?_,hlb⟩,?_⟩
 · refine (hr3.keep fun p hp=>World.cell?_alloc_lt _ _ p ?_).mono fun b hb=>⟨?_,?_⟩
   · have:=hp.2;simpa using this
   · have:=hb.1;have:=Hz.out;have:=Hs.out;omega
   · have:=hb.2;simp;omega
 rw [Hs.out]
 exact (((HB3.out.setCell (p:=⟨s,0,none⟩) (by simp) _).setCell (p:=⟨s,1,none⟩) (by simp) _).setCell (p:=⟨s,2,none⟩) (by simp) _).alloc (by simp;omega) _
theorem params12_1 (w:World):Calls Tryz.prog 190 #[.int .i64 1] w fun e w'=>(∃ A1 bs c1,e=.returned (.tuple #[.agg #[.int .i64 6,.slice A1 (List.length bs) c1,.slice none 0 0],.bool true])∧RB w' (In w.heap.size w'.heap.size) A1 c1 bs∧bs.length≤120)∧Below w.heap.size w w':=by
 have hB:=((Below.refl w.heap.size w).alloc (Nat.le_refl _) (.cells #[.int .i64 0,.slice none 0 0,.slice none 0 0] 172)).alloc (by simp) (.cells #[.int .i64 1,.int .i64 2,.int .i64 840,.int .i64 10045,.int .i64 3,.int .i64 1,.int .i64 7] 3)
 have hb:=(Below.heap_alloc (w.alloc (.cells #[.int .i64 0,.slice none 0 0,.slice none 0 0] 172)) (.cells #[.int .i64 1,.int .i64 2,.int .i64 840,.int .i64 10045,.int .i64 3,.int .i64 1,.int .i64 7] 3) w.heap.size (by simp)).trans (heap_alloc_new w _)
 have hz:((w.alloc (.cells #[.int .i64 0,.slice none 0 0,.slice none 0 0] 172)).alloc (.cells #[.int .i64 1,.int .i64 2,.int .i64 840,.int .i64 10045,.int .i64 3,.int .i64 1,.int .i64 7] 3)).heap.size=w.heap.size+2:=by simp
 have hR:=RI.fresh (P:=fun b=>b<w.heap.size+2) (w.alloc (.cells #[.int .i64 0,.slice none 0 0,.slice none 0 0] 172)) #[.int .i64 1,.int .i64 2,.int .i64 840,.int .i64 10045,.int .i64 3,.int .i64 1,.int .i64 7] 3 [1,2,840,10045,3,1,7] 7 rfl rfl (by omega) (by simp)
 rw [World.size_alloc] at hR
 have hO:=oid12_any (fun b=>b<w.heap.size+2) (w.heap.size+1) 7 [1,2,840,10045,3,1,7] _ hR (fun b hb=>by rw [hz];exact hb) (by simp) rfl (by simp) (all_small2 (by simp))
 have HB:=Lib.hid hB
 have H0:=Lib.hid hb
 have Hz:=Lib.hid hz
 have HO:=Lib.hid hO
 clear hB hb hz hO hR
 go_enter Tryz.func190,Tryz.ntmps190
 go_wp2_with fail
 obtain ⟨s,hs⟩:∃ s,w.heap.size=s:=⟨_,rfl⟩
 rw [hs] at HB H0 Hz HO ⊢
 have Hs:=Lib.hid hs
 clear hs
 generalize (w.alloc (.cells #[.int .i64 0,.slice none 0 0,.slice none 0 0] 172)).alloc (.cells #[.int .i64 1,.int .i64 2,.int .i64 840,.int .i64 10045,.int .i64 3,.int .i64 1,.int .i64 7] 3)=W1 at *
 refine HO.out.mono ?_
 rintro e w2 ⟨⟨A1,bs,c1,rfl,hr,hlb⟩,hB2⟩
 have h2:=(hB2.block s (by have:=Hz.out;omega)).trans H0.out
 have hlt:s<w2.heap.size:=by have:=Hz.out;have:=hB2.size;omega
 have HB3:=Lib.hid (HB.out.trans (hB2.mono (by have:=Hz.out;omega)))
 have H2:=Lib.hid h2
 have HR:=Lib.hid hr
 have q0:=blk_cell h2 0
 have q1:=blk_cell h2 1
 have q2:=blk_cell h2 2
 have p0:=blk_free h2 0
 have p1:=blk_free h2 1
 have p2:=blk_free h2 2
 simp only [List.getElem?_toArray,List.getElem?_cons_zero,List.getElem?_cons_succ] at q0 q1 q2
 clear h2 hB2 H0 hr
 go_wp2
 have r:=set3 H2.out (.int .i64 6) (.slice A1 bs.length c1) (.slice none 0 0)
 have r0:=blk_cell r 0
 have r1:=blk_cell r 1
 have r2:=blk_cell r 2
 simp only [List.getElem?_toArray,List.getElem?_cons_zero,List.getElem?_cons_succ] at r0 r1 r2
 have hr3:=(((HR.out.setCell (p:=⟨s,0,none⟩) (fun h=>by have:=h.1;have:=Hz.out;simp at *;omega) (.int .i64 6)).setCell (p:=⟨s,1,none⟩) (fun h=>by have:=h.1;have:=Hz.out;simp at *;omega) (.slice A1 bs.length c1)).setCell (p:=⟨s,2,none⟩) (fun h=>by have:=h.1;have:=Hz.out;simp at *;omega) (.slice none 0 0))
 refine bodyPost_ret (v:=.tuple #[.agg #[.int .i64 6,.slice A1 bs.length c1,.slice none 0 0],.bool true]) (by simp [results,Tryz.results190,go_sem,r0,r1,r2]) rfl ⟨⟨A1,bs,c1,rfl,?_,hlb⟩,?_⟩
 · exact hr3.mono fun b hb=>⟨by have:=hb.1;have:=Hz.out;have:=Hs.out;omega,by have:=hb.2;simpa using this⟩
 rw [Hs.out]
 exact ((HB3.out.setCell (p:=⟨s,0,none⟩) (by simp) _).setCell (p:=⟨s,1,none⟩) (by simp) _).setCell (p:=⟨s,2,none⟩) (by simp) _
theorem params12_2 (w:World):Calls Tryz.prog 190 #[.int .i64 2] w fun e w'=>(∃ A1 bs c1,e=.returned (.tuple #[.agg #[.int .i64 6,.slice A1 (List.length bs) c1,.slice none 0 0],.bool true])∧RB w' (In w.heap.size w'.heap.size) A1 c1 bs∧bs.length≤120)∧Below w.heap.size w w':=by
 have hB:=((Below.refl w.heap.size w).alloc (Nat.le_refl _) (.cells #[.int .i64 0,.slice none 0 0,.slice none 0 0] 172)).alloc (by simp) (.cells #[.int .i64 1,.int .i64 3,.int .i64 132,.int .i64 0,.int .i64 34] 3)
 have hb:=(Below.heap_alloc (w.alloc (.cells #[.int .i64 0,.slice none 0 0,.slice none 0 0] 172)) (.cells #[.int .i64 1,.int .i64 3,.int .i64 132,.int .i64 0,.int .i64 34] 3) w.heap.size (by simp)).trans (heap_alloc_new w _)
 have hz:((w.alloc (.cells #[.int .i64 0,.slice none 0 0,.slice none 0 0] 172)).alloc (.cells #[.int .i64 1,.int .i64 3,.int .i64 132,.int .i64 0,.int .i64 34] 3)).heap.size=w.heap.size+2:=by simp
 have hR:=RI.fresh (P:=fun b=>b<w.heap.size+2) (w.alloc (.cells #[.int .i64 0,.slice none 0 0,.slice none 0 0] 172)) #[.int .i64 1,.int .i64 3,.int .i64 132,.int .i64 0,.int .i64 34] 3 [1,3,132,0,34] 5 rfl rfl (by omega) (by simp)
 rw [World.size_alloc] at hR
 have hO:=oid12_any (fun b=>b<w.heap.size+2) (w.heap.size+1) 5 [1,3,132,0,34] _ hR (fun b hb=>by rw [hz];exact hb) (by simp) rfl (by simp) (all_small2 (by simp))
 have HB:=Lib.hid hB
 have H0:=Lib.hid hb
 have Hz:=Lib.hid hz
 have HO:=Lib.hid hO
 clear hB hb hz hO hR
 go_enter Tryz.func190,Tryz.ntmps190
 go_wp2_with fail
 obtain ⟨s,hs⟩:∃ s,w.heap.size=s:=⟨_,rfl⟩
 rw [hs] at HB H0 Hz HO ⊢
 have Hs:=Lib.hid hs
 clear hs
 generalize (w.alloc (.cells #[.int .i64 0,.slice none 0 0,.slice none 0 0] 172)).alloc (.cells #[.int .i64 1,.int .i64 3,.int .i64 132,.int .i64 0,.int .i64 34] 3)=W1 at *
 refine HO.out.mono ?_
 rintro e w2 ⟨⟨A1,bs,c1,rfl,hr,hlb⟩,hB2⟩
 have h2:=(hB2.block s (by have:=Hz.out;omega)).trans H0.out
 have hlt:s<w2.heap.size:=by have:=Hz.out;have:=hB2.size;omega
 have HB3:=Lib.hid (HB.out.trans (hB2.mono (by have:=Hz.out;omega)))
 have H2:=Lib.hid h2
 have HR:=Lib.hid hr
 have q0:=blk_cell h2 0
 have q1:=blk_cell h2 1
 have q2:=blk_cell h2 2
 have p0:=blk_free h2 0
 have p1:=blk_free h2 1
 have p2:=blk_free h2 2
 simp only [List.getElem?_toArray,List.getElem?_cons_zero,List.getElem?_cons_succ] at q0 q1 q2
 clear h2 hB2 H0 hr
 go_wp2
 have r:=set3 H2.out (.int .i64 6) (.slice A1 bs.length c1) (.slice none 0 0)
 have r0:=blk_cell r 0
 have r1:=blk_cell r 1
 have r2:=blk_cell r 2
 simp only [List.getElem?_toArray,List.getElem?_cons_zero,List.getElem?_cons_succ] at r0 r1 r2
 have hr3:=(((HR.out.setCell (p:=⟨s,0,none⟩) (fun h=>by have:=h.1;have:=Hz.out;simp at *;omega) (.int .i64 6)).setCell (p:=⟨s,1,none⟩) (fun h=>by have:=h.1;have:=Hz.out;simp at *;omega) (.slice A1 bs.length c1)).setCell (p:=⟨s,2,none⟩) (fun h=>by have:=h.1;have:=Hz.out;simp at *;omega) (.slice none 0 0))
 refine bodyPost_ret (v:=.tuple #[.agg #[.int .i64 6,.slice A1 bs.length c1,.slice none 0 0],.bool true]) (by simp [results,Tryz.results190,go_sem,r0,r1,r2]) rfl ⟨⟨A1,bs,c1,rfl,?_,hlb⟩,?_⟩
 · exact hr3.mono fun b hb=>⟨by have:=hb.1;have:=Hz.out;have:=Hs.out;omega,by have:=hb.2;simpa using this⟩
 rw [Hs.out]
 exact ((HB3.out.setCell (p:=⟨s,0,none⟩) (by simp) _).setCell (p:=⟨s,1,none⟩) (by simp) _).setCell (p:=⟨s,2,none⟩) (by simp) _
end Go.Proofs.YtendnkpiidhogaaGreat.At

namespace Go.Proofs.YtendnkpiidhogaaGreat.At
open Go.RowKit Go.Shelf
attribute [local go_sem] Oper.semAt_some
theorem Params12_1 (w:World):Calls Tryz.prog 155 #[.int .i64 1] w fun e w'=>(∃ A1 c1 b1 b,e=.returned (.tuple #[.slice A1 (List.length b1) c1,.bool b])∧RB w' (fun b=>b<w'.heap.size) A1 c1 b1)∧Below w.heap.size w w':=by
 go_enter Tryz.func155,Tryz.ntmps155
 go_wp2_with fail
 refine (params12_1 w).mono ?_
 rintro e w1 ⟨⟨A1,bs,c1,rfl,hr,hl⟩,hB1⟩
 have hs1:=hB1.size
 have hE:=(Below.refl w1.heap.size w1).alloc (Nat.le_refl _) (.cells #[.int .i64 6,.slice A1 bs.length c1,.slice none 0 0] 172)
 have hw:=write12_t _ A1 c1 bs _ (hr.below hE fun b hb=>hb.2) (fun b hb=>by have:=hb.2;simp;omega) hl
 have HW:=Lib.hid hw
 have HE:=Lib.hid (hB1.trans (hE.mono hs1))
 clear hw hE hB1 hr
 go_wp2_with fail
 refine HW.out.mono ?_
 rintro e w2 ⟨⟨A2,c2,b2,b,rfl,hr2,hl2⟩,hB2⟩
 have HR2:=Lib.hid hr2
 have HB2:=Lib.hid (HE.out.trans (hB2.mono (by simp;omega)))
 clear hr2 hB2
 go_wp2
 go_ret2
 exact ⟨⟨A2,c2,b2,b,rfl,HR2.out⟩,HB2.out⟩
theorem Params12_2 (w:World):Calls Tryz.prog 155 #[.int .i64 2] w fun e w'=>(∃ A1 c1 b1 b,e=.returned (.tuple #[.slice A1 (List.length b1) c1,.bool b])∧RB w' (fun b=>b<w'.heap.size) A1 c1 b1)∧Below w.heap.size w w':=by
 go_enter Tryz.func155,Tryz.ntmps155
 go_wp2_with fail
 refine (params12_2 w).mono ?_
 rintro e w1 ⟨⟨A1,bs,c1,rfl,hr,hl⟩,hB1⟩
 have hs1:=hB1.size
 have hE:=(Below.refl w1.heap.size w1).alloc (Nat.le_refl _) (.cells #[.int .i64 6,.slice A1 bs.length c1,.slice none 0 0] 172)
 have hw:=write12_t _ A1 c1 bs _ (hr.below hE fun b hb=>hb.2) (fun b hb=>by have:=hb.2;simp;omega) hl
 have HW:=Lib.hid hw
 have HE:=Lib.hid (hB1.trans (hE.mono hs1))
 clear hw hE hB1 hr
 go_wp2_with fail
 refine HW.out.mono ?_
 rintro e w2 ⟨⟨A2,c2,b2,b,rfl,hr2,hl2⟩,hB2⟩
 have HR2:=Lib.hid hr2
 have HB2:=Lib.hid (HE.out.trans (hB2.mono (by simp;omega)))
 clear hr2 hB2
 go_wp2
 go_ret2
 exact ⟨⟨A2,c2,b2,b,rfl,HR2.out⟩,HB2.out⟩
theorem readParams12_t (P:Nat→Prop) (A:Option Addr) (c:Nat) (bs:List Nat) (w:World) (h:RB w P A c bs) (hP:∀ b,P b→b<w.heap.size) :
 Calls Tryz.prog 114 #[.slice A bs.length c] w fun e w'=>(∃ (k:Int) (b:Bool),e=.returned (.tuple #[.int .i64 k,.bool b])∧(b=true→k=1∨k=2))∧Below w.heap.size w w':=by
 go_enter Tryz.func114,Tryz.ntmps114
 go_wp2
 go_loopw [4] (fun i wr=>∃ z:Int,i=.int .i64 z∧Below w.heap.size w wr∧(z=1∨z=2∨z=3)) (fun i _=>3 - (intOf i).toNat)
 case atStart=>exact ⟨1,rfl,Below.refl _ _,.inl rfl⟩
 case round =>
  obtain ⟨z,rfl,hB,hz⟩:=hrel
  have hs:=hB.size
  rcases hz with rfl | rfl | rfl
  · go_wp2_with fail
    refine (Params12_1 wr).mono ?_
    rintro e w1 ⟨⟨A1,c1,b1,ok,rfl,hr1⟩,hB1⟩
    have HB1:=Lib.hid (hB.trans (hB1.mono hs))
    have hu:=h.below HB1.out hP
    have s1:=hr1.strA (P:=Tryz.prog) 33 5 9 Tryz.underlying33 Tryz.underlying5 Tryz.underlying9
    have s2:=hu.strA (P:=Tryz.prog) 33 5 9 Tryz.underlying33 Tryz.underlying5 Tryz.underlying9
    by_cases he:b1=bs
    · subst he
      clear hB1 hr1 hu
      go_wp2
      go_ret2
      exact ⟨⟨1,true,rfl,fun _=>.inl rfl⟩,HB1.out⟩
    · have hne:((strB b1).toList==(strB bs).toList)=false:=by
       rw [beq_eq_false_iff_ne]
       exact fun h1=>he (strB_inj hr1.2.1 hu.2.1 h1)
      clear hB1 hr1 hu he
      go_wp2
      go_roundw
      case rel=>exact ⟨2,by go_num,HB1.out,.inr (.inl rfl)⟩
      case measure=>first | (simp [intOf];done) | (simp [intOf];decide)
  · go_wp2_with fail
    refine (Params12_2 wr).mono ?_
    rintro e w1 ⟨⟨A1,c1,b1,ok,rfl,hr1⟩,hB1⟩
    have HB1:=Lib.hid (hB.trans (hB1.mono hs))
    have hu:=h.below HB1.out hP
    have s1:=hr1.strA (P:=Tryz.prog) 33 5 9 Tryz.underlying33 Tryz.underlying5 Tryz.underlying9
    have s2:=hu.strA (P:=Tryz.prog) 33 5 9 Tryz.underlying33 Tryz.underlying5 Tryz.underlying9
    by_cases he:b1=bs
    · subst he
      clear hB1 hr1 hu
      go_wp2
      go_ret2
      exact ⟨⟨2,true,rfl,fun _=>.inr rfl⟩,HB1.out⟩
    · have hne:((strB b1).toList==(strB bs).toList)=false:=by
       rw [beq_eq_false_iff_ne]
       exact fun h1=>he (strB_inj hr1.2.1 hu.2.1 h1)
      clear hB1 hr1 hu he
      go_wp2
      go_roundw
      case rel=>exact ⟨3,by go_num,HB1.out,.inr (.inr rfl)⟩
      case measure=>first | (simp [intOf];done) | (simp [intOf];decide)
  · go_wp2
    go_ret2
    exact ⟨⟨0,false,rfl,fun h=>by cases h⟩,hB⟩
end Go.Proofs.YtendnkpiidhogaaGreat.At

namespace Go.Proofs.YtendnkpiidhogaaGreat.At
open Go.RowKit Go.Shelf
theorem set5 {w:World} {s:Nat} {t:TypeId} {a b c d e:Value} (h:w.heap[s]?=some (.cells #[a,b,c,d,e] t (0,0))) (u v x y z:Value):(((((w.setCell ⟨s,0,none⟩ u).setCell ⟨s,1,none⟩ v).setCell ⟨s,2,none⟩ x).setCell ⟨s,3,none⟩ y).setCell ⟨s,4,none⟩ z).heap[s]?=some (.cells #[u,v,x,y,z] t (0,0)):=by
 simpa using bset (bset (bset (bset (bset h 0 u) 1 v) 2 x) 3 y) 4 z
end Go.Proofs.YtendnkpiidhogaaGreat.At

namespace Go.Proofs.YtendnkpiidhogaaGreat.At
open Go.RowKit Go.Shelf
theorem numOf_len (v:List Nat) (hv:∀ b∈v,b<256):(digs 4294967296 (numOf v)).length≤v.length :=
 digs_length_of_lt (by omega) (Nat.lt_of_lt_of_le (numOf_lt hv) (Nat.pow_le_pow_left (by omega) _))
theorem refNat_any (P:Nat→Prop) (A:Option Addr) (c:Nat) (l:Attrs) (t:Int) (v:List Nat) (w:World) (hv:RA w P A c l) (hP:∀ b,P b→b<w.heap.size) (hs:(seek l t).getD []=v) (hl:v.length≤10000) :
 Calls Tryz.prog 125 #[.slice A l.length c,.int .i64 t] w fun e w'=>∃ A1 c1,e=.returned (.slice A1 (digs 4294967296 (numOf v)).length c1)∧RN w' (In w.heap.size w'.heap.size) A1 c1 (digs 4294967296 (numOf v))∧(digs 4294967296 (numOf v)).length<20000∧Below w.heap.size w w':=by
 have hg:=refGet_any P A c l t w hv
 rw [hs] at hg
 obtain ⟨b,hb⟩:∃ b,(seek l t).isSome=b:=⟨_,rfl⟩
 rw [hb] at hg
 have HG:=Lib.hid hg
 clear hg hs hb
 go_enter Tryz.func125,Tryz.ntmps125
 go_wp2_with fail
 refine HG.out.mono ?_
 rintro e w1 ⟨A1,c1,rfl,hr,rfl⟩
 have hlen:=numOf_len v hr.2.1
 have HL:=Lib.hid (show (digs 4294967296 (numOf v)).length<20000 by omega)
 clear hlen
 go_wp2_with fail
 refine (refFromBytes_any _ A1 c1 v w hr hP (by omega)).mono ?_
 rintro e w2 ⟨A2,c2,rfl,hO,hB2⟩
 have HO:=Lib.hid hO.rn
 clear hO
 go_wp2
 go_ret
 exact ⟨A2,c2,rfl,HO.out,HL.out,hB2⟩
def KeyV (w:World) (v:Value):Prop:=∃ (a0 a1 a2 a3 a4:Option Addr) (c0 c1 c2 c3 c4 x0 x1 x2 x3 x4:Nat),v=.agg #[.slice a0 (digs 4294967296 x0).length c0,.slice a1 (digs 4294967296 x1).length c1,.slice a2 (digs 4294967296 x2).length c2,.slice a3 (digs 4294967296 x3).length c3,.slice a4 (digs 4294967296 x4).length c4] ∧
 RU w a0 c0 (digs 4294967296 x0)∧RU w a1 c1 (digs 4294967296 x1)∧RU w a2 c2 (digs 4294967296 x2)∧RU w a3 c3 (digs 4294967296 x3)∧RU w a4 c4 (digs 4294967296 x4) ∧
 (digs 4294967296 x0).length<20000∧(digs 4294967296 x1).length<20000∧(digs 4294967296 x2).length<20000∧(digs 4294967296 x3).length<20000∧(digs 4294967296 x4).length<20000
def RBh (s:Nat) (w:World) (A:Option Addr) (c:Nat) (l:List Nat):Prop:=RN w (fun b=>s<b∧b<w.heap.size) A c l
theorem RBh.up {s:Nat} {w X:World} {A:Option Addr} {c:Nat} {l:List Nat} (h:RBh s w A c l) (hB:Below w.heap.size w X):RBh s X A c l:=(RN.below h hB fun _b hb=>hb.2).mono fun _b hb=>⟨hb.1,Nat.lt_of_lt_of_le hb.2 hB.size⟩
theorem RBh.set {s k:Nat} {w:World} {A:Option Addr} {c:Nat} {l:List Nat} (h:RBh s w A c l) (u:Value):RBh s (w.setCell ⟨s,k,none⟩ u) A c l :=
 ⟨(RS.keep h.1 fun p hp=>World.cell?_of_block (Below.heap_setCell _ ⟨s,k,none⟩ _ _ (show p.block≠s by have:=hp.1;omega))).mono fun b hb=>⟨hb.1,by simpa using hb.2⟩,h.2⟩
theorem RBh.ru {s:Nat} {w:World} {A:Option Addr} {c:Nat} {l:List Nat} (h:RBh s w A c l):RU w A c l:=RN.mono h fun _b hb=>hb.2
theorem refKey_any (P:Nat→Prop) (A:Option Addr) (c:Nat) (l:Attrs) (w:World) (hv:RA w P A c l) (hP:∀ b,P b→b<w.heap.size) (hl:∀ t,((seek l t).getD []).length≤10000) :
 Calls Tryz.prog 117 #[.slice A l.length c] w fun e w'=>(∃ v,e=.returned v∧KeyV w' v)∧Below w.heap.size w w':=by
 have hB:=(Below.refl w.heap.size w).alloc (Nat.le_refl _) (.cells #[.slice none 0 0,.slice none 0 0,.slice none 0 0,.slice none 0 0,.slice none 0 0] 133)
 have hb:=heap_alloc_new w (.cells #[.slice none 0 0,.slice none 0 0,.slice none 0 0,.slice none 0 0,.slice none 0 0] 133)
 have hz:(w.alloc (.cells #[.slice none 0 0,.slice none 0 0,.slice none 0 0,.slice none 0 0,.slice none 0 0] 133)).heap.size=w.heap.size+1:=by simp
 have HN:=Lib.hid (fun t (X:World) (hX:Below w.heap.size w X)=>refNat_any P A c l t _ X (hv.below hX hP) (fun b hb=>Nat.lt_of_lt_of_le (hP b hb) hX.size) rfl (hl t))
 have HB:=Lib.hid hB
 have H0:=Lib.hid hb
 have Hz:=Lib.hid hz
 clear hB hb hz hv hP hl
 go_enter Tryz.func117,Tryz.ntmps117
 go_wp2_with fail
 obtain ⟨s,hs⟩:∃ s,w.heap.size=s:=⟨_,rfl⟩
 rw [hs] at HB H0 Hz HN ⊢
 have Hs:=Lib.hid hs
 clear hs
 generalize w.alloc (.cells #[.slice none 0 0,.slice none 0 0,.slice none 0 0,.slice none 0 0,.slice none 0 0] 133)=W0 at *
 refine (HN.out 288 W0 HB.out).mono ?_
 rintro e w0 ⟨a0,c0,rfl,hr0,hl0,hB0⟩
 generalize numOf _=x0 at *
 have HB0:=Lib.hid (HB.out.trans (hB0.mono (by have:=Hz.out;omega)))
 have HZ0:=Lib.hid (Nat.lt_of_lt_of_le (show s<W0.heap.size by have:=Hz.out;omega) hB0.size)
 have H0':=Lib.hid ((hB0.block s (by have:=Hz.out;omega)).trans H0.out)
 have R0:Hid (RBh s w0 a0 c0 (digs 4294967296 x0)):=Lib.hid (hr0.mono fun b hb=>⟨by have:=hb.1;have:=Hz.out;omega,hb.2⟩)
 have L0:=Lib.hid hl0
 clear hB0 hr0 hl0
 go_wp2_with fail
 refine (HN.out 290 w0 HB0.out).mono ?_
 rintro e w1 ⟨a1,c1,rfl,hr1,hl1,hB1⟩
 generalize numOf _=x1 at *
 have HB1:=Lib.hid (HB0.out.trans (hB1.mono (Nat.le_of_lt HZ0.out)))
 have HZ1:=Lib.hid (Nat.lt_of_lt_of_le HZ0.out hB1.size)
 have H1':=Lib.hid ((hB1.block s HZ0.out).trans H0'.out)
 have R1:Hid (RBh s w1 a1 c1 (digs 4294967296 x1)):=Lib.hid (hr1.mono fun b hb=>⟨by have:=hb.1;have:=HZ0.out;omega,hb.2⟩)
 have L1:=Lib.hid hl1
 have R0:=Lib.hid (R0.out.up hB1)
 clear hB1 hr1 hl1
 go_wp2_with fail
 refine (HN.out 291 w1 HB1.out).mono ?_
 rintro e w2 ⟨a2,c2,rfl,hr2,hl2,hB2⟩
 generalize numOf _=x2 at *
 have HB2:=Lib.hid (HB1.out.trans (hB2.mono (Nat.le_of_lt HZ1.out)))
 have HZ2:=Lib.hid (Nat.lt_of_lt_of_le HZ1.out hB2.size)
 have H2':=Lib.hid ((hB2.block s HZ1.out).trans H1'.out)
 have R2:Hid (RBh s w2 a2 c2 (digs 4294967296 x2)):=Lib.hid (hr2.mono fun b hb=>⟨by have:=hb.1;have:=HZ1.out;omega,hb.2⟩)
 have L2:=Lib.hid hl2
 have R0:=Lib.hid (R0.out.up hB2)
 have R1:=Lib.hid (R1.out.up hB2)
 clear hB2 hr2 hl2
 go_wp2_with fail
 refine (HN.out 292 w2 HB2.out).mono ?_
 rintro e w3 ⟨a3,c3,rfl,hr3,hl3,hB3⟩
 generalize numOf _=x3 at *
 have HB3:=Lib.hid (HB2.out.trans (hB3.mono (Nat.le_of_lt HZ2.out)))
 have HZ3:=Lib.hid (Nat.lt_of_lt_of_le HZ2.out hB3.size)
 have H3':=Lib.hid ((hB3.block s HZ2.out).trans H2'.out)
 have R3:Hid (RBh s w3 a3 c3 (digs 4294967296 x3)):=Lib.hid (hr3.mono fun b hb=>⟨by have:=hb.1;have:=HZ2.out;omega,hb.2⟩)
 have L3:=Lib.hid hl3
 have R0:=Lib.hid (R0.out.up hB3)
 have R1:=Lib.hid (R1.out.up hB3)
 have R2:=Lib.hid (R2.out.up hB3)
 clear hB3 hr3 hl3
 go_wp2_with fail
 refine (HN.out 293 w3 HB3.out).mono ?_
 rintro e w4 ⟨a4,c4,rfl,hr4,hl4,hB4⟩
 generalize numOf _=x4 at *
 have HB4:=Lib.hid (HB3.out.trans (hB4.mono (Nat.le_of_lt HZ3.out)))
 have HZ4:=Lib.hid (Nat.lt_of_lt_of_le HZ3.out hB4.size)
 have H4':=Lib.hid ((hB4.block s HZ3.out).trans H3'.out)
 have R4:Hid (RBh s w4 a4 c4 (digs 4294967296 x4)):=Lib.hid (hr4.mono fun b hb=>⟨by have:=hb.1;have:=HZ3.out;omega,hb.2⟩)
 have L4:=Lib.hid hl4
 have R0:=Lib.hid (R0.out.up hB4)
 have R1:=Lib.hid (R1.out.up hB4)
 have R2:=Lib.hid (R2.out.up hB4)
 have R3:=Lib.hid (R3.out.up hB4)
 clear hB4 hr4 hl4
 have hlt:=HZ4.out
 have q0:=blk_cell H4'.out 0
 have p0:=blk_free H4'.out 0
 have q1:=blk_cell H4'.out 1
 have p1:=blk_free H4'.out 1
 have q2:=blk_cell H4'.out 2
 have p2:=blk_free H4'.out 2
 have q3:=blk_cell H4'.out 3
 have p3:=blk_free H4'.out 3
 have q4:=blk_cell H4'.out 4
 have p4:=blk_free H4'.out 4
 simp only [List.getElem?_toArray,List.getElem?_cons_zero,List.getElem?_cons_succ] at q0 q1 q2 q3 q4
 go_wp2
 have r:=set5 H4'.out (.slice a0 (digs 4294967296 x0).length c0) (.slice a1 (digs 4294967296 x1).length c1) (.slice a2 (digs 4294967296 x2).length c2) (.slice a3 (digs 4294967296 x3).length c3) (.slice a4 (digs 4294967296 x4).length c4)
 have r0:=blk_cell r 0
 have r1:=blk_cell r 1
 have r2:=blk_cell r 2
 have r3:=blk_cell r 3
 have r4:=blk_cell r 4
 simp only [List.getElem?_toArray,List.getElem?_cons_zero,List.getElem?_cons_succ] at r0 r1 r2 r3 r4
 refine bodyPost_ret (v:=.agg #[.slice a0 (digs 4294967296 x0).length c0,.slice a1 (digs 4294967296 x1).length c1,.slice a2 (digs 4294967296 x2).length c2,.slice a3 (digs 4294967296 x3).length c3,.slice a4 (digs 4294967296 x4).length c4]) (by simp [results,Tryz.results117,go_sem,r0,r1,r2,r3,r4]) rfl ⟨⟨_,rfl,a0,a1,a2,a3,a4,c0,c1,c2,c3,c4,x0,x1,x2,x3,x4,rfl,(((((R0.out.set _).set _).set _).set _).set _).ru,(((((R1.out.set _).set _).set _).set _).set _).ru,(((((R2.out.set _).set _).set _).set _).set _).ru,(((((R3.out.set _).set _).set _).set _).set _).ru,(((((R4.out.set _).set _).set _).set _).set _).ru,L0.out,L1.out,L2.out,L3.out,L4.out⟩,?_⟩
 rw [Hs.out]
 exact ((((HB4.out.setCell (p:=⟨s,0,none⟩) (by simp) _).setCell (p:=⟨s,1,none⟩) (by simp) _).setCell (p:=⟨s,2,none⟩) (by simp) _).setCell (p:=⟨s,3,none⟩) (by simp) _).setCell (p:=⟨s,4,none⟩) (by simp) _
end Go.Proofs.YtendnkpiidhogaaGreat.At

namespace Go.Proofs.YtendnkpiidhogaaGreat.At
open Go.RowKit Go.Shelf
theorem may10_t (k:Int) (hk:k=1∨k=2) (A:Option Addr) (c x:Nat) (w:World) (h:RU w A c (digs 4294967296 x)) :
 Calls Tryz.prog 123 #[.int .i64 k,.slice A (digs 4294967296 x).length c] w fun e w'=>(∃ b:Bool,e=.returned (.bool b))∧Below w.heap.size w w':=by
 obtain ⟨C,hC⟩:∃ C,IsC k C:=by
  rcases hk with rfl | rfl
  · exact ⟨_,.inl ⟨rfl,rfl⟩⟩
  · exact ⟨_,.inr ⟨rfl,rfl⟩⟩
 obtain ⟨n,hn⟩:∃ n,(digs 4294967296 x).length=n:=⟨_,rfl⟩
 have Hn:=Lib.hid hn
 have HU:=Lib.hid (fun (X:World) (hX:Below w.heap.size w X)=>RN.up h hX)
 have HF:=Lib.hid (refOf_c hC w)
 have hfine:=hC.fine
 have HFi:=Lib.hid hfine
 rw [hn]
 clear hn h hk hC hfine
 go_enter Tryz.func123,Tryz.ntmps123
 go_wp2_with fail
 refine HF.out.mono ?_
 rintro e w1 ⟨v,rfl,hRC,hE⟩
 obtain ⟨Ap,An,Ab,Ax,Ay,cp,cn,cb,cx,cy,rfl,h1,h2,h3,h4,h5⟩:=hRC
 have hs:32≤C.size:=HFi.out.pos
 have hs48:=HFi.out.small
 obtain ⟨sz,hsz⟩:∃ sz,C.size=sz:=⟨_,rfl⟩
 rw [hsz] at hs hs48 ⊢
 obtain ⟨N,hN⟩:∃ N,val 18446744073709551616 C.nl=N:=⟨_,rfl⟩
 rw [hN] at h2 ⊢
 have hp0:(0:Int)<(sz:Int):=by omega
 have HB1:Hid (Below w.heap.size w w1):=Lib.hid hE
 have hs1:=HB1.out.size
 have H2:=Lib.hid h2
 clear h1 h2 h3 h4 h5 hE HF HFi hsz hN
 by_cases hn0:n=0
 · subst hn0
   go_wp2
   go_ret
   exact ⟨⟨_,rfl⟩,by first | exact HB1.out.alloc hs1 _ | exact HB1.out⟩
 have hn1:(0:Int)<(n:Int):=by omega
 have hn2:0<n:=by omega
 have hE2:∀ o,Below w1.heap.size w1 (w1.alloc o):=fun o=>(Below.refl _ _).alloc (Nat.le_refl _) _
 have hC2:=fun o=>refCmp_any _ _ A An c cn x N (w1.alloc o) (HU.out _ (HB1.out.trans ((hE2 o).mono hs1))) (RN.up H2.out (hE2 o))
 rw [Hn.out] at hC2
 obtain ⟨cv,hcv⟩:∃ v,cmpV x N=v:=⟨_,rfl⟩
 rw [hcv] at hC2
 have HC2:=Lib.hid hC2
 clear hC2 hE2 hcv
 go_wp2_with fail
 refine (HC2.out _).mono ?_
 rintro e w2 ⟨rfl,d,rfl⟩
 go_wp2
 go_ret
 exact ⟨⟨_,rfl⟩,below_drewN (HB1.out.alloc hs1 _) d⟩
end Go.Proofs.YtendnkpiidhogaaGreat.At

namespace Go.Proofs.YtendnkpiidhogaaGreat.At
open Go.RowKit Go.Shelf
attribute [local go_sem] Oper.semAt_some
theorem valid18_t (P:Nat→Prop) (A:Option Addr) (c:Nat) (l:Attrs) (class_ key:Int) (w:World) (hv:RA w P A c l) (hP:∀ b,P b→b<w.heap.size) (hl:∀ t,((seek l t).getD []).length≤10000) :
 Calls Tryz.prog 81 #[.slice A l.length c,.int .i64 class_,.int .i64 key] w fun e w'=>(∃ b:Bool,e=.returned (.bool b))∧Below w.heap.size w w':=by
 have hg:=refGet_any P A c l 17 w hv
 obtain ⟨v,hvv⟩:∃ v,(seek l 17).getD []=v:=⟨_,rfl⟩
 obtain ⟨bs,hbs⟩:∃ b,(seek l 17).isSome=b:=⟨_,rfl⟩
 have hl17:=hl 17
 rw [hvv] at hl17 hg
 rw [hbs] at hg
 have HG:=Lib.hid hg
 have HKey:=Lib.hid (refKey_any P A c l w hv hP hl)
 have HGt:=Lib.hid (fun t (X:World) (hX:Below w.heap.size w X)=>refGet_any P A c l t X (hv.below hX hP))
 have HPw:=Lib.hid hP
 clear hg hvv hbs hv hP hl
 by_cases h0:class_=0
 · subst h0
   go_enter Tryz.func81,Tryz.ntmps81
   go_wp2_with fail
   refine HG.out.mono ?_
   rintro e w1 ⟨A1,c1,rfl,hr1,rfl⟩
   go_wp2
   go_ret
   exact ⟨by first | exact ⟨_,rfl⟩ | exact .inr rfl | exact .inl rfl,Below.refl _ _⟩
 have h0':(class_==0)=false:=by simpa using h0
 by_cases h31:key=31
 · subst h31
   by_cases e1:v.length=16
   · go_enter Tryz.func81,Tryz.ntmps81
     go_wp2_with fail
     refine HG.out.mono ?_
     rintro e w1 ⟨A1,c1,rfl,hr1,rfl⟩
     go_wp2
     all_goals (go_ret;exact ⟨by first | exact ⟨_,rfl⟩ | exact .inr rfl | exact .inl rfl,Below.refl _ _⟩)
   have e1':((v.length:Int)==16)=false:=by simp;omega
   by_cases e2:v.length=24
   · go_enter Tryz.func81,Tryz.ntmps81
     go_wp2_with fail
     refine HG.out.mono ?_
     rintro e w1 ⟨A1,c1,rfl,hr1,rfl⟩
     go_wp2
     all_goals (go_ret;exact ⟨by first | exact ⟨_,rfl⟩ | exact .inr rfl | exact .inl rfl,Below.refl _ _⟩)
   have e2':((v.length:Int)==24)=false:=by simp;omega
   go_enter Tryz.func81,Tryz.ntmps81
   go_wp2_with fail
   refine HG.out.mono ?_
   rintro e w1 ⟨A1,c1,rfl,hr1,rfl⟩
   go_wp2
   all_goals (go_ret;exact ⟨by first | exact ⟨_,rfl⟩ | exact .inr rfl | exact .inl rfl,Below.refl _ _⟩)
 have h31':(key==31)=false:=by simpa using h31
 by_cases h16:key=16
 · subst h16
   by_cases e1:1≤v.length
   · have e1':(1:Int)≤(v.length:Int):=by omega
     go_enter Tryz.func81,Tryz.ntmps81
     go_wp2_with fail
     refine HG.out.mono ?_
     rintro e w1 ⟨A1,c1,rfl,hr1,rfl⟩
     go_wp2
     all_goals (go_ret;exact ⟨by first | exact ⟨_,rfl⟩ | exact .inr rfl | exact .inl rfl,Below.refl _ _⟩)
   · have e1':¬ (1:Int)≤(v.length:Int):=by omega
     go_enter Tryz.func81,Tryz.ntmps81
     go_wp2_with fail
     refine HG.out.mono ?_
     rintro e w1 ⟨A1,c1,rfl,hr1,rfl⟩
     go_wp2
     all_goals (go_ret;exact ⟨by first | exact ⟨_,rfl⟩ | exact .inr rfl | exact .inl rfl,Below.refl _ _⟩)
 have h16':(key==16)=false:=by simpa using h16
 by_cases hk0:key=0
 · subst hk0
   by_cases hc2:class_=2
   · subst hc2
     go_enter Tryz.func81,Tryz.ntmps81
     go_wp2_with fail
     refine HG.out.mono ?_
     rintro e w1 ⟨A1,c1',rfl,-,rfl⟩
     go_wp2_with fail
     refine HKey.out.mono ?_
     rintro e w2 ⟨⟨kv,rfl,⟨a0,a1,a2,a3,a4,c0,c1,c2,c3,c4,x0,x1,x2,x3,x4,rfl,r0,r1,r2,r3,r4,l0,l1,l2,l3,l4⟩⟩,hB2⟩
     have hE2:Ext w2 (w2.alloc (.cells #[.slice a0 (digs 4294967296 x0).length c0,.slice a1 (digs 4294967296 x1).length c1,.slice a2 (digs 4294967296 x2).length c2,.slice a3 (digs 4294967296 x3).length c3,.slice a4 (digs 4294967296 x4).length c4] 133)):=Ext.alloc _ _
     have hb:=heap_alloc_new w2 (.cells #[.slice a0 (digs 4294967296 x0).length c0,.slice a1 (digs 4294967296 x1).length c1,.slice a2 (digs 4294967296 x2).length c2,.slice a3 (digs 4294967296 x3).length c3,.slice a4 (digs 4294967296 x4).length c4] 133)
     have m0:=blk_cell hb 0
     have m1:=blk_cell hb 1
     simp only [List.getElem?_toArray,List.getElem?_cons_zero,List.getElem?_cons_succ] at m0 m1
     have R0:=Lib.hid (RN.up r0 hE2)
     have R1:=Lib.hid (RN.up r1 hE2)
     have HB3:=Lib.hid (hB2.trans (Below.mono hE2 hB2.size))
     have HS3:=Lib.hid (HB3.out.size)
     clear r0 r1 r2 r3 r4 l0 l1 l2 l3 l4 hB2 hE2 hb
     obtain ⟨nb,hnb⟩:∃ nb,nbits x0=nb:=⟨_,rfl⟩
     obtain ⟨bt,hbt⟩:∃ b,bitOf x1 0=b:=⟨_,rfl⟩
     obtain ⟨v3,hv3⟩:∃ v,cmpV x1 3=v:=⟨_,rfl⟩
     have Hnb:=Lib.hid hnb
     have Hbt:=Lib.hid hbt
     have Hv3:=Lib.hid hv3
     clear hnb hbt hv3
     go_wp2_with fail
     generalize w2.alloc (.cells #[.slice a0 (digs 4294967296 x0).length c0,.slice a1 (digs 4294967296 x1).length c1,.slice a2 (digs 4294967296 x2).length c2,.slice a3 (digs 4294967296 x3).length c3,.slice a4 (digs 4294967296 x4).length c4] 133)=W3 at *
     refine (refBits_any _ a0 c0 x0 W3 R0.out).mono ?_
     rw [Hnb.out]
     rintro e W3' ⟨rfl,rfl⟩
     by_cases hn:nb<256
     · have hn':decide ((256:Int)≤(nb:Int))=false:=by simp;omega
       go_upto_region 11 with fail
       refine Par.region_ext (by kernel_rfl) 20 [0,1,3,7,15,31,63,127,255,511,1023,2047,4095,8191,16383,8191,65535,131071,262143,524287] [] (fun j f X=>match j with
        | 0=>f 0=.int .i64 (nb:Int)
        | 1=>f 1=.bool false
        | 2=>f 2=.bool false
        | 3=>f 3=undef
        | 4=>f 4=undef
        | 5=>f 5=.bool false
        | 6=>f 6=.bool false
        | 7=>f 7=undef
        | 8=>f 8=undef
        | 9=>f 9=undef
        | 10=>f 10=undef
        | 11=>f 11=.bool false
        | 12=>f 12=.bool false
        | 13=>f 13=undef
        | 14=>f 14=undef
        | 15=>f 15=undef
        | 16=>f 16=undef
        | 17=>f 17=undef
        | 18=>f 18=.bool false
        | 19=>f 19=.bool false
        | _=>True) (by kernel_rfl) [(67,0),(68,1),(69,2),(70,3),(71,4),(72,5),(73,6),(74,7),(75,8),(76,9),(77,10),(78,11),(79,12),(80,13),(81,14),(82,15),(83,16),(84,17),(85,18),(6,19)] (by kernel_rfl) ?_
       refine Par.v0 1 19 ?_
       refine Par.S 2 18 [(67,0)] (fun f X hX hR K hK=>?_) ?_
       · have e0:f 0=_:=hR.out 0 rfl
         simp only [yA,yB,yC,yD,yE,e0]
         refine ⟨?_⟩
         go_simp
         exact Par.k hK (s:=by simp only [yA,yB,yC,yD,yE,e0])
       refine Par.v1 3 17 1 ?_
       refine Par.sk 4 16 2 ?_
       refine Par.sk 5 15 2 ?_
       refine Par.v2 6 14 2 4 ?_
       refine Par.v1 7 13 5 ?_
       refine Par.sk 8 12 6 ?_
       refine Par.sk 9 11 6 ?_
       refine Par.sk 10 10 6 ?_
       refine Par.sk 11 9 6 ?_
       refine Par.v2 12 8 6 10 ?_
       refine Par.v1 13 7 11 ?_
       refine Par.sk 14 6 12 ?_
       refine Par.sk 15 5 12 ?_
       refine Par.sk 16 4 12 ?_
       refine Par.sk 17 3 12 ?_
       refine Par.sk 18 2 12 ?_
       refine Par.v2 19 1 12 17 ?_
       refine Par.v1 20 0 18 ?_
       refine Par.AllOps.fin ⟨fun f X hX hR hal hap=>?_⟩
       have e19:f 19=_:=hR 19 (by decide)
       simp only [yA,yB,yD,yE,e19]
       clear hR hal hap e19
       refine Par.Chain.done ?_
       have HX:=Lib.hid (HB3.out.trans (Below.mono hX HS3.out))
       go_wp2
       go_ret
       exact ⟨by first | exact ⟨_,rfl⟩ | exact .inr rfl | exact .inl rfl,HX.out⟩
     have hn':decide ((256:Int)≤(nb:Int))=true:=by simp;omega
     by_cases hm:4096<nb
     · have hm':decide ((nb:Int)≤4096)=false:=by simp;omega
       go_upto_region 11 with fail
       refine Par.region_ext (by kernel_rfl) 20 [0,1,3,7,15,31,63,127,255,511,1023,2047,4095,8191,16383,8191,65535,131071,262143,524287] [] (fun j f X=>match j with
        | 0=>f 0=.int .i64 (nb:Int)
        | 1=>f 1=.bool true
        | 2=>f 2=.bool true
        | 3=>f 3=.int .i64 (nb:Int)
        | 4=>f 4=.bool false
        | 5=>f 5=.bool false
        | 6=>f 6=.bool false
        | 7=>f 7=undef
        | 8=>f 8=undef
        | 9=>f 9=undef
        | 10=>f 10=undef
        | 11=>f 11=.bool false
        | 12=>f 12=.bool false
        | 13=>f 13=undef
        | 14=>f 14=undef
        | 15=>f 15=undef
        | 16=>f 16=undef
        | 17=>f 17=undef
        | 18=>f 18=.bool false
        | 19=>f 19=.bool false
        | _=>True) (by kernel_rfl) [(67,0),(68,1),(69,2),(70,3),(71,4),(72,5),(73,6),(74,7),(75,8),(76,9),(77,10),(78,11),(79,12),(80,13),(81,14),(82,15),(83,16),(84,17),(85,18),(6,19)] (by kernel_rfl) ?_
       refine Par.v0 1 19 ?_
       refine Par.S 2 18 [(67,0)] (fun f X hX hR K hK=>?_) ?_
       · have e0:f 0=_:=hR.out 0 rfl
         simp only [yA,yB,yC,yD,yE,e0]
         refine ⟨?_⟩
         go_simp
         exact Par.k hK (s:=by simp only [yA,yB,yC,yD,yE,e0])
       refine Par.v1 3 17 1 ?_
       refine Par.v1 4 16 2 ?_
       refine Par.S 5 15 [(67,0),(68,1),(69,2),(70,3)] (fun f X hX hR K hK=>?_) ?_
       · have e2:f 2=_:=hR.out 2 rfl
         have e3:f 3=_:=hR.out 3 rfl
         simp only [yA,yB,yC,yD,yE,e2,e3]
         refine ⟨Par.want (by kernel_rfl) ?_⟩
         go_simp
         exact Par.k hK (s:=by simp only [yA,yB,yC,yD,yE,e2,e3])
       refine Par.v2 6 14 2 4 ?_
       refine Par.v1 7 13 5 ?_
       refine Par.sk 8 12 6 ?_
       refine Par.sk 9 11 6 ?_
       refine Par.sk 10 10 6 ?_
       refine Par.sk 11 9 6 ?_
       refine Par.v2 12 8 6 10 ?_
       refine Par.v1 13 7 11 ?_
       refine Par.sk 14 6 12 ?_
       refine Par.sk 15 5 12 ?_
       refine Par.sk 16 4 12 ?_
       refine Par.sk 17 3 12 ?_
       refine Par.sk 18 2 12 ?_
       refine Par.v2 19 1 12 17 ?_
       refine Par.v1 20 0 18 ?_
       refine Par.AllOps.fin ⟨fun f X hX hR hal hap=>?_⟩
       have e19:f 19=_:=hR 19 (by decide)
       simp only [yA,yB,yD,yE,e19]
       clear hR hal hap e19
       refine Par.Chain.done ?_
       have HX:=Lib.hid (HB3.out.trans (Below.mono hX HS3.out))
       go_wp2
       go_ret
       exact ⟨by first | exact ⟨_,rfl⟩ | exact .inr rfl | exact .inl rfl,HX.out⟩
     have hm':decide ((nb:Int)≤4096)=true:=by simp;omega
     by_cases h1:bt=1
     rotate_left
     · have h1':((bt:Int)==1)=false:=by simp;omega
       go_upto_region 11 with fail
       refine Par.region_ext (by kernel_rfl) 20 [0,1,3,7,15,31,63,127,255,511,1023,2047,4095,8191,16383,8191,65535,131071,262143,524287] [] (fun j f X=>match j with
        | 0=>f 0=.int .i64 (nb:Int)
        | 1=>f 1=.bool true
        | 2=>f 2=.bool true
        | 3=>f 3=.int .i64 (nb:Int)
        | 4=>f 4=.bool true
        | 5=>f 5=.bool true
        | 6=>f 6=.bool true
        | 7=>f 7=.pointer (some ⟨w2.heap.size,1,none⟩)
        | 8=>f 8=.slice a1 (digs 4294967296 x1).length c1
        | 9=>f 9=.int .u64 (bt:Int)
        | 10=>f 10=.bool false
        | 11=>f 11=.bool false
        | 12=>f 12=.bool false
        | 13=>f 13=undef
        | 14=>f 14=undef
        | 15=>f 15=undef
        | 16=>f 16=undef
        | 17=>f 17=undef
        | 18=>f 18=.bool false
        | 19=>f 19=.bool false
        | _=>True) (by kernel_rfl) [(67,0),(68,1),(69,2),(70,3),(71,4),(72,5),(73,6),(74,7),(75,8),(76,9),(77,10),(78,11),(79,12),(80,13),(81,14),(82,15),(83,16),(84,17),(85,18),(6,19)] (by kernel_rfl) ?_
       refine Par.v0 1 19 ?_
       refine Par.S 2 18 [(67,0)] (fun f X hX hR K hK=>?_) ?_
       · have e0:f 0=_:=hR.out 0 rfl
         simp only [yA,yB,yC,yD,yE,e0]
         refine ⟨?_⟩
         go_simp
         exact Par.k hK (s:=by simp only [yA,yB,yC,yD,yE,e0])
       refine Par.v1 3 17 1 ?_
       refine Par.v1 4 16 2 ?_
       refine Par.S 5 15 [(67,0),(68,1),(69,2),(70,3)] (fun f X hX hR K hK=>?_) ?_
       · have e2:f 2=_:=hR.out 2 rfl
         have e3:f 3=_:=hR.out 3 rfl
         simp only [yA,yB,yC,yD,yE,e2,e3]
         refine ⟨Par.want (by kernel_rfl) ?_⟩
         go_simp
         exact Par.k hK (s:=by simp only [yA,yB,yC,yD,yE,e2,e3])
       refine Par.v2 6 14 2 4 ?_
       refine Par.v1 7 13 5 ?_
       refine Par.v1 8 12 6 ?_
       refine Par.S 9 11 [(67,0),(68,1),(69,2),(70,3),(71,4),(72,5),(73,6),(74,7)] (fun f X hX hR K hK=>?_) ?_
       · have e6:f 6=_:=hR.out 6 rfl
         have e7:f 7=_:=hR.out 7 rfl
         have x0:=hX.cell m1
         simp only [yA,yB,yC,yD,yE,e6,e7]
         refine ⟨Par.want (by kernel_rfl) ?_⟩
         go_simp
         exact Par.k hK (s:=by simp only [yA,yB,yC,yD,yE,e6,e7])
       refine Par.c1 10 10 6 (fun f=>#[f 8,Value.int IntKind.i64 0]) (F':=119) (fun f X hX hR=>?_) ?_
       · have e8:f 8=_:=hR.out 8 rfl
         simp only [e8]
         refine (refBit_any _ a1 c1 x1 0 X (RN.up R1.out hX) (by omega)).mono ?_
         rw [Hbt.out]
         rintro e w5 ⟨rfl,rfl⟩
         exact ⟨(.int .u64 (bt:Int)),rfl,(Ext.refl _),fun _ _=>rfl⟩
       refine Par.S 11 9 [(67,0),(68,1),(69,2),(70,3),(71,4),(72,5),(73,6),(74,7),(75,8),(76,9)] (fun f X hX hR K hK=>?_) ?_
       · have e6:f 6=_:=hR.out 6 rfl
         have e9:f 9=_:=hR.out 9 rfl
         simp only [yA,yB,yC,yD,yE,e6,e9]
         refine ⟨Par.want (by kernel_rfl) ?_⟩
         go_simp
         exact Par.k hK (s:=by simp only [yA,yB,yC,yD,yE,e6,e9])
       refine Par.v2 12 8 6 10 ?_
       refine Par.v1 13 7 11 ?_
       refine Par.sk 14 6 12 ?_
       refine Par.sk 15 5 12 ?_
       refine Par.sk 16 4 12 ?_
       refine Par.sk 17 3 12 ?_
       refine Par.sk 18 2 12 ?_
       refine Par.v2 19 1 12 17 ?_
       refine Par.v1 20 0 18 ?_
       refine Par.AllOps.fin ⟨fun f X hX hR hal hap=>?_⟩
       have e19:f 19=_:=hR 19 (by decide)
       simp only [yA,yB,yD,yE,e19]
       clear hR hal hap e19
       refine Par.Chain.done ?_
       have HX:=Lib.hid (HB3.out.trans (Below.mono hX HS3.out))
       go_wp2
       go_ret
       exact ⟨by first | exact ⟨_,rfl⟩ | exact .inr rfl | exact .inl rfl,HX.out⟩
     have h1':((bt:Int)==1)=true:=by simp;omega
     clear h1
     go_upto_region 11 with fail
     refine Par.region_ext (by kernel_rfl) 20 [0,1,3,7,15,31,63,127,255,511,1023,2047,4095,8191,16383,8191,65535,131071,262143,524287] [] (fun j f X=>match j with
      | 0=>f 0=.int .i64 (nb:Int)
      | 1=>f 1=.bool true
      | 2=>f 2=.bool true
      | 3=>f 3=.int .i64 (nb:Int)
      | 4=>f 4=.bool true
      | 5=>f 5=.bool true
      | 6=>f 6=.bool true
      | 7=>f 7=.pointer (some ⟨w2.heap.size,1,none⟩)
      | 8=>f 8=.slice a1 (digs 4294967296 x1).length c1
      | 9=>f 9=.int .u64 (bt:Int)
      | 10=>f 10=.bool true
      | 11=>f 11=.bool true
      | 12=>f 12=.bool true
      | 13=>f 13=.pointer (some ⟨w2.heap.size,1,none⟩)
      | 14=>f 14=.slice a1 (digs 4294967296 x1).length c1
      | 15=>∃ A c,f 15=.slice A (digs 4294967296 3).length c∧RU X A c (digs 4294967296 3)
      | 16=>f 16=.int .i64 v3
      | 17=>f 17=.bool (decide (0≤v3))
      | 18=>f 18=.bool (decide (0≤v3))
      | 19=>f 19=.bool (decide (0≤v3))
      | _=>True) (by kernel_rfl) [(67,0),(68,1),(69,2),(70,3),(71,4),(72,5),(73,6),(74,7),(75,8),(76,9),(77,10),(78,11),(79,12),(80,13),(81,14),(82,15),(83,16),(84,17),(85,18),(6,19)] (by kernel_rfl) ?_
     refine Par.v0 1 19 ?_
     refine Par.S 2 18 [(67,0)] (fun f X hX hR K hK=>?_) ?_
     · have e0:f 0=_:=hR.out 0 rfl
       simp only [yA,yB,yC,yD,yE,e0]
       refine ⟨?_⟩
       go_simp
       exact Par.k hK (s:=by simp only [yA,yB,yC,yD,yE,e0])
     refine Par.v1 3 17 1 ?_
     refine Par.v1 4 16 2 ?_
     refine Par.S 5 15 [(67,0),(68,1),(69,2),(70,3)] (fun f X hX hR K hK=>?_) ?_
     · have e2:f 2=_:=hR.out 2 rfl
       have e3:f 3=_:=hR.out 3 rfl
       simp only [yA,yB,yC,yD,yE,e2,e3]
       refine ⟨Par.want (by kernel_rfl) ?_⟩
       go_simp
       exact Par.k hK (s:=by simp only [yA,yB,yC,yD,yE,e2,e3])
     refine Par.v2 6 14 2 4 ?_
     refine Par.v1 7 13 5 ?_
     refine Par.v1 8 12 6 ?_
     refine Par.S 9 11 [(67,0),(68,1),(69,2),(70,3),(71,4),(72,5),(73,6),(74,7)] (fun f X hX hR K hK=>?_) ?_
     · have e6:f 6=_:=hR.out 6 rfl
       have e7:f 7=_:=hR.out 7 rfl
       have x0:=hX.cell m1
       simp only [yA,yB,yC,yD,yE,e6,e7]
       refine ⟨Par.want (by kernel_rfl) ?_⟩
       go_simp
       exact Par.k hK (s:=by simp only [yA,yB,yC,yD,yE,e6,e7])
     refine Par.c1 10 10 6 (fun f=>#[f 8,Value.int IntKind.i64 0]) (F':=119) (fun f X hX hR=>?_) ?_
     · have e8:f 8=_:=hR.out 8 rfl
       simp only [e8]
       refine (refBit_any _ a1 c1 x1 0 X (RN.up R1.out hX) (by omega)).mono ?_
       rw [Hbt.out]
       rintro e w5 ⟨rfl,rfl⟩
       exact ⟨(.int .u64 (bt:Int)),rfl,(Ext.refl _),fun _ _=>rfl⟩
     refine Par.S 11 9 [(67,0),(68,1),(69,2),(70,3),(71,4),(72,5),(73,6),(74,7),(75,8),(76,9)] (fun f X hX hR K hK=>?_) ?_
     · have e6:f 6=_:=hR.out 6 rfl
       have e9:f 9=_:=hR.out 9 rfl
       simp only [yA,yB,yC,yD,yE,e6,e9]
       refine ⟨Par.want (by kernel_rfl) ?_⟩
       go_simp
       exact Par.k hK (s:=by simp only [yA,yB,yC,yD,yE,e6,e9])
     refine Par.v2 12 8 6 10 ?_
     refine Par.v1 13 7 11 ?_
     refine Par.v1 14 6 12 ?_
     refine Par.S 15 5 [(67,0),(68,1),(69,2),(70,3),(71,4),(72,5),(73,6),(74,7),(75,8),(76,9),(77,10),(78,11),(79,12),(80,13),(82,15)] (fun f X hX hR K hK=>?_) ?_
     · have e12:f 12=_:=hR.out 12 rfl
       have e13:f 13=_:=hR.out 13 rfl
       have x0:=hX.cell m1
       simp only [yA,yB,yC,yD,yE,e12,e13]
       refine ⟨Par.want (by kernel_rfl) ?_⟩
       go_simp
       exact Par.k hK (s:=by simp only [yA,yB,yC,yD,yE,e12,e13])
     refine Par.c1 16 4 12 (fun _=>#[Value.int IntKind.u64 3]) (F':=121) (fun f X hX hR=>?_) ?_
     · refine (refOf_any 3 X (by omega)).mono ?_
       rintro e w5 ⟨A5,c5,rfl,hO,hB⟩
       exact ⟨(.slice A5 (digs 4294967296 3).length c5),rfl,hB,fun Y hY=>⟨A5,c5,rfl,RN.up hO.ru hY⟩⟩
     refine Par.S 17 3 [(67,0),(68,1),(69,2),(70,3),(71,4),(72,5),(73,6),(74,7),(75,8),(76,9),(77,10),(78,11),(79,12),(80,13),(81,14),(82,15)] (fun f X hX hR K hK=>?_) ?_
     · have e12:f 12=_:=hR.out 12 rfl
       have e14:f 14=_:=hR.out 14 rfl
       obtain ⟨A15,c15,(e15:f 15=_),r15⟩:=hR.out 15 rfl
       simp only [yA,yB,yC,yD,yE,e12,e14,e15]
       refine ⟨Par.want (by kernel_rfl) ?_⟩
       go_simp
       refine (refCmp_any _ _ a1 A15 c1 c15 x1 3 X (RN.up R1.out hX) r15).mono ?_
       rw [Hv3.out]
       rintro e w5 ⟨rfl,d,rfl⟩
       exact hK.out _ (.int .i64 v3) _ (by simp only [yA,yB,yC,yD,yE,e12,e14,e15]) (extD X d) trivial (fun _ _=>rfl)
     refine Par.S 18 2 [(67,0),(68,1),(69,2),(70,3),(71,4),(72,5),(73,6),(74,7),(75,8),(76,9),(77,10),(78,11),(79,12),(80,13),(81,14),(82,15),(83,16)] (fun f X hX hR K hK=>?_) ?_
     · have e12:f 12=_:=hR.out 12 rfl
       have e16:f 16=_:=hR.out 16 rfl
       simp only [yA,yB,yC,yD,yE,e12,e16]
       refine ⟨Par.want (by kernel_rfl) ?_⟩
       go_simp
       exact Par.k hK (s:=by simp only [yA,yB,yC,yD,yE,e12,e16])
     refine Par.v2 19 1 12 17 ?_
     refine Par.v1 20 0 18 ?_
     refine Par.AllOps.fin ⟨fun f X hX hR hal hap=>?_⟩
     obtain ⟨A15,c15,(e15:f 15=_),r15⟩:=hR 15 (by decide)
     have e19:f 19=_:=hR 19 (by decide)
     simp only [yA,yB,yD,yE,e15,e19]
     clear hR hal hap e15 e19
     refine Par.Chain.done ?_
     have HX:=Lib.hid (HB3.out.trans (Below.mono hX HS3.out))
     go_wp2
     go_ret
     exact ⟨by first | exact ⟨_,rfl⟩ | exact .inr rfl | exact .inl rfl,HX.out⟩
   · have hc2':(class_==2)=false:=by simpa using hc2
     go_enter Tryz.func81,Tryz.ntmps81
     go_wp2_with fail
     refine HG.out.mono ?_
     rintro e w1 ⟨A1,c1',rfl,-,rfl⟩
     go_wp2_with fail
     refine HKey.out.mono ?_
     rintro e w2 ⟨⟨kv,rfl,⟨a0,a1,a2,a3,a4,c0,c1,c2,c3,c4,x0,x1,x2,x3,x4,rfl,r0,r1,r2,r3,r4,l0,l1,l2,l3,l4⟩⟩,hB2⟩
     have HV7:=Lib.hid (valid7_t a0 a1 a2 a3 a4 c0 c1 c2 c3 c4 x0 x1 x2 x3 x4 w2 r0 r1 r2 r3 r4 l0 l1 l2 l3 l4)
     have HB2:=Lib.hid hB2
     clear r0 r1 r2 r3 r4 l0 l1 l2 l3 l4 hB2
     go_wp2_with fail
     refine HV7.out.mono ?_
     rintro e w3 ⟨⟨b,rfl⟩,hB3⟩
     go_wp2
     go_ret
     exact ⟨by first | exact ⟨_,rfl⟩ | exact .inr rfl | exact .inl rfl,HB2.out.trans (hB3.mono HB2.out.size)⟩
 have hk0':(key==0)=false:=by simpa using hk0
 go_enter Tryz.func81,Tryz.ntmps81
 go_wp2_with fail
 refine HG.out.mono ?_
 rintro e w1 ⟨A1,c1,rfl,hr1,rfl⟩
 have HR1:=Lib.hid hr1
 clear hr1
 go_wp2_with fail
 refine (HGt.out 384 w (Below.refl _ _)).mono ?_
 rintro e w1 ⟨A2,c2,rfl,hr2,rfl⟩
 obtain ⟨ps,hps⟩:∃ ps,(seek l 384).getD []=ps:=⟨_,rfl⟩
 obtain ⟨b2,hb2⟩:∃ b,(seek l 384).isSome=b:=⟨_,rfl⟩
 rw [hps] at hr2 ⊢
 rw [hb2]
 have HRP:=Lib.hid (readParams12_t P A2 c2 ps w hr2 HPw.out)
 clear hr2 hps hb2
 go_wp2_with fail
 refine HRP.out.mono ?_
 rintro e w3 ⟨⟨k,ok,rfl,hok⟩,hB3⟩
 have HB3:=Lib.hid hB3
 have hs3:=hB3.size
 have Hok:=Lib.hid hok
 clear hB3 hok
 cases ok
 · go_wp2
   go_ret
   exact ⟨by first | exact ⟨_,rfl⟩ | exact .inr rfl | exact .inl rfl,HB3.out⟩
 have hk12:=Hok.out (by trivial)
 obtain ⟨C,hC⟩:∃ C,IsC k C:=by
  rcases hk12 with rfl | rfl
  · exact ⟨_,.inl ⟨rfl,rfl⟩⟩
  · exact ⟨_,.inr ⟨rfl,rfl⟩⟩
 have HF:=Lib.hid (refOf_c hC w3)
 have HFi:=Lib.hid hC.fine
 have Hk12:=Lib.hid hk12
 clear hk12 hC
 go_wp2_with fail
 refine HF.out.mono ?_
 rintro e w4 ⟨cv,rfl,hRC,hE4⟩
 have HB4:Hid (Below w.heap.size w w4):=Lib.hid (HB3.out.trans (Below.mono hE4 hs3))
 have hs4:=HB4.out.size
 have HRC:=Lib.hid hRC
 obtain ⟨Ap,An,Ab,Ax,Ay,cp,cn,cb,cx,cy,rfl,-,-,-,-,-⟩:=hRC
 have HP4:=Lib.hid (fun b (hb:P b)=>Nat.lt_of_lt_of_le (HPw.out b hb) hs4)
 have hE5:Ext w4 (w4.alloc (.cells #[.slice Ap (digs 4294967296 C.M).length cp,.slice An (digs 4294967296 (val 18446744073709551616 C.nl)).length cn,.slice Ab (digs 4294967296 C.bb).length cb,.slice Ax (digs 4294967296 (val 18446744073709551616 C.xl)).length cx,.slice Ay (digs 4294967296 (val 18446744073709551616 C.yl)).length cy,.int .i64 (C.size:Int)] 129)):=Ext.alloc _ _
 have HRC5:=Lib.hid (HRC.out.ext hE5)
 have hb5:=heap_alloc_new w4 (.cells #[.slice Ap (digs 4294967296 C.M).length cp,.slice An (digs 4294967296 (val 18446744073709551616 C.nl)).length cn,.slice Ab (digs 4294967296 C.bb).length cb,.slice Ax (digs 4294967296 (val 18446744073709551616 C.xl)).length cx,.slice Ay (digs 4294967296 (val 18446744073709551616 C.yl)).length cy,.int .i64 (C.size:Int)] 129)
 have HB5:=Lib.hid (HB4.out.trans (Below.mono hE5 hs4))
 have hz5:w4.heap.size<(w4.alloc (.cells #[.slice Ap (digs 4294967296 C.M).length cp,.slice An (digs 4294967296 (val 18446744073709551616 C.nl)).length cn,.slice Ab (digs 4294967296 C.bb).length cb,.slice Ax (digs 4294967296 (val 18446744073709551616 C.xl)).length cx,.slice Ay (digs 4294967296 (val 18446744073709551616 C.yl)).length cy,.int .i64 (C.size:Int)] 129)).heap.size:=by simp
 have H5:=Lib.hid hb5
 clear hE4 hE5 hb5 HF HRP HKey HG
 by_cases hc2:class_=2
 · subst hc2
   go_wp2_with fail
   generalize w4.alloc (.cells #[.slice Ap (digs 4294967296 C.M).length cp,.slice An (digs 4294967296 (val 18446744073709551616 C.nl)).length cn,.slice Ab (digs 4294967296 C.bb).length cb,.slice Ax (digs 4294967296 (val 18446744073709551616 C.xl)).length cx,.slice Ay (digs 4294967296 (val 18446744073709551616 C.yl)).length cy,.int .i64 (C.size:Int)] 129)=W5 at *
   refine (HGt.out 385 W5 HB5.out).mono ?_
   rintro e W5' ⟨A6,c6,rfl,hr6,rfl⟩
   obtain ⟨qs,hqs⟩:∃ qs,(seek l 385).getD []=qs:=⟨_,rfl⟩
   obtain ⟨b6,hb6⟩:∃ b,(seek l 385).isSome=b:=⟨_,rfl⟩
   rw [hqs] at hr6 ⊢
   rw [hb6]
   have hd:=refDecode_any HFi.out P A6 c6 qs W5 HRC5.out hr6 (fun b hb=>Nat.lt_trans (HP4.out b hb) hz5)
   have HD:=Lib.hid hd
   obtain ⟨db,hdb⟩:∃ b,(decC C qs).isSome=b:=⟨_,rfl⟩
   obtain ⟨dp,hdp⟩:∃ d,(decC C qs).getD none=d:=⟨_,rfl⟩
   have m0:=blk_cell H5.out 0
   have m1:=blk_cell H5.out 1
   have m2:=blk_cell H5.out 2
   have m3:=blk_cell H5.out 3
   have m4:=blk_cell H5.out 4
   have m5:=blk_cell H5.out 5
   simp only [List.getElem?_toArray,List.getElem?_cons_zero,List.getElem?_cons_succ] at m0 m1 m2 m3 m4 m5
   have Hdb:=Lib.hid hdb
   have Hdp:=Lib.hid hdp
   clear hr6 hqs hb6 hd hdb hdp
   go_wp2_with fail
   refine HD.out.mono ?_
   rw [Hdb.out,Hdp.out]
   rintro e w6 ⟨u,rfl,hu,hE6⟩
   have HB6:=Lib.hid (HB5.out.trans (Below.mono hE6 HB5.out.size))
   have hs6:=HB6.out.size
   clear hE6
   cases dp with
   | none =>
    obtain rfl:u=infV:=hu
    cases db
    all_goals
     go_wp2
     go_ret
     exact ⟨by first | exact ⟨_,rfl⟩ | exact .inr rfl | exact .inl rfl,by first | exact HB6.out.alloc hs6 _ | exact HB6.out⟩
   | some q =>
    obtain ⟨A7,c7,A8,c8,rfl,-,-⟩:=hu
    cases db
    all_goals
     go_wp2
     go_ret
     exact ⟨by first | exact ⟨_,rfl⟩ | exact .inr rfl | exact .inl rfl,by first | exact HB6.out.alloc hs6 _ | exact HB6.out⟩
 have hc2':(class_==2)=false:=by simpa using hc2
 by_cases hsz:v.length=C.size
 rotate_left
 · have hsz':((v.length:Int)==(C.size:Int))=false:=by simp;omega
   go_wp2
   go_ret
   exact ⟨by first | exact ⟨_,rfl⟩ | exact .inr rfl | exact .inl rfl,by first | exact HB5.out | exact HB4.out.alloc hs4 _⟩
 have hsz':((v.length:Int)==(C.size:Int))=true:=by simp;omega
 clear hsz
 have hfb:=refFromBytes_any P A1 c1 v _ (HR1.out.below HB5.out HPw.out) (fun b hb=>Nat.lt_trans (HP4.out b hb) hz5) (by omega)
 have HFB:=Lib.hid hfb
 clear hfb
 go_wp2_with fail
 generalize w4.alloc (.cells #[.slice Ap (digs 4294967296 C.M).length cp,.slice An (digs 4294967296 (val 18446744073709551616 C.nl)).length cn,.slice Ab (digs 4294967296 C.bb).length cb,.slice Ax (digs 4294967296 (val 18446744073709551616 C.xl)).length cx,.slice Ay (digs 4294967296 (val 18446744073709551616 C.yl)).length cy,.int .i64 (C.size:Int)] 129)=W5 at *
 refine HFB.out.mono ?_
 rintro e w6 ⟨A6,c6,rfl,hO6,hB6⟩
 have HB6:=Lib.hid (HB5.out.trans (hB6.mono HB5.out.size))
 have HM:=Lib.hid (may10_t k Hk12.out A6 c6 (numOf v) w6 hO6.ru)
 clear hO6 hB6
 go_wp2_with fail
 refine HM.out.mono ?_
 rintro e w7 ⟨⟨b7,rfl⟩,hB7⟩
 go_wp2
 go_ret
 exact ⟨by first | exact ⟨_,rfl⟩ | exact .inr rfl | exact .inl rfl,HB6.out.trans (hB7.mono HB6.out.size)⟩
end Go.Proofs.YtendnkpiidhogaaGreat.At

namespace Go.Proofs.YtendnkpiidhogaaGreat.At
open Go.RowKit Go.Shelf
theorem seek_cons (x:Int×List Nat) (l:Attrs) (t:Int):seek (x :: l) t=if x.1=t then some x.2 else seek l t:=by
 unfold seek
 by_cases h:x.1=t
 · rw [if_pos h,List.find?_cons_of_pos (by simpa using h)];rfl
 · rw [if_neg h,List.find?_cons_of_neg (by simpa using h)]
theorem seek_ins (a:Int×List Nat) (t:Int):∀ l:Attrs,seek l a.1=none→seek (ins a l) t=if a.1=t then some a.2 else seek l t
  | [],_=>by unfold ins;rw [seek_cons]
  | y :: l, h => by
    rw [seek_cons] at h
    unfold ins
    split
    · rw [seek_cons]
    · by_cases hy:y.1=a.1
      · rw [if_pos hy] at h;cases h
      · rw [if_neg hy] at h
        rw [seek_cons,seek_ins a t l h,seek_cons]
        by_cases h1:y.1=t
        · rw [if_pos h1,if_neg (fun e=>hy (h1.trans e.symm)),if_pos h1]
        · rw [if_neg h1,if_neg h1]
theorem seek_others (l:Attrs) (t0 t:Int):seek (others t0 l) t=if t0=t then none else seek l t:=by
  unfold others
  induction l with
  | nil=>simp [seek]
  | cons x l ih =>
    by_cases hx:x.1=t0
    · rw [List.filter_cons_of_neg (by simp [hx]),ih,seek_cons]
      by_cases ht:t0=t
      · rw [if_pos ht,if_pos ht]
      · rw [if_neg ht,if_neg ht,if_neg (by rw [hx];exact ht)]
    · rw [List.filter_cons_of_pos (by simp [hx]),seek_cons,ih,seek_cons]
      by_cases ht:t0=t
      · rw [if_pos ht,if_neg (by rw [←ht];exact hx),if_pos ht]
      · rw [if_neg ht,if_neg ht]
theorem seek_putOf (l:Attrs) (a:Int×List Nat) (t:Int):seek (putOf l a) t=if a.1=t then some a.2 else seek l t:=by
 unfold putOf
 rw [seek_ins a t _ (by rw [seek_others,if_pos rfl]),seek_others]
 by_cases h:a.1=t
 · rw [if_pos h,if_pos h]
 · rw [if_neg h,if_neg h,if_neg h]
end Go.Proofs.YtendnkpiidhogaaGreat.At

namespace Go.Proofs.YtendnkpiidhogaaGreat.At
open Go.RowKit Go.Shelf
theorem came_put (l:Attrs) (a:Int×List Nat) (t:Int):came (putOf l a) t=(decide (a.1=t) || came l t):=by
 unfold came
 rw [seek_putOf]
 by_cases h:a.1=t
 · simp [h]
 · simp [h]
theorem tog_cases {c k:Int} (h:together c k=true):c=0∨c=4∧(k=16∨k=31)∨c=2∧(k=0∨k=3)∨c=3∧(k=0∨k=3):=by
 unfold together at h
 split at h
 · simp_all
 split at h
 · simp_all
 split at h
 · simp_all
 · cases h
theorem has_mem {c k t:Int} (h:hasOf c k t=true):t∈(rowsOf c k).flatten:=by
 unfold hasOf at h
 rw [List.any_eq_true] at h
 obtain ⟨r,hr,ht⟩:=h
 exact List.mem_flatten.2 ⟨r,hr,by simpa using ht⟩
theorem has_cases {c k t:Int} (hw:together c k=true) (h:hasOf c k t=true):(0≤t∧t<512∧(formOf t=1∨formOf t=3))∨t=0∨(t=256∧c≠0)∨(t=353∧c=4)∨(t=289∧c=2∧k=0)∨(c≠0∧t∈([288,290,291,292,293]:List Int)):=by
 have hm:=has_mem h
 clear h
 rcases tog_cases hw with rfl | ⟨rfl,rfl | rfl⟩ | ⟨rfl,rfl | rfl⟩ | ⟨rfl,rfl | rfl⟩
 · rw [show (rowsOf 0 k).flatten=[0,1,2,3,368,369,17] by unfold rowsOf;rw [if_neg (by rw [hw];decide),if_pos rfl];rfl] at hm
   have:(0≤t∧t<512∧(formOf t=1∨formOf t=3))∨t=0:=(show ∀ t∈([0,1,2,3,368,369,17]:List Int),(0≤t∧t<512∧(formOf t=1∨formOf t=3))∨t=0 by decide) t hm
   rcases this with h | h
   · exact .inl h
   · exact .inr (.inl h)
 all_goals
  revert t
  decide +kernel
structure Gr (l out:Attrs) (cl ky:Int) (k:Nat):Prop where
 old:∀ t,came l t=true→came out t=true
 new:∀ t,came out t=true→came l t=true∨hasOf cl ky t=true
 all:∀ t:Int,0≤t→t<k→hasOf cl ky t=true→formOf t=1∨formOf t=3→came out t=true
 s0:seek out 0=seek l 0
 s6:seek out 256=seek l 256
theorem Gr.start (l:Attrs) (cl ky:Int):Gr l l cl ky 0:=⟨fun _ h=>h,fun _ h=>.inl h,fun t h1 h2=>by omega,rfl,rfl⟩
theorem Gr.skip {l out:Attrs} {cl ky:Int} {k:Nat} (h:Gr l out cl ky k) (hk:came out (k:Int)=true∨hasOf cl ky (k:Int)=false∨(formOf (k:Int)≠1∧formOf (k:Int)≠3)):Gr l out cl ky (k+1):=by
 refine ⟨h.old,h.new,fun t h1 h2 h3 h4=>?_,h.s0,h.s6⟩
 by_cases e:t=(k:Int)
 · subst e
   rcases hk with hk | hk | hk
   · exact hk
   · rw [hk] at h3;cases h3
   · omega
 · exact h.all t h1 (by omega) h3 h4
theorem Gr.put' {l out:Attrs} {cl ky:Int} {k:Nat} {t:Int} (h:Gr l out cl ky k) (hh:hasOf cl ky t=true) (h0:t≠0) (h6:t≠256) (v:List Nat):Gr l (putOf out (t,v)) cl ky k:=by
 refine ⟨fun u hu=>by rw [came_put,h.old u hu];simp,fun u hu=>?_,fun u h1 h2 h3 h4=>by rw [came_put,h.all u h1 h2 h3 h4];simp,by rw [seek_putOf,if_neg h0,h.s0],by rw [seek_putOf,if_neg h6,h.s6]⟩
 rw [came_put] at hu
 by_cases e:t=u
 · subst e;exact .inr hh
 · simp [e] at hu;exact h.new u hu
theorem Gr.put {l out:Attrs} {cl ky:Int} {k:Nat} (h:Gr l out cl ky k) (hh:hasOf cl ky (k:Int)=true) (hf:formOf (k:Int)=1∨formOf (k:Int)=3) (v:List Nat):Gr l (putOf out ((k:Int),v)) cl ky (k+1) :=
 (h.put' hh (by rintro e;rw [e] at hf;revert hf;decide) (by rintro e;rw [e] at hf;revert hf;decide) v).skip (.inl (by rw [came_put];simp))
structure Full (l out:Attrs) (cl ky:Int):Prop extends Gr l out cl ky 512 where
 c4:cl=4→came out 353=true
 c2:cl=2→ky=0→came out 289=true
def Whole (o:Attrs):Prop:=∀ t,came o t=hasOf ((intOf' o 0).getD 0:Nat) ((intOf' o 256).getD 0:Nat) t
theorem has_355 {c k:Int} (hw:together c k=true) (h0:c≠0):hasOf c k 355=true:=by
 rcases tog_cases hw with rfl | ⟨rfl,rfl | rfl⟩ | ⟨rfl,rfl | rfl⟩ | ⟨rfl,rfl | rfl⟩ <;> first | decide | exact absurd rfl h0
theorem has_353 {k:Int} (hw:together 4 k=true):hasOf 4 k 353=true∧hasOf 4 k 357=true∧hasOf 4 k 356=true:=by
 rcases tog_cases hw with h | ⟨-,rfl | rfl⟩ | ⟨h,-⟩ | ⟨h,-⟩ <;> first | decide | exact absurd h (by decide)
theorem has_3 {k:Int} (hw:together 3 k=true):hasOf 3 k 357=true∧hasOf 3 k 356=true:=by
 rcases tog_cases hw with h | ⟨h,-⟩ | ⟨h,-⟩ | ⟨-,rfl | rfl⟩ <;> first | decide | exact absurd h (by decide)
theorem Full.whole {l out:Attrs} {cl ky:Int} (h:Full l out cl ky) (hw:together cl ky=true) (hc:(((intOf' l 0).getD 0:Nat):Int)=cl) (hk:(((intOf' l 256).getD 0:Nat):Int)=ky) (h0:came l 0=true) (h6:cl≠0→came l 256=true)
    (hl:∀ t,came l t=true→hasOf cl ky t=true) (hn:cl≠0→∀ t∈([288,290,291,292,293]:List Int),hasOf cl ky t=true→came l t=true):Whole out:=by
  intro t
  have e0:intOf' out 0=intOf' l 0:=by unfold intOf';rw [h.s0]
  have e6:intOf' out 256=intOf' l 256:=by unfold intOf';rw [h.s6]
  rw [e0,e6,hc,hk]
  cases hh:hasOf cl ky t with
  | false =>
    cases hcm:came out t with
    | false=>rfl
    | true =>
      rcases h.new t hcm with h1 | h1
      · rw [hl t h1] at hh;cases hh
      · rw [h1] at hh;cases hh
  | true =>
    rcases has_cases hw hh with ⟨h1,h2,h3⟩ | rfl | ⟨rfl,h1⟩ | ⟨rfl,h1⟩ | ⟨rfl,h1,h2⟩ | ⟨h1,h2⟩
    · exact h.all t h1 h2 hh h3
    · exact h.old _ h0
    · exact h.old _ (h6 h1)
    · exact h.c4 h1
    · exact h.c2 h1 h2
    · exact h.old _ (hn h1 t h2 hh)
theorem kinds_ok {l:Attrs} (h:(kindsOf l (-1) 0).2.2=0):together (kindsOf l (-1) 0).1 (kindsOf l (-1) 0).2.1=true∧(((intOf' l 0).getD 0:Nat):Int)=(kindsOf l (-1) 0).1∧came l 0=true∧((kindsOf l (-1) 0).1≠0→came l 256=true∧(((intOf' l 256).getD 0:Nat):Int)=(kindsOf l (-1) 0).2.1)∧((kindsOf l (-1) 0).1=0→(kindsOf l (-1) 0).2.1=0):=by
 revert h
 unfold kindsOf
 rw [if_pos rfl]
 split
 · intro h;exact absurd h (by decide)
 rename_i h1
 simp only [Bool.or_eq_true,Bool.not_eq_true',Bool.and_eq_true,not_or,not_and,Bool.not_eq_false] at h1
 split
 · rename_i h2
   intro _
   refine ⟨rfl,by rw [h2];rfl,h1.1,fun h=>absurd rfl h,fun _=>rfl⟩
 rename_i h2
 split
 · rename_i c k hc hk
   split
   · rename_i ht
     intro _
     refine ⟨ht,by rw [hc];rfl,h1.1,fun _=>⟨h1.2 (by rw [hc] at h2 ⊢;simpa using h2),by rw [hk];rfl⟩,fun e=>?_⟩
     exfalso;apply h2;rw [hc]
     have e':(c:Int)=0:=e
     congr 1;omega
   · intro h;exact absurd h (by decide)
 · intro h;exact absurd h (by decide)
theorem Whole.put {out o:Attrs} {a:Int×List Nat} (h:∀ t,came out t=came o t) (hc:came o a.1=true):∀ t,came (putOf out a) t=came o t:=by
 intro t
 rw [came_put,h]
 by_cases e:a.1=t
 · subst e;simp [hc]
 · simp [e]
end Go.Proofs.YtendnkpiidhogaaGreat.At

namespace Go.Proofs.YtendnkpiidhogaaGreat.At
open Go.RowKit Go.Shelf
attribute [local go_sem] Oper.semAt_some
def Fit (N:Nat) (l:Attrs):Prop:=l.length≤N∧∀ x∈l,x.2.length≤10000
theorem mem_ins {a x:Int×List Nat} : ∀ {l:Attrs},x∈ins a l→x=a∨x∈l
  | [],h=>by simp [ins] at h;exact .inl h
  | y :: l, h => by
    unfold ins at h
    split at h
    · rcases List.mem_cons.1 h with h | h
      · exact .inl h
      · exact .inr h
    · rcases List.mem_cons.1 h with h | h
      · exact .inr (by simp [h])
      · rcases mem_ins h with h | h
        · exact .inl h
        · exact .inr (List.mem_cons_of_mem _ h)
theorem mem_putOf {l:Attrs} {a x:Int×List Nat} (h:x∈putOf l a):x=a∨x∈l:=by
 unfold putOf at h
 rcases mem_ins h with h | h
 · exact .inl h
 · exact .inr ((List.mem_filter.1 h).1)
theorem Fit.put {N:Nat} {l:Attrs} {a:Int×List Nat} (h:Fit N l) (ha:a.2.length≤10000):Fit (N+1) (putOf l a) :=
 ⟨Nat.le_trans (length_putOf l a) (by have:=h.1;omega),fun x hx=>(mem_putOf hx).elim (fun e=>e▸ha) (h.2 x)⟩
theorem Fit.mono {N M:Nat} {l:Attrs} (h:Fit N l) (hM:N≤M):Fit M l:=⟨Nat.le_trans h.1 hM,h.2⟩
theorem seek_short2 {l:Attrs} {n:Nat} (h:∀ x∈l,x.2.length≤n) (t:Int):((seek l t).getD []).length≤n:=by
  cases hs:seek l t with
  | none=>simp
  | some b =>
    unfold seek at hs
    obtain ⟨x,hx,rfl⟩:∃ x∈l,x.2=b:=by
      rw [Option.map_eq_some_iff] at hs
      obtain ⟨a,ha,e⟩:=hs
      exact ⟨a,List.mem_of_find?_eq_some ha,e⟩
    exact h x hx
theorem num4_length7 (v:Int):(num4 v).length=4:=rfl
theorem raUp2 {w X:World} {A:Option Addr} {c:Nat} {l:Attrs} (h:RA w (fun b=>b<w.heap.size) A c l) (hE:Below w.heap.size w X):RA X (fun b=>b<X.heap.size) A c l:=(h.below hE (fun _ hb=>hb)).mono fun _ hb=>Nat.lt_of_lt_of_le hb hE.size
theorem putR {l:Attrs} {x:Int×List Nat} {A Aa:Option Addr} {c ca:Nat} (w:World) (hv:RA w (fun b=>b<w.heap.size) A c l) (ha:RB w (fun b=>b<w.heap.size) Aa ca x.2) {N:Nat} (hl:Fit N l) (hN:N≤10000) (hx:x.2.length≤10000) :
 Calls Tryz.prog 18 #[.slice A l.length c,.agg #[.int .i64 x.1,.slice Aa x.2.length ca]] w fun e w'=>(∃ A' c' l',e=.returned (.slice A' (List.length l') c')∧RA w' (fun b=>b<w'.heap.size) A' c' l'∧Fit (N+1) l'∧l'=putOf l x)∧Below w.heap.size w w' :=
 (refPut_any _ A c l x Aa ca w hv ha (fun b hb=>hb) (by have:=hl.1;omega)).mono fun e w' ⟨A',c',cs,h1,h2,h3⟩=>⟨⟨A',c',_,h1,h2.ra.mono fun b hb=>hb.elim (fun h=>Nat.lt_of_lt_of_le h h3.size) (fun h=>h.2),hl.put hx,rfl⟩,h3⟩
theorem fill_t (P:Nat→Prop) (A Ab:Option Addr) (c nb cb:Nat) (l:Attrs) (class_ key:Int) (w:World) (hv:RA w P A c l) (hP:∀ b,P b→b<w.heap.size) (hl:Fit 100 l) (hw:together class_ key=true) :
 Calls Tryz.prog 82 #[.int .i64 1,.slice A l.length c,.slice Ab nb cb,.int .i64 class_,.int .i64 key] w fun e w'=>(∃ A' c' l',e=.returned (.slice A' (List.length l') c')∧RA w' (fun b=>b<w'.heap.size) A' c' l'∧Fit 1000 l'∧Full l l' class_ key)∧Below w.heap.size w w':=by
 have HV:=Lib.hid (hv.mono (P':=fun b=>b<w.heap.size) hP)
 have HW:=Lib.hid hw
 clear hv hP hw
 obtain ⟨b4,hb4⟩:∃ b,(class_==4)=b:=⟨_,rfl⟩
 obtain ⟨b3,hb3⟩:∃ b,(class_==3)=b:=⟨_,rfl⟩
 have Hb4:=Lib.hid hb4
 have Hb3:=Lib.hid hb3
 go_enter Tryz.func82,Tryz.ntmps82
 go_wp2
 clear hb4 hb3
 go_loopw [1,13] (fun s i wr=>∃ (k:Nat) (out:Attrs) (A1:Option Addr) (c1:Nat),k≤512∧i=.int .i64 k∧s=.slice A1 out.length c1∧RA wr (fun b=>b<wr.heap.size) A1 c1 out∧Fit (100+k) out∧Gr l out class_ key k∧Below w.heap.size w wr) (fun _ i _=>512 - (intOf i).toNat)
 case atStart=>exact ⟨0,l,A,c,by omega,rfl,rfl,HV.out,hl,Gr.start _ _ _,Below.refl _ _⟩
 case round =>
  obtain ⟨k,out,A1,c1,hk,rfl,rfl,hRA,hfit,hgr,hB⟩:=hrel
  have hs:=hB.size
  have HRA:=Lib.hid hRA
  have HFit:=Lib.hid hfit
  have HB:=Lib.hid hB
  have HGr:=Lib.hid hgr
  clear hRA hfit hB hgr
  by_cases hlt:k<512
  · have hlt':(k:Int)<512:=by omega
    have hg:=refGet_any _ A1 c1 out (k:Int) wr HRA.out
    obtain ⟨o,ho⟩:∃ o,(seek out (k:Int)).isSome=o:=⟨_,rfl⟩
    rw [ho] at hg
    have HG:=Lib.hid hg
    have hh:=refHas_any class_ key (k:Int) wr
    obtain ⟨hv,hhv⟩:∃ b,hasOf class_ key (k:Int)=b:=⟨_,rfl⟩
    rw [hhv] at hh
    have HH:=Lib.hid hh
    have HO:=Lib.hid (show came out (k:Int)=o from ho)
    have HHV:=Lib.hid hhv
    clear hg ho hh hhv
    go_wp2_with fail
    refine HG.out.mono ?_
    rintro e w1 ⟨A2,c2,rfl,-,rfl⟩
    cases o
    rotate_left
    · go_wp2
      go_roundw
      case rel=>exact ⟨k+1,out,A1,c1,by omega,by go_num,rfl,HRA.out,HFit.out.mono (by omega),HGr.out.skip (.inl HO.out),HB.out⟩
      case measure=>simp [intOf];omega
    go_wp2_with fail
    refine HH.out.mono ?_
    rintro e w2 ⟨rfl,hB2⟩
    have HB2:=Lib.hid (HB.out.trans (hB2.mono hs))
    have HR2:=Lib.hid (raUp2 HRA.out hB2)
    have hs2:=HB2.out.size
    clear hB2
    cases hv
    · go_wp2
      go_roundw
      case rel=>exact ⟨k+1,out,A1,c1,by omega,by go_num,rfl,HR2.out,HFit.out.mono (by omega),HGr.out.skip (.inr (.inl HHV.out)),HB2.out⟩
      case measure=>simp [intOf];omega
    have hf:=refForm_any (k:Int) w2
    obtain ⟨fo,hfo⟩:∃ y,formOf (k:Int)=y:=⟨_,rfl⟩
    rw [hfo] at hf
    have HF:=Lib.hid hf
    have HFO:=Lib.hid hfo
    clear hf hfo
    go_wp2_with fail
    refine HF.out.mono ?_
    rintro e w2' ⟨rfl,rfl⟩
    by_cases f1:fo=1
    · subst f1
      go_upto_region 10 with fail
      go_cut [16] from 48 to 79 (fun s16 wx=>(∃ d:Bool,s16=.bool d)∧wx=w2)
      case first =>
       cases h2:((k:Int)==2)
       · cases h368:((k:Int)==368)
         · cases h369:((k:Int)==369)
           · cases h259:((k:Int)==259)
             · cases h354:((k:Int)==354)
               · (go_wp2;go_meet;case rel=>exact ⟨⟨_,rfl⟩,rfl⟩)
               · cases b4
                 all_goals (go_wp2;go_meet;case rel=>exact ⟨⟨_,rfl⟩,rfl⟩)
             · cases b3
               · cases h354:((k:Int)==354)
                 · (go_wp2;go_meet;case rel=>exact ⟨⟨_,rfl⟩,rfl⟩)
                 · cases b4
                   all_goals (go_wp2;go_meet;case rel=>exact ⟨⟨_,rfl⟩,rfl⟩)
               · (go_wp2;go_meet;case rel=>exact ⟨⟨_,rfl⟩,rfl⟩)
           · (go_wp2;go_meet;case rel=>exact ⟨⟨_,rfl⟩,rfl⟩)
         · (go_wp2;go_meet;case rel=>exact ⟨⟨_,rfl⟩,rfl⟩)
       · cases b4
         · cases b3
           · cases h368:((k:Int)==368)
             · cases h369:((k:Int)==369)
               · cases h259:((k:Int)==259)
                 · cases h354:((k:Int)==354)
                   all_goals (go_wp2;go_meet;case rel=>exact ⟨⟨_,rfl⟩,rfl⟩)
                 · cases h354:((k:Int)==354)
                   all_goals (go_wp2;go_meet;case rel=>exact ⟨⟨_,rfl⟩,rfl⟩)
               · (go_wp2;go_meet;case rel=>exact ⟨⟨_,rfl⟩,rfl⟩)
             · (go_wp2;go_meet;case rel=>exact ⟨⟨_,rfl⟩,rfl⟩)
           · (go_wp2;go_meet;case rel=>exact ⟨⟨_,rfl⟩,rfl⟩)
         · (go_wp2;go_meet;case rel=>exact ⟨⟨_,rfl⟩,rfl⟩)
      case rest =>
       obtain ⟨⟨d,rfl⟩,rfl⟩:=hcut
       go_wp2_with fail
       refine (refBool_any (k:Int) d _).mono ?_
       rintro e w3 ⟨A3,c3,rfl,hr3,hB3⟩
       have HB3:=Lib.hid (HB2.out.trans (hB3.mono hs2))
       have HPu:=Lib.hid (putR w3 (raUp2 HR2.out hB3) (x:=((k:Int),[d.toNat])) (hr3.mono fun b hb=>hb.2) HFit.out (by omega) (by simp))
       clear hr3 hB3
       go_wp2_with fail
       refine HPu.out.mono ?_
       rintro e w4 ⟨⟨A4,c4,l4,rfl,hr4,hf4,e4⟩,hB4⟩
       have HG4:=Lib.hid (show Gr l l4 class_ key (k+1) by rw [e4];exact HGr.out.put HHV.out (.inl HFO.out) _)
       clear e4
       have HR4:=Lib.hid hr4
       have HF4:=Lib.hid hf4
       have HB4:=Lib.hid (HB3.out.trans (hB4.mono HB3.out.size))
       clear hr4 hf4 hB4
       go_wp2
       go_roundw
       case rel=>exact ⟨k+1,l4,A4,c4,by omega,by go_num,rfl,HR4.out,HF4.out,HG4.out,HB4.out⟩
       case measure=>simp [intOf];omega
    have F1:=Lib.hid f1
    have f1':(fo==1)=false:=by simpa using f1
    by_cases f3:fo=3
    · subst f3
      have HPu:=Lib.hid (putR w2 HR2.out (x:=((k:Int),[])) (RB.nil_ w2 _) HFit.out (by omega) (by simp))
      go_wp2_with fail
      refine HPu.out.mono ?_
      rintro e w4 ⟨⟨A4,c4,l4,rfl,hr4,hf4,e4⟩,hB4⟩
      have HG4:=Lib.hid (show Gr l l4 class_ key (k+1) by rw [e4];exact HGr.out.put HHV.out (.inr HFO.out) _)
      clear e4
      have HR4:=Lib.hid hr4
      have HF4:=Lib.hid hf4
      have HB4:=Lib.hid (HB2.out.trans (hB4.mono hs2))
      clear hr4 hf4 hB4
      go_wp2
      go_roundw
      case rel=>exact ⟨k+1,l4,A4,c4,by omega,by go_num,rfl,HR4.out,HF4.out,HG4.out,HB4.out⟩
      case measure=>simp [intOf];omega
    have F3:=Lib.hid f3
    have f3':(fo==3)=false:=by simpa using f3
    go_wp2
    go_roundw
    case rel=>exact ⟨k+1,out,A1,c1,by omega,by go_num,rfl,HR2.out,HFit.out.mono (by omega),HGr.out.skip (.inr (.inr ⟨by rw [HFO.out];exact F1.out,by rw [HFO.out];exact F3.out⟩)),HB2.out⟩
    case measure=>simp [intOf];omega
  · obtain rfl:k=512:=by omega
    clear hlt
    by_cases h0:class_=0
    · subst h0
      go_wp2
      go_ret
      exact ⟨⟨A1,c1,out,rfl,HRA.out,HFit.out.mono (by omega),HGr.out,fun h=>absurd h (by decide),fun h=>absurd h (by decide)⟩,HB.out⟩
    have H0:=Lib.hid h0
    have h0':(class_==0)=false:=by simpa using h0
    by_cases h4:class_=4
    · subst h4
      obtain rfl:true=b4:=by have:=Hb4.out;simpa using this
      go_wp2_with fail
      refine (refBool_any 355 false wr).mono ?_
      rintro e v1 ⟨Aa1,ca1,rfl,hra1,hBa1⟩
      have HBa1:=Lib.hid (HB.out.trans (hBa1.mono HB.out.size))
      have HPu1:=Lib.hid (putR v1 (raUp2 HRA.out hBa1) (x:=(355,[false.toNat])) (hra1.mono fun b hb=>hb.2) HFit.out (by omega) (by first | (simp;done) | (show (num4 _).length≤_;rw [num4_length7];omega)))
      clear hra1 hBa1
      go_wp2_with fail
      refine HPu1.out.mono ?_
      rintro e w1 ⟨⟨A1,c1,l1,rfl,hr1,hf1,e1⟩,hB1⟩
      have E1:=Lib.hid e1
      have HR1:=Lib.hid hr1
      have HF1:=Lib.hid hf1
      have HB1:=Lib.hid (HBa1.out.trans (hB1.mono HBa1.out.size))
      clear hr1 hf1 hB1 e1
      have hg:=refGet_any _ A1 c1 l1 17 w1 HR1.out
      obtain ⟨v,hvv⟩:∃ v,(seek l1 17).getD []=v:=⟨_,rfl⟩
      obtain ⟨bs,hbs⟩:∃ b,(seek l1 17).isSome=b:=⟨_,rfl⟩
      rw [hvv,hbs] at hg
      have HG:=Lib.hid hg
      clear hg hvv hbs
      go_wp2_with fail
      refine HG.out.mono ?_
      rintro e wg ⟨Ag,cg,rfl,-,rfl⟩
      go_wp2_with fail
      refine (refNum_any 353 (v.length:Int) w1).mono ?_
      rintro e v2 ⟨Aa2,ca2,rfl,hra2,hBa2⟩
      have HBa2:=Lib.hid (HB1.out.trans (hBa2.mono HB1.out.size))
      have HPu2:=Lib.hid (putR v2 (raUp2 HR1.out hBa2) (x:=(353,num4 (v.length:Int))) (hra2.mono fun b hb=>hb.2) HF1.out (by omega) (by first | (simp;done) | (show (num4 _).length≤_;rw [num4_length7];omega)))
      clear hra2 hBa2
      go_wp2_with fail
      refine HPu2.out.mono ?_
      rintro e w2 ⟨⟨A2,c2,l2,rfl,hr2,hf2,e2⟩,hB2⟩
      have E2:=Lib.hid e2
      have HR2:=Lib.hid hr2
      have HF2:=Lib.hid hf2
      have HB2:=Lib.hid (HBa2.out.trans (hB2.mono HBa2.out.size))
      clear hr2 hf2 hB2 e2
      go_wp2_with fail
      refine (refFlag_any _ A2 c2 l2 259 w2 HR2.out).mono ?_
      rintro e wf ⟨rfl,rfl⟩
      go_wp2_with fail
      refine (refFlag_any _ A2 c2 l2 354 w2 HR2.out).mono ?_
      rintro e wf ⟨rfl,rfl⟩
      go_wp2_with fail
      refine (refBool_any 357 false w2).mono ?_
      rintro e v3 ⟨Aa3,ca3,rfl,hra3,hBa3⟩
      have HBa3:=Lib.hid (HB2.out.trans (hBa3.mono HB2.out.size))
      have HPu3:=Lib.hid (putR v3 (raUp2 HR2.out hBa3) (x:=(357,[false.toNat])) (hra3.mono fun b hb=>hb.2) HF2.out (by omega) (by first | (simp;done) | (show (num4 _).length≤_;rw [num4_length7];omega)))
      clear hra3 hBa3
      go_wp2_with fail
      refine HPu3.out.mono ?_
      rintro e w3 ⟨⟨A3,c3,l3,rfl,hr3,hf3,e3⟩,hB3⟩
      have E3:=Lib.hid e3
      have HR3:=Lib.hid hr3
      have HF3:=Lib.hid hf3
      have HB3:=Lib.hid (HBa3.out.trans (hB3.mono HBa3.out.size))
      clear hr3 hf3 hB3 e3
      go_wp2_with fail
      refine (refBool_any 356 false w3).mono ?_
      rintro e v4 ⟨Aa4,ca4,rfl,hra4,hBa4⟩
      have HBa4:=Lib.hid (HB3.out.trans (hBa4.mono HB3.out.size))
      have HPu4:=Lib.hid (putR v4 (raUp2 HR3.out hBa4) (x:=(356,[false.toNat])) (hra4.mono fun b hb=>hb.2) HF3.out (by omega) (by first | (simp;done) | (show (num4 _).length≤_;rw [num4_length7];omega)))
      clear hra4 hBa4
      go_wp2_with fail
      refine HPu4.out.mono ?_
      rintro e w4 ⟨⟨A4,c4,l4,rfl,hr4,hf4,e4⟩,hB4⟩
      have E4:=Lib.hid e4
      have HR4:=Lib.hid hr4
      have HF4:=Lib.hid hf4
      have HB4:=Lib.hid (HBa4.out.trans (hB4.mono HBa4.out.size))
      clear hr4 hf4 hB4 e4
      go_wp2
      go_ret
      exact ⟨⟨A4,c4,l4,rfl,HR4.out,HF4.out.mono (by omega),by rw [E4.out,E3.out,E2.out,E1.out];exact (((HGr.out.put' (has_355 HW.out (by decide)) (by decide) (by decide) _).put' (has_353 HW.out).1 (by decide) (by decide) _).put' (has_353 HW.out).2.1 (by decide) (by decide) _).put' (has_353 HW.out).2.2 (by decide) (by decide) _,fun _=>by rw [E4.out,E3.out,E2.out];simp [came_put],fun h=>absurd h (by decide)⟩,HB4.out⟩
    have H4:=Lib.hid h4
    have h4':(class_==4)=false:=by simpa using h4
    obtain rfl:false=b4:=by have:=Hb4.out;rw [h4'] at this;exact this
    by_cases h2:class_=2
    · subst h2
      by_cases hk0:key=0
      · subst hk0
        go_wp2_with fail
        refine (refBool_any 355 false wr).mono ?_
        rintro e v1 ⟨Aa1,ca1,rfl,hra1,hBa1⟩
        have HBa1:=Lib.hid (HB.out.trans (hBa1.mono HB.out.size))
        have HPu1:=Lib.hid (putR v1 (raUp2 HRA.out hBa1) (x:=(355,[false.toNat])) (hra1.mono fun b hb=>hb.2) HFit.out (by omega) (by first | (simp;done) | (show (num4 _).length≤_;rw [num4_length7];omega)))
        clear hra1 hBa1
        go_wp2_with fail
        refine HPu1.out.mono ?_
        rintro e w1 ⟨⟨A1,c1,l1,rfl,hr1,hf1,e1⟩,hB1⟩
        have E1:=Lib.hid e1
        have HR1:=Lib.hid hr1
        have HF1:=Lib.hid hf1
        have HB1:=Lib.hid (HBa1.out.trans (hB1.mono HBa1.out.size))
        clear hr1 hf1 hB1 e1
        obtain ⟨vn,hvn⟩:∃ v,(seek l1 288).getD []=v:=⟨_,rfl⟩
        have hn:=refNat_any _ A1 c1 l1 288 vn w1 HR1.out (fun b hb=>hb) hvn (by rw [←hvn];exact seek_short2 HF1.out.2 288)
        have HN:=Lib.hid hn
        clear hn hvn
        go_wp2_with fail
        refine HN.out.mono ?_
        rintro e wn ⟨An,cn,rfl,hrn,-,hBn⟩
        have HBn:=Lib.hid (HB1.out.trans (hBn.mono HB1.out.size))
        have HRn:=Lib.hid (raUp2 HR1.out hBn)
        have HBi:=Lib.hid (refBits_any _ An cn (numOf vn) wn hrn)
        clear hrn hBn
        go_wp2_with fail
        refine HBi.out.mono ?_
        rintro e wn' ⟨rfl,rfl⟩
        go_wp2_with fail
        refine (refNum_any 289 (nbits (numOf vn):Int) wn).mono ?_
        rintro e v2 ⟨Aa2,ca2,rfl,hra2,hBa2⟩
        have HBa2:=Lib.hid (HBn.out.trans (hBa2.mono HBn.out.size))
        have HPu2:=Lib.hid (putR v2 (raUp2 HRn.out hBa2) (x:=(289,num4 (nbits (numOf vn):Int))) (hra2.mono fun b hb=>hb.2) HF1.out (by omega) (by first | (simp;done) | (show (num4 _).length≤_;rw [num4_length7];omega)))
        clear hra2 hBa2
        go_wp2_with fail
        refine HPu2.out.mono ?_
        rintro e w2 ⟨⟨A2,c2,l2,rfl,hr2,hf2,e2⟩,hB2⟩
        have E2:=Lib.hid e2
        have HR2:=Lib.hid hr2
        have HF2:=Lib.hid hf2
        have HB2:=Lib.hid (HBa2.out.trans (hB2.mono HBa2.out.size))
        clear hr2 hf2 hB2 e2
        go_wp2
        go_ret
        exact ⟨⟨A2,c2,l2,rfl,HR2.out,HF2.out.mono (by omega),by rw [E2.out,E1.out];exact (HGr.out.put' (has_355 HW.out (by decide)) (by decide) (by decide) _).put' (by decide) (by decide) (by decide) _,fun h=>absurd h (by decide),fun _ _=>by rw [E2.out];simp [came_put]⟩,HB2.out⟩
      · have Hk0:=Lib.hid hk0
        have hk0':(key==0)=false:=by simpa using hk0
        go_wp2_with fail
        refine (refBool_any 355 false wr).mono ?_
        rintro e v1 ⟨Aa1,ca1,rfl,hra1,hBa1⟩
        have HBa1:=Lib.hid (HB.out.trans (hBa1.mono HB.out.size))
        have HPu1:=Lib.hid (putR v1 (raUp2 HRA.out hBa1) (x:=(355,[false.toNat])) (hra1.mono fun b hb=>hb.2) HFit.out (by omega) (by first | (simp;done) | (show (num4 _).length≤_;rw [num4_length7];omega)))
        clear hra1 hBa1
        go_wp2_with fail
        refine HPu1.out.mono ?_
        rintro e w1 ⟨⟨A1,c1,l1,rfl,hr1,hf1,e1⟩,hB1⟩
        have E1:=Lib.hid e1
        have HR1:=Lib.hid hr1
        have HF1:=Lib.hid hf1
        have HB1:=Lib.hid (HBa1.out.trans (hB1.mono HBa1.out.size))
        clear hr1 hf1 hB1 e1
        go_wp2
        go_ret
        exact ⟨⟨A1,c1,l1,rfl,HR1.out,HF1.out.mono (by omega),by rw [E1.out];exact HGr.out.put' (has_355 HW.out (by decide)) (by decide) (by decide) _,fun h=>absurd h (by decide),fun _ h=>absurd h Hk0.out⟩,HB1.out⟩
    have H2:=Lib.hid h2
    have h2':(class_==2)=false:=by simpa using h2
    go_wp2_with fail
    refine (refBool_any 355 false wr).mono ?_
    rintro e v1 ⟨Aa1,ca1,rfl,hra1,hBa1⟩
    have HBa1:=Lib.hid (HB.out.trans (hBa1.mono HB.out.size))
    have HPu1:=Lib.hid (putR v1 (raUp2 HRA.out hBa1) (x:=(355,[false.toNat])) (hra1.mono fun b hb=>hb.2) HFit.out (by omega) (by first | (simp;done) | (show (num4 _).length≤_;rw [num4_length7];omega)))
    clear hra1 hBa1
    go_wp2_with fail
    refine HPu1.out.mono ?_
    rintro e w1 ⟨⟨A1,c1,l1,rfl,hr1,hf1,e1⟩,hB1⟩
    have E1:=Lib.hid e1
    have HR1:=Lib.hid hr1
    have HF1:=Lib.hid hf1
    have HB1:=Lib.hid (HBa1.out.trans (hB1.mono HBa1.out.size))
    clear hr1 hf1 hB1 e1
    go_wp2_with fail
    refine (refFlag_any _ A1 c1 l1 259 w1 HR1.out).mono ?_
    rintro e wf ⟨rfl,rfl⟩
    go_wp2_with fail
    refine (refFlag_any _ A1 c1 l1 354 w1 HR1.out).mono ?_
    rintro e wf ⟨rfl,rfl⟩
    go_wp2_with fail
    refine (refBool_any 357 false w1).mono ?_
    rintro e v2 ⟨Aa2,ca2,rfl,hra2,hBa2⟩
    have HBa2:=Lib.hid (HB1.out.trans (hBa2.mono HB1.out.size))
    have HPu2:=Lib.hid (putR v2 (raUp2 HR1.out hBa2) (x:=(357,[false.toNat])) (hra2.mono fun b hb=>hb.2) HF1.out (by omega) (by first | (simp;done) | (show (num4 _).length≤_;rw [num4_length7];omega)))
    clear hra2 hBa2
    go_wp2_with fail
    refine HPu2.out.mono ?_
    rintro e w2 ⟨⟨A2,c2,l2,rfl,hr2,hf2,e2⟩,hB2⟩
    have E2:=Lib.hid e2
    have HR2:=Lib.hid hr2
    have HF2:=Lib.hid hf2
    have HB2:=Lib.hid (HBa2.out.trans (hB2.mono HBa2.out.size))
    clear hr2 hf2 hB2 e2
    go_wp2_with fail
    refine (refBool_any 356 false w2).mono ?_
    rintro e v3 ⟨Aa3,ca3,rfl,hra3,hBa3⟩
    have HBa3:=Lib.hid (HB2.out.trans (hBa3.mono HB2.out.size))
    have HPu3:=Lib.hid (putR v3 (raUp2 HR2.out hBa3) (x:=(356,[false.toNat])) (hra3.mono fun b hb=>hb.2) HF2.out (by omega) (by first | (simp;done) | (show (num4 _).length≤_;rw [num4_length7];omega)))
    clear hra3 hBa3
    go_wp2_with fail
    refine HPu3.out.mono ?_
    rintro e w3 ⟨⟨A3,c3,l3,rfl,hr3,hf3,e3⟩,hB3⟩
    have E3:=Lib.hid e3
    have HR3:=Lib.hid hr3
    have HF3:=Lib.hid hf3
    have HB3:=Lib.hid (HBa3.out.trans (hB3.mono HBa3.out.size))
    clear hr3 hf3 hB3 e3
    go_wp2
    go_ret
    have h3:class_=3:=by rcases tog_cases HW.out with h | ⟨h,-⟩ | ⟨h,-⟩ | ⟨h,-⟩ <;> first | exact h | exact absurd h (by first | exact H4.out | exact H2.out | exact H0.out)
    have hw3:=HW.out
    rw [h3] at hw3
    exact ⟨⟨A3,c3,l3,rfl,HR3.out,HF3.out.mono (by omega),by rw [E3.out,E2.out,E1.out,h3];exact (((h3▸HGr.out:Gr l out 3 key 512).put' (has_355 hw3 (by decide)) (by decide) (by decide) _).put' (has_3 hw3).1 (by decide) (by decide) _).put' (has_3 hw3).2 (by decide) (by decide) _,fun h=>absurd h H4.out,fun h=>absurd h H2.out⟩,HB3.out⟩
end Go.Proofs.YtendnkpiidhogaaGreat.At

namespace Go.Proofs.YtendnkpiidhogaaGreat.At
open Go.RowKit Go.Shelf
attribute [local go_sem] Oper.semAt_some
theorem gD {α:Type} (l:List α) (d:α) {i:Nat} (h:i<l.length):l.getD i d=l[i]:=by simp [List.getD_eq_getElem?_getD,List.getElem?_eq_getElem h]
def Un (l:Attrs) (k:Nat):Prop:=∀ a b,a<k→b<a→(l.getD b (0,[])).1≠(l.getD a (0,[])).1
def Un2 (l:Attrs) (k j:Nat):Prop:=∀ b,b<j→(l.getD b (0,[])).1≠(l.getD k (0,[])).1
theorem Un.zero (l:Attrs):Un l 0:=fun a b h=>by omega
theorem Un2.zero (l:Attrs) (k:Nat):Un2 l k 0:=fun b h=>by omega
theorem Un.step {l:Attrs} {k:Nat} (h:Un l k) (h2:Un2 l k k):Un l (k+1):=fun a b ha hb=>by
 by_cases e:a=k
 · subst e;exact h2 b hb
 · exact h a b (by omega) hb
theorem Un2.step {l:Attrs} {k j:Nat} (h:Un2 l k j) {hj:j<l.length} {hk:k<l.length} {t t':Int} (e:l[k].1=t) (e':l[j].1=t') (hn:t'≠t):Un2 l k (j+1):=fun b hb=>by
 by_cases eb:b=j
 · subst eb
   rw [gD _ _ hj,gD _ _ hk,e,e'];exact hn
 · exact h b (by omega)
theorem once_t (P:Nat→Prop) (A:Option Addr) (c:Nat) (l:Attrs) (w:World) (hv:RA w P A c l) (hP:∀ b,P b→b<w.heap.size) :
 Calls Tryz.prog 115 #[.slice A l.length c] w fun e w'=>(∃ rv:Int,e=.returned (.int .i64 rv)∧(rv=0→Un l l.length))∧Below w.heap.size w w':=by
 obtain ⟨hlc,hc⟩:=hv.cap
 go_enter Tryz.func115,Tryz.ntmps115
 go_wp2
 go_loopw [3] (fun i wr=>∃ k:Nat,k≤l.length∧i=.int .i64 k∧Below w.heap.size w wr) (fun i _=>l.length - (intOf i).toNat)
 case atStart=>exact ⟨0,Nat.zero_le _,rfl,Below.refl _ _⟩
 case round =>
  obtain ⟨k,hk,rfl,hB⟩:=hrel
  by_cases hlt:k<l.length
  · obtain ⟨ad,Au,cu,rfl,hb,hc1,hc2,hu⟩:=(hv.below hB hP).at_ hlt
    obtain ⟨t,ht⟩:∃ t,l[k].1=t:=⟨_,rfl⟩
    rw [ht] at hc1
    obtain ⟨fo,hfo⟩:∃ y,formOf t=y:=⟨_,rfl⟩
    have hF:=refForm_any t wr
    rw [hfo] at hF
    have HF:=Lib.hid hF
    clear hF hfo ht
    go_wp2_with fail
    refine HF.out.mono ?_
    rintro e w1 ⟨rfl,rfl⟩
    by_cases h0:fo=0
    · subst h0
      go_wp2
      go_ret
      exact ⟨⟨18,rfl,fun h=>absurd h (by decide)⟩,hB⟩
    · have h0':(fo==0)=false:=by simpa using h0
      go_wp2
      go_roundw
      case rel=>exact ⟨k+1,by omega,by go_num,hB⟩
      case measure=>simp [intOf];omega
  · obtain rfl:k=l.length:=by omega
    clear hlt hk
    go_wp2
    go_loopw [4] (fun i wr=>∃ k:Nat,k≤l.length∧i=.int .i64 k∧Un l k∧Below w.heap.size w wr) (fun i _=>l.length - (intOf i).toNat)
    case atStart=>exact ⟨0,Nat.zero_le _,rfl,Un.zero _,hB⟩
    case round =>
     clear hB
     obtain ⟨k,hk,rfl,hun,hB⟩:=hrel
     have HUn:=Lib.hid hun
     clear hun
     by_cases hlt:k<l.length
     · go_wp2
       go_loopw [5] (fun i wr=>∃ j:Nat,j≤k∧i=.int .i64 j∧Un2 l k j∧Below w.heap.size w wr) (fun i _=>k - (intOf i).toNat)
       case atStart=>exact ⟨0,Nat.zero_le _,rfl,Un2.zero _ _,hB⟩
       case round =>
        clear hB
        obtain ⟨j,hj,rfl,hun2,hB⟩:=hrel
        have HUn2:=Lib.hid hun2
        clear hun2
        by_cases hlt2:j<k
        · have hvr:=hv.below hB hP
          obtain ⟨ad,Au,cu,rfl,hb,hc1,hc2,hu⟩:=hvr.at_ hlt
          obtain ⟨ad',Au',cu',ead,hb',hc1',hc2',hu'⟩:=hvr.at_ (i:=j) (by omega)
          injection ead with ead
          subst ead
          obtain ⟨t,ht⟩:∃ t,l[k].1=t:=⟨_,rfl⟩
          obtain ⟨t',ht'⟩:∃ t,(l[j]'(by omega)).1=t:=⟨_,rfl⟩
          rw [ht] at hc1
          rw [ht'] at hc1'
          have q1:(j:Int)<(l.length:Int):=by omega
          have q2:(k:Int)<(l.length:Int):=by omega
          have q3:j<l.length:=by omega
          have Ht:=Lib.hid ht
          have Ht':=Lib.hid ht'
          clear ht ht' hvr
          by_cases h0:t'=t
          · subst h0
            go_wp2
            go_quiet (fail)
            go_wp2
            go_ret
            exact ⟨⟨209,rfl,fun h=>absurd h (by decide)⟩,below_drewN hB _⟩
          · have HUn3:=Lib.hid (HUn2.out.step Ht.out Ht'.out h0)
            have h0':(t'==t)=false:=by simpa using h0
            go_wp2
            go_quiet (fail)
            go_wp2
            go_roundw
            case rel=>exact ⟨j+1,by omega,by go_num,HUn3.out,below_drewN hB _⟩
            case measure=>simp [intOf];omega
        · obtain rfl:j=k:=by omega
          go_wp2
          go_roundw
          case rel=>exact ⟨j+1,by omega,by go_num,HUn.out.step HUn2.out,hB⟩
          case measure=>simp [intOf];omega
     · obtain rfl:k=l.length:=by omega
       clear hlt hk
       go_wp2
       go_loopw [6] (fun i wr=>∃ k:Nat,k≤l.length∧i=.int .i64 k∧Below w.heap.size w wr) (fun i _=>l.length - (intOf i).toNat)
       case atStart=>exact ⟨0,Nat.zero_le _,rfl,hB⟩
       case round =>
        clear hB
        obtain ⟨k,hk,rfl,hB⟩:=hrel
        by_cases hlt:k<l.length
        · obtain ⟨ad,Au,cu,rfl,hb,hc1,hc2,hu⟩:=(hv.below hB hP).at_ hlt
          obtain ⟨x,hx⟩:∃ x,l[k]=x:=⟨_,rfl⟩
          rw [hx] at hc1 hc2 hu
          have hs:=hB.size
          have hf:=refFine_any P x Au cu wr hu (fun b hb=>Nat.lt_of_lt_of_le (hP b hb) hs)
          obtain ⟨b,hb'⟩:∃ b,fineOf x=b:=⟨_,rfl⟩
          rw [hb'] at hf
          have HF:=Lib.hid hf
          clear hf hx hb'
          go_wp2_with fail
          refine HF.out.mono ?_
          rintro e w1 ⟨rfl,hB1⟩
          have HB:=Lib.hid (hB.trans (hB1.mono hs))
          cases b
          · go_wp2
            go_ret
            exact ⟨⟨19,rfl,fun h=>absurd h (by decide)⟩,HB.out⟩
          · go_wp2
            go_roundw
            case rel=>exact ⟨k+1,by omega,by go_num,HB.out⟩
            case measure=>simp [intOf];omega
        · obtain rfl:k=l.length:=by omega
          go_wp2
          go_ret
          exact ⟨⟨0,rfl,fun _=>HUn.out⟩,hB⟩
end Go.Proofs.YtendnkpiidhogaaGreat.At

namespace Go.Proofs.YtendnkpiidhogaaGreat.At
open Go.RowKit Go.Shelf
theorem refKinds_any (P:Nat→Prop) (A:Option Addr) (c:Nat) (l:Attrs) (class_ key:Int) (w:World) (hv:RA w P A c l) (_hP:∀ b,P b→b<w.heap.size) :
 Calls Tryz.prog 80 #[.slice A l.length c,.int .i64 class_,.int .i64 key] w fun e w'=>e=.returned (.tuple #[.int .i64 (kindsOf l class_ key).1,.int .i64 (kindsOf l class_ key).2.1,.int .i64 (kindsOf l class_ key).2.2])∧Below w.heap.size w w':=by
 rw [kinds_eq]
 obtain ⟨b1,hb1⟩:∃ b,came l 0=b:=⟨_,rfl⟩
 obtain ⟨b2,hb2⟩:∃ b,came l 256=b:=⟨_,rfl⟩
 obtain ⟨o1,ho1⟩:∃ o,intOf' l 0=o:=⟨_,rfl⟩
 obtain ⟨o2,ho2⟩:∃ o,intOf' l 256=o:=⟨_,rfl⟩
 rw [hb1,hb2,ho1,ho2]
 have g1:=refGet_any P A c l 0
 have g2:=refGet_any P A c l 256
 have i1:=refInt_any P A c l 0
 have i2:=refInt_any P A c l 256
 rw [show (seek l 0).isSome=b1 from hb1] at g1
 rw [show (seek l 256).isSome=b2 from hb2] at g2
 rw [ho1] at i1
 rw [ho2] at i2
 have G1:=Lib.hid g1
 have G2:=Lib.hid g2
 have I1:=Lib.hid i1
 have I2:=Lib.hid i2
 clear hb1 hb2 ho1 ho2 g1 g2 i1 i2
 go_enter Tryz.func80,Tryz.ntmps80
 go_wp2_with fail
 refine (I1.out w hv).mono ?_
 rintro e w1 ⟨rfl,m1,rfl⟩
 have hv1:RA (w.drewN m1) P A c l:=hv.keep fun _ _=>rfl
 go_wp2_with fail
 refine (I2.out _ hv1).mono ?_
 rintro e w2 ⟨rfl,m2,rfl⟩
 have hv2:RA (w.drewN (m1+m2)) P A c l:=hv.keep fun _ _=>rfl
 go_wp2_with fail
 refine (G1.out _ hv2).mono ?_
 rintro e w3 ⟨A1,c1,rfl,-,rfl⟩
 go_wp2_with fail
 refine (G2.out _ hv2).mono ?_
 rintro e w4 ⟨A2,c2,rfl,-,rfl⟩
 have hB:Below w.heap.size w (w.drewN (m1+m2)):=below_drewN (Below.refl _ w) _
 generalize w.drewN (m1+m2)=w4 at *
 have HB:Hid (Below w.heap.size w w4):=Lib.hid hB
 clear hv hv1 hv2 _hP hB
 clear G1 G2 I1 I2
 by_cases hcl:class_=-1
 · subst hcl
   cases b1 <;> cases b2 <;> rcases o1 with _ | n1 <;> rcases o2 with _ | n2
   all_goals go_wp2_with fail
   all_goals first | (go_ret3;exact ⟨ret_3 (by simp_all [kindsF]),HB.out⟩) | (refine (refTogether_any _ _ w4).mono ?_;rintro e w5 ⟨rfl,rfl⟩;go_wp2;all_goals (go_ret3;exact ⟨ret_3 (by simp_all [kindsF]),HB.out⟩))
 · have hcl':(class_==-1)=false:=by simpa using hcl
   by_cases h0:class_=0
   · subst h0
     cases b1 <;> cases b2 <;> rcases o1 with _ | n1 <;> rcases o2 with _ | n2
     all_goals go_wp2_with fail
     all_goals first | (go_ret3;exact ⟨ret_3 (by simp_all [kindsF]),HB.out⟩) | (refine (refTogether_any _ _ w4).mono ?_;rintro e w5 ⟨rfl,rfl⟩;go_wp2;all_goals (go_ret3;exact ⟨ret_3 (by simp_all [kindsF]),HB.out⟩))
   · have h0':(class_==0)=false:=by simpa using h0
     cases b1 <;> cases b2 <;> rcases o1 with _ | n1 <;> rcases o2 with _ | n2
     all_goals go_wp2_with fail
     all_goals first | (go_ret3;exact ⟨ret_3 (by simp_all [kindsF]),HB.out⟩) | (refine (refTogether_any _ _ w4).mono ?_;rintro e w5 ⟨rfl,rfl⟩;go_wp2;all_goals (go_ret3;exact ⟨ret_3 (by simp_all [kindsF]),HB.out⟩))
end Go.Proofs.YtendnkpiidhogaaGreat.At

namespace Go.Proofs.YtendnkpiidhogaaGreat.At
open Go.RowKit Go.Shelf
attribute [local go_sem] Oper.semAt_some
theorem among_lit (w:World) (cs:Array Value) (l:List Int) (n:Nat) (t:Int) (h:cs.toList=its l) (hn:l.length=n) (hs:n≤1000) :
 Calls Tryz.prog 39 #[.int .i64 t,.slice (some ⟨w.heap.size,0,none⟩) n n] (w.alloc (.cells cs 3)) fun e w'=>(∃ b:Bool,e=.returned (.bool b))∧Below w.heap.size w w':=by
 have hr:=RI.fresh (P:=fun _=>True) w cs 3 l n h hn hs trivial
 subst hn
 exact (among_any _ _ _ l t _ hr).mono fun e w' ⟨h1,d,h2⟩=>⟨⟨_,h1⟩,by rw [h2];exact below_drewN ((Below.refl _ w).alloc (Nat.le_refl _) _) _⟩
theorem barred_t (how class_ t:Int) (w:World) :
 Calls Tryz.prog 116 #[.int .i64 how,.int .i64 class_,.int .i64 t] w fun e w'=>(∃ b:Bool,e=.returned (.bool b))∧Below w.heap.size w w':=by
 go_enter Tryz.func116,Tryz.ntmps116
 go_wp2_with fail
 refine (among_lit w _ [355,356,357] 3 t rfl rfl (by omega)).mono ?_
 rintro e w1 ⟨⟨b1,rfl⟩,hB1⟩
 have hs1:=hB1.size
 have HB1:=Lib.hid hB1
 clear hB1
 cases b1
 rotate_left
 · go_wp2
   go_ret
   exact ⟨⟨_,rfl⟩,HB1.out⟩
 by_cases h1:how=1
 · subst h1
   go_wp2_with fail
   refine (among_lit w1 _ [353,289] 2 t rfl rfl (by omega)).mono ?_
   rintro e w2 ⟨⟨b2,rfl⟩,hB2⟩
   go_wp2
   go_ret
   exact ⟨⟨_,rfl⟩,HB1.out.trans (hB2.mono hs1)⟩
 have h1':(how==1)=false:=by simpa using h1
 by_cases h34:how=3∨how=4
 · rcases h34 with rfl | rfl
   all_goals
    go_wp2_with fail
    refine (among_lit w1 _ [17,291,292,293,288,290,384] 7 t rfl rfl (by omega)).mono ?_
    rintro e w2 ⟨⟨b2,rfl⟩,hB2⟩
    have HB2:=Lib.hid (HB1.out.trans (hB2.mono hs1))
    clear hB2
    cases b2
    all_goals
     go_wp2
     all_goals (go_ret;exact ⟨⟨_,rfl⟩,HB2.out⟩)
 have h3':(how==3)=false:=by simp;omega
 have h4':(how==4)=false:=by simp;omega
 by_cases h2:how=2
 · subst h2
   go_wp2_with fail
   refine (among_lit w1 _ [17,291,292,293,288,385] 6 t rfl rfl (by omega)).mono ?_
   rintro e w2 ⟨⟨b2,rfl⟩,hB2⟩
   have HB2:=Lib.hid (HB1.out.trans (hB2.mono hs1))
   have hs2:=HB2.out.size
   clear hB2
   cases b2
   rotate_left
   · go_wp2
     go_ret
     exact ⟨⟨_,rfl⟩,HB2.out⟩
   by_cases h3:class_=3
   · subst h3
     go_wp2_with fail
     refine (among_lit w2 _ [290,384] 2 t rfl rfl (by omega)).mono ?_
     rintro e w3 ⟨⟨b3,rfl⟩,hB3⟩
     go_wp2
     go_ret
     exact ⟨⟨_,rfl⟩,HB2.out.trans (hB3.mono hs2)⟩
   · have hc3:(class_==3)=false:=by simpa using h3
     go_wp2
     go_ret
     exact ⟨⟨_,rfl⟩,HB2.out⟩
 · have h2':(how==2)=false:=by simpa using h2
   clear h1 h34 h2
   go_wp2
   go_ret
   exact ⟨⟨_,rfl⟩,HB1.out⟩
theorem refCheck_t (P:Nat→Prop) (A:Option Addr) (c:Nat) (l:Attrs) (how class_ key:Int) (w:World) (hv:RA w P A c l) (hP:∀ b,P b→b<w.heap.size) :
 Calls Tryz.prog 79 #[.int .i64 how,.slice A l.length c,.int .i64 class_,.int .i64 key] w fun e w'=>(∃ rv:Int,e=.returned (.int .i64 rv)∧(rv=0→(kindsOf l class_ key).2.2=0∧Un l l.length∧∀ x∈l,hasOf (kindsOf l class_ key).1 (kindsOf l class_ key).2.1 x.1=true))∧Below w.heap.size w w':=by
 obtain ⟨hlc,hc⟩:=hv.cap
 by_cases h1:how<1
 · go_enter Tryz.func79,Tryz.ntmps79
   go_wp2
   go_ret
   exact ⟨⟨7,rfl,fun h=>by cases h⟩,Below.refl _ _⟩
 by_cases h4:4<how
 · go_enter Tryz.func79,Tryz.ntmps79
   go_wp2
   go_ret
   exact ⟨⟨7,rfl,fun h=>by cases h⟩,Below.refl _ _⟩
 have K:=refKinds_any P A c l class_ key
 obtain ⟨p,hp⟩:∃ p,kindsOf l class_ key=p:=⟨_,rfl⟩
 obtain ⟨kc,kk,kr⟩:=p
 rw [hp] at K ⊢
 have HK:=Lib.hid K
 clear hp K
 go_enter Tryz.func79,Tryz.ntmps79
 go_wp2_with fail
 refine (once_t P A c l w hv hP).mono ?_
 rintro e w1 ⟨⟨fo,rfl,hun⟩,hB1⟩
 have HUn:=Lib.hid hun
 clear hun
 have hs1:=hB1.size
 by_cases h0:fo=0
 case neg =>
  have h0':(fo==0)=false:=by simpa using h0
  have H0:=Lib.hid h0
  clear h0
  go_wp2
  go_ret
  exact ⟨⟨fo,rfl,fun h=>(H0.out h).elim⟩,hB1⟩
 subst h0
 go_wp2_with fail
 refine (HK.out w1 (hv.below hB1 hP) (fun b hb=>Nat.lt_of_lt_of_le (hP b hb) hs1)).mono ?_
 rintro e w2 ⟨rfl,hB2⟩
 have hB:=hB1.trans (hB2.mono hs1)
 by_cases hk:kr=0
 case neg =>
  have hk':(kr==0)=false:=by simpa using hk
  have H0:=Lib.hid hk
  clear hk
  go_wp2
  go_ret
  exact ⟨⟨kr,rfl,fun h=>(H0.out h).elim⟩,hB⟩
 subst hk
 clear hB1 hB2 HK
 go_wp2
 go_loopw [12] (fun i wr=>∃ k:Nat,k≤l.length∧i=.int .i64 k∧(∀ j (h:j<l.length),j<k→hasOf kc kk l[j].1=true)∧Below w.heap.size w wr) (fun i _=>l.length - (intOf i).toNat)
 case atStart=>exact ⟨0,Nat.zero_le _,rfl,fun j h hj=>absurd hj (by omega),hB⟩
 case round =>
  clear hB
  obtain ⟨k,hk,rfl,hall,hB⟩:=hrel
  have hs:=hB.size
  have HA:=Lib.hid hall
  clear hall
  by_cases hlt:k<l.length
  · obtain ⟨ad,Au,cu,rfl,hb,hc1,hc2,hu⟩:=(hv.below hB hP).at_ hlt
    obtain ⟨t,ht⟩:∃ t,l[k].1=t:=⟨_,rfl⟩
    rw [ht] at hc1
    have Ht:=Lib.hid ht
    obtain ⟨b,hb'⟩:∃ b,hasOf kc kk t=b:=⟨_,rfl⟩
    have hh:=refHas_any kc kk t wr
    rw [hb'] at hh
    have Hb:=Lib.hid hb'
    have HH:=Lib.hid hh
    clear ht hb' hh
    go_wp2_with fail
    refine HH.out.mono ?_
    rintro e w3 ⟨rfl,hB3⟩
    have HB:=Lib.hid (hB.trans (hB3.mono hs))
    cases b
    · go_wp2
      go_ret
      exact ⟨⟨209,rfl,fun h=>by cases h⟩,HB.out⟩
    · go_wp2
      go_roundw
      case rel =>
       refine ⟨k+1,by omega,by go_num,fun j h hj=>?_,HB.out⟩
       rcases Nat.lt_or_ge j k with h1 | h1
       · exact HA.out j h h1
       · obtain rfl:j=k:=by omega
         rw [Ht.out];exact Hb.out
      case measure=>simp [intOf];omega
  · obtain rfl:k=l.length:=by omega
    have hall:∀ x∈l,hasOf kc kk x.1=true:=fun x hx=>by
     obtain ⟨j,hj,rfl⟩:=List.getElem_of_mem hx
     exact HA.out j hj hj
    have HAll:=Lib.hid hall
    clear hall hlt hk HA
    go_wp2
    go_loopw [13] (fun i wr=>∃ k:Nat,k≤l.length∧i=.int .i64 k∧Below w.heap.size w wr) (fun i _=>l.length - (intOf i).toNat)
    case atStart=>exact ⟨0,Nat.zero_le _,rfl,hB⟩
    case round =>
     clear hB hs
     obtain ⟨k,hk,rfl,hB⟩:=hrel
     have hs:=hB.size
     by_cases hlt:k<l.length
     · obtain ⟨ad,Au,cu,rfl,hb,hc1,hc2,hu⟩:=(hv.below hB hP).at_ hlt
       obtain ⟨t,ht⟩:∃ t,l[k].1=t:=⟨_,rfl⟩
       rw [ht] at hc1
       clear ht
       go_wp2_with fail
       refine (barred_t how kc t wr).mono ?_
       rintro e w3 ⟨⟨b,rfl⟩,hB3⟩
       have HB:=Lib.hid (hB.trans (hB3.mono hs))
       cases b
       · go_wp2
         go_roundw
         case rel=>exact ⟨k+1,by omega,by go_num,HB.out⟩
         case measure=>simp [intOf];omega
       · go_wp2
         go_ret
         exact ⟨⟨16,rfl,fun h=>by cases h⟩,HB.out⟩
     · go_wp2
       go_ret
       exact ⟨⟨0,rfl,by first | exact fun _=>⟨rfl,(by first | exact HUn.out rfl | exact HUn.out trivial),HAll.out⟩ | exact fun _=>⟨(by first | exact HUn.out rfl | exact HUn.out trivial),fun a b hab=>HAll.out (a,b) hab⟩⟩,hB⟩
end Go.Proofs.YtendnkpiidhogaaGreat.At
