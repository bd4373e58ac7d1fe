/- mechs: the attribute that permits a use, the class that it takes; whether a point is one of a key's curve. -/
import Derived.Test.YtendnkpiidhogaaGreatQf874a9dd9c63
import Derived.Deep.RegionHeld3
import Derived.ControlIn
set_option maxRecDepth 100000
set_option maxHeartbeats 16000000
namespace Go.Proofs.YtendnkpiidhogaaGreat.At
open Go.RowKit Go.Shelf Mc
attribute [local go_sem] Oper.semAt_some
def flU (u:Int):Int:=if u=2 then 264 else if u=4 then 266 else if u=8 then 260 else if u=16 then 261 else if u=128 then 262 else if u=256 then 263 else 268
def pvU (u:Int):Bool:=if u=2 then true else if u=4 then false else if u=8 then false else if u=16 then true else if u=128 then false else true
def clsU (k:Int) (pv:Bool):Int:=if k=16∨k=31 then 4 else if pv=true then 3 else 2
def onC (r:Int) (bs:List Nat):Bool:=if r=1 then somewhere c256 bs else if r=2 then somewhere c384 bs else false
def mayOf (u kind:Int) (bs:List Nat) (l:Attrs):Int :=
 if u∉([1,2,4,8,16,32,64,128,256,512]:List Int) then 7
 else if ¬ (mechOf kind).uses / u % 2=1 then 112
 else if u=1∨u=32∨u=64 then (if parB kind bs then 0 else 113)
 else if (intOf' l 0).isSome=false∨(intOf' l 256).isSome=false∨(((intOf' l 0).getD 0:Nat):Int)≠clsU (mechOf kind).key (pvU u)∨(((intOf' l 256).getD 0:Nat):Int)≠(mechOf kind).key then 99
 else if flagOf l (flU u)=false then 104
 else if parB kind bs=false then 113
 else if kind=4176∧onC (Der.rpOf ((seek l 384).getD [])) bs=false then 113
 else 0
theorem permits_any (u:Int) (h:u=2∨u=4∨u=8∨u=16∨u=128∨u=256∨u=512) (w:World):Calls Tryz.prog 64 #[.int .i64 u] w fun e w'=>e=.returned (.tuple #[.int .i64 (flU u),.bool (pvU u)])∧w=w':=by
 rcases h with rfl | rfl | rfl | rfl | rfl | rfl | rfl
 all_goals
  go_enter Tryz.func64,Tryz.ntmps64
  go_wp2
  go_ret2
  exact ⟨rfl,rfl⟩
theorem class_any (k:Int) (pv:Bool) (w:World):Calls Tryz.prog 65 #[.int .i64 k,.bool pv] w fun e w'=>e=.returned (.int .i64 (clsU k pv))∧w=w':=by
 by_cases h1:k=16
 · subst h1
   go_enter Tryz.func65,Tryz.ntmps65
   go_wp2
   go_ret
   exact ⟨rfl,rfl⟩
 by_cases h2:k=31
 · subst h2
   go_enter Tryz.func65,Tryz.ntmps65
   go_wp2
   go_ret
   exact ⟨rfl,rfl⟩
 have h1':(k==16)=false:=by simpa using h1
 have h2':(k==31)=false:=by simpa using h2
 have hc:clsU k pv=if pv=true then 3 else 2:=by unfold clsU;rw [if_neg (by omega)]
 rw [hc]
 clear h1 h2 hc
 cases pv
 · go_enter Tryz.func65,Tryz.ntmps65
   go_wp2
   go_ret
   exact ⟨rfl,rfl⟩
 · go_enter Tryz.func65,Tryz.ntmps65
   go_wp2
   go_ret
   exact ⟨rfl,rfl⟩
theorem rp_cases (b:List Nat):Der.rpOf b=0∨Der.rpOf b=1∨Der.rpOf b=2:=by
 unfold Der.rpOf
 split
 · exact .inr (.inl rfl)
 split
 · exact .inr (.inr rfl)
 · exact .inl rfl
theorem curved_any (P P':Nat→Prop) (A A':Option Addr) (c c':Nat) (l:Attrs) (bs:List Nat) (w:World) (hv:RA w P A c l) (hP:∀ b,P b→b<w.heap.size) (hb:RB w P' A' c' bs) (hP':∀ b,P' b→b<w.heap.size) :
 Calls Tryz.prog 66 #[.slice A l.length c,.slice A' bs.length c'] w fun e w'=>e=.returned (.bool (onC (Der.rpOf ((seek l 384).getD [])) bs))∧Below w.heap.size w w':=by
 have HG:=Lib.hid (get_any P A c l 384 w hv hP)
 obtain ⟨v,hvv⟩:∃ v,(seek l 384).getD []=v:=⟨_,rfl⟩
 rw [hvv] at HG ⊢
 have HB:=Lib.hid hb
 have HP':=Lib.hid hP'
 clear hv hP hvv hb hP'
 have hrp:=rp_cases v
 obtain ⟨r,hr⟩:∃ r,Der.rpOf v=r:=⟨_,rfl⟩
 rw [hr] at hrp ⊢
 have Hr:=Lib.hid hr
 clear hr
 go_enter Tryz.func66,Tryz.ntmps66
 go_wp2_with fail
 refine HG.out.mono ?_
 rintro e w1 ⟨A1,c1,rfl,hr1,hB1⟩
 have HB1:=Lib.hid hB1
 have hs1:=hB1.size
 have hrd:=Der.readParams_any _ A1 c1 v w1 hr1 (fun q hq=>hq.2)
 rw [Hr.out] at hrd
 have HRd:=Lib.hid hrd
 clear hr1 hB1 hrd HG
 go_wp2_with fail
 refine HRd.out.mono ?_
 rintro e w2 ⟨rfl,hB2⟩
 have HB2:=Lib.hid (HB1.out.trans (hB2.mono hs1))
 clear hB2 HRd
 rcases hrp with rfl | rfl | rfl
 · go_wp2
   go_ret
   exact ⟨rfl,HB2.out⟩
 · have hd:decide ((1:Int)≠0)=true:=rfl
   rw [hd]
   clear hd
   go_wp2_with fail
   refine (onM_any (k:=1) (C:=c256) (.inl ⟨rfl,rfl⟩) P' A' c' bs w2 (HB.out.below HB2.out HP'.out) (fun q hq=>Nat.lt_of_lt_of_le (HP'.out q hq) HB2.out.size)).mono ?_
   rintro e w3 ⟨rfl,hB3⟩
   have HB3:=Lib.hid (HB2.out.trans (Below.mono hB3 HB2.out.size))
   clear hB3
   go_wp2
   go_ret
   exact ⟨rfl,HB3.out⟩
 · have hd:decide ((2:Int)≠0)=true:=rfl
   rw [hd]
   clear hd
   go_wp2_with fail
   refine (onM_any (k:=2) (C:=c384) (.inr ⟨rfl,rfl⟩) P' A' c' bs w2 (HB.out.below HB2.out HP'.out) (fun q hq=>Nat.lt_of_lt_of_le (HP'.out q hq) HB2.out.size)).mono ?_
   rintro e w3 ⟨rfl,hB3⟩
   have HB3:=Lib.hid (HB2.out.trans (Below.mono hB3 HB2.out.size))
   clear hB3
   go_wp2
   go_ret
   exact ⟨rfl,HB3.out⟩
theorem refCurve_any (P:Nat→Prop) (A:Option Addr) (c:Nat) (l:Attrs) (w:World) (hv:RA w P A c l) (hP:∀ b,P b→b<w.heap.size) :
 Calls Tryz.prog 71 #[.slice A l.length c] w fun e w'=>e=.returned (.int .i64 (Der.rpOf ((seek l 384).getD [])))∧Below w.heap.size w w':=by
 have HG:=Lib.hid (refGet_any P A c l 384 w hv)
 obtain ⟨v,hvv⟩:∃ v,(seek l 384).getD []=v:=⟨_,rfl⟩
 rw [hvv] at HG ⊢
 have HP:=Lib.hid hP
 clear hv hP hvv
 obtain ⟨r,hr⟩:∃ r,Der.rpOf v=r:=⟨_,rfl⟩
 rw [hr]
 have Hr:=Lib.hid hr
 clear hr
 go_enter Tryz.func71,Tryz.ntmps71
 go_wp2_with fail
 refine HG.out.mono ?_
 rintro e w1 ⟨A1,c1,rfl,hr1,rfl⟩
 have hrd:=Der.readParams12_any _ A1 c1 v w hr1 HP.out
 rw [Hr.out] at hrd
 have HRd:=Lib.hid hrd
 clear hr1 hrd HG
 go_wp2_with fail
 refine HRd.out.mono ?_
 rintro e w2 ⟨rfl,hB2⟩
 go_wp2
 go_ret
 exact ⟨rfl,hB2⟩
end Go.Proofs.YtendnkpiidhogaaGreat.At

namespace Go.Proofs.YtendnkpiidhogaaGreat.At
open Go.RowKit Go.Shelf Mc
attribute [local go_sem] Oper.semAt_some
abbrev pwU:List Int:=[1,2,4,8,16,32,64,128,256,512]
theorem uses_bit (kind:Int) {u:Int} (hu:u∈pwU):(bits .and .i64 (mechOf kind).uses u==0)=!decide ((mechOf kind).uses / u % 2=1):=by
 have h1:∀ r∈mtab,∀ u∈pwU,(bits .and .i64 r.uses u==0)=!decide (r.uses / u % 2=1):=by decide +kernel
 have h2:∀ u∈pwU,(bits .and .i64 0 u==0)=!decide ((0:Int) / u % 2=1):=by decide +kernel
 rcases mech_mem kind with h | h
 · exact h1 _ h u hu
 · rw [h];exact h2 u hu
theorem use_bit {n:Nat} (h:n<513) (h0:0<n):(bits .and .i64 (n:Int) ((n:Int) - 1)==0)=decide ((n:Int)∈pwU):=by
 have:=(show ∀ i:Fin 513,0<i.val→(bits .and .i64 (i.val:Int) ((i.val:Int) - 1)==0)=decide ((i.val:Int)∈pwU) by decide +kernel) ⟨n,h⟩ h0
 exact this
def mayK (u kind:Int) (bs:List Nat) (l:Attrs):Int :=
 if (intOf' l 0).isSome=false∨(intOf' l 256).isSome=false∨(((intOf' l 0).getD 0:Nat):Int)≠clsU (mechOf kind).key (pvU u)∨(((intOf' l 256).getD 0:Nat):Int)≠(mechOf kind).key then 99
 else if flagOf l (flU u)=false then 104
 else if parB kind bs=false then 113
 else if kind=4176∧onC (Der.rpOf ((seek l 384).getD [])) bs=false then 113
 else 0
theorem mayOf_7 {u kind:Int} {bs:List Nat} {l:Attrs} (h:u∉pwU):mayOf u kind bs l=7:=if_pos h
theorem mayOf_112 {u kind:Int} {bs:List Nat} {l:Attrs} (h:u∈pwU) (h2:¬ (mechOf kind).uses / u % 2=1):mayOf u kind bs l=112:=(if_neg (fun e=>e h)).trans (if_pos h2)
theorem mayOf_p {u kind:Int} {bs:List Nat} {l:Attrs} (h:u∈pwU) (h2:(mechOf kind).uses / u % 2=1) (h3:u=1∨u=32∨u=64):mayOf u kind bs l=if parB kind bs then 0 else 113:=(if_neg (fun e=>e h)).trans ((if_neg (fun e=>e h2)).trans (if_pos h3))
theorem mayOf_k {u kind:Int} {bs:List Nat} {l:Attrs} (h:u∈pwU) (h2:(mechOf kind).uses / u % 2=1) (h3:¬ (u=1∨u=32∨u=64)):mayOf u kind bs l=mayK u kind bs l:=(if_neg (fun e=>e h)).trans ((if_neg (fun e=>e h2)).trans (if_neg h3))
theorem pw_keyed {u:Int} (h:u∈pwU) (h3:¬ (u=1∨u=32∨u=64)):u=2∨u=4∨u=8∨u=16∨u=128∨u=256∨u=512:=by
 simp only [pwU,List.mem_cons,List.not_mem_nil,or_false] at h
 omega
theorem mayM_any (u kind:Int) (P Pl:Nat→Prop) (A Al:Option Addr) (c cl:Nat) (bs:List Nat) (l:Attrs) (w:World) (hb:RB w P A c bs) (hP:∀ b,P b→b<w.heap.size) (hl:RA w Pl Al cl l) (hPl:∀ b,Pl b→b<w.heap.size) :
    Calls Tryz.prog 29 #[.int .i64 u,.agg #[.int .i64 kind,.slice A bs.length c],.slice Al l.length cl] w fun e w'=>e=.returned (.int .i64 (mayOf u kind bs l))∧Below w.heap.size w w':=by
  have HUb:=Lib.hid (fun (h:u∈pwU)=>uses_bit kind h)
  obtain ⟨R,hR⟩:∃ R,mayOf u kind bs l=R:=⟨_,rfl⟩
  rw [hR]
  have HR:=Lib.hid hR
  have h7:u∉pwU→R=7:=fun h=>hR.symm.trans (mayOf_7 h)
  have h112:u∈pwU→¬ (mechOf kind).uses / u % 2=1→R=112:=fun h h2=>hR.symm.trans (mayOf_112 h h2)
  have hp3:u∈pwU→(mechOf kind).uses / u % 2=1→(u=1∨u=32∨u=64)→R=if parB kind bs then 0 else 113:=fun h h2 h3=>hR.symm.trans (mayOf_p h h2 h3)
  have hkk:u∈pwU→(mechOf kind).uses / u % 2=1→¬ (u=1∨u=32∨u=64)→R=mayK u kind bs l:=fun h h2 h3=>hR.symm.trans (mayOf_k h h2 h3)
  unfold mayK at hkk
  have hE:=(Below.refl w.heap.size w).alloc (Nat.le_refl _) (.cells #[.int .i64 kind,.slice A bs.length c] 46)
  have hn:=heap_alloc_new w (.cells #[.int .i64 kind,.slice A bs.length c] 46)
  have hz:(w.alloc (.cells #[.int .i64 kind,.slice A bs.length c] 46)).heap.size=w.heap.size+1:=by simp
  have hm:=mech_at kind (w.alloc (.cells #[.int .i64 kind,.slice A bs.length c] 46))
  obtain ⟨k0,us,ky,mu,pa,hmo⟩:∃ k u y mu pa,mechOf kind=⟨k,u,y,mu,pa⟩:=⟨_,_,_,_,_,rfl⟩
  rw [hmo] at hm HUb
  simp only [hmo] at h112 hp3 hkk
  simp only [MRow.val] at hm
  have Hm:=Lib.hid hm
  have HE:=Lib.hid hE
  have Hn:=Lib.hid hn
  have Hz:=Lib.hid hz
  have HB:=Lib.hid hb
  have HP:=Lib.hid hP
  have HL:=Lib.hid hl
  have HPl:=Lib.hid hPl
  have H7:=Lib.hid h7
  have H112:=Lib.hid h112
  have HP3:=Lib.hid hp3
  have HKK:=Lib.hid hkk
  clear hE hn hz hm hmo hb hP hl hPl h7 h112 hp3 hkk hR HR
  obtain ⟨s,hs⟩:∃ s,w.heap.size=s:=⟨_,rfl⟩
  rw [hs] at HE Hn Hz
  have Hs:=Lib.hid hs
  clear hs
  cases pa with
  | none =>
    simp only [fnv] at Hm
    go_enter Tryz.func29,Tryz.ntmps29
    go_wp2_with fail
    rw [Hs.out]
    generalize w.alloc (.cells #[.int .i64 kind,.slice A bs.length c] 46)=W0 at *
    refine Hm.out.mono ?_
    rintro e w1 ⟨rfl,hB1⟩
    have hB1:Below W0.heap.size W0 w1:=hB1
    have hn1:=(hB1.block s (by have:=Hz.out;omega)).trans Hn.out
    have HB1:=Lib.hid (HE.out.trans (hB1.mono (by have:=Hz.out;omega)))
    have Hz1:=Lib.hid (show s<w1.heap.size by have:=hB1.size;have:=Hz.out;omega)
    have Hn1:=Lib.hid hn1
    clear hB1 Hm hn1
    go_upto_region 2 with fail
    have hx2:=heap_alloc_new w1 (.cells #[.int .i64 k0,.int .i64 us,.int .i64 ky,.bool mu,.nilFunc] 85)
    have hs2:=(Below.heap_alloc w1 (.cells #[.int .i64 k0,.int .i64 us,.int .i64 ky,.bool mu,.nilFunc] 85) s Hz1.out).trans Hn1.out
    have HB2:=Lib.hid (HB1.out.alloc (Nat.le_of_lt Hz1.out) (.cells #[.int .i64 k0,.int .i64 us,.int .i64 ky,.bool mu,.nilFunc] 85))
    obtain ⟨sx,hsx⟩:∃ sx,w1.heap.size=sx:=⟨_,rfl⟩
    rw [hsx] at hx2 Hz1 ⊢
    clear hsx
    generalize w1.alloc (.cells #[.int .i64 k0,.int .i64 us,.int .i64 ky,.bool mu,.nilFunc] 85)=W2 at *
    have Hlx:=Lib.hid (blk_lt hx2)
    have HX2:=Lib.hid hx2
    have HS2:=Lib.hid hs2
    have a0:=blk_cell hs2 0
    have a1:=blk_cell hs2 1
    have b1:=blk_cell hx2 1
    have b2:=blk_cell hx2 2
    simp only [List.getElem?_toArray,List.getElem?_cons_zero,List.getElem?_cons_succ] at a0 a1 b1 b2
    clear hx2 hs2 Hn1 HB1
    by_cases u1:u<1
    · have hR:R=7:=H7.out (by intro h;simp only [pwU,List.mem_cons,List.not_mem_nil,or_false] at h;omega)
      subst hR
      go_wp2
      go_ret
      exact ⟨rfl,by rw [Hs.out];exact HB2.out⟩
    by_cases u2:512<u
    · have hR:R=7:=H7.out (by intro h;simp only [pwU,List.mem_cons,List.not_mem_nil,or_false] at h;omega)
      subst hR
      go_wp2
      go_ret
      exact ⟨rfl,by rw [Hs.out];exact HB2.out⟩
    have hw1:IntKind.i64.wrap (u - 1)=u - 1:=by rw [IntKind.wrap_i64];omega
    have hub:(bits .and .i64 u (u - 1)==0)=decide (u∈pwU):=by
      obtain ⟨n,rfl⟩:∃ n:Nat,u=(n:Int):=⟨u.toNat,by omega⟩
      exact use_bit (by omega) (by omega)
    obtain ⟨y,hy⟩:∃ y,bits .and .i64 u (u - 1)=y:=⟨_,rfl⟩
    rw [hy] at hub
    by_cases hpw:u∈pwU
    rotate_left
    · have hR:R=7:=H7.out hpw
      subst hR
      have hy0:(y==0)=false:=by rw [hub];simpa using hpw
      clear hub
      go_wp2
      go_ret
      exact ⟨rfl,by rw [Hs.out];exact HB2.out⟩
    have hy0:(y==0)=true:=by rw [hub];simpa using hpw
    have hbu:=HUb.out hpw
    obtain ⟨z,hz⟩:∃ z,bits .and .i64 us u=z:=⟨_,rfl⟩
    have Hhz:=Lib.hid hz
    have hbu:(z==0)=!decide (us / u % 2=1):=by rw [←hz];exact hbu
    have HPw:=Lib.hid hpw
    clear hub hpw
    by_cases hp:us / u % 2=1
    rotate_left
    · have hR:R=112:=H112.out HPw.out hp
      subst hR
      have hz0:(z==0)=true:=by rw [hbu];simpa using hp
      clear hbu hp
      go_wp2
      go_ret
      exact ⟨rfl,by rw [Hs.out];exact HB2.out⟩
    have hz0:(z==0)=false:=by rw [hbu];simpa using hp
    have Hp:=Lib.hid hp
    clear hbu hp
    have HPar:=Lib.hid (fun X (hX:Below W2.heap.size W2 X)=>param_g kind P A c bs X (HB.out.below (HB2.out.trans (hX.mono (by have:=Hlx.out;have:=Hz1.out;omega))) (fun q hq=>by have:=HP.out q hq;have:=Hs.out;omega)) (fun q hq=>by have:=HP.out q hq;have:=Hs.out;have:=hX.size;have:=Hlx.out;have:=Hz1.out;omega))
    obtain ⟨pb,hpb⟩:∃ pb,parB kind bs=pb:=⟨_,rfl⟩
    simp only [hpb] at HPar
    have HPb:=Lib.hid hpb
    clear hpb
    by_cases h3:u=1∨u=32∨u=64
    · have hR:R=if pb then 0 else 113:=by rw [HP3.out HPw.out Hp.out h3,HPb.out]
      have three:((u==1)=true)∨((u==1)=false∧(u==32)=true)∨((u==1)=false∧(u==32)=false∧(u==64)=true):=by
        rcases h3 with rfl | rfl | rfl <;> simp
      clear h3
      rcases three with e1 | ⟨e1,e2⟩ | ⟨e1,e2,e3⟩
      all_goals
        go_wp2_with fail
        refine (HPar.out W2 (Below.refl _ _)).mono ?_
        rintro e w3 ⟨rfl,hB3⟩
        have HB3:=Lib.hid (HB2.out.trans (Below.mono hB3 (by have:=Hlx.out;have:=Hz1.out;omega)))
        clear hB3
        cases pb
        · have hR':R=113:=hR
          clear hR
          subst hR'
          go_wp2
          go_ret
          exact ⟨rfl,by rw [Hs.out];exact HB3.out⟩
        · have hR':R=0:=hR
          clear hR
          subst hR'
          go_wp2
          go_ret
          exact ⟨rfl,by rw [Hs.out];exact HB3.out⟩
    have hkk:=HKK.out HPw.out Hp.out h3
    have hku:=pw_keyed HPw.out h3
    have e1:(u==1)=false:=by simp;omega
    have e2:(u==32)=false:=by simp;omega
    have e3:(u==64)=false:=by simp;omega
    have HPe:=Lib.hid (permits_any u hku W2)
    have HKu:=Lib.hid hkk
    rw [HPb.out] at HKu
    obtain ⟨fl,hfl⟩:∃ fl,flU u=fl:=⟨_,rfl⟩
    obtain ⟨pv,hpv⟩:∃ pv,pvU u=pv:=⟨_,rfl⟩
    rw [hfl,hpv] at HPe HKu
    clear hkk hku h3 hfl hpv
    go_wp2_with fail
    refine HPe.out.mono ?_
    rintro e w3 ⟨rfl,rfl⟩
    clear hy0 hz0 hy hz hw1 e1 e2 e3 u1 u2 HPe Hhz
    have HLw:=Lib.hid (fun X (hX:Below W2.heap.size W2 X)=>(show RA X Pl Al cl l from HL.out.below (HB2.out.trans (hX.mono (by have:=Hlx.out;have:=Hz1.out;omega))) (fun q hq=>by have:=HPl.out q hq;have:=Hs.out;omega)))
    have HPw2:=Lib.hid (fun X (hX:Below W2.heap.size W2 X)=>(show ∀ q,Pl q→q<X.heap.size from fun q hq=>by have:=HPl.out q hq;have:=Hs.out;have:=hX.size;have:=Hlx.out;have:=Hz1.out;omega))
    have HI0:=Lib.hid (int_any Pl Al cl l 0 W2 (HLw.out _ (Below.refl _ _)) (HPw2.out _ (Below.refl _ _)))
    have HI6:=Lib.hid (fun X (hX:Below W2.heap.size W2 X)=>int_any Pl Al cl l 256 X (HLw.out _ hX) (HPw2.out _ hX))
    have HF:=Lib.hid (fun X (hX:Below W2.heap.size W2 X)=>flag_any Pl Al cl l fl X (HLw.out _ hX) (HPw2.out _ hX))
    have HC:=Lib.hid (fun X (hX:Below W2.heap.size W2 X)=>curved_any Pl P Al A cl c l bs X (HLw.out _ hX) (HPw2.out _ hX) (HB.out.below (HB2.out.trans (hX.mono (by have:=Hlx.out;have:=Hz1.out;omega))) (fun q hq=>by have:=HP.out q hq;have:=Hs.out;omega)) (fun q hq=>by have:=HP.out q hq;have:=Hs.out;have:=hX.size;have:=Hlx.out;have:=Hz1.out;omega))
    obtain ⟨i0,hi0⟩:∃ i0,((intOf' l 0).getD 0)=i0:=⟨_,rfl⟩
    obtain ⟨i6,hi6⟩:∃ i6,((intOf' l 256).getD 0)=i6:=⟨_,rfl⟩
    obtain ⟨t0,ht0⟩:∃ t0,(intOf' l 0).isSome=t0:=⟨_,rfl⟩
    obtain ⟨t6,ht6⟩:∃ t6,(intOf' l 256).isSome=t6:=⟨_,rfl⟩
    obtain ⟨ff,hff⟩:∃ ff,flagOf l fl=ff:=⟨_,rfl⟩
    obtain ⟨oc,hoc⟩:∃ oc,onC (Der.rpOf ((seek l 384).getD [])) bs=oc:=⟨_,rfl⟩
    rw [hi0,hi6,ht0,ht6,hff,hoc] at HKu
    rw [hi0,ht0] at HI0
    simp only [hi6,ht6] at HI6
    simp only [hff] at HF
    simp only [hoc] at HC
    clear hi0 hi6 ht0 ht6 hff hoc
    go_wp2_with fail
    refine HI0.out.mono ?_
    rintro e w3 ⟨rfl,hB3⟩
    have HB3:=Lib.hid hB3
    clear hB3
    go_wp2_with fail
    refine (HI6.out w3 HB3.out).mono ?_
    rintro e w4 ⟨rfl,hB4⟩
    have HB4:=Lib.hid (HB3.out.trans (hB4.mono HB3.out.size))
    clear hB4 HI0 HI6 HB3
    have fin:∀ (wx:World),Below W2.heap.size W2 wx→Below s w wx:=fun _ h=>HB2.out.trans (h.mono (by have:=Hlx.out;have:=Hz1.out;omega))
    have Fin:=Lib.hid fin
    clear fin
    have a0:=blk_cell ((HB4.out.block s (by have:=Hlx.out;have:=Hz1.out;omega)).trans HS2.out) 0
    have a1:=blk_cell ((HB4.out.block s (by have:=Hlx.out;have:=Hz1.out;omega)).trans HS2.out) 1
    have b1:=blk_cell ((HB4.out.block sx Hlx.out).trans HX2.out) 1
    have b2:=blk_cell ((HB4.out.block sx Hlx.out).trans HX2.out) 2
    simp only [List.getElem?_toArray,List.getElem?_cons_zero,List.getElem?_cons_succ] at a0 a1 b1 b2
    cases t0
    · have hR:R=99:=HKu.out.trans (if_pos (.inl rfl))
      subst hR
      go_wp2
      go_ret
      exact ⟨rfl,by rw [Hs.out];exact Fin.out _ HB4.out⟩
    cases t6
    · have hR:R=99:=HKu.out.trans (if_pos (.inr (.inl rfl)))
      subst hR
      go_wp2
      go_ret
      exact ⟨rfl,by rw [Hs.out];exact Fin.out _ HB4.out⟩
    have HCl:=Lib.hid (class_any ky pv w4)
    obtain ⟨cu,hcu⟩:∃ cu,clsU ky pv=cu:=⟨_,rfl⟩
    rw [hcu] at HCl HKu
    clear hcu
    go_wp2_with fail
    refine HCl.out.mono ?_
    rintro e w5 ⟨rfl,rfl⟩
    by_cases hc:(i0:Int)=cu
    rotate_left
    · have hR:R=99:=HKu.out.trans (if_pos (.inr (.inr (.inl hc))))
      subst hR
      have hc':((i0:Int)==cu)=false:=by simpa using hc
      clear hc
      go_wp2
      go_ret
      exact ⟨rfl,by rw [Hs.out];exact Fin.out _ HB4.out⟩
    have Hc:=Lib.hid hc
    have hc':((i0:Int)==cu)=true:=by simpa using hc
    clear hc
    by_cases hk6:(i6:Int)=ky
    rotate_left
    · have hR:R=99:=HKu.out.trans (if_pos (.inr (.inr (.inr hk6))))
      subst hR
      have hk':((i6:Int)==ky)=false:=by simpa using hk6
      clear hk6
      go_wp2
      go_ret
      exact ⟨rfl,by rw [Hs.out];exact Fin.out _ HB4.out⟩
    have hk':((i6:Int)==ky)=true:=by simpa using hk6
    have hRR := HKu.out.trans (if_neg (by rintro (h | h | h | h); · cases h
                                          · cases h
                                          · exact h Hc.out
                                          · exact h hk6))
    have HRR:=Lib.hid hRR
    clear hRR hk6 HKu
    go_wp2_with fail
    refine (HF.out w4 HB4.out).mono ?_
    rintro e w6 ⟨rfl,hB6⟩
    have HB6:=Lib.hid (HB4.out.trans (hB6.mono HB4.out.size))
    clear hB6 HF hc' hk' a0 a1 b1 b2
    have a0:=blk_cell ((HB6.out.block s (by have:=Hlx.out;have:=Hz1.out;omega)).trans HS2.out) 0
    have a1:=blk_cell ((HB6.out.block s (by have:=Hlx.out;have:=Hz1.out;omega)).trans HS2.out) 1
    simp only [List.getElem?_toArray,List.getElem?_cons_zero,List.getElem?_cons_succ] at a0 a1
    cases ff
    · have hR:R=104:=HRR.out.trans (if_pos rfl)
      subst hR
      go_wp2
      go_ret
      exact ⟨rfl,by rw [Hs.out];exact Fin.out _ HB6.out⟩
    have HRR2:=Lib.hid (HRR.out.trans (if_neg (by decide)))
    go_wp2_with fail
    refine (HPar.out w6 HB6.out).mono ?_
    rintro e w7 ⟨rfl,hB7⟩
    have HB7:=Lib.hid (HB6.out.trans (Below.mono hB7 HB6.out.size))
    clear hB7 a0 a1
    have a0:=blk_cell ((HB7.out.block s (by have:=Hlx.out;have:=Hz1.out;omega)).trans HS2.out) 0
    have a1:=blk_cell ((HB7.out.block s (by have:=Hlx.out;have:=Hz1.out;omega)).trans HS2.out) 1
    simp only [List.getElem?_toArray,List.getElem?_cons_zero,List.getElem?_cons_succ] at a0 a1
    cases pb
    · have hR:R=113:=HRR2.out.trans (if_pos rfl)
      subst hR
      go_wp2
      go_ret
      exact ⟨rfl,by rw [Hs.out];exact Fin.out _ HB7.out⟩
    have HRR3:=Lib.hid (HRR2.out.trans (if_neg (by decide)))
    by_cases hk:kind=4176
    rotate_left
    · have hR:R=0:=HRR3.out.trans (if_neg (fun h=>hk h.1))
      subst hR
      have hk':(kind==4176)=false:=by simpa using hk
      clear hk
      go_wp2
      go_ret
      exact ⟨rfl,by rw [Hs.out];exact Fin.out _ HB7.out⟩
    have Hk:=Lib.hid hk
    have hk':(kind==4176)=true:=by simpa using hk
    clear hk
    go_wp2_with fail
    refine (HC.out w7 HB7.out).mono ?_
    rintro e w8 ⟨rfl,hB8⟩
    have HB8:=Lib.hid (HB7.out.trans (hB8.mono HB7.out.size))
    clear hB8
    cases oc
    · have hR:R=113:=HRR3.out.trans (if_pos ⟨Hk.out,rfl⟩)
      subst hR
      go_wp2
      go_ret
      exact ⟨rfl,by rw [Hs.out];exact Fin.out _ HB8.out⟩
    · have hR:R=0:=HRR3.out.trans (if_neg (fun h=>by cases h.2))
      subst hR
      go_wp2
      go_ret
      exact ⟨rfl,by rw [Hs.out];exact Fin.out _ HB8.out⟩
  | some f0 =>
    simp only [fnv] at Hm
    go_enter Tryz.func29,Tryz.ntmps29
    go_wp2_with fail
    rw [Hs.out]
    generalize w.alloc (.cells #[.int .i64 kind,.slice A bs.length c] 46)=W0 at *
    refine Hm.out.mono ?_
    rintro e w1 ⟨rfl,hB1⟩
    have hB1:Below W0.heap.size W0 w1:=hB1
    have hn1:=(hB1.block s (by have:=Hz.out;omega)).trans Hn.out
    have HB1:=Lib.hid (HE.out.trans (hB1.mono (by have:=Hz.out;omega)))
    have Hz1:=Lib.hid (show s<w1.heap.size by have:=hB1.size;have:=Hz.out;omega)
    have Hn1:=Lib.hid hn1
    clear hB1 Hm hn1
    go_upto_region 2 with fail
    have hx2:=heap_alloc_new w1 (.cells #[.int .i64 k0,.int .i64 us,.int .i64 ky,.bool mu,.func (.func f0) #[] #[]] 85)
    have hs2:=(Below.heap_alloc w1 (.cells #[.int .i64 k0,.int .i64 us,.int .i64 ky,.bool mu,.func (.func f0) #[] #[]] 85) s Hz1.out).trans Hn1.out
    have HB2:=Lib.hid (HB1.out.alloc (Nat.le_of_lt Hz1.out) (.cells #[.int .i64 k0,.int .i64 us,.int .i64 ky,.bool mu,.func (.func f0) #[] #[]] 85))
    obtain ⟨sx,hsx⟩:∃ sx,w1.heap.size=sx:=⟨_,rfl⟩
    rw [hsx] at hx2 Hz1 ⊢
    clear hsx
    generalize w1.alloc (.cells #[.int .i64 k0,.int .i64 us,.int .i64 ky,.bool mu,.func (.func f0) #[] #[]] 85)=W2 at *
    have Hlx:=Lib.hid (blk_lt hx2)
    have HX2:=Lib.hid hx2
    have HS2:=Lib.hid hs2
    have a0:=blk_cell hs2 0
    have a1:=blk_cell hs2 1
    have b1:=blk_cell hx2 1
    have b2:=blk_cell hx2 2
    simp only [List.getElem?_toArray,List.getElem?_cons_zero,List.getElem?_cons_succ] at a0 a1 b1 b2
    clear hx2 hs2 Hn1 HB1
    by_cases u1:u<1
    · have hR:R=7:=H7.out (by intro h;simp only [pwU,List.mem_cons,List.not_mem_nil,or_false] at h;omega)
      subst hR
      go_wp2
      go_ret
      exact ⟨rfl,by rw [Hs.out];exact HB2.out⟩
    by_cases u2:512<u
    · have hR:R=7:=H7.out (by intro h;simp only [pwU,List.mem_cons,List.not_mem_nil,or_false] at h;omega)
      subst hR
      go_wp2
      go_ret
      exact ⟨rfl,by rw [Hs.out];exact HB2.out⟩
    have hw1:IntKind.i64.wrap (u - 1)=u - 1:=by rw [IntKind.wrap_i64];omega
    have hub:(bits .and .i64 u (u - 1)==0)=decide (u∈pwU):=by
      obtain ⟨n,rfl⟩:∃ n:Nat,u=(n:Int):=⟨u.toNat,by omega⟩
      exact use_bit (by omega) (by omega)
    obtain ⟨y,hy⟩:∃ y,bits .and .i64 u (u - 1)=y:=⟨_,rfl⟩
    rw [hy] at hub
    by_cases hpw:u∈pwU
    rotate_left
    · have hR:R=7:=H7.out hpw
      subst hR
      have hy0:(y==0)=false:=by rw [hub];simpa using hpw
      clear hub
      go_wp2
      go_ret
      exact ⟨rfl,by rw [Hs.out];exact HB2.out⟩
    have hy0:(y==0)=true:=by rw [hub];simpa using hpw
    have hbu:=HUb.out hpw
    obtain ⟨z,hz⟩:∃ z,bits .and .i64 us u=z:=⟨_,rfl⟩
    have Hhz:=Lib.hid hz
    have hbu:(z==0)=!decide (us / u % 2=1):=by rw [←hz];exact hbu
    have HPw:=Lib.hid hpw
    clear hub hpw
    by_cases hp:us / u % 2=1
    rotate_left
    · have hR:R=112:=H112.out HPw.out hp
      subst hR
      have hz0:(z==0)=true:=by rw [hbu];simpa using hp
      clear hbu hp
      go_wp2
      go_ret
      exact ⟨rfl,by rw [Hs.out];exact HB2.out⟩
    have hz0:(z==0)=false:=by rw [hbu];simpa using hp
    have Hp:=Lib.hid hp
    clear hbu hp
    have HPar:=Lib.hid (fun X (hX:Below W2.heap.size W2 X)=>param_g kind P A c bs X (HB.out.below (HB2.out.trans (hX.mono (by have:=Hlx.out;have:=Hz1.out;omega))) (fun q hq=>by have:=HP.out q hq;have:=Hs.out;omega)) (fun q hq=>by have:=HP.out q hq;have:=Hs.out;have:=hX.size;have:=Hlx.out;have:=Hz1.out;omega))
    obtain ⟨pb,hpb⟩:∃ pb,parB kind bs=pb:=⟨_,rfl⟩
    simp only [hpb] at HPar
    have HPb:=Lib.hid hpb
    clear hpb
    by_cases h3:u=1∨u=32∨u=64
    · have hR:R=if pb then 0 else 113:=by rw [HP3.out HPw.out Hp.out h3,HPb.out]
      have three:((u==1)=true)∨((u==1)=false∧(u==32)=true)∨((u==1)=false∧(u==32)=false∧(u==64)=true):=by
        rcases h3 with rfl | rfl | rfl <;> simp
      clear h3
      rcases three with e1 | ⟨e1,e2⟩ | ⟨e1,e2,e3⟩
      all_goals
        go_wp2_with fail
        refine (HPar.out W2 (Below.refl _ _)).mono ?_
        rintro e w3 ⟨rfl,hB3⟩
        have HB3:=Lib.hid (HB2.out.trans (Below.mono hB3 (by have:=Hlx.out;have:=Hz1.out;omega)))
        clear hB3
        cases pb
        · have hR':R=113:=hR
          clear hR
          subst hR'
          go_wp2
          go_ret
          exact ⟨rfl,by rw [Hs.out];exact HB3.out⟩
        · have hR':R=0:=hR
          clear hR
          subst hR'
          go_wp2
          go_ret
          exact ⟨rfl,by rw [Hs.out];exact HB3.out⟩
    have hkk:=HKK.out HPw.out Hp.out h3
    have hku:=pw_keyed HPw.out h3
    have e1:(u==1)=false:=by simp;omega
    have e2:(u==32)=false:=by simp;omega
    have e3:(u==64)=false:=by simp;omega
    have HPe:=Lib.hid (permits_any u hku W2)
    have HKu:=Lib.hid hkk
    rw [HPb.out] at HKu
    obtain ⟨fl,hfl⟩:∃ fl,flU u=fl:=⟨_,rfl⟩
    obtain ⟨pv,hpv⟩:∃ pv,pvU u=pv:=⟨_,rfl⟩
    rw [hfl,hpv] at HPe HKu
    clear hkk hku h3 hfl hpv
    go_wp2_with fail
    refine HPe.out.mono ?_
    rintro e w3 ⟨rfl,rfl⟩
    clear hy0 hz0 hy hz hw1 e1 e2 e3 u1 u2 HPe Hhz
    have HLw:=Lib.hid (fun X (hX:Below W2.heap.size W2 X)=>(show RA X Pl Al cl l from HL.out.below (HB2.out.trans (hX.mono (by have:=Hlx.out;have:=Hz1.out;omega))) (fun q hq=>by have:=HPl.out q hq;have:=Hs.out;omega)))
    have HPw2:=Lib.hid (fun X (hX:Below W2.heap.size W2 X)=>(show ∀ q,Pl q→q<X.heap.size from fun q hq=>by have:=HPl.out q hq;have:=Hs.out;have:=hX.size;have:=Hlx.out;have:=Hz1.out;omega))
    have HI0:=Lib.hid (int_any Pl Al cl l 0 W2 (HLw.out _ (Below.refl _ _)) (HPw2.out _ (Below.refl _ _)))
    have HI6:=Lib.hid (fun X (hX:Below W2.heap.size W2 X)=>int_any Pl Al cl l 256 X (HLw.out _ hX) (HPw2.out _ hX))
    have HF:=Lib.hid (fun X (hX:Below W2.heap.size W2 X)=>flag_any Pl Al cl l fl X (HLw.out _ hX) (HPw2.out _ hX))
    have HC:=Lib.hid (fun X (hX:Below W2.heap.size W2 X)=>curved_any Pl P Al A cl c l bs X (HLw.out _ hX) (HPw2.out _ hX) (HB.out.below (HB2.out.trans (hX.mono (by have:=Hlx.out;have:=Hz1.out;omega))) (fun q hq=>by have:=HP.out q hq;have:=Hs.out;omega)) (fun q hq=>by have:=HP.out q hq;have:=Hs.out;have:=hX.size;have:=Hlx.out;have:=Hz1.out;omega))
    obtain ⟨i0,hi0⟩:∃ i0,((intOf' l 0).getD 0)=i0:=⟨_,rfl⟩
    obtain ⟨i6,hi6⟩:∃ i6,((intOf' l 256).getD 0)=i6:=⟨_,rfl⟩
    obtain ⟨t0,ht0⟩:∃ t0,(intOf' l 0).isSome=t0:=⟨_,rfl⟩
    obtain ⟨t6,ht6⟩:∃ t6,(intOf' l 256).isSome=t6:=⟨_,rfl⟩
    obtain ⟨ff,hff⟩:∃ ff,flagOf l fl=ff:=⟨_,rfl⟩
    obtain ⟨oc,hoc⟩:∃ oc,onC (Der.rpOf ((seek l 384).getD [])) bs=oc:=⟨_,rfl⟩
    rw [hi0,hi6,ht0,ht6,hff,hoc] at HKu
    rw [hi0,ht0] at HI0
    simp only [hi6,ht6] at HI6
    simp only [hff] at HF
    simp only [hoc] at HC
    clear hi0 hi6 ht0 ht6 hff hoc
    go_wp2_with fail
    refine HI0.out.mono ?_
    rintro e w3 ⟨rfl,hB3⟩
    have HB3:=Lib.hid hB3
    clear hB3
    go_wp2_with fail
    refine (HI6.out w3 HB3.out).mono ?_
    rintro e w4 ⟨rfl,hB4⟩
    have HB4:=Lib.hid (HB3.out.trans (hB4.mono HB3.out.size))
    clear hB4 HI0 HI6 HB3
    have fin:∀ (wx:World),Below W2.heap.size W2 wx→Below s w wx:=fun _ h=>HB2.out.trans (h.mono (by have:=Hlx.out;have:=Hz1.out;omega))
    have Fin:=Lib.hid fin
    clear fin
    have a0:=blk_cell ((HB4.out.block s (by have:=Hlx.out;have:=Hz1.out;omega)).trans HS2.out) 0
    have a1:=blk_cell ((HB4.out.block s (by have:=Hlx.out;have:=Hz1.out;omega)).trans HS2.out) 1
    have b1:=blk_cell ((HB4.out.block sx Hlx.out).trans HX2.out) 1
    have b2:=blk_cell ((HB4.out.block sx Hlx.out).trans HX2.out) 2
    simp only [List.getElem?_toArray,List.getElem?_cons_zero,List.getElem?_cons_succ] at a0 a1 b1 b2
    cases t0
    · have hR:R=99:=HKu.out.trans (if_pos (.inl rfl))
      subst hR
      go_wp2
      go_ret
      exact ⟨rfl,by rw [Hs.out];exact Fin.out _ HB4.out⟩
    cases t6
    · have hR:R=99:=HKu.out.trans (if_pos (.inr (.inl rfl)))
      subst hR
      go_wp2
      go_ret
      exact ⟨rfl,by rw [Hs.out];exact Fin.out _ HB4.out⟩
    have HCl:=Lib.hid (class_any ky pv w4)
    obtain ⟨cu,hcu⟩:∃ cu,clsU ky pv=cu:=⟨_,rfl⟩
    rw [hcu] at HCl HKu
    clear hcu
    go_wp2_with fail
    refine HCl.out.mono ?_
    rintro e w5 ⟨rfl,rfl⟩
    by_cases hc:(i0:Int)=cu
    rotate_left
    · have hR:R=99:=HKu.out.trans (if_pos (.inr (.inr (.inl hc))))
      subst hR
      have hc':((i0:Int)==cu)=false:=by simpa using hc
      clear hc
      go_wp2
      go_ret
      exact ⟨rfl,by rw [Hs.out];exact Fin.out _ HB4.out⟩
    have Hc:=Lib.hid hc
    have hc':((i0:Int)==cu)=true:=by simpa using hc
    clear hc
    by_cases hk6:(i6:Int)=ky
    rotate_left
    · have hR:R=99:=HKu.out.trans (if_pos (.inr (.inr (.inr hk6))))
      subst hR
      have hk':((i6:Int)==ky)=false:=by simpa using hk6
      clear hk6
      go_wp2
      go_ret
      exact ⟨rfl,by rw [Hs.out];exact Fin.out _ HB4.out⟩
    have hk':((i6:Int)==ky)=true:=by simpa using hk6
    have hRR := HKu.out.trans (if_neg (by rintro (h | h | h | h); · cases h
                                          · cases h
                                          · exact h Hc.out
                                          · exact h hk6))
    have HRR:=Lib.hid hRR
    clear hRR hk6 HKu
    go_wp2_with fail
    refine (HF.out w4 HB4.out).mono ?_
    rintro e w6 ⟨rfl,hB6⟩
    have HB6:=Lib.hid (HB4.out.trans (hB6.mono HB4.out.size))
    clear hB6 HF hc' hk' a0 a1 b1 b2
    have a0:=blk_cell ((HB6.out.block s (by have:=Hlx.out;have:=Hz1.out;omega)).trans HS2.out) 0
    have a1:=blk_cell ((HB6.out.block s (by have:=Hlx.out;have:=Hz1.out;omega)).trans HS2.out) 1
    simp only [List.getElem?_toArray,List.getElem?_cons_zero,List.getElem?_cons_succ] at a0 a1
    cases ff
    · have hR:R=104:=HRR.out.trans (if_pos rfl)
      subst hR
      go_wp2
      go_ret
      exact ⟨rfl,by rw [Hs.out];exact Fin.out _ HB6.out⟩
    have HRR2:=Lib.hid (HRR.out.trans (if_neg (by decide)))
    go_wp2_with fail
    refine (HPar.out w6 HB6.out).mono ?_
    rintro e w7 ⟨rfl,hB7⟩
    have HB7:=Lib.hid (HB6.out.trans (Below.mono hB7 HB6.out.size))
    clear hB7 a0 a1
    have a0:=blk_cell ((HB7.out.block s (by have:=Hlx.out;have:=Hz1.out;omega)).trans HS2.out) 0
    have a1:=blk_cell ((HB7.out.block s (by have:=Hlx.out;have:=Hz1.out;omega)).trans HS2.out) 1
    simp only [List.getElem?_toArray,List.getElem?_cons_zero,List.getElem?_cons_succ] at a0 a1
    cases pb
    · have hR:R=113:=HRR2.out.trans (if_pos rfl)
      subst hR
      go_wp2
      go_ret
      exact ⟨rfl,by rw [Hs.out];exact Fin.out _ HB7.out⟩
    have HRR3:=Lib.hid (HRR2.out.trans (if_neg (by decide)))
    by_cases hk:kind=4176
    rotate_left
    · have hR:R=0:=HRR3.out.trans (if_neg (fun h=>hk h.1))
      subst hR
      have hk':(kind==4176)=false:=by simpa using hk
      clear hk
      go_wp2
      go_ret
      exact ⟨rfl,by rw [Hs.out];exact Fin.out _ HB7.out⟩
    have Hk:=Lib.hid hk
    have hk':(kind==4176)=true:=by simpa using hk
    clear hk
    go_wp2_with fail
    refine (HC.out w7 HB7.out).mono ?_
    rintro e w8 ⟨rfl,hB8⟩
    have HB8:=Lib.hid (HB7.out.trans (hB8.mono HB7.out.size))
    clear hB8
    cases oc
    · have hR:R=113:=HRR3.out.trans (if_pos ⟨Hk.out,rfl⟩)
      subst hR
      go_wp2
      go_ret
      exact ⟨rfl,by rw [Hs.out];exact Fin.out _ HB8.out⟩
    · have hR:R=0:=HRR3.out.trans (if_neg (fun h=>by cases h.2))
      subst hR
      go_wp2
      go_ret
      exact ⟨rfl,by rw [Hs.out];exact Fin.out _ HB8.out⟩
end Go.Proofs.YtendnkpiidhogaaGreat.At

namespace Go.Proofs.YtendnkpiidhogaaGreat.At
open Go.RowKit Go.Shelf Mc
attribute [local go_sem] Oper.semAt_some
theorem uses_nat (kind:Int):∃ n:Nat,(mechOf kind).uses=(n:Int)∧n<1024:=by
 have h1:∀ r∈mtab,0≤r.uses∧r.uses<1024:=by decide +kernel
 have h:0≤(mechOf kind).uses∧(mechOf kind).uses<1024:=by
  rcases mech_mem kind with h | h
  · exact h1 _ h
  · rw [h];decide
 exact ⟨(mechOf kind).uses.toNat,by omega,by omega⟩
theorem keyed_key (kind:Int) {u:Int} (hu:u=2∨u=4∨u=8∨u=16∨u=128∨u=256∨u=512) (h:(mechOf kind).uses / u % 2=1):(keyP kind).1=(mechOf kind).key:=by
 have h1:∀ r∈mtab,∀ u∈([2,4,8,16,128,256,512]:List Int),r.uses / u % 2=1→¬ r.key<0:=by decide +kernel
 have hk:¬ (mechOf kind).key<0:=by
  rcases mech_mem kind with hm | hm
  · exact h1 _ hm u (by simp;omega) h
  · rw [hm] at h
    rcases hu with rfl | rfl | rfl | rfl | rfl | rfl | rfl <;> exact absurd h (by decide)
 unfold keyP
 rw [if_neg hk]
theorem some_len {C:Crv} {bs:List Nat} (h:somewhere C bs=true):bs.length=1+2*C.size:=by
 unfold somewhere decC at h
 split at h
 · rename_i heq
   split at heq
   · cases heq
   split at heq
   · rename_i h2;exact h2.1
   · cases heq
 · cases h
theorem onC_point {r:Int} {bs:List Nat} (hr:r=0∨r=1∨r=2) (hp:pointB bs=true):(pointC bs==r)=onC r bs:=by
 have h2:¬ (somewhere c256 bs=true∧somewhere c384 bs=true):=by
  rintro ⟨h1,h2⟩
  have e1:=some_len h1
  have e2:=some_len h2
  rw [e1] at e2
  revert e2;decide
 unfold pointB at hp
 unfold pointC onC
 cases h1:somewhere c256 bs
 · cases h3:somewhere c384 bs
   · rw [h1,h3] at hp;cases hp
   · rcases hr with rfl | rfl | rfl <;> simp
 · cases h3:somewhere c384 bs
   · rcases hr with rfl | rfl | rfl <;> simp
   · exact absurd ⟨h1,h3⟩ h2
theorem par_point {bs:List Nat} (h:parB 4176 bs=true):pointB bs=true:=by
 have hm:mechOf 4176=⟨4176,512,3,false,some 147⟩:=rfl
 unfold parB at h
 rw [hm] at h
 simpa [formB] using h
def flZ (u:Int):Int:=if u=1∨u=32∨u=64 then 0 else flU u
def clZ (u:Int):Int:=if u=4∨u=8∨u=128 then 2 else 3
theorem refMay_any (u kind:Int) (P Pl:Nat→Prop) (A Al:Option Addr) (c cl:Nat) (bs:List Nat) (l:Attrs) (w:World) (hb:RB w P A c bs) (hP:∀ b,P b→b<w.heap.size) (hl:RA w Pl Al cl l) (hPl:∀ b,Pl b→b<w.heap.size) :
 Calls Tryz.prog 30 #[.int .i64 u,.agg #[.int .i64 kind,.slice A bs.length c],.slice Al l.length cl] w fun e w'=>e=.returned (.int .i64 (mayOf u kind bs l))∧Below w.heap.size w w':=by
 obtain ⟨R,hR⟩:∃ R,mayOf u kind bs l=R:=⟨_,rfl⟩
 rw [hR]
 have h7:u∉pwU→R=7:=fun h=>hR.symm.trans (mayOf_7 h)
 have h112:u∈pwU→¬ (mechOf kind).uses / u % 2=1→R=112:=fun h h2=>hR.symm.trans (mayOf_112 h h2)
 have hp3:u∈pwU→(mechOf kind).uses / u % 2=1→(u=1∨u=32∨u=64)→R=if parB kind bs then 0 else 113:=fun h h2 h3=>hR.symm.trans (mayOf_p h h2 h3)
 have hkk:u∈pwU→(mechOf kind).uses / u % 2=1→¬ (u=1∨u=32∨u=64)→R=mayK u kind bs l:=fun h h2 h3=>hR.symm.trans (mayOf_k h h2 h3)
 unfold mayK at hkk
 have hE:=(Below.refl w.heap.size w).alloc (Nat.le_refl _) (.cells #[.int .i64 kind,.slice A bs.length c] 46)
 have hn:=heap_alloc_new w (.cells #[.int .i64 kind,.slice A bs.length c] 46)
 have hz:(w.alloc (.cells #[.int .i64 kind,.slice A bs.length c] 46)).heap.size=w.heap.size+1:=by simp
 have hm:=fun X=>refUses_any kind X
 obtain ⟨un,hun,hun2⟩:=uses_nat kind
 simp only [hun] at hm h112 hp3 hkk
 have Hm:=Lib.hid hm
 have HE:=Lib.hid hE
 have Hn:=Lib.hid hn
 have Hz:=Lib.hid hz
 have HB:=Lib.hid hb
 have HP:=Lib.hid hP
 have HL:=Lib.hid hl
 have HPl:=Lib.hid hPl
 have H7:=Lib.hid h7
 have H112:=Lib.hid h112
 have HP3:=Lib.hid hp3
 have HKK:=Lib.hid hkk
 have Hun:=Lib.hid hun
 clear hE hn hz hm hb hP hl hPl h7 h112 hp3 hkk hR hun
 obtain ⟨s,hs⟩:∃ s,w.heap.size=s:=⟨_,rfl⟩
 rw [hs] at HE Hn Hz
 have Hs:=Lib.hid hs
 clear hs
 by_cases hpw:u∈pwU
 rotate_left
 · have hR:R=7:=H7.out hpw
   subst hR
   simp only [pwU,List.mem_cons,List.not_mem_nil,or_false,not_or] at hpw
   obtain ⟨p1,p2,p3,p4,p5,p6,p7,p8,p9,p10⟩:=hpw
   have g1:(u==1)=false:=by simpa using p1
   have g2:(u==2)=false:=by simpa using p2
   have g3:(u==4)=false:=by simpa using p3
   have g4:(u==8)=false:=by simpa using p4
   have g5:(u==16)=false:=by simpa using p5
   have g6:(u==32)=false:=by simpa using p6
   have g7:(u==64)=false:=by simpa using p7
   have g8:(u==128)=false:=by simpa using p8
   have g9:(u==256)=false:=by simpa using p9
   have g10:(u==512)=false:=by simpa using p10
   clear p1 p2 p3 p4 p5 p6 p7 p8 p9 p10
   go_enter Tryz.func30,Tryz.ntmps30
   go_wp2
   go_ret
   exact ⟨rfl,by rw [Hs.out];exact HE.out⟩
 have HPw:=Lib.hid hpw
 have hpw:u=1∨u=2∨u=4∨u=8∨u=16∨u=32∨u=64∨u=128∨u=256∨u=512:=by simpa only [pwU,List.mem_cons,List.not_mem_nil,or_false] using hpw
 obtain ⟨q,hqq⟩:∃ q,(un:Int) / u % 2=q:=⟨_,rfl⟩
 rw [hqq] at H112 HP3 HKK
 have hpb:∃ pb,parB kind bs=pb:=⟨_,rfl⟩
 obtain ⟨pb,hpb⟩:=hpb
 have HPb:=Lib.hid hpb
 have hn1:¬ q=1→R=112:=H112.out HPw.out
 have Hn1:=Lib.hid hn1
 clear H7 H112 hn1
 go_enter Tryz.func30,Tryz.ntmps30
 go_upto_region 3 with fail
 rw [Hs.out]
 generalize w.alloc (.cells #[.int .i64 kind,.slice A bs.length c] 46)=W0 at *
 have HPar:=Lib.hid (fun X (hX:Below W0.heap.size W0 X)=>refParam_any kind P A c bs X (HB.out.below (HE.out.trans (hX.mono (by have:=Hz.out;omega))) (fun q hq=>by have:=HP.out q hq;have:=Hs.out;omega)) (fun q hq=>by have:=HP.out q hq;have:=Hs.out;have:=hX.size;have:=Hz.out;omega))
 simp only [hpb] at HPar
 clear hpb
 have Fin:=Lib.hid (fun (wx:World) (h:Below W0.heap.size W0 wx)=>(show Below s w wx from HE.out.trans (h.mono (by have:=Hz.out;omega))))
 go_upto_block 0 with fail
 go_cut [7,8] (fun a b wx=>a=.int .i64 (flZ u)∧b=.int .i64 (clZ u)∧wx=W0)
 case first =>
  rcases hpw with rfl | rfl | rfl | rfl | rfl | rfl | rfl | rfl | rfl | rfl
  all_goals
   go_wp2
   go_meet
   case rel=>exact ⟨rfl,rfl,rfl⟩
 case rest =>
 obtain ⟨rfl,rfl,rfl⟩:=hcut
 have a0:=blk_cell Hn.out 0
 have a1:=blk_cell Hn.out 1
 simp only [List.getElem?_toArray,List.getElem?_cons_zero,List.getElem?_cons_succ] at a0 a1
 go_upto_region 25 with fail
 obtain ⟨bq,hbq⟩:∃ bq,(q != 1)=bq:=⟨_,rfl⟩
 go_cut [42] from 36 to 43 (fun v wx=>v=.bool bq∧wx=wc)
 case first =>
  go_wp2_with fail
  refine (Hm.out _).mono ?_
  rintro e w1 ⟨rfl,rfl⟩
  rcases hpw with rfl | rfl | rfl | rfl | rfl | rfl | rfl | rfl | rfl | rfl
  all_goals
   try rw [Int.ediv_one] at hqq
   go_wp2
   go_meet
   case rel=>exact ⟨rfl,rfl⟩
 case rest =>
 obtain ⟨rfl,rfl⟩:=hcut
 have hq:(bq=false∧q=1)∨(bq=true∧¬ q=1):=by
  rw [←hbq]
  by_cases h:q=1
  · exact .inl ⟨by rw [h];rfl,h⟩
  · exact .inr ⟨by simpa using h,h⟩
 clear hbq
 rcases hq with ⟨rfl,hq⟩ | ⟨rfl,hq⟩
 rotate_left
 · have hR:R=112:=Hn1.out hq
   subst hR
   clear hq HKK HP3
   go_wp2
   go_ret
   exact ⟨rfl,by rw [Hs.out];exact HE.out⟩
 have Hq:=Lib.hid hq
 have Huq:=Lib.hid (show (mechOf kind).uses / u % 2=1 by rw [Hun.out,hqq];exact hq)
 clear hq Hn1 hqq
 by_cases h3:u=1∨u=32∨u=64
 · have hR:=HP3.out HPw.out Hq.out h3
   rw [HPb.out] at hR
   have hkk:(kind==4176)=false:=by
    by_cases h:kind=4176
    · exfalso
      subst h
      have h5:=Huq.out
      rw [show (mechOf 4176).uses=512 from rfl] at h5
      rcases h3 with rfl | rfl | rfl <;> exact absurd h5 (by decide)
    · simpa using h
   have HR3:=Lib.hid hR
   have Hkk:=Lib.hid hkk
   have hf0:flZ u=0:=if_pos h3
   rw [hf0]
   clear hR hkk HP3 HKK Huq hpw HPw hf0 h3
   go_wp2_with fail
   refine (HPar.out wc (Below.refl _ _)).mono ?_
   rintro e w3 ⟨rfl,hB3⟩
   have HB3:=Lib.hid (show Below wc.heap.size wc w3 from hB3)
   clear hB3 a0 a1
   have a0:=blk_cell ((HB3.out.block s (by have:=Hz.out;omega)).trans Hn.out) 0
   have a1:=blk_cell ((HB3.out.block s (by have:=Hz.out;omega)).trans Hn.out) 1
   simp only [List.getElem?_toArray,List.getElem?_cons_zero,List.getElem?_cons_succ] at a0 a1
   cases pb
   · have hR':R=113:=HR3.out
     subst hR'
     go_wp2
     go_ret
     exact ⟨rfl,by rw [Hs.out];exact Fin.out _ HB3.out⟩
   · have hR':R=0:=HR3.out
     subst hR'
     have hk:=Hkk.out
     go_wp2
     go_ret
     exact ⟨rfl,by rw [Hs.out];exact Fin.out _ HB3.out⟩
 have hku:=pw_keyed HPw.out h3
 have hkk:=HKK.out HPw.out Hq.out h3
 have hf0:flZ u=flU u:=if_neg h3
 rw [hf0]
 have hfn:(flU u==0)=false:=by rcases hku with rfl | rfl | rfl | rfl | rfl | rfl | rfl <;> decide
 have hcz:clZ u=if pvU u=true then 3 else 2:=by rcases hku with rfl | rfl | rfl | rfl | rfl | rfl | rfl <;> decide
 have hky:=keyed_key kind hku Huq.out
 rw [HPb.out] at hkk
 have HKe:=Lib.hid (refKey_any kind wc)
 obtain ⟨ky,hkye⟩:∃ ky,(mechOf kind).key=ky:=⟨_,rfl⟩
 obtain ⟨kb,hkb⟩:∃ kb,(keyP kind).2=kb:=⟨_,rfl⟩
 rw [hky,hkye,hkb] at HKe
 rw [hkye] at hkk
 have HLw:=Lib.hid (fun X (hX:Below wc.heap.size wc X)=>(show RA X Pl Al cl l from HL.out.below (HE.out.trans (hX.mono (by have:=Hz.out;omega))) (fun q hq=>by have:=HPl.out q hq;have:=Hs.out;omega)))
 have HPw2:=Lib.hid (fun X (hX:Below wc.heap.size wc X)=>(show ∀ q,Pl q→q<X.heap.size from fun q hq=>by have:=HPl.out q hq;have:=Hs.out;have:=hX.size;have:=Hz.out;omega))
 obtain ⟨fl,hfl⟩:∃ fl,flU u=fl:=⟨_,rfl⟩
 obtain ⟨cu,hcu⟩:∃ cu,clsU ky (pvU u)=cu:=⟨_,rfl⟩
 rw [hfl,hcu] at hkk
 rw [hfl] at hfn ⊢
 have HI0:=Lib.hid (refInt_any Pl Al cl l 0 wc (HLw.out _ (Below.refl _ _)))
 have HI6:=Lib.hid (fun X (hX:Below wc.heap.size wc X)=>refInt_any Pl Al cl l 256 X (HLw.out _ hX))
 have HF:=Lib.hid (fun X (hX:Below wc.heap.size wc X)=>refFlag_any Pl Al cl l fl X (HLw.out _ hX))
 have HC:=Lib.hid (fun X (hX:Below wc.heap.size wc X)=>refCurve_any Pl Al cl l X (HLw.out _ hX) (HPw2.out _ hX))
 have HPo:=Lib.hid (fun X (hX:Below wc.heap.size wc X)=>refPoint_any P A c bs X (HB.out.below (HE.out.trans (hX.mono (by have:=Hz.out;omega))) (fun q hq=>by have:=HP.out q hq;have:=Hs.out;omega)) (fun q hq=>by have:=HP.out q hq;have:=Hs.out;have:=hX.size;have:=Hz.out;omega))
 have hrp:=rp_cases ((seek l 384).getD [])
 obtain ⟨rp,hrpe⟩:∃ rp,Der.rpOf ((seek l 384).getD [])=rp:=⟨_,rfl⟩
 rw [hrpe] at hkk hrp
 simp only [hrpe] at HC
 obtain ⟨pc,hpc⟩:∃ pc,pointC bs=pc:=⟨_,rfl⟩
 simp only [hpc] at HPo
 have Hpc:Hid (kind=4176→pb=true→(pc==rp)=onC rp bs):=Lib.hid (fun hk hp=>by subst hk;rw [←hpc];exact onC_point hrp (par_point (HPb.out.trans hp)))
 obtain ⟨oc,hoc⟩:∃ oc,onC rp bs=oc:=⟨_,rfl⟩
 rw [hoc] at Hpc hkk
 obtain ⟨i0,hi0⟩:∃ i0,((intOf' l 0).getD 0)=i0:=⟨_,rfl⟩
 obtain ⟨i6,hi6⟩:∃ i6,((intOf' l 256).getD 0)=i6:=⟨_,rfl⟩
 obtain ⟨t0,ht0⟩:∃ t0,(intOf' l 0).isSome=t0:=⟨_,rfl⟩
 obtain ⟨t6,ht6⟩:∃ t6,(intOf' l 256).isSome=t6:=⟨_,rfl⟩
 obtain ⟨ff,hff⟩:∃ ff,flagOf l fl=ff:=⟨_,rfl⟩
 rw [hi0,hi6,ht0,ht6,hff] at hkk
 rw [hi0,ht0] at HI0
 simp only [hi6,ht6] at HI6
 simp only [hff] at HF
 obtain ⟨z0,hz0⟩:∃ z0:Int,(i0:Int)=z0:=⟨_,rfl⟩
 obtain ⟨z6,hz6⟩:∃ z6:Int,(i6:Int)=z6:=⟨_,rfl⟩
 rw [hz0] at HI0
 simp only [hz6] at HI6
 rw [hz0,hz6] at hkk
 clear hz0 hz6
 obtain ⟨bc,hbc⟩:∃ bc,(z0==cu)=bc:=⟨_,rfl⟩
 obtain ⟨bk,hbk⟩:∃ bk,(z6==ky)=bk:=⟨_,rfl⟩
 have hbc2:(z0≠cu)=(bc=false):=by rw [←hbc];simp
 have hbk2:(z6≠ky)=(bk=false):=by rw [←hbk];simp
 simp only [hbc2,hbk2] at hkk
 have HKu:=Lib.hid hkk
 have hk3:(ky=16∧cu=4)∨((ky==16)=false∧(ky==31)=true∧cu=4)∨((ky==16)=false∧(ky==31)=false∧cu=clZ u):=by
  by_cases h1:ky=16
  · exact .inl ⟨h1,by rw [←hcu,h1];rfl⟩
  by_cases h2:ky=31
  · exact .inr (.inl ⟨by simpa using h1,by simpa using h2,by rw [←hcu,h2];rfl⟩)
  · exact .inr (.inr ⟨by simpa using h1,by simpa using h2,by rw [←hcu,hcz];unfold clsU;rw [if_neg (by omega)]⟩)
 clear hkk hky hkye hkb hrp hrpe hpc hi0 hi6 ht0 ht6 hff hoc hcu hbc2 hbk2 HP3 HKK Huq h3
 clear HPw hpw
 clear hfl hku hf0 hcz
 rcases hk3 with ⟨rfl,rfl⟩ | ⟨h16,h31,rfl⟩ | ⟨h16,h31,hcl⟩
 all_goals
  try rw [←hcl]
  try clear hcl
  go_wp2_with fail
  refine HKe.out.mono ?_
  rintro e w3 ⟨rfl,rfl⟩
  go_wp2_with fail
  refine HI0.out.mono ?_
  rintro e w3 ⟨rfl,d3,rfl⟩
  have HB3:=Lib.hid (below_drewN (Below.refl wc.heap.size wc) d3)
  generalize wc.drewN d3=W3 at *
  go_wp2_with fail
  refine (HI6.out W3 HB3.out).mono ?_
  rintro e w4 ⟨rfl,d4,rfl⟩
  have HB4:=Lib.hid (below_drewN HB3.out d4)
  generalize W3.drewN d4=W4 at *
  clear a0 a1
  have a0:=blk_cell ((HB4.out.block s (by have:=Hz.out;omega)).trans Hn.out) 0
  have a1:=blk_cell ((HB4.out.block s (by have:=Hz.out;omega)).trans Hn.out) 1
  simp only [List.getElem?_toArray,List.getElem?_cons_zero,List.getElem?_cons_succ] at a0 a1
  cases t0
  · have hR:R=99:=HKu.out.trans (if_pos (.inl rfl))
    subst hR
    go_wp2
    go_ret
    exact ⟨rfl,by rw [Hs.out];exact Fin.out _ HB4.out⟩
  cases t6
  · have hR:R=99:=HKu.out.trans (if_pos (.inr (.inl rfl)))
    subst hR
    go_wp2
    go_ret
    exact ⟨rfl,by rw [Hs.out];exact Fin.out _ HB4.out⟩
  cases bc
  · have hR:R=99:=HKu.out.trans (if_pos (.inr (.inr (.inl rfl))))
    subst hR
    clear hbk
    go_wp2
    go_ret
    exact ⟨rfl,by rw [Hs.out];exact Fin.out _ HB4.out⟩
  have hz0:=eq_of_beq hbc
  subst hz0
  clear hbc
  cases bk
  · have hR:R=99:=HKu.out.trans (if_pos (.inr (.inr (.inr rfl))))
    subst hR
    go_wp2
    go_ret
    exact ⟨rfl,by rw [Hs.out];exact Fin.out _ HB4.out⟩
  have HK1:=Lib.hid (HKu.out.trans (if_neg (by decide)))
  clear HKu
  go_wp2_with fail
  refine (HF.out W4 HB4.out).mono ?_
  rintro e w5 ⟨rfl,rfl⟩
  have hz6:=eq_of_beq hbk
  subst hz6
  clear hbk
  cases ff
  · have hR:R=104:=HK1.out.trans (if_pos rfl)
    subst hR
    go_wp2
    go_ret
    exact ⟨rfl,by rw [Hs.out];exact Fin.out _ HB4.out⟩
  have HK2:=Lib.hid (HK1.out.trans (if_neg (by decide)))
  clear HK1
  go_wp2_with fail
  refine (HPar.out W4 HB4.out).mono ?_
  rintro e w6 ⟨rfl,hB6⟩
  have HB6:=Lib.hid (HB4.out.trans (Below.mono hB6 HB4.out.size))
  clear hB6 a0 a1
  have a0:=blk_cell ((HB6.out.block s (by have:=Hz.out;omega)).trans Hn.out) 0
  have a1:=blk_cell ((HB6.out.block s (by have:=Hz.out;omega)).trans Hn.out) 1
  simp only [List.getElem?_toArray,List.getElem?_cons_zero,List.getElem?_cons_succ] at a0 a1
  cases pb
  · have hR:R=113:=HK2.out.trans (if_pos rfl)
    subst hR
    go_wp2
    go_ret
    exact ⟨rfl,by rw [Hs.out];exact Fin.out _ HB6.out⟩
  have HK3:=Lib.hid (HK2.out.trans (if_neg (by decide)))
  clear HK2
  rcases Classical.em (¬ kind=4176) with hk | hk
  · have hR:R=0:=HK3.out.trans (if_neg (fun h=>hk h.1))
    subst hR
    have hk':(kind==4176)=false:=by simpa using hk
    clear hk
    go_wp2
    go_ret
    exact ⟨rfl,by rw [Hs.out];exact Fin.out _ HB6.out⟩
  have hk:=Classical.not_not.mp hk
  have Hk:=Lib.hid hk
  have hpr:=Hpc.out Hk.out rfl
  have hk':(kind==4176)=true:=by simpa using hk
  clear hk
  go_wp2_with fail
  refine (HPo.out w6 HB6.out).mono ?_
  rintro e w7 ⟨⟨b7,A7,n7,c7,B7,m7,d7,rfl⟩,hB7⟩
  have HB7:=Lib.hid (HB6.out.trans (Below.mono hB7 HB6.out.size))
  have HCu:=Lib.hid (HC.out (w7.alloc (.cells #[.bool b7,.slice A7 n7 c7,.slice B7 m7 d7] 92)) (HB7.out.alloc (by have:=HB7.out.size;omega) _))
  have HB8:=Lib.hid (HB7.out.alloc HB7.out.size (.cells #[.bool b7,.slice A7 n7 c7,.slice B7 m7 d7] 92))
  clear hB7 a0 a1
  go_wp2_with fail
  refine HCu.out.mono ?_
  rintro e w8 ⟨rfl,hB8⟩
  have HB9:=Lib.hid (HB8.out.trans (hB8.mono HB8.out.size))
  clear hB8
  cases oc
  · have hR:R=113:=HK3.out.trans (if_pos ⟨Hk.out,rfl⟩)
    subst hR
    go_wp2
    go_ret
    exact ⟨rfl,by rw [Hs.out];exact Fin.out _ HB9.out⟩
  · have hR:R=0:=HK3.out.trans (if_neg (fun h=>by cases h.2))
    subst hR
    go_wp2
    go_ret
    exact ⟨rfl,by rw [Hs.out];exact Fin.out _ HB9.out⟩
end Go.Proofs.YtendnkpiidhogaaGreat.At

namespace Go.Proofs.YtendnkpiidhogaaGreat
open Go.RowKit
def RNN (w:World) (P:Nat→Prop) (A:Option Addr) (c:Nat) (ls:List (List Nat)) (cs:List Value):Prop :=
 RS w P 1 A ls.length c cs∧ls.length≤1000∧∀ (j:Nat) l,ls[j]?=some l→∃ A' c',cs[j]?=some (.slice A' l.length c')∧RN w P A' c' l
theorem may_any (P:Nat→Prop) (A:Option Addr) (c:Nat) (ls:List (List Nat)) (cs:List Value) (w:World) (h:RNN w P A c ls cs) :
 Calls Tryz.prog 197 #[.slice A ls.length c] w fun e w'=>e=.returned (.bool (ls.all fun l=>decide (nbits (val 18446744073709551616 l)≤4096)))∧w=w':=by
 obtain ⟨⟨h1,h2,h3,h4⟩,h5,h6⟩:=h
 go_enter Tryz.func197,Tryz.ntmps197
 go_wp2_with fail
 go_loopw [7] (fun iv wr=>∃ k:Nat,iv=.int .i64 (k:Int)∧k≤ls.length∧Hid ((ls.all fun l=>decide (nbits (val 18446744073709551616 l)≤4096))=((ls.drop k).all fun l=>decide (nbits (val 18446744073709551616 l)≤4096)))∧w=wr) (fun iv _=>ls.length - (intOf iv).toNat)
 case atStart=>exact ⟨0,rfl,by omega,Lib.hid (by simp),rfl⟩
 case round =>
  obtain ⟨k,rfl,hk,hall,rfl⟩:=hrel
  by_cases hlt:k<ls.length
  · obtain ⟨ad,rfl,_,hc⟩:=h4 (by omega)
    obtain ⟨A1,c1,e1,hr⟩:=h6 k _ (List.getElem?_eq_getElem hlt)
    have hx:=hc _ _ e1
    have hb:=Lib.hid (bits_any P A1 c1 ls[k] w hr)
    have hd:(ls.drop k).all (fun l=>decide (nbits (val 18446744073709551616 l)≤4096))=(decide (nbits (val 18446744073709551616 ls[k])≤4096) && (ls.drop (k+1)).all fun l=>decide (nbits (val 18446744073709551616 l)≤4096)):=by
     rw [List.drop_eq_getElem_cons hlt,List.all_cons]
    obtain ⟨l,hl⟩:∃ l,ls[k]=l:=⟨_,rfl⟩
    rw [hl] at hx hb hd
    obtain ⟨nb,hnb⟩:∃ nb,nbits (val 18446744073709551616 l)=nb:=⟨_,rfl⟩
    rw [hnb] at hb hd
    have Hall:=hall
    have Hd:=Lib.hid hd
    clear hd hl hr e1 hc h4 h6 hnb hall
    go_wp2_with fail
    refine hb.out.mono ?_
    rintro e w' ⟨rfl,rfl⟩
    by_cases hbig:4096<nb
    · have hf:=Lib.hid (show (ls.all fun l=>decide (nbits (val 18446744073709551616 l)≤4096))=false from Hall.out.trans (by rw [Hd.out,decide_eq_false (by omega:¬ nb≤4096),Bool.false_and]))
      have t1:decide ((4096:Int)<(nb:Int))=true:=decide_eq_true (by omega)
      clear Hall Hd
      go_wp2
      go_ret
      exact ⟨by rw [hf.out];rfl,rfl⟩
    · have hf:=Hall.out.trans (by rw [Hd.out,decide_eq_true (by omega:nb≤4096),Bool.true_and])
      have Hf:=Lib.hid hf
      have t1:decide ((4096:Int)<(nb:Int))=false:=decide_eq_false (by omega)
      clear Hall Hd hf
      go_wp2
      go_roundw
      case rel=>exact ⟨k+1,by go_num,by omega,Hf,by first | rfl | trivial⟩
      case measure=>simp [intOf];omega
  · have hf:=Lib.hid (show (ls.all fun l=>decide (nbits (val 18446744073709551616 l)≤4096))=true from hall.out.trans (by rw [List.drop_of_length_le (by omega),List.all_nil]))
    clear hall h4 h6
    go_wp2
    go_ret
    exact ⟨by rw [hf.out];rfl,rfl⟩
theorem RNN.two {w:World} {P P':Nat→Prop} {A A':Option Addr} {c c':Nat} {a b:List Nat} (h:RN w P A c a) (h':RN w P' A' c' b) (hP:∀ b,P b→b<w.heap.size) (hP':∀ b,P' b→b<w.heap.size) :
 RNN (w.alloc (.cells #[.slice A a.length c,.slice A' b.length c'] 106)) (fun _=>True) (some ⟨w.heap.size,0,none⟩) 2 [a,b] [.slice A a.length c,.slice A' b.length c']:=by
 have hB:Below w.heap.size w (w.alloc (.cells #[.slice A a.length c,.slice A' b.length c'] 106)):=(Below.refl _ w).alloc (Nat.le_refl _) _
 refine ⟨RS.fresh (w:=w) (P:=fun _=>True) #[.slice A a.length c,.slice A' b.length c'] 106 1 2 rfl (by unfold maxLen;omega) trivial,by simp,fun j l hl=>?_⟩
 match j,hl with
 | 0,hl=>simp at hl;subst hl;exact ⟨A,c,rfl,(h.below hB hP).mono fun _ _=>trivial⟩
 | 1,hl=>simp at hl;subst hl;exact ⟨A',c',rfl,(h'.below hB hP').mono fun _ _=>trivial⟩
 | j+2,hl=>simp at hl
theorem dg_last_pos32 {x:Nat} (hx:0<x):0<dg (digs 4294967296 x) ((digs 4294967296 x).length - 1):=by
 have hne:digs 4294967296 x≠[]:=by rw [digs_pos (by omega) hx];simp
 have h:=digs_last (B:=4294967296) (by omega) x hne
 have hpos:=List.length_pos_iff.2 hne
 rw [List.getLast_eq_getElem] at h
 rw [dg,getD_eq' (by omega)]
 omega
theorem half_step (t k:Nat):t / 2 ^ k / 2=t / 2 ^ (k+1):=by rw [Nat.div_div_eq_div_mul,Nat.pow_succ]
theorem refBits_any (P:Nat→Prop) (A:Option Addr) (c:Nat) (x:Nat) (w:World) (h:RN w P A c (digs 4294967296 x)) :
 Calls Tryz.prog 118 #[.slice A (digs 4294967296 x).length c] w fun e w'=>e=.returned (.int .i64 (nbits x:Int))∧w=w':=by
 rcases Nat.eq_zero_or_pos x with rfl | hx
 · rw [digs_zero]
   go_enter Tryz.func118,Tryz.ntmps118
   go_wp2
   go_ret
   exact ⟨rfl,rfl⟩
 · have htop:=fun k hk h1 h2=>nbits_top (m:=32) (by omega) hx (k:=k) hk h1 h2
   have hpos:=dg_last_pos32 hx
   have hD:=Dig.digs x
   obtain ⟨h1,h2,h3⟩:=h.cap
   have hne:0<(digs 4294967296 x).length:=by rw [digs_pos (by omega) hx];simp
   rw [show (2:Nat) ^ 32=4294967296 by decide] at htop
   generalize digs 4294967296 x=l at *
   obtain ⟨n,hn⟩:∃ n,l.length=n+1:=⟨l.length - 1,by omega⟩
   obtain ⟨ad,rfl,_,q1⟩:=h.at_ (i:=n) (by omega)
   rw [hn,Nat.add_sub_cancel] at htop hpos
   have hl:=hD.dgLt n
   generalize dg l n=t at *
   rw [hn] at h1 h3 ⊢
   have Htop:=Lib.hid htop
   have Hpos:=Lib.hid hpos
   clear htop hpos hx hn hne h hD
   have Hl:=Lib.hid hl
   clear hl
   go_enter Tryz.func118,Tryz.ntmps118
   go_wp2
   go_loop [4,5] (fun kv tv=>∃ k z:Nat,kv=.int .i64 (k:Int)∧tv=.int .u64 (z:Int)∧Hid (z=t / 2 ^ k)∧Hid (z<4294967296)∧k≤32∧(k=0∨2 ^ (k - 1)≤t)) (fun kv _=>(33 - intOf kv).toNat)
   case atStart=>exact ⟨0,t,rfl,rfl,Lib.hid (by simp),Hl,by omega,.inl rfl⟩
   case round =>
    obtain ⟨k,z,rfl,rfl,hz,hzl,hk,hor⟩:=hrel
    have Hor:=Lib.hid hor
    clear hor
    by_cases h0:z=0
    · have hfin:nbits x=32*n+k:=by
       have e:=hz.out
       rw [h0] at e
       have hlt:t<2 ^ k:=by
        rcases Nat.lt_or_ge t (2 ^ k) with h | h
        · exact h
        · have:=Nat.div_pos h (Nat.pow_pos (by omega));omega
       have hk0:0<k:=by
        rcases Nat.eq_zero_or_pos k with rfl | h
        · have:=Hpos.out;simp at hlt;omega
        · exact h
       rcases Hor.out with h | h
       · omega
       · exact Htop.out k hk0 h hlt
      have Hfin:=Lib.hid hfin
      subst h0
      clear hfin
      go_wp2
      go_ret
      exact ⟨ret_int (by rw [Hfin.out];simp),rfl⟩
    · have hk':k<32:=by
       rcases Nat.lt_or_ge k 32 with h | h
       · exact h
       · exfalso
         apply h0
         rw [hz.out]
         exact Nat.div_eq_of_lt (Nat.lt_of_lt_of_le Hl.out (by rw [show (4294967296:Nat)=2 ^ 32 by decide];exact Nat.pow_le_pow_right (by omega) h))
      have hge:2 ^ k≤t:=by
       rcases Nat.lt_or_ge t (2 ^ k) with h | h
       · exfalso;apply h0;rw [hz.out];exact Nat.div_eq_of_lt h
       · exact h
      have Hge:=Lib.hid hge
      obtain ⟨z',hz',e1⟩:∃ z':Nat,z / 2=z'∧(z:Int) / 2=(z':Int):=⟨z / 2,rfl,by omega⟩
      have hzz:Hid (z'=t / 2 ^ (k+1)):=Lib.hid (by rw [←hz',hz.out,half_step])
      have hzl':Hid (z'<4294967296):=Lib.hid (by have:=hzl.out;omega)
      have p1:(0:Int)<(z:Int):=by omega
      clear hge hz' h0
      go_wp2
      go_round
      case rel=>exact ⟨k+1,z',by go_num,by first | rfl | exact congrArg (Value.int .u64) (IntWalk.u64_in _ (by have:=hzl'.out;omega)),hzz,hzl',by omega,.inr (by rw [Nat.add_sub_cancel];exact Hge.out)⟩
      case measure=>simp [intOf];omega
theorem tmod2 (d j:Nat):((d:Int) / 2 ^ j).tmod 2=((d / 2 ^ j % 2:Nat):Int):=by
 rw [show (d:Int) / 2 ^ j=((d / 2 ^ j:Nat):Int) by simp]
 generalize d / 2 ^ j=z
 rw [Int.tmod_eq_emod_of_nonneg (by omega)]
 omega
theorem mod2 (d j:Nat):IntKind.u64.wrap ((d:Int) / 2 ^ j % 2)=((d / 2 ^ j % 2:Nat):Int):=by
 rw [show (d:Int) / 2 ^ j % 2=((d / 2 ^ j % 2:Nat):Int) by simp]
 generalize d / 2 ^ j=z
 exact IntWalk.u64_in _ (by omega)
theorem refBit_any (P:Nat→Prop) (A:Option Addr) (c:Nat) (x:Nat) (i:Int) (w:World) (h:RN w P A c (digs 4294967296 x)) (hi:i≤9223372036854775807) :
 Calls Tryz.prog 119 #[.slice A (digs 4294967296 x).length c,.int .i64 i] w fun e w'=>e=.returned (.int .u64 (bitOf x i:Int))∧w=w':=by
 obtain ⟨h1,h2,h3⟩:=h.cap
 have hv:=val_digs (B:=4294967296) (by omega) x
 have hD:=Dig.digs x
 generalize digs 4294967296 x=a at *
 by_cases h0:i<0
 · have hb:=Lib.hid (show bitOf x i=0 by simp [bitOf,h0])
   go_enter Tryz.func119,Tryz.ntmps119
   go_wp2
   go_ret
   rw [hb.out]
   exact ⟨rfl,rfl⟩
 · obtain ⟨n,rfl⟩:∃ n:Nat,i=(n:Int):=⟨i.toNat,by omega⟩
   obtain ⟨k,j,hj,hn⟩:∃ k j,j<32∧n=32*k+j:=⟨n / 32,n % 32,by omega,by omega⟩
   have hb:bitOf x (n:Int)=dg a k / 2 ^ j % 2:=by
    have:=val_bit (m:=32) a hD k j hj
    rw [show (2:Nat) ^ 32=4294967296 by decide,hv] at this
    rw [bitOf,if_neg h0,Int.toNat_natCast,hn]
    exact this
   have e1:(n:Int) / 32=(k:Int):=by omega
   have e2:(n:Int) % 32=(j:Int):=by omega
   have e4:IntKind.i64.wrap ((n:Int) / 32)=(k:Int):=by rw [e1];exact IntWalk.i64_in _ (by omega)
   by_cases hk:k<a.length
   · obtain ⟨ad,rfl,_,q1⟩:=h.at_ hk
     have hd:=h.2.dgLt k
     have e3:=mod2 (dg a k) j
     have hj':(j:Int)<32:=by omega
     have hk':(k:Int)<(a.length:Int):=by omega
     have Hb:=Lib.hid hb
     clear hb hn hd h hi hD
     go_enter Tryz.func119,Tryz.ntmps119
     go_wp2
     go_ret
     exact ⟨ret_int (by rw [Hb.out];exact tmod2 _ _),rfl⟩
   · have hd:dg a k=0:=dg_none (by omega)
     rw [hd,Nat.zero_div] at hb
     have Hb:=Lib.hid hb
     have hk':¬ (k:Int)<(a.length:Int):=by omega
     have hk2:(a.length:Int)≤(k:Int):=by omega
     have hkb:(k:Int)≤288230376151711743:=by omega
     clear hb hn hd h hi hD
     go_enter Tryz.func119,Tryz.ntmps119
     go_wp2
     go_ret
     rw [Hb.out]
     exact ⟨rfl,rfl⟩
def BackAt (x n:Nat) (o:List Nat) (k:Nat):Prop:=o.length=n∧(∀ j,j<n→n - 1 - j<k→dg o j=x / 2 ^ (8*(n - 1 - j)) % 256)∧(∀ j,k≤n - 1 - j→dg o j=0)∧∀ b∈o,b<256
theorem BackAt.zero (x n:Nat):BackAt x n (List.replicate n 0) 0:=by
 refine ⟨by simp,fun j _ hj=>by omega,fun j _=>?_,fun b hb=>by simp at hb;omega⟩
 rw [dg,List.getD_eq_getElem?_getD,List.getElem?_replicate]
 split <;> rfl
theorem BackAt.step {x n:Nat} {o:List Nat} {k b:Nat} (h:BackAt x n o k) (hk:k<n) (hb:x / 2 ^ (8*k) % 256=b):BackAt x n (o.set (n - 1 - k) b) (k+1):=by
 obtain ⟨h1,h2,h3,h4⟩:=h
 refine ⟨by simpa using h1,fun j hjn hj=>?_,fun j hj=>by rw [getD_set_ne (by omega)];exact h3 j (by omega),set_lt h4 (by omega)⟩
 rcases Nat.lt_or_ge (n - 1 - j) k with h | h
 · rw [getD_set_ne (by omega)];exact h2 j hjn h
 · obtain rfl:j=n - 1 - k:=by omega
   rw [getD_set_eq (by omega),show n - 1 - (n - 1 - k)=k by omega];exact hb.symm
theorem BackAt.fin {x n:Nat} {o:List Nat} {k:Nat} (h:BackAt x n o k) (hk:∀ j,k≤j→j<n→x / 2 ^ (8*j) % 256=0):o=bytesOf x n:=by
 obtain ⟨h1,h2,h3,_⟩:=h
 apply List.ext_getElem (by rw [h1,bytesOf_length])
 intro i h4 h5
 have e:dg o i=x / 2 ^ (8*(n - 1 - i)) % 256:=by
  rcases Nat.lt_or_ge (n - 1 - i) k with h | h
  · exact h2 i (by omega) h
  · rw [h3 i h,hk _ h (by omega)]
 rw [dg,getD_eq' h4] at e
 rw [e]
 simp [bytesOf]
structure ZM (w:World) (P:Nat→Prop) (g M inv:Nat) (Am Ao Ar:Option Addr) (cm co cr:Nat) (ol rl:List Nat):Prop where
 blk:w.heap[g]?=some (.cells #[.slice Am (digs 18446744073709551616 M).length cm,.int .u64 (inv:Int),.slice Ao ol.length co,.slice Ar rl.length cr] 253 (0,0))
 m:RN w P Am cm (digs 18446744073709551616 M)
 one:RN w P Ao co ol
 rr:RN w P Ar cr rl
 oneLen:ol.length=(digs 18446744073709551616 M).length
 rrLen:rl.length=(digs 18446744073709551616 M).length
 oneV:val 18446744073709551616 ol=RM M % M
 rrV:val 18446744073709551616 rl=RM M*RM M % M
 invLt:inv<18446744073709551616
 invV:(inv*M+1) % 18446744073709551616=0
 big:1<M
 small:(digs 18446744073709551616 M).length≤100000
theorem ZM.below {w w':World} {P:Nat→Prop} {g M inv:Nat} {Am Ao Ar:Option Addr} {cm co cr B:Nat} {ol rl:List Nat} (h:ZM w P g M inv Am Ao Ar cm co cr ol rl) (hb:Below B w w') (hP:∀ b,P b→b<B) (hg:g<B):ZM w' P g M inv Am Ao Ar cm co cr ol rl :=
 ⟨(hb.block g hg).trans h.blk,h.m.below hb hP,h.one.below hb hP,h.rr.below hb hP,h.oneLen,h.rrLen,h.oneV,h.rrV,h.invLt,h.invV,h.big,h.small⟩
end Go.Proofs.YtendnkpiidhogaaGreat

namespace Go.Proofs.YtendnkpiidhogaaGreat
open Go.RowKit Go.Shelf
attribute [local go_sem] Oper.semAt_some
def Stay (lo hi:Nat) (W W':World):Prop:=W.heap.size≤W'.heap.size∧∀ k,lo≤k→k<hi→W'.heap[k]?=W.heap[k]?
theorem Stay.trans {lo hi:Nat} {a b c:World} (h:Stay lo hi a b) (k:Stay lo hi b c):Stay lo hi a c:=⟨Nat.le_trans h.1 k.1,fun i h1 h2=>(k.2 i h1 h2).trans (h.2 i h1 h2)⟩
theorem Stay.refl (lo hi:Nat) (w:World):Stay lo hi w w:=⟨Nat.le_refl _,fun _ _ _=>rfl⟩
end Go.Proofs.YtendnkpiidhogaaGreat

namespace Go.Proofs.YtendnkpiidhogaaGreat
open Go.RowKit Go.Shelf
attribute [local go_sem] Oper.semAt_some
theorem OB.same {w w':World} {base:Nat} {A:Option Addr} {c:Nat} {l:List Nat} (h:OB w base A c l) (hs:∀ (b:Nat) (o:Obj),w.heap[b]?=some o→o.isCells=true→w'.heap[b]?=some o):OB w' base A c l:=by
 obtain ⟨h1,h2,h3,h4⟩:=h
 refine ⟨h1,h2,h3,fun hn=>?_⟩
 obtain ⟨g,cur,e,hg,hh,hc⟩:=h4 hn
 exact ⟨g,cur,e,hg,hs g _ hh rfl,hc⟩
theorem OB.put {w:World} {base q:Nat} {A:Option Addr} {c:Nat} {l:List Nat} {cs:Array Value} (h:OB w base A c l) (hq:w.heap[q]?=some (.cells cs 89 (0,0))) (v:Value):OB (w.setCell ⟨q,0,none⟩ v) base A c l:=by
 obtain ⟨h1,h2,h3,h4⟩:=h
 refine ⟨h1,h2,h3,fun hn=>?_⟩
 obtain ⟨g,cur,e,hg,hh,hc⟩:=h4 hn
 refine ⟨g,cur,e,hg,(Below.heap_setCell _ _ _ _ (show g≠q from fun e'=>?_)).trans hh,hc⟩
 subst e'
 rw [hh] at hq
 injection hq with hq
 injection hq with h1 h2
 exact absurd h2 (by decide)
end Go.Proofs.YtendnkpiidhogaaGreat

namespace Go.Proofs.YtendnkpiidhogaaGreat
open Go.RowKit
theorem RNN.three {w:World} {P P' P'':Nat→Prop} {A A' A'':Option Addr} {c c' c'':Nat} {a b d:List Nat} (h:RN w P A c a) (h':RN w P' A' c' b) (h'':RN w P'' A'' c'' d) (hP:∀ b,P b→b<w.heap.size) (hP':∀ b,P' b→b<w.heap.size) (hP'':∀ b,P'' b→b<w.heap.size) :
 RNN (w.alloc (.cells #[.slice A a.length c,.slice A' b.length c',.slice A'' d.length c''] 106)) (fun _=>True) (some ⟨w.heap.size,0,none⟩) 3 [a,b,d] [.slice A a.length c,.slice A' b.length c',.slice A'' d.length c'']:=by
 have hB:Below w.heap.size w (w.alloc (.cells #[.slice A a.length c,.slice A' b.length c',.slice A'' d.length c''] 106)):=(Below.refl _ w).alloc (Nat.le_refl _) _
 refine ⟨RS.fresh (w:=w) (P:=fun _=>True) #[.slice A a.length c,.slice A' b.length c',.slice A'' d.length c''] 106 1 3 rfl (by unfold maxLen;omega) trivial,by simp,fun j l hl=>?_⟩
 match j,hl with
 | 0,hl=>simp at hl;subst hl;exact ⟨A,c,rfl,(h.below hB hP).mono fun _ _=>trivial⟩
 | 1,hl=>simp at hl;subst hl;exact ⟨A',c',rfl,(h'.below hB hP').mono fun _ _=>trivial⟩
 | 2,hl=>simp at hl;subst hl;exact ⟨A'',c'',rfl,(h''.below hB hP'').mono fun _ _=>trivial⟩
 | j+3,hl=>simp at hl
end Go.Proofs.YtendnkpiidhogaaGreat
namespace Go.Proofs.YtendnkpiidhogaaGreat
open Go.RowKit
theorem RNN.one {w:World} {P:Nat→Prop} {A:Option Addr} {c:Nat} {a:List Nat} (h:RN w P A c a) (hP:∀ b,P b→b<w.heap.size) :
 RNN (w.alloc (.cells #[.slice A a.length c] 106)) (fun _=>True) (some ⟨w.heap.size,0,none⟩) 1 [a] [.slice A a.length c]:=by
 have hB:Below w.heap.size w (w.alloc (.cells #[.slice A a.length c] 106)):=(Below.refl _ w).alloc (Nat.le_refl _) _
 refine ⟨RS.fresh (w:=w) (P:=fun _=>True) #[.slice A a.length c] 106 1 1 rfl (by unfold maxLen;omega) trivial,by simp,fun j l hl=>?_⟩
 match j,hl with
 | 0,hl=>simp at hl;subst hl;exact ⟨A,c,rfl,(h.below hB hP).mono fun _ _=>trivial⟩
 | j+1,hl=>simp at hl
theorem bitOf_zero (N:Nat):bitOf N 0=N % 2:=by simp [bitOf]
end Go.Proofs.YtendnkpiidhogaaGreat

namespace Go.Proofs.YtendnkpiidhogaaGreat
def twosF:Nat→Nat→Nat
 | 0,_=>0
 | f+1,x=>if x % 2=0 then twosF f (x / 2)+1 else 0
def twos (x:Nat):Nat:=twosF x x
theorem twosF_low:∀ (f x k:Nat),k<twosF f x→x / 2 ^ k % 2=0
  | 0,_,_,h=>by simp [twosF] at h
  | f + 1, x, k, h => by
    by_cases h0:x % 2=0
    · simp only [twosF,h0,if_true] at h
      match k,h with
      | 0,_=>simpa using h0
      | k + 1, h =>
        have:=twosF_low f (x / 2) k (by omega)
        rwa [Nat.div_div_eq_div_mul,←Nat.pow_succ',] at this
    · simp [twosF,h0] at h
theorem twosF_top:∀ (f x:Nat),0<x→x≤f→x / 2 ^ twosF f x % 2=1
  | 0,_,h,h'=>by omega
  | f + 1, x, h, h' => by
    by_cases h0:x % 2=0
    · simp only [twosF,h0,if_true]
      have:=twosF_top f (x / 2) (by omega) (by omega)
      rwa [Nat.div_div_eq_div_mul,←Nat.pow_succ'] at this
    · simp only [twosF,h0,if_false,Nat.pow_zero,Nat.div_one]
      omega
theorem twos_low {x k:Nat} (h:k<twos x):x / 2 ^ k % 2=0:=twosF_low x x k h
theorem twos_top {x:Nat} (h:0<x):x / 2 ^ twos x % 2=1:=twosF_top x x h (Nat.le_refl _)
theorem twos_pow {x:Nat} (h:0<x):2 ^ twos x≤x:=by
 have h1:=twos_top h
 rcases Nat.lt_or_ge x (2 ^ twos x) with h2 | h2
 · rw [Nat.div_eq_of_lt h2] at h1;omega
 · exact h2
theorem twos_even {x:Nat} (h0:0<x) (h:x % 2=0):0<twos x:=by
 rcases Nat.eq_zero_or_pos (twos x) with h1 | h1
 · have:=twos_top h0;rw [h1] at this;simp at this;omega
 · exact h1
def lookAt (N W k:Nat):Nat:=(W % N) ^ ((N - 1) / 2 ^ twos (N - 1)*2 ^ k) % N
def lookYes (N W k:Nat):Bool:=decide (lookAt N W k=N - 1) || (decide (k=0) && decide (lookAt N W k=1))
def strongB (N W:Nat):Bool :=
 if N % 2=0∨N<2 then decide (N=2) else if 4096<nbits N then false else if W % N=0 then true else (List.range (twos (N - 1))).any (lookYes N W)
theorem lookAt_succ (N W k:Nat):lookAt N W (k+1)=lookAt N W k*lookAt N W k % N:=by
 unfold lookAt
 rw [←Nat.mul_mod,←Nat.pow_add,Nat.pow_succ,←Nat.mul_assoc]
 congr 2
 omega
theorem any_range_step (f:Nat→Bool) {n k:Nat} (h:k<n):(List.range' k (n - k)).any f=(f k || (List.range' (k+1) (n - (k+1))).any f):=by
 rw [show n - k=(n - (k+1))+1 by omega,List.range'_succ,List.any_cons]
theorem any_range (f:Nat→Bool) (n:Nat):(List.range n).any f=(List.range' 0 (n - 0)).any f:=by
 rw [List.range_eq_range',Nat.sub_zero]
theorem any_range_end (f:Nat→Bool) (n:Nat):(List.range' n (n - n)).any f=false:=by simp
theorem strong_even {N:Nat} (W:Nat) (h:N % 2=0∨N<2):strongB N W=decide (N=2):=by simp only [strongB,h,if_true]
theorem strong_odd {N W:Nat} (h:N % 2=1) (h1:1<N) (h2:nbits N≤4096):strongB N W=if W % N=0 then true else (List.range (twos (N - 1))).any (lookYes N W):=by
 simp only [strongB,show ¬ (N % 2=0∨N<2) by omega,show ¬ 4096<nbits N by omega,if_false]
theorem pow_bound {a b x:Nat} (h:2 ^ a≤x) (h':x<2 ^ b):a≤b:=by
 rcases Nat.lt_or_ge b a with h5 | h5
 · have:2 ^ b≤2 ^ a:=Nat.pow_le_pow_right (by omega) (by omega)
   omega
 · exact h5
theorem twos_nbits {N K:Nat} (h:1<N) (h2:nbits N≤K):twos (N - 1)≤K :=
 pow_bound (twos_pow (x:=N - 1) (by omega)) (Nat.lt_of_le_of_lt (Nat.sub_le N 1) (lt_of_nbits h2))
theorem twos_le {N:Nat} (h:1<N) (h2:nbits N≤4096):twos (N - 1)≤4096:=twos_nbits h h2
end Go.Proofs.YtendnkpiidhogaaGreat
namespace Go.Proofs.YtendnkpiidhogaaGreat
open Go.RowKit
section
variable {w:World} {P:Nat→Prop} {g M inv:Nat} {Am Ao Ar:Option Addr} {cm co cr:Nat} {ol rl:List Nat}
end
end Go.Proofs.YtendnkpiidhogaaGreat

namespace Go.Proofs.YtendnkpiidhogaaGreat
open Go.RowKit
theorem refOdd_any (A:Option Addr) (c x:Nat) (w:World) (h:RU w A c (digs 4294967296 x)) :
 Calls Tryz.prog 193 #[.slice A (digs 4294967296 x).length c] w fun e w'=>e=.returned (.bool (decide (x % 2=1)))∧w=w':=by
 have hb:=refBit_any _ A c x 0 w h (by omega)
 rw [bitOf_zero] at hb
 have hlt:=Nat.mod_lt x (show 0<2 by omega)
 generalize x % 2=y at *
 have Hb:=Lib.hid hb
 have he:((y:Int)==1)=decide (y=1):=by
  rw [Bool.eq_iff_iff];simp;omega
 clear hb
 go_enter Tryz.func193,Tryz.ntmps193
 go_wp2_with fail
 refine Hb.out.mono ?_
 rintro e w1 ⟨rfl,rfl⟩
 go_wp2
 go_ret
 exact ⟨by simp,rfl⟩
theorem pow_half {X E j M v:Nat} (hv:X ^ (E / 2 ^ (j+1)) % M=v) (hb:E / 2 ^ j % 2=0):X ^ (E / 2 ^ j) % M=v*v % M:=by
 have e:E / 2 ^ j=E / 2 ^ (j+1)+E / 2 ^ (j+1):=by
  rw [Nat.pow_succ,←Nat.div_div_eq_div_mul];omega
 rw [←hv,←Nat.mul_mod,←Nat.pow_add,←e]
theorem pow_half1 {X E j M v:Nat} (hv:X ^ (E / 2 ^ (j+1)) % M=v) (hb:E / 2 ^ j % 2=1):X ^ (E / 2 ^ j) % M=v*v % M*(X % M) % M:=by
 have e:E / 2 ^ j=E / 2 ^ (j+1)+E / 2 ^ (j+1)+1:=by
  rw [Nat.pow_succ,←Nat.div_div_eq_div_mul];omega
 rw [←hv,e,Nat.pow_succ,Nat.pow_add,Nat.mul_mod,Nat.mul_mod (X ^ (E / 2 ^ (j+1))) (X ^ (E / 2 ^ (j+1)))]
theorem refExp_any (A Ae Am:Option Addr) (c ce cm X E M:Nat) (w:World) (h:RU w A c (digs 4294967296 X)) (he:RU w Ae ce (digs 4294967296 E)) (hm:RU w Am cm (digs 4294967296 M)) (hl:(digs 4294967296 X).length<40000) (hlM:(digs 4294967296 M).length<40000) (h0:0<M) (hn:nbits E≤1000000) :
 Calls Tryz.prog 223 #[.slice A (digs 4294967296 X).length c,.slice Ae (digs 4294967296 E).length ce,.slice Am (digs 4294967296 M).length cm] w fun e w'=>∃ A1 c1,e=.returned (.slice A1 (digs 4294967296 (X ^ E % M)).length c1)∧RU w' A1 c1 (digs 4294967296 (X ^ E % M))∧Below w.heap.size w w':=by
 have HlM:=Lib.hid hlM
 obtain ⟨nb,hnb⟩:∃ nb,nbits E=nb:=⟨_,rfl⟩
 have Hst:=Lib.hid (Below1.start nb)
 have Hv0:=Lib.hid (show X ^ (E / 2 ^ nb) % M=1 % M by rw [Nat.div_eq_of_lt (lt_of_nbits (Nat.le_of_eq hnb)),Nat.pow_zero])
 have lm:∀ v,v<M→(digs 4294967296 v).length<40000:=fun v hv=>Nat.lt_of_le_of_lt (digs_length_mono (by omega) (Nat.le_of_lt hv)) hlM
 have Hlm:=Lib.hid lm
 obtain ⟨R,hR⟩:∃ R,X ^ E % M=R:=⟨_,rfl⟩
 rw [hR]
 have HR:=Lib.hid hR
 have hof:=Lib.hid (refOf_any 1 w (by omega))
 have h1M:=Lib.hid (Nat.mod_lt 1 h0)
 clear hR lm
 go_enter Tryz.func223,Tryz.ntmps223
 go_wp2_with fail
 refine hof.out.mono ?_
 rintro e w1 ⟨A1,c1,rfl,hO1,hB1⟩
 have hm1:=Lib.hid (refMod_any A1 Am c1 cm 1 M w1 hO1.ru (hm.up hB1) (by rw [digs_pos (by omega) (by omega)];simp [digs_zero]) h0)
 go_wp2_with fail
 refine hm1.out.mono ?_
 rintro e w2 ⟨A2,c2,rfl,hR2,hB2⟩
 have hB02:=hB1.trans (hB2.mono hB1.size)
 have hm2:=Lib.hid (refMod_any A Am c cm X M w2 (h.up hB02) (hm.up hB02) (by omega) h0)
 go_wp2_with fail
 refine hm2.out.mono ?_
 rintro e w3 ⟨A3,c3,rfl,hR3,hB3⟩
 have hB03:=hB02.trans (hB3.mono hB02.size)
 replace hR2:=hR2.up hB3
 have zm:=hm.up hB03
 have ze:=he.up hB03
 have hbi:=refBits_any _ Ae ce E w3 ze
 rw [hnb] at hbi
 have Hbi:=Lib.hid hbi
 have hXM:=Lib.hid (Nat.mod_lt X h0)
 obtain ⟨Y,hY⟩:∃ Y,X % M=Y:=⟨_,rfl⟩
 rw [hY] at hR3 hXM ⊢
 have HY:=Lib.hid hY
 clear hbi hof hm1 hm2 hO1 hB1 hB2 hB3 hB02 h he hm hY
 go_wp2_with fail
 refine Hbi.out.mono ?_
 rintro e w4 ⟨rfl,rfl⟩
 have hs3:=hB03.size
 go_wp2
 go_loopw [7,8] (fun xv iv wr=>∃ (k v:Nat) (z:Int) (A1:Option Addr) (c1:Nat),iv=.int .i64 z∧Below1 k z∧xv=.slice A1 (digs 4294967296 v).length c1∧k≤nb∧Hid (X ^ (E / 2 ^ k) % M=v)∧v<M∧RU wr A1 c1 (digs 4294967296 v)∧Below w3.heap.size w3 wr) (fun _ iv _=>(intOf iv+1).toNat)
 case atStart=>exact ⟨nb,1 % M,_,A2,c2,rfl,Hst.out,rfl,Nat.le_refl _,Hv0,h1M.out,hR2,Below.refl _ _⟩
 case round =>
  obtain ⟨k,v,z,A1,c1,rfl,hz,rfl,hk,hv,hvM,hx,hB⟩:=hrel
  rcases hz with ⟨rfl,rfl⟩ | ⟨j,rfl,rfl⟩
  · have hvR:v=R:=by have:=hv.out;have:=HR.out;rw [Nat.pow_zero,Nat.div_one] at *;omega
    subst hvR
    go_wp2
    go_ret
    exact ⟨A1,c1,rfl,hx,hB03.trans (hB.mono hs3)⟩
  · have hlv:=Hlm.out v hvM
    have hsq:=Lib.hid (refMulMod_any A1 A1 Am c1 c1 cm v v M wr hx hx (zm.up hB) hlv hlv h0)
    have Hs':=Lib.hid (Below1.start j)
    have hvv:=Lib.hid (Nat.mod_lt (v*v) h0)
    obtain ⟨u,hu⟩:∃ u,v*v % M=u:=⟨_,rfl⟩
    rw [hu] at hsq hvv
    have hbt:E / 2 ^ j % 2=0∨E / 2 ^ j % 2=1:=by have:=Nat.mod_lt (E / 2 ^ j) (show 0<2 by omega);omega
    have Hu:=Lib.hid hu
    clear hu hlv
    go_wp2_with fail
    refine hsq.out.mono ?_
    rintro e w5 ⟨A5,c5,rfl,hR5,hB5⟩
    have hB35:=hB.trans (hB5.mono hB.size)
    have hbit:=refBit_any _ Ae ce E (j:Int) w5 (ze.up hB35) (by omega)
    rw [show bitOf E (j:Int)=E / 2 ^ j % 2 by rw [bitOf,if_neg (by omega),Int.toNat_natCast]] at hbit
    rcases hbt with h0b | h1b
    · rw [h0b] at hbit
      have Hbit:=Lib.hid hbit
      have hp:=Lib.hid ((pow_half hv.out h0b).trans Hu.out)
      clear hbit h0b hv
      go_wp2_with fail
      refine Hbit.out.mono ?_
      rintro e w6 ⟨rfl,rfl⟩
      go_wp2
      go_roundw
      case rel=>exact ⟨j,u,_,A5,c5,rfl,Hs'.out,rfl,by omega,hp,hvv.out,hR5,hB35⟩
      case measure=>simp [intOf]
    · rw [h1b] at hbit
      have Hbit:=Lib.hid hbit
      have hp:=pow_half1 hv.out h1b
      rw [Hu.out,HY.out] at hp
      have hlu:=Hlm.out u hvv.out
      have hlY:=Hlm.out Y hXM.out
      have hmu:=Lib.hid (refMulMod_any A5 A3 Am c5 c3 cm u Y M w5 hR5 (hR3.up hB35) (zm.up hB35) hlu hlY h0)
      have huY:=Lib.hid (Nat.mod_lt (u*Y) h0)
      obtain ⟨t,ht⟩:∃ t,u*Y % M=t:=⟨_,rfl⟩
      rw [ht] at hmu huY hp
      have Hp:=Lib.hid hp
      clear hbit h1b hv hp ht hlu hlY
      go_wp2_with fail
      refine Hbit.out.mono ?_
      rintro e w6 ⟨rfl,rfl⟩
      go_wp2_with fail
      refine hmu.out.mono ?_
      rintro e w7 ⟨A7,c7,rfl,hR7,hB7⟩
      have hB37:=hB35.trans (hB7.mono hB35.size)
      go_wp2
      go_roundw
      case rel=>exact ⟨j,t,_,A7,c7,rfl,Hs'.out,rfl,by omega,Hp,huY.out,hR7,hB37⟩
      case measure=>simp [intOf]
theorem refStrong_no (A A':Option Addr) (c c' N W:Nat) (w:World) (h:RU w A c (digs 4294967296 N)) (hno:N % 2=0∨N<2) :
 Calls Tryz.prog 194 #[.slice A (digs 4294967296 N).length c,.slice A' (digs 4294967296 W).length c'] w fun e w'=>e=.returned (.bool (strongB N W))∧Below w.heap.size w w':=by
 have Hs:=Lib.hid (strong_even W hno)
 have hle:=cmpV_cases N 2
 have hcl:N % 2=1→cmpV N 2=-1:=fun h1=>by rcases hle with h | h | h <;> omega
 have hce:(cmpV N 2==0)=decide (N=2):=by
  rw [Bool.eq_iff_iff];simp;omega
 have hof:=Lib.hid (refOf_any 1 w (by omega))
 generalize hcv:cmpV N 2=cv at *
 have Hcv:=Lib.hid hcv
 have Hcl:=Lib.hid hcl
 have Hce:=Lib.hid hce
 clear hno hle hcl hcv hce
 go_enter Tryz.func194,Tryz.ntmps194
 go_wp2_with fail
 refine hof.out.mono ?_
 rintro e w1 ⟨A1,c1,rfl,hO1,hB1⟩
 have hof2:=Lib.hid (refOf_any 2 w1 (by omega))
 go_wp2_with fail
 refine hof2.out.mono ?_
 rintro e w2 ⟨A2,c2,rfl,hO2,hB2⟩
 have hB02:=hB1.trans (hB2.mono hB1.size)
 have zn:=h.up hB02
 have z2:=hO2.ru
 have Hod:=Lib.hid (refOdd_any A c N w2 zn)
 have hcm:=Lib.hid fun n=>refCmp_any _ _ A A2 c c2 N 2 (w2.drewN n) (zn.ud n) (z2.ud n)
 rw [Hcv.out] at hcm
 clear hof hof2 hO1 hO2 hB1 hB2 h zn z2
 go_wp2_with fail
 refine Hod.out.mono ?_
 rintro e w3 ⟨rfl,rfl⟩
 have hcm0:=Lib.hid (hcm.out 0)
 rcases hodd:decide (N % 2=1) with _ | _
 · go_wp2_with fail
   refine hcm0.out.mono ?_
   rintro e w3 ⟨rfl,n1,rfl⟩
   go_wp2
   go_ret
   exact ⟨by rw [Hs.out,←Hce.out];simp,below_drewN hB02 n1⟩
 · have hc1:=Hcl.out (of_decide_eq_true hodd)
   subst hc1
   go_wp2_with fail
   refine hcm0.out.mono ?_
   rintro e w3 ⟨rfl,n1,rfl⟩
   have hcm1:=Lib.hid (hcm.out n1)
   go_wp2_with fail
   refine hcm1.out.mono ?_
   rintro e w3 ⟨rfl,n2,rfl⟩
   rw [drewN_add]
   go_wp2
   go_ret
   exact ⟨by rw [Hs.out,←Hce.out];simp,below_drewN hB02 _⟩
theorem strong_first {N W:Nat} (h:N % 2=1) (h1:1<N) (h2:nbits N≤4096) (hw:W % N≠0) (hl:lookAt N W 0=1):strongB N W=true:=by
 rw [strong_odd h h1 h2,if_neg hw,any_range,any_range_step _ (twos_even (by omega) (by omega))]
 simp [lookYes,hl]
theorem strong_rest {N W:Nat} (h:N % 2=1) (h1:1<N) (h2:nbits N≤4096) (hw:W % N≠0) (hl:lookAt N W 0≠1):(List.range' 0 (twos (N - 1) - 0)).any (fun k=>decide (lookAt N W k=N - 1))=strongB N W:=by
 rw [strong_odd h h1 h2,if_neg hw,any_range]
 congr 1
 funext k
 unfold lookYes
 by_cases hk:k=0
 · subst hk;simp [hl]
 · simp [hk]
theorem refStrong_odd (A A':Option Addr) (c c' N W:Nat) (w:World) (h:RU w A c (digs 4294967296 N)) (h':RU w A' c' (digs 4294967296 W)) (hl:(digs 4294967296 N).length<20000) (hlW:(digs 4294967296 W).length<40000) (hodd:N % 2=1) (hgt:1<N) (hmay:nbits N≤4096) :
 Calls Tryz.prog 194 #[.slice A (digs 4294967296 N).length c,.slice A' (digs 4294967296 W).length c'] w fun e w'=>e=.returned (.bool (strongB N W))∧Below w.heap.size w w':=by
 have hcv:cmpV N 2=1:=cmpV_gt (by omega)
 have hmi:((nbits N:Nat):Int)≤4096:=by omega
 have h2s:=twos_le hgt hmay
 have htop:=twos_top (x:=N - 1) (by omega)
 have hlow:=fun k=>@twos_low (N - 1) k
 have hw0:=fun h=>strong_odd (W:=W) hodd hgt hmay▸if_pos (c:=W % N=0) h
 have hw1:=@strong_first N W hodd hgt hmay
 have hw2:=@strong_rest N W hodd hgt hmay
 have hlook:=lookAt_succ N W
 have hlook0:(W % N) ^ ((N - 1) / 2 ^ twos (N - 1)) % N=lookAt N W 0:=by rw [lookAt,Nat.pow_zero,Nat.mul_one]
 have hlookN:∀ k,lookAt N W k<N:=fun k=>Nat.mod_lt _ (by omega)
 have hnbd:∀ k,nbits ((N - 1) / 2 ^ k)≤1000000:=fun k=>by
  have h1:=lt_of_nbits (x:=N) (k:=4096) hmay
  have h2:(N - 1) / 2 ^ k≤N - 1:=Nat.div_le_self _ _
  exact Nat.le_trans (nbits_le (k:=4096) (Nat.lt_of_le_of_lt (Nat.le_trans h2 (Nat.sub_le _ _)) h1)) (by omega)
 have lm:∀ v,v≤N→(digs 4294967296 v).length<20000:=fun v hv=>Nat.lt_of_le_of_lt (digs_length_mono (by omega) hv) hl
 obtain ⟨s,hs⟩:∃ s,twos (N - 1)=s:=⟨_,rfl⟩
 rw [hs] at h2s htop hlow hw2 hlook0
 obtain ⟨B,hB⟩:∃ B,strongB N W=B:=⟨_,rfl⟩
 have hB0:W % N=0→B=true:=fun h0=>by rw [←hB,strong_odd hodd hgt hmay,if_pos h0]
 rw [hB] at hw1 hw2 ⊢
 have Hw1:=Lib.hid hw1
 have Hw2:=Lib.hid hw2
 have HB0:=Lib.hid hB0
 have Hlook:=Lib.hid hlook
 have Hlook0:=Lib.hid hlook0
 have HlookN:=Lib.hid hlookN
 have Hnbd:=Lib.hid hnbd
 have Hlm:=Lib.hid lm
 have Htop:=Lib.hid htop
 have Hlow:=Lib.hid hlow
 have Hgt:=Lib.hid hgt
 have Hl:=Lib.hid hl
 have HlW:=Lib.hid hlW
 have Hbits:=Lib.hid fun W h=>refBits_any (fun b=>b<W.heap.size) A c N W h
 have Hodd:=Lib.hid hodd
 have hof:=Lib.hid (refOf_any 1 w (by omega))
 generalize nbits N=nb at *
 clear hw0 hw1 hw2 hB0 hlook hlook0 hlookN hnbd lm htop hlow hgt hl hlW hB hs hmay hodd
 go_enter Tryz.func194,Tryz.ntmps194
 go_wp2_with fail
 refine hof.out.mono ?_
 rintro e w1 ⟨A1,c1,rfl,hO1,hB1⟩
 have hof2:=Lib.hid (refOf_any 2 w1 (by omega))
 go_wp2_with fail
 refine hof2.out.mono ?_
 rintro e w2 ⟨A2,c2,rfl,hO2,hB2⟩
 have hB02:=hB1.trans (hB2.mono hB1.size)
 have zn:=h.up hB02
 have zw:=h'.up hB02
 have z1:=hO1.ru.up hB2
 have z2:=hO2.ru
 have hod:=refOdd_any A c N w2 zn
 rw [decide_eq_true Hodd.out] at hod
 have Hod:=Lib.hid hod
 have hcm:=refCmp_any _ _ A A2 c c2 N 2 w2 zn z2
 rw [hcv] at hcm
 have Hcm:=Lib.hid hcm
 clear hof hof2 hO1 hO2 hB1 hB2 h h' hod hcm hcv
 go_wp2_with fail
 refine Hod.out.mono ?_
 rintro e w3 ⟨rfl,rfl⟩
 go_wp2_with fail
 refine Hcm.out.mono ?_
 rintro e w3 ⟨rfl,n1,rfl⟩
 have hB03:=below_drewN hB02 n1
 replace zn:=zn.ud n1
 replace zw:=zw.ud n1
 replace z1:=z1.ud n1
 replace z2:=z2.ud n1
 clear Hod Hcm hB02
 generalize w2.drewN n1=w3 at *
 have Hbi:=Lib.hid (Hbits.out w3 zn)
 go_wp2_with fail
 refine Hbi.out.mono ?_
 rintro e w4 ⟨rfl,rfl⟩
 have Hsu:=Lib.hid (refSub_any _ _ A A1 c c1 N 1 w3 zn z1 lt_self lt_self (by have:=Hl.out;omega) (by have:=Hgt.out;omega))
 go_wp2_with fail
 refine Hsu.out.mono ?_
 rintro e w5 ⟨A5,c5,rfl,hO5,hB5⟩
 have hB05:=hB03.trans (hB5.mono hB03.size)
 replace zn:=zn.up hB5
 replace zw:=zw.up hB5
 replace z1:=z1.up hB5
 replace z2:=z2.up hB5
 have zl:=hO5.ru
 clear Hbi Hsu hO5 hB5 hB03 Hbits
 have hs5:=hB05.size
 obtain ⟨L,hL⟩:∃ L,N - 1=L:=⟨_,rfl⟩
 have hLN:L≤N:=by omega
 rw [hL] at zl Htop Hlow Hw2 Hlook0 Hnbd ⊢
 clear hL
 go_wp2
 go_loopw [8,9] (fun dv sv wr=>∃ (k:Nat) (A1:Option Addr) (c1:Nat),sv=.int .i64 (k:Int)∧dv=.slice A1 (digs 4294967296 (L / 2 ^ k)).length c1∧k≤s∧RU wr A1 c1 (digs 4294967296 (L / 2 ^ k))∧Below w5.heap.size w5 wr) (fun _ sv _=>s - (intOf sv).toNat)
 case atStart=>exact ⟨0,A5,c5,rfl,by rw [Nat.pow_zero,Nat.div_one],by omega,by rw [Nat.pow_zero,Nat.div_one];exact zl,Below.refl _ _⟩
 case round =>
  obtain ⟨k,A6,c6,rfl,rfl,hk,hd,hB⟩:=hrel
  have hod:=refOdd_any A6 c6 (L / 2 ^ k) wr hd
  by_cases hks:k<s
  · rw [decide_eq_false (by rw [Hlow.out k hks];omega:¬ L / 2 ^ k % 2=1)] at hod
    have Hod:=Lib.hid hod
    have Hq:=Lib.hid (refQuo_any _ _ A6 A2 c6 c2 (L / 2 ^ k) 2 wr hd (z2.up hB) lt_self lt_self (by have:=Hlm.out (L / 2 ^ k) (Nat.le_trans (Nat.div_le_self _ _) hLN);omega) (by omega))
    have e2:L / 2 ^ k / 2=L / 2 ^ (k+1):=half_step L k
    rw [e2] at Hq
    clear hod e2
    go_wp2_with fail
    refine Hod.out.mono ?_
    rintro e w6 ⟨rfl,rfl⟩
    go_wp2_with fail
    refine Hq.out.mono ?_
    rintro e w7 ⟨A7,c7,A8,c8,rfl,hO7,_,hB7⟩
    have hB57:=hB.trans (hB7.mono hB.size)
    have hR7:=hO7.ru
    clear hO7 hB7 Hod Hq
    go_wp2
    go_roundw
    case rel=>exact ⟨k+1,A7,c7,by go_num,rfl,by omega,hR7,hB57⟩
    case measure=>simp [intOf];omega
  · obtain rfl:k=s:=by omega
    rw [decide_eq_true Htop.out] at hod
    have Hod:=Lib.hid hod
    clear hod Hlow Htop
    have hB0r:=hB05.trans (hB.mono hs5)
    replace zn:=zn.up hB
    replace zw:=zw.up hB
    replace z1:=z1.up hB
    replace zl:=zl.up hB
    clear hB hB05 z2
    have Hmw:=Lib.hid (refMod_any A' A c' c W N wr zw zn (by have:=HlW.out;omega) (by have:=Hgt.out;omega))
    go_wp2_with fail
    refine Hod.out.mono ?_
    rintro e w6 ⟨rfl,rfl⟩
    go_wp2_with fail
    refine Hmw.out.mono ?_
    rintro e w7 ⟨A7,c7,rfl,hR7,hB7⟩
    have hB07:=hB0r.trans (hB7.mono hB0r.size)
    replace zn:=zn.up hB7
    replace z1:=z1.up hB7
    replace zl:=zl.up hB7
    replace hd:=hd.up hB7
    clear hB7 hB0r Hod Hmw zw
    by_cases hw:W % N=0
    · have hBt:=HB0.out hw
      rw [hw,digs_zero] at *
      subst hBt
      go_wp2
      go_ret
      exact ⟨by simp,hB07⟩
    · have Hw1:=Lib.hid (Hw1.out hw)
      have Hw2:=Lib.hid (Hw2.out hw)
      obtain ⟨Y,hY⟩:∃ Y,W % N=Y:=⟨_,rfl⟩
      rw [hY] at hw hR7 Hlook0 ⊢
      have hYN:Y≤N:=by rw [←hY];exact Nat.le_of_lt (Nat.mod_lt _ (by have:=Hgt.out;omega))
      have hyne:(((digs 4294967296 Y).length:Int)==0)=false:=eqB (by rw [digs_pos (by omega) (by omega)];simp;omega)
      have Hex:=refExp_any A7 A6 A c7 c6 c Y (L / 2 ^ k) N w7 hR7 hd zn (by have:=Hlm.out Y hYN;omega) (by have:=Hl.out;omega) (by have:=Hgt.out;omega) (Hnbd.out k)
      rw [Hlook0.out] at Hex
      replace Hex:=Lib.hid Hex
      clear hY HB0
      go_wp2_with fail
      refine Hex.out.mono ?_
      rintro e w8 ⟨A8,c8,rfl,hR8,hB8⟩
      have hB08:=hB07.trans (hB8.mono hB07.size)
      replace zn:=zn.up hB8
      replace z1:=z1.up hB8
      replace zl:=zl.up hB8
      have hcm:=refCmp_any _ _ A8 A1 c8 c1 (lookAt N W 0) 1 w8 hR8 z1
      clear hB8 hB07 Hex hd hR7
      by_cases h1:lookAt N W 0=1
      · have hBt:=Hw1.out h1
        subst hBt
        rw [h1,cmpV_eq] at hcm
        rw [h1]
        have Hcm:=Lib.hid hcm
        clear hcm
        go_wp2_with fail
        refine Hcm.out.mono ?_
        rintro e w9 ⟨rfl,n2,rfl⟩
        go_wp2
        go_ret
        exact ⟨by simp,below_drewN hB08 n2⟩
      · have hne:cmpV (lookAt N W 0) 1≠0:=fun e=>h1 (cmpV_zero e)
        have Hw2:=Lib.hid (Hw2.out h1)
        generalize cmpV (lookAt N W 0) 1=cv at *
        have hcvb:(cv==0)=false:=eqB hne
        have Hcm:=Lib.hid hcm
        clear hcm Hw1
        go_wp2_with fail
        refine Hcm.out.mono ?_
        rintro e w9 ⟨rfl,n2,rfl⟩
        have hB09:=below_drewN hB08 n2
        replace zn:=zn.ud n2
        replace zl:=zl.ud n2
        replace hR8:=hR8.ud n2
        clear Hcm hB08 z1
        generalize w8.drewN n2=w9 at *
        have hs9:=hB09.size
        go_wp2
        go_loopw [10,11] (fun xv iv wr=>∃ (i:Nat) (A1:Option Addr) (c1:Nat),iv=.int .i64 (i:Int)∧xv=.slice A1 (digs 4294967296 (lookAt N W i)).length c1∧i≤k∧RU wr A1 c1 (digs 4294967296 (lookAt N W i))∧Hid ((List.range' i (k - i)).any (fun j=>decide (lookAt N W j=L))=B)∧Below w9.heap.size w9 wr) (fun _ iv _=>k - (intOf iv).toNat)
        case atStart=>exact ⟨0,A8,c8,rfl,rfl,by omega,hR8,Hw2,Below.refl _ _⟩
        case round =>
         clear hR8 Hw2
         obtain ⟨i,A9,c9,rfl,rfl,hi,hx,hany,hB⟩:=hrel
         by_cases hik:i<k
         · have hcm:=refCmp_any _ _ A9 A5 c9 c5 (lookAt N W i) L wr hx (zl.up hB)
           have hst:=any_range_step (fun j=>decide (lookAt N W j=L)) hik
           rw [hany.out] at hst
           by_cases hY:lookAt N W i=L
           · rw [hY,cmpV_eq] at hcm
             rw [hY]
             simp only [hY,decide_true,Bool.true_or] at hst
             subst hst
             have Hcm:=Lib.hid hcm
             clear hcm hany hx
             go_wp2_with fail
             refine Hcm.out.mono ?_
             rintro e w10 ⟨rfl,n3,rfl⟩
             go_wp2
             go_ret
             exact ⟨by simp,below_drewN (hB09.trans (hB.mono hs9)) n3⟩
           · have hne2:cmpV (lookAt N W i) L≠0:=fun e=>hY (cmpV_zero e)
             simp only [hY,decide_false,Bool.false_or] at hst
             have Hst:=Lib.hid hst.symm
             have hlv:(digs 4294967296 (lookAt N W i)).length<40000:=by have:=Hlm.out _ (Nat.le_of_lt (HlookN.out i));omega
             generalize cmpV (lookAt N W i) L=cw at *
             have hcwb:(cw==0)=false:=eqB hne2
             have Hcm:=Lib.hid hcm
             have Hmu:=Lib.hid fun n=>refMulMod_any A9 A9 A c9 c9 c (lookAt N W i) (lookAt N W i) N (wr.drewN n) (hx.ud n) (hx.ud n) ((zn.up hB).ud n) hlv hlv (by have:=Hgt.out;omega)
             rw [←Hlook.out] at Hmu
             clear hcm hany hst hY hne2 hlv
             go_wp2_with fail
             refine Hcm.out.mono ?_
             rintro e w10 ⟨rfl,n3,rfl⟩
             have Hmu3:=Lib.hid (Hmu.out n3)
             clear Hmu
             go_wp2_with fail
             refine Hmu3.out.mono ?_
             rintro e w11 ⟨A11,c11,rfl,hR11,hB11⟩
             have hB911:=(below_drewN hB n3).trans (hB11.mono hB.size)
             clear Hmu3 Hcm hB11
             go_wp2
             go_roundw
             case rel=>exact ⟨i+1,A11,c11,by go_num,rfl,by omega,hR11,Hst,hB911⟩
             case measure=>simp [intOf];omega
         · obtain rfl:i=k:=by omega
           have hBf:=hany.out
           rw [any_range_end] at hBf
           subst hBf
           clear hany
           go_wp2
           go_ret
           exact ⟨by simp,hB09.trans (hB.mono hs9)⟩
theorem refStrong_any (A A':Option Addr) (c c' N W:Nat) (w:World) (h:RU w A c (digs 4294967296 N)) (h':RU w A' c' (digs 4294967296 W)) (hl:(digs 4294967296 N).length<20000) (hlW:(digs 4294967296 W).length<40000) (hmay:nbits N≤4096) :
 Calls Tryz.prog 194 #[.slice A (digs 4294967296 N).length c,.slice A' (digs 4294967296 W).length c'] w fun e w'=>e=.returned (.bool (strongB N W))∧Below w.heap.size w w':=by
 by_cases hno:N % 2=0∨N<2
 · exact refStrong_no A A' c c' N W w h hno
 · exact refStrong_odd A A' c c' N W w h h' hl hlW (by omega) (by omega) hmay
end Go.Proofs.YtendnkpiidhogaaGreat

namespace Go.Proofs.YtendnkpiidhogaaGreat.At
open Go.RowKit Go.Shelf
attribute [local go_sem] Oper.semAt_some
def fews:List Nat:=[2,3,5,7,11,13,17,19,23,29,31,37]
theorem fews_pos:∀ k,k<12→2≤dg fews k∧dg fews k<40:=by decide
theorem few_any (w:World):Calls Tryz.prog 192 #[] w fun e w'=>∃ A,e=.returned (.slice A 12 12)∧RN w' (fun b=>b<w'.heap.size) A 12 fews∧Below w.heap.size w w':=by
 go_enter Tryz.func192,Tryz.ntmps192
 go_wp2
 go_ret
 refine ⟨_,rfl,⟨?_,⟨by decide,by decide⟩⟩,(Below.refl _ w).alloc (Nat.le_refl _) _⟩
 exact RS.fresh (P:=fun b=>b<_) _ _ 1 12 rfl (by unfold maxLen;omega) (by simp)
theorem cmp_cases (x y:Nat):(cmpV x y=-1∧x<y)∨(cmpV x y=0∧x=y)∨(cmpV x y=1∧y<x):=by
 rcases Nat.lt_trichotomy x y with h | h | h
 · exact .inl ⟨cmpV_lt h,h⟩
 · subst h;exact .inr (.inl ⟨cmpV_eq x,rfl⟩)
 · exact .inr (.inr ⟨cmpV_gt h,h⟩)
theorem probable_t (A:Option Addr) (c n:Nat) (w:World) (h:RU w A c (digs 4294967296 n)) (hl:(digs 4294967296 n).length<20000) :
 Calls Tryz.prog 157 #[.slice A (digs 4294967296 n).length c] w fun e w'=>(∃ b:Bool,e=.returned (.bool b)∧(b=true→2≤n))∧Below w.heap.size w w':=by
 have HU:=Lib.hid (fun (X:World) (hX:Below w.heap.size w X)=>h.up hX)
 obtain ⟨ln,hln⟩:∃ ln,(digs 4294967296 n).length=ln:=⟨_,rfl⟩
 have Hln:=Lib.hid hln
 rw [hln] at hl ⊢
 clear h hln
 go_enter Tryz.func157,Tryz.ntmps157
 go_wp2_with fail
 refine (few_any w).mono ?_
 rintro e w1 ⟨Af,rfl,hF,hB1⟩
 have HFw:=Lib.hid (fun (X:World) (hX:Below w1.heap.size w1 X)=>hF.below hX fun b hb=>hb)
 have HB1:=Lib.hid hB1
 clear hF hB1
 go_wp2
 go_loopw [4] (fun i wr=>∃ k:Nat,k≤12∧i=.int .i64 k∧Below w1.heap.size w1 wr) (fun i _=>12 - (intOf i).toNat)
 case atStart=>exact ⟨0,by omega,rfl,Below.refl _ _⟩
 case round =>
  obtain ⟨k,hk,rfl,hB⟩:=hrel
  have hs:=hB.size
  have HBw:=Lib.hid (HB1.out.trans (hB.mono HB1.out.size))
  by_cases hlt:k<12
  · obtain ⟨ad,rfl,_,q1⟩:=(HFw.out wr hB).at_ (i:=k) hlt
    obtain ⟨f2,f40⟩:=fews_pos k hlt
    obtain ⟨p,hp⟩:∃ p,dg fews k=p:=⟨_,rfl⟩
    rw [hp] at q1 f2 f40
    have HO:=Lib.hid (refOf_any p wr (by omega))
    clear hp
    go_wp2_with fail
    refine HO.out.mono ?_
    rintro e w2 ⟨A2,c2,rfl,hO2,hB2⟩
    have HO2:=Lib.hid hO2.ru
    have HB2:=Lib.hid (hB.trans (hB2.mono hs))
    have HBw2:=Lib.hid (HBw.out.trans (hB2.mono HBw.out.size))
    have hM:=refMod_any A A2 c c2 n p w2 (HU.out w2 HBw2.out) HO2.out (by rw [Hln.out];omega) (by omega)
    rw [Hln.out] at hM
    have HM:=Lib.hid hM
    clear hO2 hB2 hM HO
    go_wp2_with fail
    refine HM.out.mono ?_
    rintro e w3 ⟨A3,c3,rfl,-,hB3⟩
    have HB3:=Lib.hid (HB2.out.trans (hB3.mono HB2.out.size))
    have HBw3:=Lib.hid (HBw2.out.trans (hB3.mono HBw2.out.size))
    have HO3:=Lib.hid (RN.up HO2.out hB3)
    clear hB3 HM
    obtain ⟨m,hm⟩:∃ m,(digs 4294967296 (n % p)).length=m:=⟨_,rfl⟩
    rw [hm]
    clear hm
    by_cases hm0:m=0
    · subst hm0
      have hC:=refCmp_any _ _ A A2 c c2 n p w3 (HU.out w3 HBw3.out) HO3.out
      rw [Hln.out] at hC
      obtain ⟨v,hv⟩:∃ v,cmpV n p=v:=⟨_,rfl⟩
      rw [hv] at hC
      have HC:=Lib.hid hC
      clear hC hv
      go_wp2_with fail
      refine HC.out.mono ?_
      rintro e w4 ⟨rfl,d,rfl⟩
      by_cases hv0:v=0
      · subst hv0
        go_wp2
        go_roundw
        case rel=>exact ⟨k+1,by omega,by go_num,below_drewN HB3.out d⟩
        case measure=>simp [intOf];omega
      · have hv0':(v==0)=false:=by simpa using hv0
        go_wp2
        go_ret
        exact ⟨⟨false,rfl,fun h=>by cases h⟩,below_drewN HBw3.out d⟩
    · have hm0':(m==0)=false:=by simpa using hm0
      have hm1:¬ (m:Int)=0:=by omega
      go_wp2
      go_roundw
      case rel=>exact ⟨k+1,by omega,by go_num,HB3.out⟩
      case measure=>simp [intOf];omega
  · obtain rfl:k=12:=by omega
    have HB:=Lib.hid hB
    clear hB hlt hk
    go_wp2_with fail
    refine (refOf_any 2 wr (by omega)).mono ?_
    rintro e w2 ⟨A2,c2,rfl,hO2,hB2⟩
    have HBw2:=Lib.hid (HBw.out.trans (hB2.mono HBw.out.size))
    have HB2:=Lib.hid (HB.out.trans (hB2.mono HB.out.size))
    have hC:=refCmp_any _ _ A A2 c c2 n 2 w2 (HU.out w2 HBw2.out) hO2.ru
    rw [Hln.out] at hC
    have HC:=Lib.hid hC
    clear hC hB2 hO2
    go_wp2_with fail
    refine HC.out.mono ?_
    rintro e w3 ⟨rfl,d,rfl⟩
    have HBw3:=Lib.hid (below_drewN HBw2.out d)
    have HB3:=Lib.hid (below_drewN HB2.out d)
    by_cases hn2:n=2
    · have hv:cmpV n 2=0:=by rw [hn2];exact cmpV_eq 2
      have H2:=Lib.hid hn2
      rw [hv]
      clear hn2 hv
      go_wp2
      go_ret
      exact ⟨⟨true,rfl,fun _=>by have:=H2.out;omega⟩,HBw3.out⟩
    obtain ⟨v,hv⟩:∃ v,cmpV n 2=v:=⟨_,rfl⟩
    have hv0:v≠0:=by rcases cmp_cases n 2 with ⟨h1,h2⟩ | ⟨h1,h2⟩ | ⟨h1,h2⟩ <;> omega
    have hv0':(v==0)=false:=by simpa using hv0
    have Hv:=Lib.hid hv
    have Hn2:=Lib.hid hn2
    rw [hv]
    have hod:=fun X (hX:Below w.heap.size w X)=>refOdd_any A c n X (HU.out X hX)
    obtain ⟨b,hb⟩:∃ b,decide (n % 2=1)=b:=⟨_,rfl⟩
    rw [hb] at hod
    have HOd:=Lib.hid (hod _ HBw3.out)
    rw [Hln.out] at HOd
    generalize w2.drewN d=w3 at *
    clear hv hn2 hv0 hod hb
    go_wp2_with fail
    refine HOd.out.mono ?_
    rintro e w3' ⟨rfl,rfl⟩
    cases b
    · go_wp2
      go_ret
      exact ⟨⟨false,rfl,fun h=>by cases h⟩,HBw3.out⟩
    go_wp2_with fail
    refine (refOf_any 2 w3 (by omega)).mono ?_
    rintro e w4 ⟨A4,c4,rfl,hO4,hB4⟩
    have HBw4:=Lib.hid (HBw3.out.trans (hB4.mono HBw3.out.size))
    have HB4:=Lib.hid (HB3.out.trans (hB4.mono HB3.out.size))
    have hC4:=refCmp_any _ _ A A4 c c4 n 2 w4 (HU.out w4 HBw4.out) hO4.ru
    rw [Hln.out,Hv.out] at hC4
    have HC4:=Lib.hid hC4
    clear hC4 hB4 hO4
    go_wp2_with fail
    refine HC4.out.mono ?_
    rintro e w5 ⟨rfl,d5,rfl⟩
    have HBw5:=Lib.hid (below_drewN HBw4.out d5)
    have HB5:=Lib.hid (below_drewN HB4.out d5)
    generalize w4.drewN d5=w5 at *
    by_cases hle:n<2
    · have e1:v=-1:=by rw [←Hv.out];exact cmpV_lt hle
      subst e1
      go_wp2
      go_ret
      exact ⟨⟨false,rfl,fun h=>by cases h⟩,HBw5.out⟩
    have hgt:2<n:=by have:=Hn2.out;omega
    have e1:v=1:=by rw [←Hv.out];exact cmpV_gt hgt
    subst e1
    have hbits:=refBits_any _ A c n w5 (HU.out w5 HBw5.out)
    rw [Hln.out] at hbits
    obtain ⟨nb,hnb⟩:∃ nb,nbits n=nb:=⟨_,rfl⟩
    rw [hnb] at hbits
    have HBi:=Lib.hid hbits
    have Hnb:=Lib.hid hnb
    have Hgt:=Lib.hid hgt
    clear hbits hnb hgt hle
    go_wp2_with fail
    refine HBi.out.mono ?_
    rintro e w5' ⟨rfl,rfl⟩
    by_cases hmx:4096<nb
    · have hmx':(4096:Int)<(nb:Int):=by omega
      go_wp2
      go_ret
      exact ⟨⟨false,rfl,fun h=>by cases h⟩,HBw5.out⟩
    have hmx':¬ (4096:Int)<(nb:Int):=by omega
    have HBw:=Lib.hid HBw5.out
    go_wp2
    clear HB HB2 HB3 HB4 HBw2 HBw3 HBw4
    go_loopw [7] (fun i wr=>∃ k:Nat,k≤12∧i=.int .i64 k∧Below w1.heap.size w1 wr) (fun i _=>12 - (intOf i).toNat)
    case atStart=>exact ⟨0,by omega,rfl,HB5.out⟩
    case round =>
     clear HB5 HBw5
     obtain ⟨k,hk,rfl,hB⟩:=hrel
     have hs:=hB.size
     have HBw:=Lib.hid (HB1.out.trans (hB.mono HB1.out.size))
     by_cases hlt:k<12
     · obtain ⟨ad,rfl,_,q1⟩:=(HFw.out wr hB).at_ (i:=k) hlt
       obtain ⟨f2,f40⟩:=fews_pos k hlt
       obtain ⟨p,hp⟩:∃ p,dg fews k=p:=⟨_,rfl⟩
       rw [hp] at q1 f2 f40
       have HO:=Lib.hid (refOf_any p wr (by omega))
       clear hp
       go_wp2_with fail
       refine HO.out.mono ?_
       rintro e w2 ⟨A2,c2,rfl,hO2,hB2⟩
       have HB2:=Lib.hid (hB.trans (hB2.mono hs))
       have HBw2:=Lib.hid (HBw.out.trans (hB2.mono HBw.out.size))
       have hS:=refStrong_any A A2 c c2 n p w2 (HU.out w2 HBw2.out) hO2.ru (by rw [Hln.out];exact hl) (Nat.lt_of_le_of_lt (digs_length_of_lt (B:=4294967296) (n:=1) (by omega) (show p<4294967296 ^ 1 by omega)) (by omega)) (by rw [Hnb.out];omega)
       rw [Hln.out] at hS
       obtain ⟨bs,hbs⟩:∃ b,strongB n p=b:=⟨_,rfl⟩
       rw [hbs] at hS
       have HS:=Lib.hid hS
       clear hO2 hB2 hS HO hbs
       go_wp2_with fail
       refine HS.out.mono ?_
       rintro e w3 ⟨rfl,hB3⟩
       have HB3:=Lib.hid (HB2.out.trans (hB3.mono HB2.out.size))
       have HBw3:=Lib.hid (HBw2.out.trans (hB3.mono HBw2.out.size))
       cases bs
       · go_wp2
         go_ret
         exact ⟨⟨false,rfl,fun h=>by cases h⟩,HBw3.out⟩
       · go_wp2
         go_roundw
         case rel=>exact ⟨k+1,by omega,by go_num,HB3.out⟩
         case measure=>simp [intOf];omega
     · obtain rfl:k=12:=by omega
       go_wp2
       go_ret
       exact ⟨⟨true,rfl,fun _=>by have:=Hgt.out;omega⟩,HBw.out⟩
end Go.Proofs.YtendnkpiidhogaaGreat.At
