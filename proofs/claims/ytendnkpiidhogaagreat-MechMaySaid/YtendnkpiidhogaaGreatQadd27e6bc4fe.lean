/- MechMay: whether a mechanism may be used so with this key is the document's table. No condition. -/
import Derived.Test.YtendnkpiidhogaaGreatQ49724bb9c448
import Derived.Lib.Hide
import Derived.Deep.Fields
import Derived.ProofKit
import Derived.OpenShut
import Derived.ShutString
import Derived.ChangeOld
import Derived.ChangeSame
import Derived.Deep.Slices
import Derived.SizedLaws
import Derived.Lib.SmallJoins
set_option maxRecDepth 100000
set_option maxHeartbeats 16000000
namespace Go.Proofs.YtendnkpiidhogaaGreat.At
open Go.RowKit Go.Shelf
attribute [local go_sem] Oper.semAt_some
def MadeP (e:Ending) (w':World):Prop:=∃ (A':Option Addr) (c':Nat) (l':Attrs) (rv:Int),e=.returned (.tuple #[.slice A' l'.length c',.int .i64 rv])∧RA w' (fun b=>b<w'.heap.size) A' c' l'∧Fit 1000 l'∧(rv=0→Whole l')
theorem madeP_no (rv:Int) (w':World) (h:rv≠0):MadeP (.returned (.tuple #[.slice none 0 0,.int .i64 rv])) w':=⟨none,0,[],rv,rfl,RA.nil_ _ _,⟨by simp,by simp⟩,fun e=>absurd e h⟩
def Ou (t out:Attrs) (k:Nat):Prop:=∀ u,seek out u=seek (t.take k) u
theorem seek_snoc (l:Attrs) (a:Int×List Nat) (u:Int):seek (l++[a]) u=(seek l u).or (if a.1=u then some a.2 else none):=by
  induction l with
  | nil=>simp [seek]
  | cons x l ih =>
    rw [List.cons_append,seek_cons,seek_cons,ih]
    by_cases h:x.1=u
    · simp [h]
    · simp [h]
theorem seek_none {l:Attrs} {u:Int} (h:∀ x∈l,x.1≠u):seek l u=none:=by
 unfold seek
 rw [List.find?_eq_none.2 (fun x hx=>by simpa using h x hx)];rfl
theorem Ou.step {t out:Attrs} {k:Nat} (h:Ou t out k) (hu:Un t t.length) (hk:k<t.length) {x:Int×List Nat} (hx:t[k]=x):Ou t (putOf out x) (k+1):=fun u=>by
 rw [seek_putOf,List.take_succ_eq_append_getElem hk,hx,seek_snoc,h u]
 by_cases e:x.1=u
 · rw [if_pos e,if_pos e,seek_none]
   · rfl
   · intro y hy
     obtain ⟨j,hj,rfl⟩:=List.getElem_of_mem hy
     rw [List.length_take] at hj
     have:=hu k j hk (by omega)
     rw [gD _ _ (show j<t.length by omega),gD _ _ hk,hx] at this
     rw [List.getElem_take]
     rw [←e];exact this
 · rw [if_neg e,if_neg e];simp
def Nd (c k:Int) (out:Attrs) (n:Nat):Prop:=∀ j,j<n→hasOf c k (([17,288,290,291,292,293,384,385]:List Int).getD j 0)=true→came out (([17,288,290,291,292,293,384,385]:List Int).getD j 0)=true
theorem Nd.step {c k ty:Int} {out:Attrs} {n:Nat} (h:Nd c k out n) (e:([17,288,290,291,292,293,384,385]:List Int).getD n 0=ty) (hh:hasOf c k ty=true→came out ty=true):Nd c k out (n+1):=fun j hj=>by
 by_cases ej:j=n
 · subst ej;rw [e];exact hh
 · exact h j (by omega)
theorem Nd.five {c k:Int} {out:Attrs} (h:Nd c k out 8):∀ t∈([288,290,291,292,293]:List Int),hasOf c k t=true→came out t=true:=by
 intro t ht
 simp only [List.mem_cons,List.not_mem_nil,or_false] at ht
 rcases ht with rfl | rfl | rfl | rfl | rfl
 · exact h 1 (by omega)
 · exact h 2 (by omega)
 · exact h 3 (by omega)
 · exact h 4 (by omega)
 · exact h 5 (by omega)
theorem made_whole {t out x:Attrs} {p:Int×Int×Int} (hp:kindsOf t (-1) 0=p) (hk:p.2.2=0) (hu:Ou t out t.length) (hh:∀ y∈t,hasOf p.1 p.2.1 y.1=true) (hn:p.1≠0→Nd p.1 p.2.1 out 8) (hf:Full out x p.1 p.2.1):Whole x:=by
  subst hp
  obtain ⟨k1,k2,k3,k4,k5⟩:=kinds_ok hk
  have hs:∀ u,seek out u=seek t u:=fun u=>by rw [hu u,List.take_length]
  have hc:∀ u,came out u=came t u:=fun u=>by unfold came;rw [hs]
  have hi:∀ u,intOf' out u=intOf' t u:=fun u=>by unfold intOf';rw [hs]
  have hl:∀ u,came out u=true→hasOf (kindsOf t (-1) 0).1 (kindsOf t (-1) 0).2.1 u=true:=fun u hu2=>by
    rw [hc] at hu2
    unfold came seek at hu2
    simp only [Option.isSome_map,List.find?_isSome,beq_iff_eq] at hu2
    obtain ⟨y,hy,e⟩:=hu2
    rw [←e];exact hh y hy
  refine hf.whole k1 (by rw [hi];exact k2) ?_ (by rw [hc];exact k3) (fun h=>by rw [hc];exact (k4 h).1) hl (fun h=>(hn h).five)
  by_cases h0:(kindsOf t (-1) 0).1=0
  · have h6:came out 256=false:=by
      cases hcm:came out 256 with
      | false=>rfl
      | true =>
        have:=hl 256 hcm
        rw [h0,k5 h0] at this
        revert this;decide
    rw [k5 h0]
    have:intOf' out 256=none:=by
      unfold intOf'
      unfold came at h6
      cases hs6:seek out 256 with
      | none=>rfl
      | some v=>rw [hs6] at h6;cases h6
    rw [this];rfl
  · rw [hi];exact (k4 h0).2
theorem refMade_t (P:Nat→Prop) (A:Option Addr) (c:Nat) (t:Attrs) (w:World) (hv:RA w P A c t) (hP:∀ b,P b→b<w.heap.size) (ht:Fit 20 t) :
 Calls Tryz.prog 40 #[.int .i64 1,.slice A t.length c,.slice none 0 0,.slice none 0 0] w fun e w'=>MadeP e w'∧Below w.heap.size w w':=by
 obtain ⟨hlc,hc⟩:=hv.cap
 have HV:=Lib.hid hv
 have HP:=Lib.hid hP
 have HT:=Lib.hid ht
 clear hv hP ht
 go_enter Tryz.func40,Tryz.ntmps40
 go_wp2_with fail
 refine (refCheck_t P A c t 1 (-1) 0 w HV.out HP.out).mono ?_
 rintro e w1 ⟨⟨rv,rfl,hck⟩,hB1⟩
 have HB1:=Lib.hid hB1
 have hs1:=hB1.size
 clear hB1
 by_cases hr:rv=0
 case neg =>
  have Hr:=Lib.hid hr
  have hr':(rv==0)=false:=by simpa using hr
  clear hck
  clear hr
  go_wp2
  go_ret2
  exact ⟨madeP_no _ _ Hr.out,HB1.out⟩
 subst hr
 obtain ⟨hk0,hun,hhas⟩:=hck rfl
 have HUn:=Lib.hid hun
 clear hck hun
 go_wp2_with fail
 refine (refKinds_any P A c t (-1) 0 w1 (HV.out.below HB1.out HP.out) (fun b hb=>Nat.lt_of_lt_of_le (HP.out b hb) hs1)).mono ?_
 obtain ⟨p,hp⟩:∃ p,kindsOf t (-1) 0=p:=⟨_,rfl⟩
 obtain ⟨class_,key,kr⟩:=p
 rw [hp] at hk0 hhas ⊢
 have HPk:=Lib.hid hp
 have HK0:=Lib.hid hk0
 have HHas:=Lib.hid hhas
 have HTog:=Lib.hid (show together class_ key=true by have:=(kinds_ok (l:=t) (by rw [hp];exact hk0)).1;rw [hp] at this;exact this)
 clear hk0 hhas
 rintro e w2 ⟨rfl,hB2⟩
 have HB2:=Lib.hid (HB1.out.trans (hB2.mono hs1))
 have hs2:=HB2.out.size
 clear hB2 hp HB1 hs1
 go_wp2
 go_loopw [13,14] (fun s i wr=>∃ (k:Nat) (out:Attrs) (A1:Option Addr) (c1:Nat),k≤t.length∧i=.int .i64 k∧s=.slice A1 out.length c1∧RA wr (fun b=>b<wr.heap.size) A1 c1 out∧Fit k out∧Ou t out k∧Below w.heap.size w wr) (fun _ i _=>t.length - (intOf i).toNat)
 case atStart=>exact ⟨0,[],none,0,by omega,rfl,rfl,RA.nil_ _ _,⟨by simp,by simp⟩,fun _=>rfl,HB2.out⟩
 case round =>
  obtain ⟨k,out,A1,c1,hk,rfl,rfl,hRA,hfit,hou,hB⟩:=hrel
  have hs:=hB.size
  have HRA:=Lib.hid hRA
  have HFit:=Lib.hid hfit
  have HB:=Lib.hid hB
  have HOu:=Lib.hid hou
  clear hRA hfit hB HB2 hs2 hou
  by_cases hlt:k<t.length
  · obtain ⟨ad,Au,cu,rfl,hb,hc1,hc2,hu⟩:=(HV.out.below HB.out HP.out).at_ hlt
    have hg:=refGet_any (fun _=>False) none 0 [] t[k].1 wr (RA.nil_ _ _)
    simp only [show seek [] t[k].1=none from rfl,Option.getD_none,Option.isSome_none,List.length_nil] at hg
    have HG:=Lib.hid hg
    have hx:t[k].2.length≤10000:=HT.out.2 _ (List.getElem_mem _)
    have hu':RB wr (fun b=>b<wr.heap.size) Au cu t[k].2:=hu.mono fun b hb=>Nat.lt_of_lt_of_le (HP.out b hb) hs
    obtain ⟨ty,hty⟩:∃ ty,t[k].1=ty:=⟨_,rfl⟩
    rw [hty] at hc1 HG
    obtain ⟨vv,hvv⟩:∃ vv,t[k].2=vv:=⟨_,rfl⟩
    rw [hvv] at hc2 hx hu'
    have HOu2:=Lib.hid (HOu.out.step HUn.out hlt (x:=(ty,vv)) (by rw [←hty,←hvv]))
    have Hx:=Lib.hid hx
    have Hu:=Lib.hid hu'
    clear hg hx hu hu' hty hvv
    go_wp2_with fail
    refine HG.out.mono ?_
    rintro e w4 ⟨A2,c2,rfl,-,rfl⟩
    go_upto_region 15 with fail
    refine Par.region_ext (by kernel_rfl) 12 [0,1,3,7,3,3,51,115,243,499,1023,2047] [] (fun j f X=>match j with
     | 0=>f 0=.bool false
     | 1=>f 1=.bool false
     | 2=>f 2=undef
     | 3=>f 3=undef
     | 4=>f 4=undef
     | 5=>f 5=undef
     | 6=>f 6=undef
     | 7=>f 7=undef
     | 8=>f 8=undef
     | 9=>f 9=undef
     | 10=>f 10=undef
     | 11=>f 11=.bool false
     | _=>True) (by kernel_rfl) [(68,0),(69,1),(70,2),(71,3),(72,4),(73,5),(74,6),(75,7),(76,8),(77,9),(78,10),(79,11)] (by kernel_rfl) ?_
    refine Par.v0 1 11 ?_
    refine Par.v1 2 10 0 ?_
    refine Par.sk 3 9 1 ?_
    refine Par.sk 4 8 1 ?_
    refine Par.sk 5 7 1 ?_
    refine Par.sk 6 6 1 ?_
    refine Par.sk 7 5 1 ?_
    refine Par.sk 8 4 1 ?_
    refine Par.sk 9 3 1 ?_
    refine Par.sk 10 2 1 ?_
    refine Par.sk 11 1 1 ?_
    refine Par.v2 12 0 1 10 ?_
    refine Par.AllOps.fin ⟨fun f X hX hR hal hap=>?_⟩
    have e11:f 11=.bool false:=hR 11 (by decide)
    simp only [Par.putL,Act.put,List.setIfInBounds_toArray,List.set_cons_succ,List.set_cons_zero,e11]
    clear hR hal hap e11
    refine Par.Chain.done ?_
    have hs1:=hX.size
    have HB1:=Lib.hid (HB.out.trans (Below.mono hX hs))
    have HPu:=Lib.hid (putR X (raUp2 HRA.out hX) (x:=(ty,vv)) ((Hu.out.below hX (fun _ hb=>hb)).mono fun b hb=>Nat.lt_of_lt_of_le hb hs1) HFit.out (by have:=HT.out.1;omega) Hx.out)
    have hc1':=hX.cell hc1
    have hc2':=hX.cell hc2
    clear hc1 hc2 HG Hu Hx hX
    go_wp2_with fail
    refine HPu.out.mono ?_
    rintro e w5 ⟨⟨A5,c5,l5,rfl,hr5,hf5,e5⟩,hB5⟩
    have HOu5:=Lib.hid (show Ou t l5 (k+1) by rw [e5];exact HOu2.out)
    clear e5
    have HR5:=Lib.hid hr5
    have HF5:=Lib.hid hf5
    have HB5:=Lib.hid (HB1.out.trans (hB5.mono HB1.out.size))
    clear hr5 hf5 hB5
    go_wp2
    go_roundw
    case rel=>exact ⟨k+1,l5,A5,c5,by omega,by go_num,rfl,HR5.out,HF5.out,HOu5.out,HB5.out⟩
    case measure=>simp [intOf];omega
  · obtain rfl:k=t.length:=by omega
    clear hlt
    have HFit':=Lib.hid (HFit.out.mono (M:=20) (by have:=HT.out.1;omega))
    clear HFit hk HT
    go_wp2
    go_loopw [13,17] (fun s i wx=>s=.slice A1 out.length c1∧i=.int .i64 0∧wx=wr) (fun _ i _=>0)
    case atStart=>exact ⟨rfl,rfl,rfl⟩
    case round =>
     obtain ⟨rfl,rfl,rfl⟩:=hrel
     go_wp2
     have hnd:=RI.fresh (P:=fun b=>b<(wr.alloc (.cells #[.int .i64 17,.int .i64 288,.int .i64 290,.int .i64 291,.int .i64 292,.int .i64 293,.int .i64 384,.int .i64 385] 3)).heap.size) wr #[.int .i64 17,.int .i64 288,.int .i64 290,.int .i64 291,.int .i64 292,.int .i64 293,.int .i64 384,.int .i64 385] 3 [17,288,290,291,292,293,384,385] 8 rfl rfl (by omega) (by simp)
     have hEn:Ext wr (wr.alloc (.cells #[.int .i64 17,.int .i64 288,.int .i64 290,.int .i64 291,.int .i64 292,.int .i64 293,.int .i64 384,.int .i64 385] 3)):=Ext.alloc _ _
     have HBn:=Lib.hid (HB.out.trans (Below.mono hEn hs))
     have HRn:=Lib.hid (raUp2 HRA.out hEn)
     obtain ⟨An,hAn⟩:∃ An:Option Addr,some (⟨wr.heap.size,0,none⟩:Addr)=An:=⟨_,rfl⟩
     rw [hAn] at hnd ⊢
     have HNd:=Lib.hid hnd
     clear hAn hnd hEn HRA HB
     generalize wr.alloc (.cells #[.int .i64 17,.int .i64 288,.int .i64 290,.int .i64 291,.int .i64 292,.int .i64 293,.int .i64 384,.int .i64 385] 3)=Wn at *
     go_loopw [21] (fun i wx=>∃ k:Nat,k≤8∧i=.int .i64 k∧Nd class_ key out k∧Below Wn.heap.size Wn wx) (fun i _=>8 - (intOf i).toNat)
     case atStart=>exact ⟨0,by omega,rfl,fun j hj=>absurd hj (by omega),Below.refl _ _⟩
     case round =>
      obtain ⟨k,hk,rfl,hnd,hB⟩:=hrel
      have HNn:=Lib.hid hnd
      clear hnd
      have hsn:=hB.size
      have HB:=Lib.hid hB
      have HRx:=Lib.hid (raUp2 HRn.out hB)
      have HBx:=Lib.hid (HBn.out.trans (hB.mono HBn.out.size))
      clear hB
      by_cases h0:class_=0
      · have h0':(class_==0)=true:=by simpa using h0
        have HE0:=Lib.hid h0
        clear h0
        have hlt:(k:Int)<8∨¬ (k:Int)<8:=by omega
        rcases hlt with hlt | hlt
        all_goals
         have HVa:=Lib.hid (valid18_t _ A1 c1 out class_ key wr HRx.out (fun b hb=>hb) (fun ty=>seek_short2 HFit'.out.2 ty))
         go_wp2_with fail
         refine HVa.out.mono ?_
         rintro e w5 ⟨⟨bv,rfl⟩,hB5⟩
         have HB5:=Lib.hid (HBx.out.trans (hB5.mono HBx.out.size))
         have HR5:=Lib.hid (raUp2 HRx.out hB5)
         clear hB5 HVa
         cases bv
         · go_wp2
           go_ret2
           exact ⟨madeP_no _ _ (by decide),HB5.out⟩
         have HFl:=Lib.hid (fill_t _ A1 none c1 0 0 out class_ key w5 HR5.out (fun b hb=>hb) (HFit'.out.mono (by omega)) HTog.out)
         go_wp2_with fail
         refine HFl.out.mono ?_
         rintro e w6 ⟨⟨A6,c6,l6,rfl,hr6,hf6,hfu⟩,hB6⟩
         have HFu:=Lib.hid hfu
         clear hfu
         have HB6:=Lib.hid (HB5.out.trans (hB6.mono HB5.out.size))
         have HF6:=Lib.hid hf6
         have HCl:=Lib.hid (refClone_any _ A6 c6 l6 w6 hr6 (fun b hb=>hb) (by have:=hf6.1;omega))
         clear hB6 hf6 hr6
         go_wp2_with fail
         refine HCl.out.mono ?_
         rintro e w7 ⟨A7,c7,cs7,rfl,ho7,hB7⟩
         have HB7:=Lib.hid (HB6.out.trans (hB7.mono HB6.out.size))
         have HR7:=Lib.hid (ho7.ra.mono (P':=fun b=>b<w7.heap.size) (fun b hb=>hb.2))
         clear hB7 ho7
         go_wp2
         go_ret2
         exact ⟨⟨A7,c7,l6,0,rfl,HR7.out,HF6.out,fun _=>made_whole HPk.out HK0.out HOu.out HHas.out (fun h=>absurd HE0.out h) HFu.out⟩,HB7.out⟩
      have h0':(class_==0)=false:=by simpa using h0
      by_cases hlt:k<8
      · have hlt':(k:Int)<8:=by omega
        obtain ⟨ad,rfl,-,hcn⟩:=(HNd.out.below HB.out (fun _ hb=>hb)).at_ (i:=k) hlt
        obtain ⟨ty,hty⟩:∃ ty,([17,288,290,291,292,293,384,385]:List Int).getD k 0=ty:=⟨_,rfl⟩
        rw [hty] at hcn
        have hg:=refGet_any _ A1 c1 out ty wr HRx.out
        obtain ⟨o,ho⟩:∃ o,(seek out ty).isSome=o:=⟨_,rfl⟩
        rw [ho] at hg
        have HG:=Lib.hid hg
        have hh:=refHas_any class_ key ty wr
        obtain ⟨hv,hhv⟩:∃ b,hasOf class_ key ty=b:=⟨_,rfl⟩
        rw [hhv] at hh
        have HH:=Lib.hid hh
        have Hty:=Lib.hid hty
        have HOo:=Lib.hid (show came out ty=o from ho)
        have Hhv:=Lib.hid hhv
        clear hg ho hh hhv hty h0
        go_wp2_with fail
        refine HG.out.mono ?_
        rintro e wy ⟨A2,c2,rfl,-,rfl⟩
        go_wp2_with fail
        refine HH.out.mono ?_
        rintro e w3 ⟨rfl,hB3⟩
        have HBy:=Lib.hid (HB.out.trans (hB3.mono hsn))
        clear hB3
        cases hv
        · go_wp2
          go_roundw
          case rel=>exact ⟨k+1,by omega,by go_num,HNn.out.step Hty.out (fun h=>by rw [Hhv.out] at h;cases h),HBy.out⟩
          case measure=>simp [intOf];omega
        · cases o
          · go_wp2
            go_ret2
            exact ⟨madeP_no _ _ (by decide),HBn.out.trans (HBy.out.mono HBn.out.size)⟩
          · go_wp2
            go_roundw
            case rel=>exact ⟨k+1,by omega,by go_num,HNn.out.step Hty.out (fun _=>HOo.out),HBy.out⟩
            case measure=>simp [intOf];omega
      obtain rfl:k=8:=by omega
      clear hlt hk
      have HVa:=Lib.hid (valid18_t _ A1 c1 out class_ key wr HRx.out (fun b hb=>hb) (fun ty=>seek_short2 HFit'.out.2 ty))
      go_wp2_with fail
      refine HVa.out.mono ?_
      rintro e w5 ⟨⟨bv,rfl⟩,hB5⟩
      have HB5:=Lib.hid (HBx.out.trans (hB5.mono HBx.out.size))
      have HR5:=Lib.hid (raUp2 HRx.out hB5)
      clear hB5 HVa
      cases bv
      · go_wp2
        go_ret2
        exact ⟨madeP_no _ _ (by decide),HB5.out⟩
      have HFl:=Lib.hid (fill_t _ A1 none c1 0 0 out class_ key w5 HR5.out (fun b hb=>hb) (HFit'.out.mono (by omega)) HTog.out)
      go_wp2_with fail
      refine HFl.out.mono ?_
      rintro e w6 ⟨⟨A6,c6,l6,rfl,hr6,hf6,hfu⟩,hB6⟩
      have HFu:=Lib.hid hfu
      clear hfu
      have HB6:=Lib.hid (HB5.out.trans (hB6.mono HB5.out.size))
      have HF6:=Lib.hid hf6
      have HCl:=Lib.hid (refClone_any _ A6 c6 l6 w6 hr6 (fun b hb=>hb) (by have:=hf6.1;omega))
      clear hB6 hf6 hr6
      go_wp2_with fail
      refine HCl.out.mono ?_
      rintro e w7 ⟨A7,c7,cs7,rfl,ho7,hB7⟩
      have HB7:=Lib.hid (HB6.out.trans (hB7.mono HB6.out.size))
      have HR7:=Lib.hid (ho7.ra.mono (P':=fun b=>b<w7.heap.size) (fun b hb=>hb.2))
      clear hB7 ho7
      go_wp2
      go_ret2
      exact ⟨⟨A7,c7,l6,0,rfl,HR7.out,HF6.out,fun _=>made_whole HPk.out HK0.out HOu.out HHas.out (fun _=>HNn.out) HFu.out⟩,HB7.out⟩
end Go.Proofs.YtendnkpiidhogaaGreat.At

namespace Go.Proofs.YtendnkpiidhogaaGreat.At
open Go.RowKit Go.Shelf
attribute [local go_sem] Oper.semAt_some
def okF (t:Int) (copied:Bool):Bool:=decide (t∈([3,258,259,354,260,261,262,263,264,266,268]:List Int)) || (copied && decide (t∈([1,2,368,369]:List Int)))
def upF (t:Int):Bool:=decide (t∈([259,2]:List Int))
def downF (t:Int):Bool:=decide (t∈([354,368,369]:List Int))
def vF (ok up down was now:Bool):Bool:=!ok || (up && was && !now) || (down && !was && now)
def refWithOn (c k:Int) (o:Attrs) (copied:Bool):Attrs→Attrs→Attrs→Attrs ⊕ Int
  | _,out,[]=>.inl out
  | p, out, a :: r =>
    if formOf a.1=0 then .inr 18
    else if came p a.1 || !hasOf c k a.1 then .inr 209
    else if fineOf a=false then .inr 19
    else if vF (okF a.1 copied) (upF a.1) (downF a.1) (flagOf o a.1) (flagOf [a] a.1)=true then .inr 16
    else refWithOn c k o copied (p++[a]) (putOf out a) r
theorem refWith_step {l t out:Attrs} {c key:Int} {cp:Bool} {k:Nat} {x:Int×List Nat} (hk:k<t.length) (hx:t[k]=x) :
 refWithOn c key l cp (t.take k) out (t.drop k)=if formOf x.1=0 then .inr 18 else if (came (t.take k) x.1 || !hasOf c key x.1)=true then .inr 209 else if fineOf x=false then .inr 19 else if vF (okF x.1 cp) (upF x.1) (downF x.1) (flagOf l x.1) (flagOf [x] x.1)=true then .inr 16 else refWithOn c key l cp (t.take (k+1)) (putOf out x) (t.drop (k+1)):=by
 rw [List.drop_eq_getElem_cons hk,hx,refWithOn,List.take_succ_eq_append_getElem hk,hx]
theorem among_in (w:World) (cs:Array Value) (l:List Int) (n:Nat) (t:Int) (h:cs.toList=its l) (hn:l.length=n) (hs:n≤1000) :
 Calls Tryz.prog 39 #[.int .i64 t,.slice (some ⟨w.heap.size,0,none⟩) n n] (w.alloc (.cells cs 3)) fun e w'=>e=.returned (.bool (decide (t∈l)))∧Below w.heap.size w w':=by
 have hr:=RI.fresh (P:=fun _=>True) w cs 3 l n h hn hs trivial
 subst hn
 exact (among_any _ _ _ l t _ hr).mono fun e w' ⟨h1,d,h2⟩=>⟨h1,by rw [h2];exact below_drewN ((Below.refl _ w).alloc (Nat.le_refl _) _) _⟩
theorem RA.one {w:World} {P:Nat→Prop} {ad:Addr} {c c' k:Nat} {l:Attrs} {x:Int×List Nat} (h:RA w P (some ad) c l) (hk:k<l.length) (hx:l[k]=x) (hc:1≤c') (hm:c'≤maxLen):RA w P (some (ad.add (k*2))) c' [x]:=by
 obtain ⟨cs,h1,h2⟩:=h
 have hs:=h1.sub (k:=k) (m:=k+1) (c':=c') (A':=some (ad.add (k*2))) (by omega) (by omega) (by omega) hm (fun _=>rfl)
 rw [show k+1 - k=1 by omega] at hs
 refine ⟨_,hs,fun j y hy=>?_⟩
 have hj:j=0:=by
  have:=(List.getElem?_eq_some_iff.1 hy).1
  simp at this;omega
 subst hj
 simp at hy
 subst hy
 obtain ⟨h3,A',c2,h4,h5⟩:=h2 k x (by rw [List.getElem?_eq_getElem hk,hx])
 exact ⟨by simpa [List.getElem?_take,List.getElem?_drop] using h3,A',c2,by simpa [List.getElem?_take,List.getElem?_drop] using h4,h5⟩
theorem putR2 {l:Attrs} {x:Int×List Nat} {A Aa:Option Addr} {c ca:Nat} (w:World) (hv:RA w (fun b=>b<w.heap.size) A c l) (ha:RB w (fun b=>b<w.heap.size) Aa ca x.2) (hl:l.length≤100000) :
 Calls Tryz.prog 18 #[.slice A l.length c,.agg #[.int .i64 x.1,.slice Aa x.2.length ca]] w fun e w'=>(∃ A' c',e=.returned (.slice A' (putOf l x).length c')∧RA w' (fun b=>b<w'.heap.size) A' c' (putOf l x))∧Below w.heap.size w w' :=
 (refPut_any _ A c l x Aa ca w hv ha (fun b hb=>hb) (by omega)).mono fun e w' ⟨A',c',cs,h1,h2,h3⟩=>⟨⟨A',c',h1,h2.ra.mono fun b hb=>hb.elim (fun h=>Nat.lt_of_lt_of_le h h3.size) (fun h=>h.2)⟩,h3⟩
theorem refChange_any (P P':Nat→Prop) (A A':Option Addr) (c c':Nat) (l t:Attrs) (copied:Bool) (w:World) (hv:RA w P A c l) (hP:∀ b,P b→b<w.heap.size) (hv':RA w P' A' c' t) (hP':∀ b,P' b→b<w.heap.size) (hl:l.length≤50000) (htl:t.length≤1000) :
 Calls Tryz.prog 56 #[.slice A l.length c,.slice A' t.length c',.bool copied] w fun e w'=>WithP (refWithOn ((intOf' l 0).getD 0:Nat) ((intOf' l 256).getD 0:Nat) l copied [] l t) w.heap.size e w'∧Below w.heap.size w w':=by
 have hi0:=refInt_any P A c l 0 w hv
 have hi2:=fun X (hX:Below w.heap.size w X)=>refInt_any P A c l 256 X (hv.below hX hP)
 obtain ⟨o0,ho0⟩:∃ o,intOf' l 0=o:=⟨_,rfl⟩
 obtain ⟨o2,ho2⟩:∃ o,intOf' l 256=o:=⟨_,rfl⟩
 rw [ho0] at hi0 ⊢
 simp only [ho2] at hi2 ⊢
 obtain ⟨n0,hn0⟩:∃ n,o0.getD 0=n:=⟨_,rfl⟩
 obtain ⟨n2,hn2⟩:∃ n,o2.getD 0=n:=⟨_,rfl⟩
 obtain ⟨b0,hb0⟩:∃ b,o0.isSome=b:=⟨_,rfl⟩
 obtain ⟨b2,hb2⟩:∃ b,o2.isSome=b:=⟨_,rfl⟩
 rw [hn0,hb0] at hi0
 simp only [hn2,hb2] at hi2
 rw [hn0,hn2]
 obtain ⟨cl,hcl⟩:∃ x:Int,(n0:Int)=x:=⟨_,rfl⟩
 obtain ⟨ky,hky⟩:∃ x:Int,(n2:Int)=x:=⟨_,rfl⟩
 rw [hcl] at hi0 ⊢
 rw [hky] at ⊢
 simp only [hky] at hi2
 have HI0:=Lib.hid hi0
 have HI2:=Lib.hid hi2
 clear hi0 hi2 ho0 ho2 hn0 hn2 hb0 hb2 hcl hky
 obtain ⟨R,hR0⟩:∃ R,refWithOn cl ky l copied [] l t=R:=⟨_,rfl⟩
 rw [hR0]
 have HR0:=Lib.hid hR0
 clear hR0
 obtain ⟨hlc,hc⟩:=hv.cap
 obtain ⟨hlc',hc'⟩:=hv'.cap
 have HV:=Lib.hid hv
 have HV':=Lib.hid hv'
 have HP:=Lib.hid hP
 have HP':=Lib.hid hP'
 clear hv hv' hP hP'
 go_enter Tryz.func56,Tryz.ntmps56
 go_wp2_with fail
 refine HI0.out.mono ?_
 rintro e w1 ⟨rfl,d1,rfl⟩
 have hB1:Below w.heap.size w (w.drewN d1):=below_drewN (Below.refl _ _) _
 go_wp2_with fail
 refine (HI2.out _ hB1).mono ?_
 rintro e w2 ⟨rfl,d2,rfl⟩
 have hB2:Below w.heap.size w ((w.drewN d1).drewN d2):=below_drewN hB1 _
 generalize (w.drewN d1).drewN d2=W2 at *
 clear hB1
 go_wp2
 go_loopw [12,13] (fun v i wr=>∃ (k:Nat) (out:Attrs) (A2:Option Addr) (c2:Nat),k≤t.length∧i=.int .i64 k∧v=.slice A2 out.length c2∧RA wr (fun b=>b<wr.heap.size) A2 c2 out∧out.length≤50000+k∧refWithOn cl ky l copied (t.take k) out (t.drop k)=R∧Below w.heap.size w wr) (fun _ i _=>t.length - (intOf i).toNat)
 case atStart=>exact ⟨0,l,A,c,Nat.zero_le _,rfl,rfl,(HV.out.below hB2 HP.out).mono (fun b hb=>Nat.lt_of_lt_of_le (HP.out b hb) hB2.size),by omega,by simpa using HR0.out,hB2⟩
 case round =>
  clear hB2 HR0
  obtain ⟨k,out,A2,c2,hk,rfl,rfl,hRA,hlen,hW,hB⟩:=hrel
  have hs:=hB.size
  have HRA:=Lib.hid hRA
  have HB:=Lib.hid hB
  by_cases hlt:k<t.length
  · have hvr:=HV'.out.below hB HP'.out
    obtain ⟨ad,Au,cu,rfl,hb,hc1,hc2,hu⟩:=hvr.at_ hlt
    obtain ⟨x,hx⟩:∃ x,t[k]=x:=⟨_,rfl⟩
    rw [hx] at hc1 hc2 hu
    rw [refWith_step hlt hx] at hW
    have hvt:=RA.take (m:=k) hvr (by omega)
    have hlk:(t.take k).length=k:=by rw [List.length_take];omega
    have hv1:=RA.one (c':=c' - k) hvr hlt hx (by omega) (by unfold maxLen;omega)
    have F:=refForm_any x.1 wr
    have G:=refGet_any P' (some ad) c' (t.take k) x.1 wr hvt
    rw [hlk] at G
    have F3:=fun X (hX:Below wr.heap.size wr X)=>refFine_any P' x Au cu X (hu.below hX (fun b hb=>Nat.lt_of_lt_of_le (HP'.out b hb) hs)) (fun b hb=>Nat.lt_of_lt_of_le (HP'.out b hb) (Nat.le_trans hs hX.size))
    have FL:=fun X (hX:Below w.heap.size w X)=>refFlag_any P A c l x.1 X (HV.out.below hX HP.out)
    have FX:=fun X (hX:Below wr.heap.size wr X)=>refFlag_any P' (some (ad.add (k*2))) (c' - k) [x] x.1 X (hv1.below hX (fun b hb=>Nat.lt_of_lt_of_le (HP'.out b hb) hs))
    obtain ⟨fo,hfo⟩:∃ y,formOf x.1=y:=⟨_,rfl⟩
    obtain ⟨b1,hb1⟩:∃ y,came (t.take k) x.1=y:=⟨_,rfl⟩
    obtain ⟨b2,hb2⟩:∃ y,hasOf cl ky x.1=y:=⟨_,rfl⟩
    obtain ⟨b3,hb3⟩:∃ y,fineOf x=y:=⟨_,rfl⟩
    obtain ⟨ok,hok⟩:∃ y,okF x.1 copied=y:=⟨_,rfl⟩
    obtain ⟨up,hup⟩:∃ y,upF x.1=y:=⟨_,rfl⟩
    obtain ⟨down,hdown⟩:∃ y,downF x.1=y:=⟨_,rfl⟩
    obtain ⟨was,hwas⟩:∃ y,flagOf l x.1=y:=⟨_,rfl⟩
    obtain ⟨now,hnow⟩:∃ y,flagOf [x] x.1=y:=⟨_,rfl⟩
    obtain ⟨d1,hd1⟩:∃ y,decide (x.1∈([3,258,259,354,260,261,262,263,264,266,268]:List Int))=y:=⟨_,rfl⟩
    obtain ⟨d2,hd2⟩:∃ y,decide (x.1∈([1,2,368,369]:List Int))=y:=⟨_,rfl⟩
    have HUp:=Lib.hid (show decide (x.1∈([259,2]:List Int))=up from hup)
    have HDn:=Lib.hid (show decide (x.1∈([354,368,369]:List Int))=down from hdown)
    have HOk:=Lib.hid (show (d1 || (copied && d2))=ok by rw [←hok,←hd1,←hd2];rfl)
    have HD1:=Lib.hid hd1
    have HD2:=Lib.hid hd2
    rw [hfo] at F
    rw [show (seek (t.take k) x.1).isSome=b1 from hb1] at G
    simp only [hb3] at F3
    simp only [hwas] at FL
    simp only [hnow] at FX
    rw [hfo,hb1,hb2,hb3,hok,hup,hdown,hwas,hnow] at hW
    have hh:=fun X=>refHas_any cl ky x.1 X
    simp only [hb2] at hh
    have HF:=Lib.hid F
    have HG:=Lib.hid G
    have HH:=Lib.hid hh
    have HF3:=Lib.hid F3
    have HFL:=Lib.hid FL
    have HFX:=Lib.hid FX
    have HW:=Lib.hid hW.symm
    have Hlen:=Lib.hid (show (putOf out x).length≤50000+(k+1) from Nat.le_trans (length_putOf out x) (by omega))
    have hol:out.length≤100000:=by omega
    have HU:=Lib.hid (hu.mono (P':=fun b=>b<wr.heap.size) fun b hb=>Nat.lt_of_lt_of_le (HP'.out b hb) hs)
    clear hfo hb1 hb2 hb3 hok hup hdown hwas hnow hd1 hd2 F G F3 FL FX hh hW hvt hvr hv1 hRA hB hu hlk hx
    go_wp2_with fail
    refine HF.out.mono ?_
    rintro e w2 ⟨rfl,rfl⟩
    by_cases h0:fo=0
    · have Hr:=Lib.hid (HW.out.trans (if_pos h0))
      subst h0
      go_wp2
      go_ret2
      exact ⟨withP_no Hr.out,HB.out⟩
    have h0':(fo==0)=false:=by simpa using h0
    have Hr:=Lib.hid (HW.out.trans (if_neg h0))
    clear h0 HW
    go_wp2_with fail
    refine HG.out.mono ?_
    rintro e w3 ⟨A3,c3,rfl,-,rfl⟩
    cases b1
    rotate_left
    · have Hr1:=Lib.hid (Hr.out.trans (if_pos rfl))
      go_wp2
      go_ret2
      exact ⟨withP_no Hr1.out,HB.out⟩
    go_wp2_with fail
    refine (HH.out _).mono ?_
    rintro e w4 ⟨rfl,hB4⟩
    have HB4:=Lib.hid (HB.out.trans (hB4.mono hs))
    have HE4:=Lib.hid hB4
    clear hB4
    cases b2
    · have Hr1:=Lib.hid (Hr.out.trans (if_pos rfl))
      go_wp2
      go_ret2
      exact ⟨withP_no Hr1.out,HB4.out⟩
    have Hr1:=Lib.hid (Hr.out.trans (if_neg (by decide)))
    clear Hr
    have hc1':=Ext.cell HE4.out hc1
    have hc2':=Ext.cell HE4.out hc2
    have hs4:=HE4.out.size
    have HC1:=Lib.hid hc1
    have HC2:=Lib.hid hc2
    clear hc1 hc2 HF HG HH
    go_wp2_with fail
    refine (HF3.out _ HE4.out).mono ?_
    rintro e w5 ⟨rfl,hB5⟩
    have HB5:=Lib.hid (HB4.out.trans (hB5.mono HB4.out.size))
    have HE5:=Lib.hid (HE4.out.trans (hB5.mono HE4.out.size))
    clear hc1' hc2' hB5 HF3
    cases b3
    · have Hr2:=Lib.hid (Hr1.out.trans (if_pos rfl))
      go_wp2
      go_ret2
      exact ⟨withP_no Hr2.out,HB5.out⟩
    have Hr2:=Lib.hid (Hr1.out.trans (if_neg (by decide)))
    clear Hr1
    go_wp2_with fail
    refine (among_in _ _ [3,258,259,354,260,261,262,263,264,266,268] 11 x.1 rfl rfl (by omega)).mono ?_
    rw [HD1.out]
    rintro e w6 ⟨rfl,hB6⟩
    have HE6:=Lib.hid (HE5.out.trans (hB6.mono HE5.out.size))
    clear hB6 HB4 HB5 HE4 hs4
    go_upto_region 16 with fail
    go_cut [77] from 72 to 77 (fun v wx=>v=.bool (copied && d2)∧Below wr.heap.size wr wx)
    case first =>
     cases copied
     · go_wp2
       go_meet
       case rel=>exact ⟨rfl,HE6.out⟩
     · go_wp2_with fail
       refine (among_in _ _ [1,2,368,369] 4 x.1 rfl rfl (by omega)).mono ?_
       rw [HD2.out]
       rintro e w7 ⟨rfl,hB7⟩
       have HE7:=Lib.hid (HE6.out.trans (hB7.mono HE6.out.size))
       clear hB7
       go_wp2
       go_meet
       case rel=>exact ⟨rfl,HE7.out⟩
    case rest =>
     obtain ⟨rfl,hE⟩:=hcut
     have HE7:=Lib.hid hE
     clear hE HE5 HE6
     obtain ⟨d3,hd3⟩:∃ y,(copied && d2)=y:=⟨_,rfl⟩
     rw [hd3]
     have HOk':=Lib.hid (show (d1 || d3)=ok by rw [←hd3];exact HOk.out)
     clear hd3 HOk
     rename_i hK
     refine hK _ _ ?_
     go_cut [17] from 72 to 77 (fun v wx=>v=.bool ok∧Below wr.heap.size wr wx)
     case first =>
      cases d3
      · have hok:d1=ok:=by have:=HOk'.out;simpa using this
        subst hok
        go_wp2
        go_meet
        case rel=>exact ⟨rfl,HE7.out⟩
      · have hok:true=ok:=by have:=HOk'.out;simpa using this
        subst hok
        go_wp2
        go_meet
        case rel=>exact ⟨rfl,HE7.out⟩
     case rest =>
     obtain ⟨rfl,hE⟩:=hcut
     have HE8:=Lib.hid hE
     have hs8:=hE.size
     clear hE HE7 HD1 HD2 HOk'
     go_wp2_with fail
     refine (HFL.out _ (HB.out.trans (HE8.out.mono hs))).mono ?_
     rintro e w9 ⟨rfl,rfl⟩
     have g1:(k:Int)≤((k:Int)+1):=by omega
     have g2:(k:Int)+1≤(c':Int):=by omega
     have g3:(0:Int)≤(k:Int):=by omega
     go_wp2_with fail
     refine (HFX.out _ HE8.out).mono ?_
     rintro e w9 ⟨rfl,rfl⟩
     clear HFX HFL
     go_wp2_with fail
     refine (among_in _ _ [259,2] 2 x.1 rfl rfl (by omega)).mono ?_
     rw [HUp.out]
     rintro e w10 ⟨rfl,hB10⟩
     have HE10:=Lib.hid (HE8.out.trans (hB10.mono hs8))
     clear hB10
     go_wp2_with fail
     refine (among_in _ _ [354,368,369] 3 x.1 rfl rfl (by omega)).mono ?_
     rw [HDn.out]
     rintro e w11 ⟨rfl,hB11⟩
     have HE11:=Lib.hid (HE10.out.trans (hB11.mono HE10.out.size))
     clear hB11 HE8 HE10 HUp HDn
     go_upto_region 22 with fail
     go_cut [115] from 94 to 115 (fun v wx=>v=.bool (vF ok up down was now)∧wx=w11)
     case first =>
      cases ok
      · (go_wp2;go_meet;case rel=>exact ⟨rfl,rfl⟩)
      · cases up
        · cases down
          · (go_wp2;go_meet;case rel=>exact ⟨rfl,rfl⟩)
          · cases was
            all_goals (go_wp2;go_meet;case rel=>exact ⟨by simp [vF],rfl⟩)
        · cases was
          · cases down
            all_goals (go_wp2;go_meet;case rel=>exact ⟨by simp [vF],rfl⟩)
          · cases now
            · (go_wp2;go_meet;case rel=>exact ⟨by simp [vF],rfl⟩)
            · cases down
              all_goals (go_wp2;go_meet;case rel=>exact ⟨by simp [vF],rfl⟩)
     case rest =>
      obtain ⟨rfl,rfl⟩:=hcut
      obtain ⟨vv,hvv⟩:∃ y,vF ok up down was now=y:=⟨_,rfl⟩
      rw [hvv]
      have Hr3:=Hr2.out
      rw [hvv] at Hr3
      have HR3:=Lib.hid Hr3
      clear hvv Hr3 Hr2
      have HB11:=Lib.hid (HB.out.trans (HE11.out.mono hs))
      have hc1:=Ext.cell HE11.out HC1.out
      have hc2:=Ext.cell HE11.out HC2.out
      cases vv
      rotate_left
      · have Hr4:=Lib.hid (HR3.out.trans (if_pos rfl))
        clear hc1 hc2
        go_wp2
        go_ret2
        exact ⟨withP_no Hr4.out,HB11.out⟩
      have Hr4:=Lib.hid (HR3.out.trans (if_neg (by decide)))
      have HPu:=Lib.hid (putR2 _ (raUp2 HRA.out HE11.out) ((HU.out.below HE11.out (fun _ hb=>hb)).mono fun b hb=>Nat.lt_of_lt_of_le hb HE11.out.size) hol)
      clear HR3 HE11
      go_wp2_with fail
      refine HPu.out.mono ?_
      rintro e w12 ⟨⟨A5,c5,rfl,hr5⟩,hB12⟩
      have HR5:=Lib.hid hr5
      have HB12:=Lib.hid (HB11.out.trans (hB12.mono HB11.out.size))
      clear hr5 hB12 hc1 hc2 HPu
      go_wp2
      go_roundw
      case rel=>exact ⟨k+1,putOf out x,A5,c5,by omega,by go_num,rfl,HR5.out,Hlen.out,Hr4.out.symm,HB12.out⟩
      case measure=>simp [intOf];omega
  · obtain rfl:k=t.length:=by omega
    have hR:Sum.inl out=R:=by simpa [refWithOn] using hW
    have HR:=Lib.hid hR.symm
    have HCl:=Lib.hid (refClone_any _ A2 c2 out wr HRA.out (fun b hb=>hb) (by omega))
    clear hRA hB hW hR hlt hk
    go_wp2_with fail
    refine HCl.out.mono ?_
    rintro e w7 ⟨A7,c7,cs7,rfl,ho7,hB7⟩
    have HB7:=Lib.hid (HB.out.trans (hB7.mono hs))
    have HR7:=Lib.hid (ho7.ra.mono (P':=In w.heap.size w7.heap.size) (fun b hb=>⟨Nat.le_trans hs hb.1,hb.2⟩))
    clear hB7 ho7
    go_wp2
    go_ret2
    exact ⟨withP_yes HR.out rfl HR7.out,HB7.out⟩
def refSetOf (flag:Int) (copied:Bool) (o t:Attrs):Attrs ⊕ Int:=if flagOf o flag=false then .inr 16 else refWithOn ((intOf' o 0).getD 0:Nat) ((intOf' o 256).getD 0:Nat) o copied [] o t
theorem refSet_any (P P':Nat→Prop) (A A':Option Addr) (c c':Nat) (l t:Attrs) (w:World) (hv:RA w P A c l) (hP:∀ b,P b→b<w.heap.size) (hv':RA w P' A' c' t) (hP':∀ b,P' b→b<w.heap.size) (hl:l.length≤50000) (htl:t.length≤1000) :
 Calls Tryz.prog 23 #[.slice A l.length c,.slice A' t.length c'] w fun e w'=>WithP (refSetOf 368 false l t) w.heap.size e w'∧Below w.heap.size w w':=by
 obtain ⟨R,hR⟩:∃ R,refSetOf 368 false l t=R:=⟨_,rfl⟩
 rw [hR]
 have hf:=refFlag_any P A c l 368 w hv
 obtain ⟨b,hb⟩:∃ b,flagOf l 368=b:=⟨_,rfl⟩
 rw [hb] at hf
 have HF:=Lib.hid hf
 cases b
 · have HR:=Lib.hid (show R=.inr 16 by rw [←hR];simp [refSetOf,hb])
   clear hf hb hR
   go_enter Tryz.func23,Tryz.ntmps23
   go_wp2_with fail
   refine HF.out.mono ?_
   rintro e w2 ⟨rfl,rfl⟩
   go_wp2
   go_ret2
   exact ⟨withP_no HR.out,Below.refl _ _⟩
 · have h:=refChange_any P P' A A' c c' l t false w hv hP hv' hP' hl htl
   rw [show refWithOn ((intOf' l 0).getD 0:Nat) ((intOf' l 256).getD 0:Nat) l false [] l t=R by rw [←hR];simp [refSetOf,hb]] at h
   have H:=Lib.hid h
   clear hf hb hR h
   go_enter Tryz.func23,Tryz.ntmps23
   go_wp2_with fail
   refine HF.out.mono ?_
   rintro e w2 ⟨rfl,rfl⟩
   go_wp2_with fail
   refine H.out.mono ?_
   rintro e w3 ⟨hW,hB⟩
   have HB:=Lib.hid hB
   clear hB
   unfold WithP at hW
   rcases R with x | r
   · obtain ⟨A1,c1,rfl,hx⟩:=hW
     have HX:=Lib.hid hx
     clear hx
     go_wp2
     go_ret2
     exact ⟨⟨A1,c1,rfl,HX.out⟩,HB.out⟩
   · subst hW
     go_wp2
     go_ret2
     exact ⟨rfl,HB.out⟩
end Go.Proofs.YtendnkpiidhogaaGreat.At

namespace Go.Proofs.YtendnkpiidhogaaGreat.At
open Go.RowKit Go.Shelf
attribute [local go_sem] Oper.semAt_some
theorem cut_fit (l:Attrs):Fit 20 (cutOf l 20 600):=by
 refine ⟨by simp [cutOf];omega,fun x hx=>?_⟩
 simp only [cutOf,List.mem_map] at hx
 obtain ⟨y,-,rfl⟩:=hx
 simp;omega
theorem refWith_fit {c k:Int} {o:Attrs} {cp:Bool} : ∀ {p out t x:Attrs} {N:Nat},Fit N out→(∀ y∈t,y.2.length≤10000)→refWithOn c k o cp p out t=.inl x→Fit (N+t.length) x
  | p, out, [], x, N, h, _, e => by
    simp only [refWithOn,Sum.inl.injEq] at e
    subst e;exact h
  | p, out, a :: r, x, N, h, ht, e => by
    unfold refWithOn at e
    split at e
    · cases e
    split at e
    · cases e
    split at e
    · cases e
    split at e
    · cases e
    have:=refWith_fit (h.put (a:=a) (ht a (by simp))) (fun y hy=>ht y (by simp [hy])) e
    exact this.mono (by simp;omega)
theorem refSet_fit {flag:Int} {cp:Bool} {o t x:Attrs} {N M:Nat} (h:Fit N o) (ht:Fit M t) (e:refSetOf flag cp o t=.inl x):Fit (N+M) x:=by
 unfold refSetOf at e
 split at e
 · cases e
 exact (refWith_fit h ht.2 e).mono (by have:=ht.1;omega)
theorem cut18_any (P:Nat→Prop) (A:Option Addr) (c:Nat) (l:Attrs) (w:World) (hv:RA w P A c l) (hP:∀ b,P b→b<w.heap.size) :
 Calls Tryz.prog 19 #[.slice A l.length c] w fun e w'=>(∃ A' c',e=.returned (.slice A' (cutOf l 20 600).length c')∧RA w' (fun b=>b<w'.heap.size) A' c' (cutOf l 20 600))∧Below w.heap.size w w':=by
 have H:=Lib.hid (cut_any P A c l 20 600 w hv hP (by omega) (by omega))
 clear hv hP
 go_enter Tryz.func19,Tryz.ntmps19
 go_wp2_with fail
 refine H.out.mono ?_
 rintro e w1 ⟨A1,c1,cs,rfl,ho,hB⟩
 have HR:=Lib.hid (ho.ra.mono (P':=fun b=>b<w1.heap.size) fun b hb=>hb.2)
 have HB:=Lib.hid hB
 clear ho hB
 go_wp2
 go_ret
 exact ⟨⟨A1,c1,rfl,HR.out⟩,HB.out⟩
theorem okF_no {u:Int} {cp:Bool} (h:okF u cp=true):u≠0∧u≠256:=by
 constructor <;> (rintro rfl;revert h;cases cp <;> decide)
theorem refWith_same {c k:Int} {o:Attrs} {cp:Bool} (hw:∀ u,came o u=hasOf c k u):∀ {p out t x:Attrs},(∀ u,came out u=came o u)→seek out 0=seek o 0→seek out 256=seek o 256→refWithOn c k o cp p out t=.inl x→(∀ u,came x u=came o u)∧seek x 0=seek o 0∧seek x 256=seek o 256
  | p, out, [], x, h, h0, h6, e => by
    simp only [refWithOn,Sum.inl.injEq] at e
    subst e;exact ⟨h,h0,h6⟩
  | p, out, a :: r, x, h, h0, h6, e => by
    unfold refWithOn at e
    split at e
    · cases e
    split at e
    · cases e
    rename_i hc
    split at e
    · cases e
    split at e
    · cases e
    rename_i hv
    have hok:okF a.1 cp=true:=by
      cases hk:okF a.1 cp with
      | true=>rfl
      | false=>rw [hk] at hv;exact absurd rfl hv
    obtain ⟨n0,n6⟩:=okF_no hok
    simp only [Bool.or_eq_true,Bool.not_eq_true',not_or,Bool.not_eq_false] at hc
    exact refWith_same hw (Whole.put h (by rw [hw];exact hc.2)) (by rw [seek_putOf,if_neg n0,h0]) (by rw [seek_putOf,if_neg n6,h6]) e
theorem Whole.set {flag:Int} {cp:Bool} {o t x:Attrs} (h:Whole o) (e:refSetOf flag cp o t=.inl x):Whole x:=by
 unfold refSetOf at e
 split at e
 · cases e
 obtain ⟨h1,h2,h3⟩:=refWith_same h (fun _=>rfl) rfl rfl e
 intro u
 have e0:intOf' x 0=intOf' o 0:=by unfold intOf';rw [h2]
 have e6:intOf' x 256=intOf' o 256:=by unfold intOf';rw [h3]
 rw [h1,e0,e6];exact h u
theorem object_w (P P':Nat→Prop) (A A':Option Addr) (c c':Nat) (l t:Attrs) (w:World) (hv:RA w P A c l) (hP:∀ b,P b→b<w.heap.size) (hv':RA w P' A' c' t) (hP':∀ b,P' b→b<w.heap.size) :
 Calls Tryz.prog 12 #[.slice A l.length c,.slice A' t.length c'] w fun e w'=>(∃ A1 c1 x,e=.returned (.slice A1 (List.length x) c1)∧RA w' (fun b=>b<w'.heap.size) A1 c1 x∧Fit 1100 x∧((A1=none∧x=[])∨Whole x))∧Below w.heap.size w w':=by
 have HC1:=Lib.hid (cut18_any P A c l w hv hP)
 have HV':=Lib.hid hv'
 have HP':=Lib.hid hP'
 have F1:=Lib.hid (cut_fit l)
 have F2:=Lib.hid (cut_fit t)
 obtain ⟨l2,hl2⟩:∃ y,cutOf l 20 600=y:=⟨_,rfl⟩
 rw [hl2] at HC1 F1
 clear hv hP hv' hP' hl2
 go_enter Tryz.func12,Tryz.ntmps12
 go_wp2_with fail
 refine HC1.out.mono ?_
 rintro e w1 ⟨⟨A1,c1,rfl,hr1⟩,hB1⟩
 have hs1:=hB1.size
 have HM:=Lib.hid (refMade_t _ A1 c1 l2 w1 hr1 (fun b hb=>hb) F1.out)
 have HB1:=Lib.hid hB1
 clear hr1 hB1 HC1
 go_wp2_with fail
 refine HM.out.mono ?_
 rintro e w2 ⟨⟨A2,c2,o,rv,rfl,hr2,hf2,hwo⟩,hB2⟩
 have HWo:=Lib.hid hwo
 clear hwo
 have HB2:=Lib.hid (HB1.out.trans (hB2.mono hs1))
 have HR2:=Lib.hid hr2
 have HF2:=Lib.hid hf2
 have hs2:=HB2.out.size
 clear hr2 hf2 hB2 HM
 by_cases h0:rv=0
 case neg =>
  have h0':(rv==0)=false:=by simpa using h0
  clear h0
  go_wp2
  go_ret
  exact ⟨⟨none,0,[],rfl,RA.nil_ _ _,⟨by simp,by simp⟩,.inl ⟨rfl,rfl⟩⟩,HB2.out⟩
 subst h0
 have HC2:=Lib.hid (cut18_any P' A' c' t w2 (HV'.out.below HB2.out HP'.out) (fun b hb=>Nat.lt_of_lt_of_le (HP'.out b hb) hs2))
 obtain ⟨t2,ht2⟩:∃ y,cutOf t 20 600=y:=⟨_,rfl⟩
 rw [ht2] at HC2 F2
 clear ht2
 go_wp2_with fail
 refine HC2.out.mono ?_
 rintro e w3 ⟨⟨A3,c3,rfl,hr3⟩,hB3⟩
 have HB3:=Lib.hid (HB2.out.trans (hB3.mono hs2))
 have HR3:=Lib.hid (raUp2 HR2.out hB3)
 have HS:=Lib.hid (refSet_any _ _ A2 A3 c2 c3 o t2 w3 HR3.out (fun b hb=>hb) hr3 (fun b hb=>hb) (by have:=HF2.out.1;omega) (by have:=F2.out.1;omega))
 clear hr3 hB3 HC2 HR2
 go_wp2_with fail
 refine HS.out.mono ?_
 rintro e w4 ⟨hW,hB4⟩
 have HB4:=Lib.hid (HB3.out.trans (hB4.mono HB3.out.size))
 have HR4:=Lib.hid (raUp2 HR3.out hB4)
 clear hB4 HS
 obtain ⟨R,hR⟩:∃ R,refSetOf 368 false o t2=R:=⟨_,rfl⟩
 rw [hR] at hW
 unfold WithP at hW
 rcases R with x | r
 · obtain ⟨A5,c5,rfl,hx⟩:=hW
   have HX:=Lib.hid hx
   have HF:=Lib.hid (refSet_fit HF2.out F2.out hR)
   have HWx:=Lib.hid ((HWo.out (by first | exact rfl | trivial)).set hR)
   clear hx hR
   go_wp2
   go_ret
   exact ⟨⟨A5,c5,x,rfl,HX.out.mono fun b hb=>hb.2,HF.out.mono (by omega),.inr HWx.out⟩,HB4.out⟩
 · subst hW
   by_cases h1:r=0
   · subst h1
     clear hR
     go_wp2
     go_ret
     exact ⟨⟨none,0,[],rfl,RA.nil_ _ _,⟨by simp,by simp⟩,.inl ⟨rfl,rfl⟩⟩,HB4.out⟩
   · have h1':(r==0)=false:=by simpa using h1
     clear h1 hR
     go_wp2
     go_ret
     exact ⟨⟨A2,c2,o,rfl,HR4.out,HF2.out.mono (by omega),.inr (HWo.out (by first | exact rfl | trivial))⟩,HB4.out⟩
theorem object_any (P P':Nat→Prop) (A A':Option Addr) (c c':Nat) (l t:Attrs) (w:World) (hv:RA w P A c l) (hP:∀ b,P b→b<w.heap.size) (hv':RA w P' A' c' t) (hP':∀ b,P' b→b<w.heap.size) :
 Calls Tryz.prog 12 #[.slice A l.length c,.slice A' t.length c'] w fun e w'=>(∃ A1 c1 x,e=.returned (.slice A1 (List.length x) c1)∧RA w' (fun b=>b<w'.heap.size) A1 c1 x∧Fit 1100 x)∧Below w.heap.size w w' :=
 (object_w P P' A A' c c' l t w hv hP hv' hP').mono fun _ _ ⟨⟨A1,c1,x,h1,h2,h3,_⟩,h4⟩=>⟨⟨A1,c1,x,h1,h2,h3⟩,h4⟩
end Go.Proofs.YtendnkpiidhogaaGreat.At

namespace Go.Proofs.YtendnkpiidhogaaGreat.At
open Go.RowKit Go.Shelf Mc
theorem mechMay_law (u kind:Int) (P P1 P2:Nat→Prop) (A A1 A2:Option Addr) (c c1 c2:Nat) (bs:List Nat) (l t:Attrs) (w:World) (hb:RB w P A c bs) (hP:∀ b,P b→b<w.heap.size) (hv:RA w P1 A1 c1 l) (hP1:∀ b,P1 b→b<w.heap.size) (hv':RA w P2 A2 c2 t) (hP2:∀ b,P2 b→b<w.heap.size) :
 Calls Tryz.prog 8 #[.int .i64 u,.agg #[.int .i64 kind,.slice A bs.length c],.slice A1 l.length c1,.slice A2 t.length c2] w fun e w'=>e=.returned (.bool true)∧Ext w w':=by
 have hme:=Lib.hid (fun X (hX:Ext w X)=>mechOfLaw_any kind P A c bs X (hb.below hX hP) (fun b hb=>Nat.lt_of_lt_of_le (hP b hb) hX.bsize))
 obtain ⟨bt,hbt⟩:∃ bt,bs.take 300=bt:=⟨_,rfl⟩
 rw [hbt] at hme
 have hob:=Lib.hid (fun X (hX:Ext w X)=>object_any P1 P2 A1 A2 c1 c2 l t X (hv.below hX hP1) (fun b hb=>Nat.lt_of_lt_of_le (hP1 b hb) hX.bsize) (hv'.below hX hP2) (fun b hb=>Nat.lt_of_lt_of_le (hP2 b hb) hX.bsize))
 have hb2:RB w P A c bt:=hbt▸hb.take_ 300
 have HM:=Lib.hid (fun (A1:Option Addr) (c1:Nat) (x:Attrs) (Q:Nat→Prop) X (hX:Ext w X) (hx:RA X Q A1 c1 x) (hQ:∀ b,Q b→b<X.heap.size)=>mayM_any u kind P Q A A1 c c1 bt x X (hb2.below hX hP) (fun b hb=>Nat.lt_of_lt_of_le (hP b hb) hX.bsize) hx hQ)
 have HR:=Lib.hid (fun (A1:Option Addr) (c1:Nat) (x:Attrs) (Q:Nat→Prop) X (hX:Ext w X) (hx:RA X Q A1 c1 x) (hQ:∀ b,Q b→b<X.heap.size)=>refMay_any u kind P Q A A1 c c1 bt x X (hb2.below hX hP) (fun b hb=>Nat.lt_of_lt_of_le (hP b hb) hX.bsize) hx hQ)
 obtain ⟨n,hn⟩:∃ n,bs.length=n:=⟨_,rfl⟩
 obtain ⟨m,hm⟩:∃ m,bt.length=m:=⟨_,rfl⟩
 rw [hm] at HM HR
 rw [hm,hn] at hme
 rw [hn]
 clear hbt hb hb2 hn hm hP hv hP1 hv' hP2
 obtain ⟨q,hq⟩:∃ q,w.heap.size=q:=⟨_,rfl⟩
 have hE0:=Ext.alloc w (.cells #[.int .i64 kind,.slice A n c] 46)
 have hc0:=heap_alloc_new w (.cells #[.int .i64 kind,.slice A n c] 46)
 rw [hq] at hc0
 have Hq:=Lib.hid hq
 obtain ⟨W0,hW0⟩:∃ W0,W0=w.alloc (.cells #[.int .i64 kind,.slice A n c] 46):=⟨_,rfl⟩
 rw [←hW0] at hE0 hc0
 go_enter Tryz.func8,Tryz.ntmps8
 go_upto_region 2 with (go_at_call 27;refine (mbegun_any _).mono ?_;rintro e w1 ⟨rfl,hB1⟩)
 rw [←hW0] at hB1
 clear hW0 hq
 have hc1:w1.heap[q]?=some (.cells #[.int .i64 kind,.slice A n c] 46 (0,0)):=Ext.at_ hB1 hc0
 have hE1:Ext w w1:=hE0.trans hB1
 clear hE0 hB1 hc0
 refine Par.region_txt 2 [0,1,3] [] (fun j f X=>match j with
  | 0=>f 0=.agg #[.int .i64 kind,.slice A n c]
  | 1=>f 1=.agg #[.int .i64 kind,.slice A m c]
  | _=>True) (by kernel_rfl) [(12,0),(13,1)] (by kernel_rfl) ?_
 refine Par.S 1 1 [] (fun f X hX hR K hK=>?_) ?_
 · simp only [yB,yC,yD,yE]
   refine ⟨Par.want (by kernel_rfl) (wp_loadV 46 (.tmp 5) rfl rfl (hX.at_ hc1) Tryz.underlying46 rfl infoM rfl ?_)⟩
   exact Par.k hK (s:=by simp only [yB,yC,yD,yE])
 refine Par.c0 2 0 (fun f=>#[f 0]) (F':=28) (fun f X hX hR=>?_) ?_
 · have e0:f 0=_:=hR.out 0 rfl
   simp only [e0]
   refine (hme.out X (hE1.trans hX)).mono ?_
   rintro e w' ⟨rfl,hB⟩
   exact ⟨(.agg #[.int .i64 kind,.slice A m c]),rfl,hB,fun _ _=>rfl⟩
 refine Par.AllOps.fin ⟨fun f X hX hR hal hap=>?_⟩
 have e1:f 1=_:=hR 1 (by decide)
 simp only [yA,yB,yD,yE,e1]
 clear hR hal hap e1
 refine Par.Chain.next (fun K hK=>⟨Par.want (by kernel_rfl) (wp_storeV 46 (.tmp 5) (.tmp 13) rfl rfl rfl rfl (hX.at_ hc1) infoM rfl (mech_one _ _ _ _) (fun Y1 j1 j2 j3=>hK.out _ _ ?_))⟩)
 refine Par.Chain.done ?_
 have hE2:Ext w Y1:=j2.ext (hE1.trans hX) (by have:=Hq.out;omega)
 clear j2 j3 hX hE1 hc1
 go_wp2_with fail
 refine (hob.out Y1 hE2).mono ?_
 rintro e w3 ⟨⟨B,d,x,rfl,hx,_⟩,hB3⟩
 have hE3:=hE2.trans hB3
 have j3:=Ext.at_ hB3 j1
 obtain ⟨R,hR⟩:∃ R,mayOf u kind bt x=R:=⟨_,rfl⟩
 have h1:=fun X (hX:Ext w3 X)=>HM.out B d x _ X (hE3.trans hX) (hx.below hX (fun b hb=>hb)) (fun b hb=>Nat.lt_of_lt_of_le hb hX.bsize)
 have h2:=fun X (hX:Ext w3 X)=>HR.out B d x _ X (hE3.trans hX) (hx.below hX (fun b hb=>hb)) (fun b hb=>Nat.lt_of_lt_of_le hb hX.bsize)
 simp only [hR] at h1 h2
 have H1:=Lib.hid h1
 have H2:=Lib.hid h2
 clear h1 h2 hR HM HR hE2 hB3 j1
 go_upto_region 4 with fail
 refine Par.region_ext (by kernel_rfl) 13 [0,1,3,3,3,31,3,3,3,511,1023,2047,4095] [] (fun j f X=>match j with
  | 0=>f 0=.bool true
  | 1=>f 1=.bool true
  | 2=>f 2=.int .i64 u
  | 3=>f 3=.agg #[.int .i64 kind,.slice A m c]
  | 4=>f 4=.slice B x.length d
  | 5=>f 5=.int .i64 R
  | 6=>f 6=.int .i64 u
  | 7=>f 7=.agg #[.int .i64 kind,.slice A m c]
  | 8=>f 8=.slice B x.length d
  | 9=>f 9=.int .i64 R
  | 10=>f 10=.bool true
  | 11=>f 11=.bool true
  | 12=>f 12=.bool true
  | _=>True) (by kernel_rfl) [(17,0),(18,1),(19,2),(20,3),(21,4),(22,5),(23,6),(24,7),(25,8),(26,9),(27,10),(28,11),(8,12)] (by kernel_rfl) ?_
 refine Par.v0 1 12 ?_
 refine Par.v1 2 11 0 ?_
 refine Par.v1 3 10 1 ?_
 refine Par.S 4 9 [(17,0),(18,1),(19,2),(21,4),(23,6),(24,7),(25,8)] (fun f X hX hR K hK=>?_) ?_
 · have e1:f 1=_:=hR.out 1 rfl
   simp only [yA,yB,yC,yD,yE,e1]
   refine ⟨Par.want (by kernel_rfl) (wp_loadV 46 (.tmp 5) rfl rfl (hX.at_ j3) Tryz.underlying46 rfl infoM rfl ?_)⟩
   exact Par.k hK (s:=by simp only [yA,yB,yC,yD,yE,e1])
 refine Par.v1 5 8 1 ?_
 refine Par.c1 6 7 1 (fun f=>#[f 2,f 3,f 4]) (F':=29) (fun f X hX hR=>?_) ?_
 · have e2:f 2=_:=hR.out 2 rfl
   have e3:f 3=_:=hR.out 3 rfl
   have e4:f 4=_:=hR.out 4 rfl
   simp only [e2,e3,e4]
   refine (H1.out X hX).mono ?_
   rintro e w' ⟨rfl,hB⟩
   exact ⟨(.int .i64 R),rfl,hB,fun _ _=>rfl⟩
 refine Par.v1 7 6 1 ?_
 refine Par.S 8 5 [(17,0),(18,1),(19,2),(20,3),(21,4),(22,5),(23,6),(25,8)] (fun f X hX hR K hK=>?_) ?_
 · have e1:f 1=_:=hR.out 1 rfl
   simp only [yA,yB,yC,yD,yE,e1]
   refine ⟨Par.want (by kernel_rfl) (wp_loadV 46 (.tmp 5) rfl rfl (hX.at_ j3) Tryz.underlying46 rfl infoM rfl ?_)⟩
   exact Par.k hK (s:=by simp only [yA,yB,yC,yD,yE,e1])
 refine Par.v1 9 4 1 ?_
 refine Par.c1 10 3 1 (fun f=>#[f 6,f 7,f 8]) (F':=30) (fun f X hX hR=>?_) ?_
 · have e6:f 6=_:=hR.out 6 rfl
   have e7:f 7=_:=hR.out 7 rfl
   have e8:f 8=_:=hR.out 8 rfl
   simp only [e6,e7,e8]
   refine (H2.out X hX).mono ?_
   rintro e w' ⟨rfl,hB⟩
   exact ⟨(.int .i64 R),rfl,hB,fun _ _=>rfl⟩
 refine Par.S 11 2 [(17,0),(18,1),(19,2),(20,3),(21,4),(22,5),(23,6),(24,7),(25,8),(26,9)] (fun f X hX hR K hK=>?_) ?_
 · have e1:f 1=_:=hR.out 1 rfl
   have e5:f 5=_:=hR.out 5 rfl
   have e9:f 9=_:=hR.out 9 rfl
   simp only [yA,yB,yC,yD,yE,e1,e5,e9]
   refine ⟨Par.want (by kernel_rfl) ?_⟩
   go_simp
   exact Par.k hK (s:=by simp only [yA,yB,yC,yD,yE,e1,e5,e9])
 refine Par.v2 12 1 1 10 ?_
 refine Par.v1 13 0 11 ?_
 refine Par.AllOps.fin ⟨fun f X hX hR hal hap=>?_⟩
 have e12:f 12=_:=hR 12 (by decide)
 simp only [yA,yB,yD,yE,e12]
 clear hR hal hap e12
 refine Par.Chain.done ?_
 go_wp2
 go_ret
 exact ⟨rfl,hE3.trans hX⟩
end Go.Proofs.YtendnkpiidhogaaGreat.At

namespace Go.Proofs.YtendnkpiidhogaaGreat
open Go.ChangeShapes Go.WideShapes Go.ChangeAt Go.RowKit Go.Deep Go.Joins
section
variable {H:Type} {enc:TypeId×Value→H} {w:World}
theorem cellsM:Tryz.prog.cellsOf 46=2:=by kernel_rfl
theorem honeM:∃ f0 f1,Tryz.prog.underlying 46=some (.struct #[f0,f1])∧oneCellFields Tryz.prog #[f0,f1]=true∧f0.type=3∧f1.type=33 :=
 ⟨_,_,Tryz.underlying46,by kernel_rfl,rfl,rfl⟩
theorem open_mech {r:Reach} {b0:Nat} {v:Value} {d:DataW H} {p:List MemPlace} (hv:Value.okWide Tryz.prog w r b0 46 v) (h:DataW.Trod enc Tryz.prog w 0 (fun _=>true) true 46 v d p) (hw:Fits 46 d) :
 ∃ (a:Int×List Nat) (A:Option Addr) (c:Nat),v=.agg #[.int .i64 a.1,.slice A a.2.length c]∧RB w (fun b=>b<w.heap.size) A c a.2:=by
 obtain ⟨f0,f1,hu,hone,ht0,ht1⟩:=honeM
 obtain ⟨v0,v1,y0,y1,n,rfl,rfl,rfl,hr0,hr1⟩:=open_agg2 hu hone cellsM hv h
 rw [ht0] at hr0
 rw [ht1] at hr1
 obtain ⟨k,hk,_,_⟩:=DataW.trod_int Tryz.underlying3 hr0
 have hkv:v0=.int .i64 k:=by simpa using hk
 have hfit:Fits 33 y1.1:=by
  intro q hq
  apply hw
  simp only [DataW.weights,hu,List.map_cons,List.map_nil,DataW.weightsEach,ht1,List.mem_append]
  exact .inr (.inl hq)
 obtain ⟨A,c,bs,hv,hb⟩:=open_bytes hr1 hfit
 exact ⟨(k,bs),A,c,by rw [hkv,hv],hb⟩
end
end Go.Proofs.YtendnkpiidhogaaGreat

namespace Go.Proofs.YtendnkpiidhogaaGreat.At
open Go.ChangeShapes Go.WideShapes Go.ChangeAt Go.RowKit Go.Deep Go.Joins
set_option maxRecDepth 100000
section
variable {H:Type} {enc:TypeId×Value→H} {P:Program} {w:World} {base:Nat} {spare:Nat→Bool} {held:Bool}
theorem open_slice_fields {t e:TypeId} {fs:Array Field} {fuel:Nat} {cs:List Value} {x:DataW H×List MemPlace} (ht:P.underlying t=some (.slice e)) (he:P.underlying e=some (.struct fs))
    (hone:oneCellFields P fs=true) (hC:P.cellsOf e=fs.size) (h:DataW.trod enc P w base spare held fuel t cs=some x) :
    (cs=[.slice none 0 0]∧x=(.nil,[])) ∨
    ∃ (a : Addr) (len cap m : Nat) (D : Nat → DataW H) (Pl : Nat → List MemPlace), cs = [.slice (some a) len cap] ∧ base ≤ a.block ∧ len ≤ cap ∧ cap ≤ maxLen ∧ m = (if spare a.block then cap else len) ∧
      x=(.slice ((List.range len).map D) ((List.range (m - len)).map fun j=>D (len+j)),MemPlace.row a (m*fs.size)++(List.range m).flatMap Pl) ∧
      ∀ i, i < m → ∃ (ys : List (DataW H × List MemPlace)) (n : Nat), D i = .agg (ys.map (·.1)) ∧ Pl i = ys.flatMap (·.2) ∧ ys.length = fs.size ∧
        ∀ (j:Nat) (f:Field),fs[j]?=some f→∃ (v:Value) (y:DataW H×List MemPlace),w.cell? (a.add (i*fs.size+j))=some v∧ys[j]?=some y∧DataW.trod enc P w base spare held n f.type [v]=some y:=by
  rcases open_slice ht h with h0 | ⟨a,len,cap,m,n,D,Pl,hcs,hb,hl,hm,hmm,hx,hi⟩
  · exact .inl h0
  · refine .inr ⟨a,len,cap,m,D,Pl,hcs,hb,hl,hm,hmm,by rw [hC] at hx;exact hx,fun i him=>?_⟩
    obtain ⟨cs',hc,ht'⟩:=hi i him
    rw [hC] at hc
    obtain ⟨ys,n',hn',hy,hlen,hyl,hf⟩:=DataW.trod_struct he ht'
    obtain ⟨_,hcl,hat⟩:=World.cells?_some hc
    simp only [Prod.mk.injEq] at hy
    refine ⟨ys,n',hy.1,hy.2,hyl,fun j f hj=>?_⟩
    obtain ⟨ho,hk⟩:=hone_of hone j f hj
    have hjl:j<fs.size:=(Array.getElem?_eq_some_iff.1 hj).1
    have hcell:=hat j hjl
    have hv:cs'[j]?=some (cs'[j]'(by omega)):=List.getElem?_eq_getElem (by omega)
    have h1:=hf j f hj
    rw [ho,hk] at h1
    have hone':(cs'.drop j).take 1=[cs'[j]'(by omega)]:=by
      rw [List.drop_eq_getElem_cons (by omega)]
      rfl
    rw [hone'] at h1
    have hys:ys[j]?=some (ys[j]'(by omega)):=List.getElem?_eq_getElem (by omega)
    refine ⟨_,_,?_,hys,h1.trans hys⟩
    rw [←Go.Deep.add_add,hcell,hv]
end
section
variable {H:Type} {enc:TypeId×Value→H} {w:World}
theorem cells5:Tryz.prog.cellsOf 5=1:=by kernel_rfl
theorem cells48:Tryz.prog.cellsOf 37=2:=by kernel_rfl
theorem bytes5:Tryz.prog.bytesOf 5=1:=by kernel_rfl
def Fits (t:TypeId) (d:DataW H):Prop:=∀ k∈DataW.weights Tryz.prog t d,k≤reachBytes
theorem open_bytes {fuel:Nat} {v:Value} {x:DataW H×List MemPlace} (h:DataW.trod enc Tryz.prog w 0 (fun _=>true) true fuel 33 [v]=some x) (hw:Fits 33 x.1) :
 ∃ A c bs,v=.slice A bs.length c∧RB w (fun b=>b<w.heap.size) A c bs:=by
 rcases open_ints Tryz.underlying33 Tryz.underlying5 cells5 h with ⟨hcs,_⟩ | ⟨a,len,cap,zs,hcs,_,hl,hm,hz,hx,hcell,hwz⟩
 · simp at hcs
   exact ⟨none,0,[],by simpa using hcs,RB.nil_ _ _⟩
 · simp at hcs hz
   have hb:zs.length≤reachBytes:=by
    subst hx
    have:=hw ((lits (H:=H) .u8 (zs.take len)).length*1+(lits (H:=H) .u8 (zs.drop len)).length*1) (by simp [DataW.weights,Tryz.underlying33,bytes5])
    simp [lits] at this
    omega
   unfold reachBytes at hb
   have hwf:∀ i (hi:i<zs.length),0≤zs[i]∧zs[i]<256:=fun i hi=>by
    have:=bounds_u8 (hwz _ (List.getElem_mem hi))
    omega
   refine ⟨some a,cap,(zs.take len).map Int.toNat,?_,⟨by simp;omega,hm,by simp [bys],fun hn=>⟨a,rfl,?_,fun j u hu=>?_⟩⟩,?_,by simp;omega⟩
   · rw [hcs];simp;omega
   · have h0:=hcell 0 (by simp at hn;omega)
     have:=World.block_lt_of_cell? w _ h0
     rwa [block_of_add] at this
   · have hj:j<len:=by
      have:=(List.getElem?_eq_some_iff.1 hu).1
      simp [bys] at this
      omega
     have hjz:j<zs.length:=by omega
     rw [hcell j hjz]
     have:=hwf j hjz
     simp [bys,hj,List.getElem?_eq_getElem hjz] at hu
     rw [←hu]
     simp [List.getD,List.getElem?_eq_getElem hjz]
     omega
   · intro b hb
     obtain ⟨z,hz,rfl⟩:=List.mem_map.1 hb
     obtain ⟨i,hi,rfl⟩:=List.getElem_of_mem (List.mem_of_mem_take hz)
     have:=hwf i hi
     omega
theorem pairs_get (f g:Nat→Value):∀ n,((List.range n).flatMap fun i=>[f i,g i]).length=n*2∧∀ j,j<n→((List.range n).flatMap fun i=>[f i,g i])[j*2]?=some (f j)∧((List.range n).flatMap fun i=>[f i,g i])[j*2+1]?=some (g j):=by
  intro n
  induction n with
  | zero=>exact ⟨rfl,fun j hj=>absurd hj (by omega)⟩
  | succ n ih =>
    obtain ⟨h1,h2⟩:=ih
    rw [List.range_succ,List.flatMap_append]
    refine ⟨by rw [List.length_append,h1];simp;omega,fun j hj=>?_⟩
    rcases Nat.lt_or_ge j n with hjn | hjn
    · rw [List.getElem?_append_left (by omega),List.getElem?_append_left (by omega)]
      exact h2 j hjn
    · obtain rfl:j=n:=by omega
      rw [List.getElem?_append_right (by omega),List.getElem?_append_right (by omega),h1]
      simp
theorem hone48:∃ f0 f1,Tryz.prog.underlying 37=some (.struct #[f0,f1])∧oneCellFields Tryz.prog #[f0,f1]=true∧f0.type=3∧f1.type=33 :=
 ⟨_,_,Tryz.underlying37,by kernel_rfl,rfl,rfl⟩
theorem open_attrs {fuel:Nat} {v:Value} {x:DataW H×List MemPlace} (h:DataW.trod enc Tryz.prog w 0 (fun _=>true) true fuel 24 [v]=some x) (hw:Fits 24 x.1) :
    ∃ A c l,v=.slice A l.length c∧RA w (fun b=>b<w.heap.size) A c l:=by
  obtain ⟨f0,f1,hu,hone,ht0,ht1⟩:=hone48
  rcases open_slice_fields Tryz.underlying24 hu hone cells48 h with ⟨hcs,_⟩ | ⟨a,len,cap,m,D,Pl,hcs,_,hl,hm,hmm,hx,hi⟩
  · simp at hcs
    exact ⟨none,0,[],by simpa using hcs,RA.nil_ _ _⟩
  · simp at hcs hmm
    subst hmm
    have each:∀ i,i<len→∃ (y:Int×List Nat) (A:Option Addr) (c:Nat),w.cell? (a.add (i*2+0))=some (.int .i64 y.1)∧w.cell? (a.add (i*2+1))=some (.slice A y.2.length c)∧RB w (fun b=>b<w.heap.size) A c y.2:=by
      intro i hil
      obtain ⟨ys,n,hD,hP,hyl,hf⟩:=hi i (by omega)
      obtain ⟨v0,y0,hc0,hy0,hr0⟩:=hf 0 f0 rfl
      obtain ⟨v1,y1,hc1,hy1,hr1⟩:=hf 1 f1 rfl
      rw [ht0] at hr0
      rw [ht1] at hr1
      obtain ⟨k,hk,_,_⟩:=DataW.trod_int Tryz.underlying3 hr0
      have hkv:v0=.int .i64 k:=by simpa using hk
      have hfit:Fits 33 y1.1:=by
        intro q hq
        apply hw
        rw [hx]
        have hmem:D i∈(List.range len).map D:=List.mem_map.2 ⟨i,List.mem_range.2 hil,rfl⟩
        have hsub:q∈DataW.weights Tryz.prog 37 (D i):=by
          rw [hD]
          have hys:ys=[y0,y1]:=by
            match ys,hyl with
            | [z0,z1],_=>simp at hy0 hy1;rw [hy0,hy1]
          rw [hys]
          simp only [DataW.weights,hu,List.map_cons,List.map_nil,DataW.weightsEach,ht1,List.mem_append]
          exact .inr (.inl hq)
        have hall:∀ (ds:List (DataW H)) (d:DataW H),d∈ds→q∈DataW.weights Tryz.prog 37 d→q∈DataW.weightsAll Tryz.prog 37 ds:=by
          intro ds
          induction ds with
          | nil=>intro d hd;cases hd
          | cons e r ih =>
            intro d hd hq
            simp only [DataW.weightsAll,List.mem_append]
            rcases List.mem_cons.1 hd with rfl | hd
            · exact .inl hq
            · exact .inr (ih d hd hq)
        simp only [DataW.weights,Tryz.underlying24,List.mem_cons,List.mem_append]
        exact .inr (.inl (hall _ _ hmem hsub))
      obtain ⟨A,c,bs,hv,hb⟩:=open_bytes hr1 hfit
      exact ⟨(k,bs),A,c,by rw [hkv] at hc0;exact hc0,by rw [hv] at hc1;exact hc1,hb⟩
    obtain ⟨F,hF⟩:∃ F:Nat→(Int×List Nat)×Option Addr×Nat,∀ i,i<len→w.cell? (a.add (i*2+0))=some (.int .i64 (F i).1.1)∧w.cell? (a.add (i*2+1))=some (.slice (F i).2.1 (F i).1.2.length (F i).2.2)∧RB w (fun b=>b<w.heap.size) (F i).2.1 (F i).2.2 (F i).1.2:=by
      refine ⟨fun i=>if h:i<len then ((each i h).choose,(each i h).choose_spec.choose,(each i h).choose_spec.choose_spec.choose) else ((0,[]),none,0),fun i h=>?_⟩
      simp only [h,dite_true]
      exact (each i h).choose_spec.choose_spec.choose_spec
    obtain ⟨hlen,hget⟩:=pairs_get (fun i=>.int .i64 (F i).1.1) (fun i=>.slice (F i).2.1 (F i).1.2.length (F i).2.2) len
    refine ⟨some a,m,(List.range len).map fun i=>(F i).1,by rw [hcs];simp,(List.range len).flatMap (fun i=>[.int .i64 (F i).1.1,.slice (F i).2.1 (F i).1.2.length (F i).2.2]),⟨by simp;omega,hm,?_,fun hn=>⟨a,rfl,?_,fun j u hu=>?_⟩⟩,fun j y hy=>?_⟩
    · rw [hlen];simp
    · have h0:=(hF 0 (by simp at hn;omega)).1
      have:=World.block_lt_of_cell? w _ h0
      rwa [block_of_add] at this
    · have hj:j<len*2:=by
        have:=(List.getElem?_eq_some_iff.1 hu).1
        omega
      obtain ⟨g0,g1⟩:=hget (j / 2) (by omega)
      obtain ⟨k0,k1,_⟩:=hF (j / 2) (by omega)
      rcases Nat.mod_two_eq_zero_or_one j with e | e
      · rw [show j / 2*2=j by omega,hu] at g0
        rw [show j / 2*2+0=j by omega] at k0
        rw [k0,←g0]
      · rw [show j / 2*2+1=j by omega,hu] at g1
        rw [show j / 2*2+1=j by omega] at k1
        rw [k1,←g1]
    · have hj:j<len:=by
        have:=(List.getElem?_eq_some_iff.1 hy).1
        simp at this
        exact this
      simp [hj] at hy
      subst hy
      obtain ⟨g0,g1⟩:=hget j hj
      exact ⟨g0,_,_,g1,(hF j hj).2.2⟩
end
end Go.Proofs.YtendnkpiidhogaaGreat.At

namespace Go.Proofs.YtendnkpiidhogaaGreat.At
open Go.ChangeShapes Go.WideShapes Go.ChangeAt Go.RowKit Go.Deep Go.Joins
section
variable {H:Type} {enc:TypeId×Value→H} {w:World}
theorem RAA.nil_ (w:World) (P:Nat→Prop):RAA w P none 0 [] []:=⟨⟨Nat.le_refl _,by unfold maxLen;omega,rfl,fun h=>absurd h (by simp)⟩,by simp⟩
end
end Go.Proofs.YtendnkpiidhogaaGreat.At

namespace Go.Proofs.YtendnkpiidhogaaGreat.mechMay
open Go.ChangeShapes Go.WideShapes Go.ChangeAt Go.RowKit At
theorem own:ownKnob Tryz.prog.godebug=none:=by kernel_rfl
theorem laidOut:laidOutB Tryz.prog=true:=by kernel_rfl
theorem lifted (os:Os) (started:os.Started) (H:Type) (enc:TypeId×Value→H) :
 ReturnsInHanded {} Tryz.checked os 8 .any (Rows.mechMaySpec.pre6 enc Tryz.prog Tryz.f8 Rows.mechMayRow.domain false) (Rows.mechMaySpec.post enc Tryz.prog Tryz.f8 false true false false):=by
 refine returnsInHanded_of_change_sized (C:=Tryz.checked) own started (by kernel_rfl) Tryz.func8
  (ChangeSpec.witness6 (enc:=enc) (C:=Tryz.checked) false ⟨#[],#[.int .i64 0,.agg #[.int .i64 0,.slice none 0 0],.slice none 0 0,.slice none 0 0],[]⟩ 8 (by kernel_rfl) (by kernel_rfl) (by kernel_rfl) (by kernel_rfl)) ?_
 intro W base args ds gs before hval0 hW hcnd hsz0 _
 have hval:∀ (j:Nat) t v,Tryz.f8.params[j]?=some t→args[j]?=some v→Value.okWide Tryz.prog W .any base t v:=hval0
 have hsz:(DataW.weightsEach Tryz.prog (Tryz.f8.params.toList++Rows.mechMaySpec.plain.varTypes Tryz.prog) (ds++gs)).all (· ≤ reachBytes)=true:=hsz0
 have hW':=hW
 obtain ⟨p,q,hA0,hV,rfl,hfz,hnd⟩:=hW
 have hA:DataW.TrodAll enc Tryz.prog W 0 (fun _=>true) true Tryz.f8.params.toList args.toList ds p:=hA0
 rw [Tryz.params8] at hA hval hsz
 obtain ⟨v0,vs0,d0,ds0,p0,q0,hargs,rfl,rfl,h0,r0⟩:=trodAll_cons hA
 obtain ⟨v1,vs1,d1,ds1,p1,q1,rfl,rfl,rfl,h1,r1⟩:=trodAll_cons r0
 obtain ⟨v2,vs2,d2,ds2,p2,q2,rfl,rfl,rfl,h2,r2⟩:=trodAll_cons r1
 obtain ⟨v3,vs3,d3,ds3,p3,q3,rfl,rfl,rfl,h3,r3⟩:=trodAll_cons r2
 obtain ⟨rfl,rfl,rfl⟩:=trodAll_nil r3
 obtain rfl:args=#[v0,v1,v2,v3]:=by cases args;simp_all
 obtain ⟨rfl,rfl⟩:=trodVars_none hV
 have k0:=h0
 have lt0:∀ x∈p0,x.block<W.heap.size:=by obtain ⟨m,hm⟩:=k0;exact DataW.trod_lt m _ _ _ hm
 have k1:=h1
 have lt1:∀ x∈p1,x.block<W.heap.size:=by obtain ⟨m,hm⟩:=k1;exact DataW.trod_lt m _ _ _ hm
 have k2:=h2
 have lt2:∀ x∈p2,x.block<W.heap.size:=by obtain ⟨m,hm⟩:=k2;exact DataW.trod_lt m _ _ _ hm
 have k3:=h3
 have lt3:∀ x∈p3,x.block<W.heap.size:=by obtain ⟨m,hm⟩:=k3;exact DataW.trod_lt m _ _ _ hm
 have fit:∀ (j:Nat) (t:TypeId) (d:DataW H),[3,46,24,24][j]?=some t→[d0,d1,d2,d3][j]?=some d→Fits t d:=fun j t d ht hd k hk=>by
  have:=List.all_eq_true.1 hsz k (DataW.weights_mem_each (ts:=[3,46,24,24]) (ds:=[d0,d1,d2,d3]) ht hd k hk)
  simpa using this
 obtain ⟨n0,hv0,_,_,wf0⟩:=open_int Tryz.underlying3 (hval 0 3 v0 rfl rfl) h0
 obtain ⟨a1,A1,c1,hv1,hR1⟩:=open_mech (hval 1 46 v1 rfl rfl) h1 (fit 1 _ _ rfl rfl)
 obtain ⟨a2,len2,cap2,e2⟩:=okWide_slice Tryz.underlying24 (hval 2 24 v2 rfl rfl)
 obtain ⟨A2,c2,l2,hv2,hR2⟩:∃ A c l,v2=.slice A (List.length l) c∧RA W (fun b=>b<W.heap.size) A c l:=by
  obtain ⟨fuel,hf⟩:=h2
  rw [e2] at hf ⊢
  exact open_attrs hf (fit 2 _ _ rfl rfl)
 obtain ⟨a3,len3,cap3,e3⟩:=okWide_slice Tryz.underlying24 (hval 3 24 v3 rfl rfl)
 obtain ⟨A3,c3,l3,hv3,hR3⟩:∃ A c l,v3=.slice A (List.length l) c∧RA W (fun b=>b<W.heap.size) A c l:=by
  obtain ⟨fuel,hf⟩:=h3
  rw [e3] at hf ⊢
  exact open_attrs hf (fit 3 _ _ rfl rfl)
 clear hA0 hval0
 subst hv0 hv1 hv2 hv3
 refine (At.mechMay_law n0 a1.1 _ _ _ A1 A2 A3 c1 c2 c3 a1.2 l2 l3 W hR1 (fun b hb=>hb) hR2 (fun b hb=>hb) hR3 (fun b hb=>hb)).mono fun e W' ⟨he,bel⟩=>?_
 subst he
 exact ⟨_,rfl,_,_,_,[],_,[],hW',trodAll_mk1 (shut_bool Tryz.underlying4 _),(trodAll_cons_mk (Below.trod laidOut (by kernel_rfl) (of_decide_eq_true (by kernel_rfl)) k0 bel lt0) (trodAll_cons_mk (Below.trod laidOut (by kernel_rfl) (of_decide_eq_true (by kernel_rfl)) k1 bel lt1) (trodAll_cons_mk (Below.trod laidOut (by kernel_rfl) (of_decide_eq_true (by kernel_rfl)) k2 bel lt2) (trodAll_cons_mk (Below.trod laidOut (by kernel_rfl) (of_decide_eq_true (by kernel_rfl)) k3 bel lt3) trodAll_mk0)))),rfl,bel.frame _,fun h=>by cases h⟩
theorem over:Rows.mechMayRow.holds Tryz.pinned (OpenSpec.ofChange Rows.mechMaySpec) :=
 OpenClaim.holds_of_wide 8 Tryz.f8 rfl rfl rfl rfl rfl rfl rfl ⟨rfl,rfl,rfl,rfl,rfl⟩ rfl rfl rfl rfl rfl (by kernel_rfl) Tryz.func8 (by kernel_rfl)
  (of_decide_eq_true (by kernel_rfl)) (by unfold Func.isWrapper;first | (rw [if_pos (by decide +kernel)];kernel_rfl) | (rw [if_neg (by decide +kernel)];exact ⟨rfl,rfl⟩))
  (fun os started H enc _=>lifted os started H enc)
theorem proved:Rows.MechMaySaid:=over
#print axioms proved
end Go.Proofs.YtendnkpiidhogaaGreat.mechMay
