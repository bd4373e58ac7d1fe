/- Laws that the proof rests on. -/
import Derived.Test.YtmlbicgpehchhaaGreatQ4717bbb7b0a0
set_option maxRecDepth 100000
set_option maxHeartbeats 16000000
namespace Go.Proofs.YtmlbicgpehchhaaGreat.Ec
open Go.RowKit Go.Shelf Der
attribute [local go_sem] Oper.semAt_some
def xz (oc:List Nat):DN:=.mk 48 [] [.mk 6 uC [],.mk 6 oc []]
def ecT (x n:Nat):DN:=.mk 48 [] [.mk 2 [1] [],.mk 4 (bytesOf x n) []]
def uT (C:Crv) (oc:List Nat) (x:Nat):Option (List Nat):=if vK C x=true then ur (xz oc) (ecT x C.size) else none
theorem tW {c:Int} {C:Crv} (h:IsC c C):onQ C false (val 18446744073709551616 C.xl) (val 18446744073709551616 C.yl)=true:=by
 rcases h with ⟨_,rfl⟩ | ⟨_,rfl⟩ <;> kernel_rfl
theorem dE {c:Int} {C:Crv} (hC:IsC c C) {x:Nat} (h:vK C x=true):qa x≤8*C.size:=by
 have hl:val 18446744073709551616 C.nl<2 ^ (8*C.size):=by
  rcases hC with ⟨_,rfl⟩ | ⟨_,rfl⟩ <;> decide +kernel
 unfold vK at h
 simp only [Bool.and_eq_true,decide_eq_true_eq] at h
 exact ww (xL h.2 hl)
theorem ph {c:Int} {C:Crv} (hC:IsC c C) (x:Nat):(fj C x).isSome=vK C x:=by
 unfold fj
 by_cases h:vK C x=true
 · have h1:=dE hC h
   have h2:C.size≤48:=hC.fine.small
   rw [qE h,h]
   unfold dd
   rw [qE (tW hC),qE (by omega)]
   rfl
 · rw [zr h]
   cases hm:vK C x
   · rfl
   · exact absurd hm h
theorem PtV.shape {w:World} {base:Nat} {v:Value} {o:Option (Nat×Nat)} (h:PtV w base v o):∃ b A n c A' n' c',v=.agg #[.bool b,.slice A n c,.slice A' n' c']:=by
 cases o with
 | none=>exact ⟨_,_,_,_,_,_,_,h⟩
 | some p=>obtain ⟨A,c,A',c',rfl,_,_⟩:=h;exact ⟨_,_,_,_,_,_,_,rfl⟩
theorem fL {c:Int} {C:Crv} {oc:List Nat} (hC:IsC c C) (hn:IsN c oc) (P:Nat→Prop) (A:Option Addr) (cap:Nat) (l:List Nat) (w:World) (h:RN w P A cap l) (hP:∀ b,P b→b<w.heap.size) :
 Calls Tryz.prog 11 #[.int .i64 c,.slice A l.length cap] w fun e w'=>WrB (uT C oc (val 18446744073709551616 l)) e w'∧Below w.heap.size w w':=by
 have hlt:∀ {X:World},Ext w X→∀ b,P b→b<X.heap.size:=fun hX b hb=>zP (hP b hb) hX.bsize
 have HPu:=zF (fun X (hX:Ext w X)=>fi (.inl hC) P A cap l X (h.below hX hP) (hlt hX))
 have HBy:=zF (fun X (hX:Ext w X) (hm:vK C (val 18446744073709551616 l)=true)=>yS P A cap l C.size X (h.below hX hP) (hlt hX) (by have:=hC.fine.small;omega) (dE hC hm))
 obtain ⟨x,hx⟩:=eV (val 18446744073709551616 l)
 simp only [hx] at HPu HBy
 rw [hx]
 simp only [ph hC] at HPu
 have HPa:=zF (gI hn w)
 have HSz:=zF (fun X=>zAC hC X)
 obtain ⟨R,hR⟩:=eV (uT C oc x)
 rw [hR]
 have h0:vK C x=false→none=R:=fun h=>by rw [←hR];unfold uT;rw [h];rfl
 have h1:vK C x=true→ur (xz oc) (ecT x C.size)=R:=fun h=>by rw [←hR];unfold uT;rw [h];rfl
 obtain ⟨m,hm⟩:=eV (vK C x)
 simp only [hm] at HPu HBy h0 h1
 obtain ⟨L,hL⟩:=eV oc.length
 obtain ⟨n,hnn⟩:=eV C.size
 rw [hL] at HPa
 rw [hnn] at h1
 simp only [hnn] at HBy HSz
 have HL:=zF hL
 have HX0:=zF h0
 have HX1:=zF h1
 clear h hP hlt hx hR hm hL hnn h0 h1 hC hn
 go_enter Tryz.func11,Tryz.ntmps11
 go_wp2_with fail
 refine HPa.out.mono ?_
 rintro e w1 ⟨⟨Ac,cc,rfl,hr⟩,hB1⟩
 obtain ⟨b,hb⟩:=eV w1.heap.size
 have hq:=zN w1 (.cells #[.int .i64 6,.slice Ac L cc,.slice none 0 0] 80)
 have hE1:Ext w1 (w1.alloc (.cells #[.int .i64 6,.slice Ac L cc,.slice none 0 0] 80)):=zR _ _
 have HE1:Hid (Ext w (w1.alloc (.cells #[.int .i64 6,.slice Ac L cc,.slice none 0 0] 80))):=zF (za hB1 hE1)
 have HR1:Hid (RB (w1.alloc (.cells #[.int .i64 6,.slice Ac L cc,.slice none 0 0] 80)) (Al (w1.alloc (.cells #[.int .i64 6,.slice Ac L cc,.slice none 0 0] 80))) Ac cc oc):=zF (RB.al hr hE1 (fun q hq=>hq.2) hE1.bsize)
 rw [hb] at hq
 have Hq:=zF hq
 have Hb:=zF hb
 clear hr hB1 hE1 hq hb HPa
 go_upto_region 2 with fail
 rw [Hb.out]
 generalize w1.alloc (.cells #[.int .i64 6,.slice Ac L cc,.slice none 0 0] 80)=W1 at *
 have HPu1:=zF (HPu.out W1 HE1.out)
 go_wp2_with fail
 refine HPu1.out.mono ?_
 rintro e w2 ⟨o,rfl,hv,hE2⟩
 obtain ⟨bi,C1,g1,k1,C2,g2,k2,rfl⟩:=Ec.PtV.shape (w:=w2) (base:=W1.heap.size) (o:=(fj C x).join) hv
 have hA2:Ext w2 (w2.alloc (.cells #[.bool bi,.slice C1 g1 k1,.slice C2 g2 k2] 29)):=zR _ _
 have HE2:Hid (Ext W1 (w2.alloc (.cells #[.bool bi,.slice C1 g1 k1,.slice C2 g2 k2] 29))):=zF (za hE2 hA2)
 clear hv hE2 hA2 HPu1 HPu
 go_upto_region 3 with fail
 generalize w2.alloc (.cells #[.bool bi,.slice C1 g1 k1,.slice C2 g2 k2] 29)=W2 at *
 cases m
 · have hR:=HX0.out rfl
   subst hR
   go_wp2
   go_ret2
   exact ⟨⟨_,_,rfl,vY _ _⟩,za HE1.out HE2.out⟩
 have hR:=HX1.out rfl
 subst hR
 go_wp2_with fail
 refine (HSz.out W2).mono ?_
 rintro e w3 ⟨rfl,hE3⟩
 have HE3:=zF (za HE2.out hE3)
 have HBy3:=zF (HBy.out w3 (za HE1.out HE3.out) (by first | trivial | rfl))
 clear hE3 HBy HSz HE2 HX0 HX1
 go_wp2_with fail
 refine HBy3.out.mono ?_
 rintro e w4 ⟨A4,rfl,hr4,hB4⟩
 have HE4:=zF (za HE3.out hB4)
 have HR4:=zF (hr4.mono (fun q hq=>hq.2:∀ q,In w3.heap.size w4.heap.size q→Al w4 q))
 have hq4:=HE4.out.at_ Hq.out
 have q0:=zH hq4 0
 have q1:=zH hq4 1
 have q2:=zH hq4 2
 simp only [zI,zJ,zL] at q0 q1 q2
 have hlf:=xe (tag:=6) (jr HR1.out HE4.out) (by decide)
 rw [HL.out] at hlf
 have HAl:=zF (cU _ _ w4 hlf)
 clear hr4 hB4 hq4 hlf HBy3 HE3
 go_wp2_with fail
 refine HAl.out.mono ?_
 rintro e w5 ⟨⟨v5,rfl,hd5⟩,hB5⟩
 obtain ⟨x5,D1,m1,j1,D2,m2,j2,rfl⟩:=hd5.shape
 have HD5:=zF hd5
 have HE5:=zF (za HE4.out hB5)
 have HR5:=zF (jr HR4.out hB5)
 clear hd5 hB5 q0 q1 q2 HAl HR4 HE4
 go_wp2_with fail
 refine (pw w5).mono ?_
 rintro e w6 ⟨⟨A6,c6,rfl,hr6⟩,hB6⟩
 have HE6:=zF (za HE5.out hB6)
 have HR6:=zF (hr6.mono (fun q hq=>hq.2:∀ q,In w5.heap.size w6.heap.size q→Al w6 q))
 have HD6:=zF (HD5.out.al hB6)
 have HK6:=zF (jr HR5.out hB6)
 clear hr6 hB6 HD5 HR5 HE5
 go_wp2_with fail
 refine (fu A4 n n w6).mono ?_
 rintro e w7 ⟨rfl,hB7⟩
 have HE7:=zF (za HE6.out hB7)
 have HR7:=zF (jr HR6.out hB7)
 have HD7:=zF (HD6.out.al hB7)
 have HK7:=zF (jr HK6.out hB7)
 clear hB7 HR6 HD6 HK6 HE6
 obtain ⟨g,hg⟩:=eV w7.heap.size
 have hA8:Ext w7 (w7.alloc (.cells #[.int .i64 2,.slice A6 1 c6,.slice none 0 0,.int .i64 4,.slice A4 n n,.slice none 0 0] 80)):=zR _ _
 have hrs:RS (w7.alloc (.cells #[.int .i64 2,.slice A6 1 c6,.slice none 0 0,.int .i64 4,.slice A4 n n,.slice none 0 0] 80)) (Al (w7.alloc (.cells #[.int .i64 2,.slice A6 1 c6,.slice none 0 0,.int .i64 4,.slice A4 n n,.slice none 0 0] 80))) 3 (some ⟨w7.heap.size,0,none⟩) 2 2 [.int .i64 2,.slice A6 1 c6,.slice none 0 0,.int .i64 4,.slice A4 n n,.slice none 0 0]:=jW #[.int .i64 2,.slice A6 1 c6,.slice none 0 0,.int .i64 4,.slice A4 n n,.slice none 0 0] 80 3 2 rfl (by unfold maxLen;omega) (by simp [Al])
 rw [hg] at hrs
 have hlf:=xe (tag:=4) (jr HK7.out hA8) (by decide)
 rw [jF] at hlf
 have HT8:=zF (show RD _ (Al (w7.alloc (.cells #[.int .i64 2,.slice A6 1 c6,.slice none 0 0,.int .i64 4,.slice A4 n n,.slice none 0 0] 80))) (ecT x n) (.agg #[.int .i64 48,.slice none 0 0,.slice (some ⟨g,0,none⟩) 2 2]) from RD.seq hrs (vj (xe (jr HR7.out hA8) (by decide)) (vj hlf RDs.nil_)) rfl)
 have HD8:=zF (HD7.out.al hA8)
 have HE8:=zF (za HE7.out hA8)
 have Hg:=zF hg
 clear hA8 hrs hlf hg HR7 HD7 HK7 HE7
 go_wp2_with fail
 rw [Hg.out]
 generalize w7.alloc (.cells #[.int .i64 2,.slice A6 1 c6,.slice none 0 0,.int .i64 4,.slice A4 n n,.slice none 0 0] 80)=W8 at *
 refine (fH _ 2 2 W8).mono ?_
 rintro e w9 ⟨rfl,hB9⟩
 have HI:=zF (rH _ _ _ _ w9 (HD8.out.al hB9) (HT8.out.al hB9))
 have HE9:=zF (za HE8.out hB9)
 clear hB9 HT8 HD8 HE8
 go_wp2_with fail
 refine HI.out.mono ?_
 rintro e w10 ⟨⟨A10,c10,rfl,hr10⟩,hB10⟩
 have HR10:=zF hr10
 have HE10:=zF (show Ext w w10 from za HE1.out (za HE9.out hB10))
 clear hr10 hB10 HI
 go_wp2
 go_ret2
 exact ⟨⟨A10,c10,rfl,HR10.out⟩,HE10.out⟩
end Go.Proofs.YtmlbicgpehchhaaGreat.Ec
namespace Go.Proofs.YtmlbicgpehchhaaGreat.Der
theorem ot {n:Nat} (h0:0<n) (h:n<16777216):(1≤(beB n).length∧(beB n).length≤3)∧(beB n).getD 0 0≠0∧be 0 (beB n)=n:=by
 have h1:n≠0:=by omega
 by_cases a:n / 256=0
 · have e:beB n=[n % 256]:=by simp [beB,up8,h1,a]
   rw [e]
   simp [be]
   omega
 by_cases b:n / 256 / 256=0
 · have e:beB n=[n / 256 % 256,n % 256]:=by simp only [beB,up8,h1,a,b,if_true,if_false]
   rw [e]
   simp [be]
   omega
 · have c:n / 256 / 256 / 256=0:=by omega
   have e:beB n=[n / 256 / 256 % 256,n / 256 % 256,n % 256]:=by simp only [beB,up8,h1,a,b,c,if_true,if_false]
   rw [e]
   simp [be]
   omega
theorem cl {t:Nat} {b rest:List Nat} : um t b.length (b++rest)=some (t,b,rest):=by
 unfold um
 rw [zr (by simp),List.take_left',List.drop_left'] <;> rfl
theorem ab {tag:Nat} {b rest:List Nat} (h:b.length<16777216):kq (hdB tag b++rest)=some (tag % 256,b,rest):=by
 by_cases h1:b.length<128
 · unfold hdB de
   rw [qE h1]
   show kq (tag % 256 :: b.length :: (b++rest))=_
   rw [kq,qE h1]
   exact cl
 · obtain ⟨⟨k1,k3⟩,z,hb⟩:=ot (n:=b.length) (by omega) h
   unfold hdB de
   rw [zr h1]
   show kq (tag % 256 :: (128+(beB b.length).length) :: ((beB b.length++b)++rest))=_
   have hk:128+(beB b.length).length - 128=(beB b.length).length:=by omega
   have ht:((beB b.length++b)++rest).take (beB b.length).length=beB b.length:=by rw [kH];exact List.take_left' rfl
   have hd:((beB b.length++b)++rest).drop (beB b.length).length=b++rest:=by rw [kH];exact List.drop_left' rfl
   have hg:((beB b.length++b)++rest).getD 0 0=(beB b.length).getD 0 0:=by
    rw [kH,zi,List.getElem?_append_left (by omega),←zi]
   rw [kq,zr (by omega),hk,ht,hd,hg,hb,zr (by simp only [zk];omega),zr h1]
   exact cl
theorem oF {tag:Nat} {b:List Nat} (h:jY tag b=true):tag % 256=tag∧tag≠48:=by
 unfold jY at h
 split at h
 · omega
 split at h
 · omega
 split at h
 · omega
 split at h
 · omega
 split at h
 · omega
 · cases h
theorem zAW (t:DN):1≤(enc t).length:=by
 obtain ⟨tag,bs,kids⟩:=t
 rw [enc]
 simp [hdB]
mutual
theorem aM:∀ {d left l:Nat} {t:DN} {rest:List Nat},xu d left t=some l→(enc t).length<16777216→jO d left (enc t++rest)=some (t,rest,l)
  | 0,left,l,.mk tag bs kids,rest,h,hl=>by rw [xu,qE (.inr rfl)] at h;cases h
  | d + 1, left, l, .mk tag bs kids, rest, h, hl => by
    rw [xu] at h
    rw [enc] at hl ⊢
    have hh:=gN tag (if tag=48 then js kids else bs)
    by_cases h0:left=0
    · rw [qE (.inl h0)] at h;cases h
    rw [zr (by omega)] at h
    by_cases ht:tag=48
    · subst ht
      rw [zr (by simp)] at h
      rw [qE rfl] at hl hh ⊢
      split at h
      · cases h
      · rename_i hb
        have hbs:bs=[]:=Classical.byContradiction fun h=>hb h
        subst hbs
        rw [jC] at h
        rw [aL h0 (ab (by omega)),aX (acc:=[]) h (by omega) (zG _)]
        rfl
    · rw [qE ht] at h
      rw [zr ht] at hl hh ⊢
      split at h
      · cases h
      · rename_i hb
        have hk:kids=[]:=Classical.byContradiction fun h=>hb (.inl h)
        have hp:jY tag bs=true:=by
          cases hp:jY tag bs
          · exact absurd (.inr hp) hb
          · rfl
        subst hk
        cases h
        have h2:=ab (tag:=tag) (b:=bs) (rest:=rest) (by omega)
        rw [(oF hp).1] at h2
        rw [cH h0 h2 ht,hp]
        rfl
theorem aX:∀ {d left l f:Nat} {ks acc:List DN},wy d left ks=some l→(js ks).length<16777216→(js ks).length≤f→kQ (jO d) f left acc (js ks)=some (acc++ks,l)
  | d, left, l, f, [], acc, h, hl, hf => by
    rw [wy] at h
    cases h
    rw [js,dI,List.append_nil]
  | d, left, l, f, x :: r, acc, h, hl, hf => by
    rw [wy] at h
    rw [js] at hl hf ⊢
    rw [zk] at hl hf
    have hx:=zAW x
    cases hm:xu d left x with
    | none=>rw [hm] at h;cases h
    | some l1 =>
      rw [hm] at h
      obtain ⟨f',rfl⟩:∃ f',f=f'+1:=⟨f - 1,by omega⟩
      rw [dH (by intro e;have:=congrArg List.length e;rw [zk,List.length_nil] at this;omega) (aM hm (by omega)),aX h (by omega) (by omega),kH]
      rfl
end
theorem pX {t:DN} {b:List Nat} (h:wH t=some b):vD b=some (t,b.length):=by
 unfold wH at h
 split at h
 · cases h
 rename_i hc
 split at h
 · cases h
 rename_i hl
 cases h
 have hs:(xu 16 1024 t).isSome=true:=by
  rw [rC]
  cases hx:(kr 1 t).isSome
  · exact absurd hx hc
  · rfl
 obtain ⟨l,hm⟩:=Option.isSome_iff_exists.1 hs
 have hn:=aM (rest:=[]) hm (by omega)
 rw [List.append_nil] at hn
 unfold vD
 rw [hn]
 simp only [List.length_nil,Nat.sub_zero]
 rw [zr hl]
end Go.Proofs.YtmlbicgpehchhaaGreat.Der
namespace Go.Proofs.YtmlbicgpehchhaaGreat.Der
open Go.RowKit Go.Shelf
attribute [local go_sem] Oper.semAt_some
def atT:DN→List Nat→DN
  | t,[]=>t
  | .mk _ _ kids, i :: p => match kids[i]? with
    | none=>.mk 0 [] []
    | some k=>atT k p
theorem np (t:DN):atT t []=t:=by cases t;rfl
theorem nm {tag:Nat} {bs:List Nat} {kids:List DN} {i:Nat} {p:List Nat} (h:i<kids.length):atT (.mk tag bs kids) (i :: p)=atT kids[i] p:=by
 rw [atT,qK h]
theorem rm {tag:Nat} {bs:List Nat} {kids:List DN} {i:Nat} {p:List Nat} (h:kids.length≤i):atT (.mk tag bs kids) (i :: p)=.mk 0 [] []:=by
 rw [atT,jD h]
theorem dS (t:DN) (v:Value) (Pp:Nat→Prop) (Ap:Option Addr) (cp:Nat) (path:List Nat) (w:World) (h:RD w (Al w) t v) (hp:RZ w Pp Ap cp (path.map fun (i:Nat)=>(i:Int))) (hPp:∀ q,Pp q→q<w.heap.size) (hsm:∀ i∈path,i<1000) :
 Calls Tryz.prog 64 #[v,.slice Ap path.length cp] w fun e w'=>(∃ v',e=.returned v'∧RD w' (Al w') (atT t path) v')∧Below w.heap.size w w':=by
 obtain ⟨xi,B1,n1,d1,B2,n2,d2,rfl⟩:=h.shape
 obtain ⟨W0,hW0⟩:=eW ((w.alloc (.cells #[.int .i64 xi,.slice B1 n1 d1,.slice B2 n2 d2] 80)).alloc (.cells #[.int .i64 0,.slice none 0 0,.slice none 0 0] 80))
 obtain ⟨s,hs⟩:=eV w.heap.size
 obtain ⟨hq0,hq1,hz⟩:=bc w (.cells #[.int .i64 xi,.slice B1 n1 d1,.slice B2 n2 d2] 80) (.cells #[.int .i64 0,.slice none 0 0,.slice none 0 0] 80)
 have hE:Below s w W0:=by rw [hW0,←hs];exact ((zQ _ w).alloc (zG _) _).alloc (by simp) _
 rw [←hW0,hs] at hq0 hq1 hz
 have hd:RD W0 (fun q=>q<s) t (.agg #[.int .i64 xi,.slice B1 n1 d1,.slice B2 n2 d2]):=(h.below (hs▸hE) fun q hq=>hq).mono fun q hq=>by unfold Al at hq;omega
 have hpz:RZ W0 (fun q=>q<s) Ap cp (path.map fun (i:Nat)=>(i:Int)):=RS.mono (RZ.below hp (hs▸hE) hPp) fun q hq=>by have:=hPp q hq;omega
 obtain ⟨T,hT⟩:=eV (atT t path)
 rw [hT,hs]
 have hlen:path.length≤cp∧cp≤9223372036854775807:=⟨by have:=hp.1;rwa [List.length_map] at this,hp.2.1⟩
 have HE:=zF hE
 have Hz:=zF hz
 have HD:=zF hd
 have HPz:=zF hpz
 have Hs:=zF hs
 have HT:=zF hT
 have Hsm:=zF hsm
 have Hq0:=zF hq0
 have Hq1:=zF hq1
 obtain ⟨hlen1,hlen2⟩:=hlen
 clear h hE hz hd hpz hs hT hp hPp hsm hq0 hq1
 go_enter Tryz.func64,Tryz.ntmps64
 go_upto_region 1 with fail
 rw [←hW0]
 clear hW0
 simp only [Hs.out]
 go_wp2
 go_loopw [9] (fun i wr=>∃ (j:Nat) (cur:DN) (x:Int) (B1:Option Addr) (n1 d1:Nat) (B2:Option Addr) (n2 d2:Nat),j≤path.length∧i=.int .i64 (j:Int)∧atT cur (path.drop j)=T∧wr.heap[s]?=some (.cells #[.int .i64 x,.slice B1 n1 d1,.slice B2 n2 d2] 80 (0,0))∧wr.heap[s+1]?=some (.cells #[.int .i64 0,.slice none 0 0,.slice none 0 0] 80 (0,0))∧RD wr (fun q=>q<s) cur (.agg #[.int .i64 x,.slice B1 n1 d1,.slice B2 n2 d2])∧Below s w wr∧wr.heap.size=s+2) (fun i _=>path.length - (intOf i).toNat)
 case atStart=>exact ⟨0,t,xi,B1,n1,d1,B2,n2,d2,by omega,rfl,HT.out,Hq0.out,Hq1.out,HD.out,HE.out,Hz.out⟩
 case round =>
  obtain ⟨j,cur,x,C1,m1,e1,C2,m2,e2,hj,rfl,hat,hc0,hc1,hd,hB,hz⟩:=hrel
  have Hat:=zF hat
  have Hc0:=zF hc0
  have Hc1:=zF hc1
  have Hd:=zF hd
  have HB:=zF hB
  have Hz2:=zF hz
  clear HD HT Hq0 Hq1 hat hd hB hz
  obtain ⟨z0,z1,z2,f0,f1,f2⟩:=jh hc0
  obtain ⟨y0,y1,y2,g0,g1,g2⟩:=jh hc1
  clear hc0 hc1
  by_cases hlt:j<path.length
  rotate_left
  · obtain rfl:j=path.length:=by omega
    have q1:¬ (path.length:Int)<(path.length:Int):=by omega
    have hT:=Hat.out
    rw [List.drop_of_length_le (zG _),np] at hT
    subst hT
    go_wp2
    have hk:∀ b,b≠s+1→(((wr.setCell ⟨s+1,0,none⟩ (.int .i64 x)).setCell ⟨s+1,1,none⟩ (.slice C1 m1 e1)).setCell ⟨s+1,2,none⟩ (.slice C2 m2 e2)).heap[b]?=wr.heap[b]?:=fun b hb=>(zO _ _ _ _ hb).trans ((zO _ _ _ _ hb).trans (zO _ _ _ _ hb))
    refine yP rfl rfl rfl (wK Hc1.out _ _ _) ⟨⟨_,rfl,(RD.keep (fun p hp=>zS (hk _ (by omega))) Hd.out).mono fun q hq=>?_⟩,?_⟩
    · unfold Al;simp [World.setCell];have:=Hz2.out;omega
    · exact ((HB.out.setCell (p:=⟨s+1,0,none⟩) (by simp) _).setCell (p:=⟨s+1,1,none⟩) (by simp) _).setCell (p:=⟨s+1,2,none⟩) (by simp) _
  have q1:(j:Int)<(path.length:Int):=by omega
  have hpr:RZ wr (fun q=>q<s) Ap cp (path.map fun (i:Nat)=>(i:Int)):=RZ.keep HPz.out fun p hp=>zS ((HB.out.block _ hp).trans (HE.out.block _ hp).symm)
  obtain ⟨ad,rfl,hab,hci⟩:=hpr.at_ (i:=j) (by simpa using hlt)
  obtain ⟨i,hi⟩:=eV (path[j])
  have hgi:(path.map fun (i:Nat)=>(i:Int)).getD j 0=(i:Int):=by
   rw [←hi,zi,List.getElem?_map,qK hlt];rfl
  rw [hgi] at hci
  have hat:=Hat.out
  rw [qQ hlt,hi] at hat
  obtain ⟨tag,bs,kids⟩:=cur
  obtain ⟨A',c',Ak,ck,cs,he,hb',h48,hk',hds'⟩:=Hd.out.open_
  injection he with he
  simp only [Array.mk.injEq,List.cons.injEq,Value.int.injEq,Value.slice.injEq,and_true,true_and] at he
  obtain ⟨rfl,⟨rfl,rfl,rfl⟩,rfl,rfl,rfl⟩:=he
  have hkl:=hk'.1
  have hkc:e2≤9223372036854775807:=hk'.2.1
  clear hpr hgi hi Hat hb' h48 hab
  by_cases hik:kids.length≤i
  · have hT:(DN.mk 0 [] [])=T:=hat▸(rm hik).symm
    subst hT
    have q2:(kids.length:Int)≤(i:Int):=by omega
    clear hat hk' hds' Hd
    go_wp2
    refine yP rfl rfl rfl (wK Hc1.out _ _ _) ⟨⟨_,rfl,xe (tag:=0) (vY _ _) (by decide)⟩,?_⟩
    exact ((HB.out.setCell (p:=⟨s+1,0,none⟩) (by simp) _).setCell (p:=⟨s+1,1,none⟩) (by simp) _).setCell (p:=⟨s+1,2,none⟩) (by simp) _
  · have q2:¬ (kids.length:Int)≤(i:Int):=by omega
    have hik2:i<kids.length:=by omega
    have hik3:(i:Int)<(kids.length:Int):=by omega
    rw [nm hik2] at hat
    obtain ⟨ad2,x2,B1,n1,d1,B2,n2,d2,rfl,x0,x1,x22,hrd⟩:=dJ hk' hds' hik2
    have Hat2:=zF hat
    have Hrd:=zF hrd
    clear hat hk' hds' Hd hrd
    go_wp2
    go_roundw
    case rel =>
     have hk:∀ b,b≠s→(((wr.setCell ⟨s,0,none⟩ (.int .i64 x2)).setCell ⟨s,1,none⟩ (.slice B1 n1 d1)).setCell ⟨s,2,none⟩ (.slice B2 n2 d2)).heap[b]?=wr.heap[b]?:=fun b hb=>(zO _ _ _ _ hb).trans ((zO _ _ _ _ hb).trans (zO _ _ _ _ hb))
     exact ⟨j+1,kids[i],x2,B1,n1,d1,B2,n2,d2,by omega,by go_num,Hat2.out,wK Hc0.out _ _ _,(hk _ (by omega)).trans Hc1.out,RD.keep (fun p hp=>zS (hk _ (by omega))) Hrd.out,((HB.out.setCell (p:=⟨s,0,none⟩) (by simp) _).setCell (p:=⟨s,1,none⟩) (by simp) _).setCell (p:=⟨s,2,none⟩) (by simp) _,by simpa [World.setCell] using Hz2.out⟩
    case measure=>simp [intOf];omega
def kL (b:List Nat):DN:=match vD b with
 | none=>.mk 0 [] []
 | some (t,_)=>t
def vh:DN→List Nat
 | .mk _ bs _=>bs
theorem bN (P:Nat→Prop) (A:Option Addr) (c:Nat) (b:List Nat) (w:World) (hb:RB w P A c b) (hP:∀ q,P q→q<w.heap.size) :
    Calls Tryz.prog 68 #[.slice A b.length c] w fun e w'=>(∃ v ok,e=.returned (.tuple #[v,.bool ok])∧RD w' (In w.heap.size w'.heap.size) (kL b) v)∧Below w.heap.size w w':=by
  refine (cN P A c b w hb hP).mono ?_
  rintro e w' ⟨h,hB⟩
  refine ⟨?_,hB⟩
  unfold kL
  cases hr:vD b with
  | none=>rw [hr] at h;exact ⟨_,false,h,xe (tag:=0) (vY _ _) (by decide)⟩
  | some p =>
    obtain ⟨t,n⟩:=p
    rw [hr] at h
    obtain ⟨v,rfl,hd⟩:=h
    exact ⟨v,_,rfl,hd⟩
theorem RD.in_ {w w':World} {lo:Nat} {t:DN} {v:Value} (h:RD w (In lo w.heap.size) t v) (hb:Below w.heap.size w w'):RD w' (In lo w'.heap.size) t v:=(h.below hb fun _q hq=>hq.2).mono fun _q hq=>⟨hq.1,zP hq.2 hb.size⟩
theorem RD.all {w:World} {lo:Nat} {t:DN} {v:Value} (h:RD w (In lo w.heap.size) t v):RD w (Al w) t v:=h.mono fun _q hq=>hq.2
theorem RD.bytes {w:World} {P:Nat→Prop} {t:DN} {x:Int} {B1 B2:Option Addr} {n1 d1 n2 d2:Nat} (h:RD w P t (.agg #[.int .i64 x,.slice B1 n1 d1,.slice B2 n2 d2])):n1=(vh t).length∧RB w P B1 d1 (vh t):=by
 obtain ⟨tag,bs,kids⟩:=t
 obtain ⟨A',c',Ak,ck,cs,he,hb,_⟩:=h.open_
 injection he with he
 simp only [Array.mk.injEq,List.cons.injEq,Value.int.injEq,Value.slice.injEq,and_true,true_and] at he
 obtain ⟨rfl,⟨rfl,rfl,rfl⟩,rfl,rfl,rfl⟩:=he
 exact ⟨rfl,hb⟩
theorem fs {W Y:World} {s:Nat} {a0 a1 a2:Value} {ty:TypeId} {u0 u1 u2:Value} (hY:((W.setCell ⟨s,0,none⟩ u0).setCell ⟨s,1,none⟩ u1).setCell ⟨s,2,none⟩ u2=Y) (ha:W.heap[s]?=some (.cells #[a0,a1,a2] ty (0,0))) :
 (∀ b,b≠s→Y.heap[b]?=W.heap[b]?)∧Y.heap.size=W.heap.size∧Y.heap[s]?=some (.cells #[u0,u1,u2] ty (0,0))∧∀ B,B≤s→Below B W Y:=by
 subst hY
 refine ⟨fun b hb=>(zO _ _ _ _ hb).trans ((zO _ _ _ _ hb).trans (zO _ _ _ _ hb)),by simp [World.setCell],wK ha u0 u1 u2,fun B hB=>?_⟩
 exact (((zQ B W).setCell (p:=⟨s,0,none⟩) hB u0).setCell (p:=⟨s,1,none⟩) hB u1).setCell (p:=⟨s,2,none⟩) hB u2
theorem oR (P:Nat→Prop) (A:Option Addr) (c:Nat) (b:List Nat) (w:World) (hb:RB w P A c b) (hP:∀ q,P q→q<w.heap.size) :
 Calls Tryz.prog 62 #[.slice A b.length c] w fun e w'=>(∃ v1 v2,e=.returned (.tuple #[v1,v2])∧RD w' (Al w') (kL b) v1∧RD w' (Al w') (kL (vh (atT (kL b) [2]))) v2)∧Below w.heap.size w w':=by
 obtain ⟨W0,hW0⟩:=eW ((w.alloc (.cells #[.int .i64 0,.slice none 0 0,.slice none 0 0] 80)).alloc (.cells #[.int .i64 0,.slice none 0 0,.slice none 0 0] 80))
 obtain ⟨s,hs⟩:=eV w.heap.size
 obtain ⟨hq0,hq1,hz⟩:=bc w (.cells #[.int .i64 0,.slice none 0 0,.slice none 0 0] 80) (.cells #[.int .i64 0,.slice none 0 0,.slice none 0 0] 80)
 have hE:Below s w W0:=by rw [hW0,←hs];exact ((zQ _ w).alloc (zG _) _).alloc (by simp) _
 rw [←hW0,hs] at hq0 hq1 hz
 have HRd:=zF (bN P A c b W0 (hb.below (hs▸hE) hP) (fun q hq=>by have:=hP q hq;omega))
 have hf:∀ (a b c:Value) (w:World),Sem.run Tryz.prog (Instr.field 80 (.agg #[a,b,c]) 1) w=.ok b w:=fun _ _ _ _=>by kernel_rfl
 have HE:=zF hE
 have Hz:=zF hz
 have Hs:=zF hs
 have Hq0:=zF hq0
 have Hq1:=zF hq1
 obtain ⟨T1,hT1⟩:=eV (kL b)
 rw [hT1] at HRd ⊢
 rw [hs]
 clear hb hP hq0 hq1 hE hz hs hT1
 go_enter Tryz.func62,Tryz.ntmps62
 go_upto_region 1 with fail
 rw [←hW0]
 clear hW0
 simp only [Hs.out]
 go_wp2_with fail
 refine HRd.out.mono ?_
 rintro e w1 ⟨⟨v1,ok1,rfl,hd1⟩,hB1⟩
 obtain ⟨x1,B1,n1,d1,B2,n2,d2,rfl⟩:=hd1.shape
 obtain ⟨b4,hb4⟩:=eV w1.heap.size
 have hA:Below w1.heap.size w1 (w1.alloc (.cells #[.int .i64 x1,.slice B1 n1 d1,.slice B2 n2 d2] 80)):=(zQ _ w1).alloc (zG _) _
 have hq4:=zN w1 (.cells #[.int .i64 x1,.slice B1 n1 d1,.slice B2 n2 d2] 80)
 rw [hb4] at hq4
 have HD1:=zF (hd1.in_ hA)
 have Hq4:=zF hq4
 have HB2:=zF (hB1.trans (Below.mono hA hB1.size))
 have Hs1:=zF (show W0.heap.size≤w1.heap.size from hB1.size)
 have Hs2:=zF (show (w1.alloc (.cells #[.int .i64 x1,.slice B1 n1 d1,.slice B2 n2 d2] 80)).heap.size=w1.heap.size+1 by simp)
 have Hb4:=zF hb4
 clear hd1 hB1 hA hq4 hb4 HRd
 go_upto_region 2 with fail
 rw [Hb4.out]
 generalize w1.alloc (.cells #[.int .i64 x1,.slice B1 n1 d1,.slice B2 n2 d2] 80)=W2 at *
 obtain ⟨z0,z1,z2,f0,f1,f2⟩:=jh Hq4.out
 have hA3:Ext W2 (W2.alloc (.cells #[.int .i64 2] 3)):=zR _ _
 have hrz:RZ (W2.alloc (.cells #[.int .i64 2] 3)) (Al (W2.alloc (.cells #[.int .i64 2] 3))) (some ⟨W2.heap.size,0,none⟩) 1 ([2].map fun (i:Nat)=>(i:Int)):=jW (w:=W2) (P:=Al (W2.alloc (.cells #[.int .i64 2] 3))) #[.int .i64 2] 3 1 1 rfl (by unfold maxLen;omega) (by simp [Al])
 have HAt:=zF (dS T1 _ _ _ 1 [2] _ (RD.al HD1.out.all hA3) hrz (fun q hq=>hq) (by simp))
 have HE3:=zF hA3
 clear hA3 hrz
 go_wp2_with fail
 refine HAt.out.mono ?_
 rintro e w3 ⟨⟨v3,rfl,hd3⟩,hB3⟩
 have HE4:=zF (za HE3.out hB3)
 obtain ⟨T3,hT3⟩:=eV (atT T1 [2])
 rw [hT3] at hd3
 obtain ⟨x3,C1,k1,g1,C2,k2,g2,rfl⟩:=hd3.shape
 obtain ⟨rfl,hr3⟩:=hd3.bytes
 have HR3:=zF (bN _ C1 g1 _ w3 hr3 (fun q hq=>hq))
 have HT3:=zF hT3
 clear hd3 hB3 hr3 hT3 HE3 HAt z0 z1 z2 f0 f1 f2
 go_wp2_with fail
 refine HR3.out.mono ?_
 rintro e w5 ⟨⟨v5,ok5,rfl,hd5⟩,hB5⟩
 obtain ⟨x5,D1,m1,j1,D2,m2,j2,rfl⟩:=hd5.shape
 obtain ⟨b6,hb6⟩:=eV w5.heap.size
 have hA6:Ext w5 (w5.alloc (.cells #[.int .i64 x5,.slice D1 m1 j1,.slice D2 m2 j2] 80)):=zR _ _
 have HE6:=zF (za HE4.out (za hB5 hA6))
 have HD5:=zF (hd5.in_ hA6)
 have Hs3:=zF (show W2.heap.size≤w3.heap.size from HE4.out.bsize)
 have Hs5:=zF (show w3.heap.size≤w5.heap.size from hB5.size)
 have Hs6:=zF (show (w5.alloc (.cells #[.int .i64 x5,.slice D1 m1 j1,.slice D2 m2 j2] 80)).heap.size=w5.heap.size+1 by simp)
 have hq6:=zN w5 (.cells #[.int .i64 x5,.slice D1 m1 j1,.slice D2 m2 j2] 80)
 rw [hb6] at hq6
 have Hq6:=zF hq6
 have Hb6:=zF hb6
 clear hd5 hB5 hA6 hq6 hb6 HR3
 go_upto_region 3 with fail
 rw [Hb6.out]
 generalize w5.alloc (.cells #[.int .i64 x5,.slice D1 m1 j1,.slice D2 m2 j2] 80)=W6 at *
 have hs6:s+2≤W6.heap.size:=by have:=HE6.out.bsize;have:=HB2.out.size;have:=Hz.out;omega
 have e0:=Hz.out
 have e1:=Hs1.out
 have e2:=Hs2.out
 have e3:=Hs3.out
 have e4:=Hs5.out
 have e5:=Hs6.out
 have e6:=Hb4.out
 have e7:=Hb6.out
 have hB6:Below (s+2) W0 W6:=by rw [←e0];exact HB2.out.trans (Below.mono HE6.out HB2.out.size)
 have hqa:=(hB6.block s (by omega)).trans Hq0.out
 have hqb:=(hB6.block (s+1) (by omega)).trans Hq1.out
 have hq46:=HE6.out.at_ Hq4.out
 obtain ⟨p0,p1,p2,r0,r1,r2⟩:=jh hqa
 obtain ⟨s0,s1,s2,t0,t1,t2⟩:=jh hqb
 obtain ⟨z0,z1,z2,f0,f1,f2⟩:=jh hq46
 obtain ⟨y0,y1,y2,g0,g1,g2⟩:=jh Hq6.out
 have u1:b4≠s:=by omega
 have u2:b6≠s:=by omega
 have Hqa:=zF hqa
 have Hqb:=zF hqb
 have HB6:=zF hB6
 have Hsz:=zF (show s+2≤W6.heap.size by omega)
 clear hqa hqb hq46 e0 e1 e2 e3 e4 e5 e6 e7 hB6
 go_region
 go_wp2
 generalize hY1:((W6.setCell ⟨s,0,none⟩ (.int .i64 x1)).setCell ⟨s,1,none⟩ (.slice B1 n1 d1)).setCell ⟨s,2,none⟩ (.slice B2 n2 d2)=Y1
 obtain ⟨k1,z1,a1,w1'⟩:=fs hY1 Hqa.out
 clear hY1
 generalize hY2:((Y1.setCell ⟨s+1,0,none⟩ (.int .i64 x5)).setCell ⟨s+1,1,none⟩ (.slice D1 m1 j1)).setCell ⟨s+1,2,none⟩ (.slice D2 m2 j2)=Y2
 obtain ⟨k2,z2,a2,w2'⟩:=fs hY2 ((k1 (s+1) (by omega)).trans Hqb.out)
 clear hY2
 have hk:∀ b,b≠s→b≠s+1→Y2.drew.heap[b]?=W6.heap[b]?:=fun b h1 h2=>(k2 b h2).trans (k1 b h1)
 have hsz:Y2.drew.heap.size=W6.heap.size:=z2.trans z1
 have hYa:Y2.drew.heap[s]?=some (.cells #[.int .i64 x1,.slice B1 n1 d1,.slice B2 n2 d2] 80 (0,0)):=(k2 s (by omega)).trans a1
 have hYb:Y2.drew.heap[s+1]?=some (.cells #[.int .i64 x5,.slice D1 m1 j1,.slice D2 m2 j2] 80 (0,0)):=a2
 have hBY:Below s W6 Y2.drew:=qT ((w1' s (zG _)).trans (w2' s (Nat.le_succ _))) 1
 clear k1 z1 a1 w1' k2 z2 a2 w2'
 generalize Y2.drew=Y at *
 have i0:=zH hYa 0
 have i1:=zH hYa 1
 have i2:=zH hYa 2
 have i3:=zH hYb 0
 have i4:=zH hYb 1
 have i5:=zH hYb 2
 simp only [zI,zJ,zL] at i0 i1 i2 i3 i4 i5
 have e0:=Hz.out
 have e1:=Hs1.out
 have e2:=Hs2.out
 have e3:=Hs3.out
 have e4:=Hs5.out
 try rw [jV]
 refine qF (v:=.tuple #[.agg #[.int .i64 x1,.slice B1 n1 d1,.slice B2 n2 d2],.agg #[.int .i64 x5,.slice D1 m1 j1,.slice D2 m2 j2]]) (by simp [results,Tryz.results62,go_sem,i0,i1,i2,i3,i4,i5]) rfl ⟨⟨_,_,rfl,?_,?_⟩,?_⟩
 · have h1:=RD.in_ HD1.out HE6.out
   exact (RD.keep (fun p hp=>zS (hk _ (by have:=hp.1;omega) (by have:=hp.1;omega))) h1).mono fun q hq=>by have:=hq.2;unfold Al;omega
 · rw [HT3.out]
   exact (RD.keep (fun p hp=>zS (hk _ (by have:=hp.1;omega) (by have:=hp.1;omega))) HD5.out).mono fun q hq=>by have:=hq.2;unfold Al;omega
 · exact HE.out.trans ((HB6.out.mono (by omega)).trans hBY)
end Go.Proofs.YtmlbicgpehchhaaGreat.Der
namespace Go.Proofs.YtmlbicgpehchhaaGreat
open Go.RowKit
theorem mQ {c:Int} (g1:c≠1) (g2:c≠2) (A:Option Addr) (n cap:Nat) (sp:Bool) (w:World) :
 Calls Tryz.prog 9 #[.int .i64 c,.slice A n cap,.bool sp] w fun e w'=>e=.returned (.agg #[.bool false,.slice A n cap,.slice A n cap])∧Ext w w':=by
 have hr:=zN w (.cells #[.bool false,.slice none 0 0,.slice none 0 0] 29)
 have hA0:=zR w (.cells #[.bool false,.slice none 0 0,.slice none 0 0] 29)
 obtain ⟨W0,hW0⟩:=eW (w.alloc (.cells #[.bool false,.slice none 0 0,.slice none 0 0] 29))
 obtain ⟨b0,hb0⟩:=eV w.heap.size
 rw [←hW0,hb0] at hr
 rw [←hW0] at hA0
 have HA0:=zF hA0
 clear hA0
 go_enter Tryz.func9,Tryz.ntmps9
 go_upto_region 1 with fail
 rw [←hW0]
 have Hb0:=zF hb0
 clear hW0 hb0
 go_upto_region 2 with (go_at_call 37;refine (uo g1 g2 _).mono ?_;rintro e w2 ⟨v,rfl,⟨Ap,An,Ab,Ax,Ay,cp,cn,cb,cx,cy,rfl,hp,hn,hb,hx,hy⟩,hE2⟩)
 have hc0:=zN w2 (.cells #[.slice Ap (digs 4294967296 c0.M).length cp,.slice An (digs 4294967296 (val 18446744073709551616 c0.nl)).length cn,.slice Ab (digs 4294967296 c0.bb).length cb,.slice Ax (digs 4294967296 (val 18446744073709551616 c0.xl)).length cx,.slice Ay (digs 4294967296 (val 18446744073709551616 c0.yl)).length cy,.int .i64 (c0.size:Int)] 73)
 have hA:=zR w2 (.cells #[.slice Ap (digs 4294967296 c0.M).length cp,.slice An (digs 4294967296 (val 18446744073709551616 c0.nl)).length cn,.slice Ab (digs 4294967296 c0.bb).length cb,.slice Ax (digs 4294967296 (val 18446744073709551616 c0.xl)).length cx,.slice Ay (digs 4294967296 (val 18446744073709551616 c0.yl)).length cy,.int .i64 (c0.size:Int)] 73)
 replace hr:=hA.at_ (hE2.at_ hr)
 have HE:=zF (HA0.out.trans (hE2.trans hA))
 generalize hV1:w2.alloc (.cells #[.slice Ap (digs 4294967296 c0.M).length cp,.slice An (digs 4294967296 (val 18446744073709551616 c0.nl)).length cn,.slice Ab (digs 4294967296 c0.bb).length cb,.slice Ax (digs 4294967296 (val 18446744073709551616 c0.xl)).length cx,.slice Ay (digs 4294967296 (val 18446744073709551616 c0.yl)).length cy,.int .i64 (c0.size:Int)] 73)=V1 at *
 obtain ⟨b1,hq1⟩:=eV w2.heap.size
 rw [hq1] at hc0 ⊢
 clear hV1 hq1 hp hn hb hx hy hE2 hA HA0
 have z5:=zH hc0 5
 rw [show c0.size=0 by rfl] at z5
 obtain ⟨y0,y1,y2,f0,f1,f2⟩:=qc hr
 go_wp2
 exact ul rfl rfl rfl (kw hr _ _ _) ⟨rfl,ky HE.out (by have:=Hb0.out;omega) _ _ _⟩
end Go.Proofs.YtmlbicgpehchhaaGreat
namespace Go.Proofs.YtmlbicgpehchhaaGreat.Ec
open Go.RowKit Go.Shelf Der
attribute [local go_sem] Oper.semAt_some
theorem nY {c:Int} (g1:c≠1) (g2:c≠2) (P:Nat→Prop) (A:Option Addr) (cap:Nat) (l:List Nat) (w:World) (h:RN w P A cap l) (hP:∀ b,P b→b<w.heap.size) :
 Calls Tryz.prog 11 #[.int .i64 c,.slice A l.length cap] w fun e w'=>WrB none e w'∧Below w.heap.size w w':=by
 have HPu:=zF (fun X (hX:Ext w X)=>fi (C:=c0) (.inr ⟨g1,g2,rfl⟩) P A cap l X (h.below hX hP) (fun b hb=>zP (hP b hb) hX.bsize))
 have HPa:=zF (cA c w g1 g2)
 clear h hP g1 g2
 go_enter Tryz.func11,Tryz.ntmps11
 go_wp2_with fail
 refine HPa.out.mono ?_
 rintro e w1 ⟨rfl,hB1⟩
 have HE1:Hid (Ext w (w1.alloc (.cells #[.int .i64 0,.slice none 0 0,.slice none 0 0] 80))):=zF (za hB1 (zR _ _))
 clear hB1 HPa
 go_upto_region 2 with fail
 generalize w1.alloc (.cells #[.int .i64 0,.slice none 0 0,.slice none 0 0] 80)=W1 at *
 have HPu1:=zF (HPu.out W1 HE1.out)
 go_wp2_with fail
 refine HPu1.out.mono ?_
 rintro e w2 ⟨o,rfl,hv,hE2⟩
 obtain ⟨bi,C1,g1,k1,C2,g2,k2,rfl⟩:=Ec.PtV.shape (w:=w2) (base:=W1.heap.size) (o:=(fj c0 (val 18446744073709551616 l)).join) hv
 have HE2:Hid (Ext W1 (w2.alloc (.cells #[.bool bi,.slice C1 g1 k1,.slice C2 g2 k2] 29))):=zF (za hE2 (zR _ _))
 generalize (fj c0 (val 18446744073709551616 l)).isSome=ok
 clear hv hE2 HPu1 HPu
 go_upto_region 3 with fail
 generalize w2.alloc (.cells #[.bool bi,.slice C1 g1 k1,.slice C2 g2 k2] 29)=W2 at *
 go_wp2
 go_ret2
 exact ⟨⟨_,_,rfl,vY _ _⟩,za HE1.out HE2.out⟩
end Go.Proofs.YtmlbicgpehchhaaGreat.Ec
namespace Go.Proofs.YtmlbicgpehchhaaGreat.Der
open Go.RowKit Go.Shelf
attribute [local go_sem] Oper.semAt_some
theorem bG (P:Nat→Prop) (A:Option Addr) (c:Nat) (B:List Nat) (w:World) (h:RB w P A c B) (hP:∀ q,P q→q<w.heap.size) (hl:B.length≤1000000) :
 Calls Tryz.prog 60 #[.slice A B.length c] w fun e w'=>(∃ A1 c1,e=.returned (.agg #[.int .i64 3,.slice A1 (0 :: B).length c1,.slice none 0 0])∧RB w' (Al w') A1 c1 (0 :: B))∧Below w.heap.size w w':=by
 obtain ⟨W0,hW0⟩:=eW (w.alloc (.cells #[.int .i64 0,.slice none 0 0,.slice none 0 0] 80))
 obtain ⟨s,hs⟩:=eV w.heap.size
 have hq:=zN w (.cells #[.int .i64 0,.slice none 0 0,.slice none 0 0] 80)
 have hE:Below s w W0:=by rw [hW0,←hs];exact (zQ _ w).alloc (zG _) _
 have hz:W0.heap.size=s+1:=by rw [hW0,←hs];simp
 rw [←hW0,hs] at hq
 have HO:=zF (xB W0 0 (by omega))
 have hA:Below W0.heap.size W0 (W0.alloc (.cells #[.int .u8 ((0:Nat):Int)] 5)):=(zQ _ W0).alloc (zG _) _
 have HRB:=zF ((h.below (hs▸hE) hP).below hA (fun q hq=>by have:=hP q hq;omega))
 have HA:=zF hA
 have HE:=zF hE
 have Hz:=zF hz
 have Hs:=zF hs
 have Hq:=zF hq
 have Hl:=zF hl
 rw [hs]
 have c0:((0:Nat):Int)=0:=rfl
 rw [c0] at HO HRB HA
 clear h hP hA hE hz hs hq hl c0
 go_enter Tryz.func60,Tryz.ntmps60
 go_upto_region 1 with fail
 rw [←hW0,Hs.out]
 clear hW0
 go_wp2_with (at_builtin;refine wf rfl (.tmp 3) (.tmp 4) rfl W0.heap.size (bs:=[0]) (cs:=B) rfl HO.out rfl HRB.out (by have:=Hl.out;simp;omega) HA.out.size ?_)
 intro A1 c1 w3 hw3 hb3
 have HW3:=zF hw3
 have hB3:=HA.out.trans hb3
 have hq3:=(hB3.block s (by have:=Hz.out;omega)).trans Hq.out
 obtain ⟨p0,p1,p2,r0,r1,r2⟩:=jh hq3
 have HB3:=zF hB3
 have Hq3:=zF hq3
 clear hw3 hb3 hB3 hq3
 go_wp2
 have hr:=HW3.out.rb (by have:=Hl.out;simp;omega)
 have HF:=zF (HE.out.trans (HB3.out.mono (show s≤W0.heap.size by have:=Hz.out;omega)))
 refine yP rfl rfl rfl (wK Hq3.out _ _ _) ⟨⟨A1,c1,by first | rfl | simp,?_⟩,?_⟩
 · refine (hr.keep fun p hp=>zS ?_).mono fun q hq=>by have:=hq.2;simpa [Al,World.setCell] using this
   have hq:p.block≠s:=by have:=hp.1;have:=Hz.out;omega
   exact (zO _ _ _ _ hq).trans ((zO _ _ _ _ hq).trans (zO _ _ _ _ hq))
 · exact ((HF.out.setCell (p:=⟨s,0,none⟩) (by simp) _).setCell (p:=⟨s,1,none⟩) (by simp) _).setCell (p:=⟨s,2,none⟩) (by simp) _
def gi (t:DN):List Nat:=(vh (atT t [1])).drop 1
theorem rI (t:DN) (v:Value) (w:World) (h:RD w (Al w) t v) :
 Calls Tryz.prog 70 #[v] w fun e w'=>(∃ A1 c1,e=.returned (.slice A1 (gi t).length c1)∧RB w' (Al w') A1 c1 (gi t))∧Below w.heap.size w w':=by
 obtain ⟨xi,B1,n1,d1,B2,n2,d2,rfl⟩:=h.shape
 obtain ⟨s,hs⟩:=eV w.heap.size
 obtain ⟨W0,hW0⟩:=eW (w.alloc (.cells #[.int .i64 xi,.slice B1 n1 d1,.slice B2 n2 d2] 80))
 have hE:Ext w W0:=by rw [hW0];exact zR _ _
 have hq:=zN w (.cells #[.int .i64 xi,.slice B1 n1 d1,.slice B2 n2 d2] 80)
 rw [←hW0,hs] at hq
 have hA3:Ext W0 (W0.alloc (.cells #[.int .i64 1] 3)):=zR _ _
 have hrz:RZ (W0.alloc (.cells #[.int .i64 1] 3)) (Al (W0.alloc (.cells #[.int .i64 1] 3))) (some ⟨W0.heap.size,0,none⟩) 1 ([1].map fun (i:Nat)=>(i:Int)):=jW (w:=W0) (P:=Al (W0.alloc (.cells #[.int .i64 1] 3))) #[.int .i64 1] 3 1 1 rfl (by unfold maxLen;omega) (by simp [Al])
 have HAt:=zF (dS t _ _ _ 1 [1] _ (h.al (za hE hA3)) hrz (fun q hq=>hq) (by simp))
 obtain ⟨T,hT⟩:=eV (atT t [1])
 unfold gi
 rw [hT] at HAt ⊢
 obtain ⟨bs,hbs⟩:=eV (vh T)
 rw [hbs]
 have Hbs:=zF hbs
 clear hbs
 obtain ⟨z0,z1,z2,f0,f1,f2⟩:=jh hq
 have HE:=zF (za hE hA3)
 have Hs:=zF hs
 clear h hE hq hA3 hrz hs hT
 go_enter Tryz.func70,Tryz.ntmps70
 go_upto_region 1 with fail
 rw [←hW0,Hs.out]
 clear hW0
 go_wp2_with fail
 refine HAt.out.mono ?_
 rintro e w3 ⟨⟨v3,rfl,hd3⟩,hB3⟩
 obtain ⟨x3,C1,k1,g1,C2,k2,g2,rfl⟩:=hd3.shape
 obtain ⟨hk,hr3⟩:=hd3.bytes
 obtain ⟨b,hb⟩:=eV w3.heap.size
 have hA:Ext w3 (w3.alloc (.cells #[.int .i64 x3,.slice C1 k1 g1,.slice C2 k2 g2] 80)):=zR _ _
 have hq3:=zN w3 (.cells #[.int .i64 x3,.slice C1 k1 g1,.slice C2 k2 g2] 80)
 rw [hb] at hq3
 have HR:=zF (jr hr3 hA)
 have HX:=zF (za HE.out (za hB3 hA))
 have Hb:=zF hb
 rw [Hbs.out] at HR hk
 have Hk:=zF hk
 clear hd3 hB3 hA hr3 hb hk z0 z1 z2 f0 f1 f2 HAt HE
 go_upto_region 2 with fail
 rw [Hb.out]
 generalize w3.alloc (.cells #[.int .i64 x3,.slice C1 k1 g1,.slice C2 k2 g2] 80)=W4 at *
 obtain ⟨y0,y1,y2,f0,f1,f2⟩:=jh hq3
 clear hq3
 by_cases hp:0<k1
 · have hp':(0:Int)<(k1:Int):=by omega
   obtain ⟨A5,s5,q5⟩:=xX HR.out Hk.out.symm (k:=1) (m:=k1 - 1) (by omega)
   have c1':((1:Nat):Int)=1:=rfl
   rw [c1'] at s5
   have Q5:=zF q5
   clear q5 c1'
   go_wp2
   go_ret
   exact ⟨⟨A5,g1 - 1,by rw [jI,←Hk.out];rfl,Q5.out⟩,HX.out⟩
 · have hp':¬ (0:Int)<(k1:Int):=by omega
   have hnil:bs=[]:=qH (by have:=Hk.out;omega)
   have Hnil:=zF hnil
   clear hnil
   go_wp2
   go_ret
   exact ⟨⟨none,0,by rw [Hnil.out];rfl,by rw [Hnil.out];exact vY _ _⟩,HX.out⟩
theorem oP {c:Int} {oc:List Nat} (hn:IsN c oc) (w:World) :
 Calls Tryz.prog 35 #[.int .i64 c] w fun e w'=>WrB (wH (.mk 6 oc [])) e w'∧Below w.heap.size w w':=by
 have HPa:=zF (gI hn w)
 obtain ⟨L,hL⟩:=eV oc.length
 rw [hL] at HPa
 have HL:=zF hL
 clear hL hn
 go_enter Tryz.func35,Tryz.ntmps35
 go_wp2_with fail
 refine HPa.out.mono ?_
 rintro e w1 ⟨⟨Ac,cc,rfl,hr⟩,hB1⟩
 obtain ⟨b,hb⟩:=eV w1.heap.size
 have hq:=zN w1 (.cells #[.int .i64 6,.slice Ac L cc,.slice none 0 0] 80)
 have hE1:Ext w1 (w1.alloc (.cells #[.int .i64 6,.slice Ac L cc,.slice none 0 0] 80)):=zR _ _
 have hlf:=xe (tag:=6) (RB.al hr hE1 (fun q hq=>hq.2) hE1.bsize) (by decide)
 rw [HL.out] at hlf
 rw [hb] at hq
 have HW:=zF ((xQ _ _ _ _ hlf (fun q hq=>hq)).mono fun e w' h=>(⟨h.1.b,h.2⟩:WrB (wH (.mk 6 oc [])) e w'∧Below _ _ w'))
 have HE1:=zF (za hB1 hE1)
 have Hb:=zF hb
 clear hr hB1 hE1 hlf hb HPa
 go_upto_region 2 with fail
 rw [Hb.out]
 generalize w1.alloc (.cells #[.int .i64 6,.slice Ac L cc,.slice none 0 0] 80)=W1 at *
 obtain ⟨z0,z1,z2,f0,f1,f2⟩:=jh hq
 go_wp2_with fail
 refine HW.out.mono ?_
 rintro e w2 ⟨⟨A2,c2,rfl,hr2⟩,hB2⟩
 have HR:=zF hr2
 have HB:=zF (za HE1.out hB2)
 clear hr2 hB2 HW
 go_wp2
 go_ret2
 exact ⟨⟨A2,c2,rfl,HR.out⟩,HB.out⟩
def k9 (z:Int) (bs:List Nat):Int:=if z=6∧bs=yL then 1 else if z=6∧bs=yK then 2 else 0
theorem gW (P:Nat→Prop) (z:Int) (A Ak:Option Addr) (c nk ck:Nat) (bs:List Nat) (w:World) (hb:RB w P A c bs) (hP:∀ q,P q→q<w.heap.size):Calls Tryz.prog 63 #[.agg #[.int .i64 z,.slice A bs.length c,.slice Ak nk ck]] w fun e w'=>e=.returned (.int .i64 (k9 z bs))∧Below w.heap.size w w':=by
 have hB:=((zQ w.heap.size w).alloc (zG _) (.cells #[.int .i64 z,.slice A bs.length c,.slice Ak nk ck] 80)).alloc (by simp) (.cells #[.int .i64 1,.int .i64 2] 3)
 have hb':=(zm (w.alloc (.cells #[.int .i64 z,.slice A bs.length c,.slice Ak nk ck] 80)) (.cells #[.int .i64 1,.int .i64 2] 3) w.heap.size (by simp)).trans (zN w _)
 have hc:=zN (w.alloc (.cells #[.int .i64 z,.slice A bs.length c,.slice Ak nk ck] 80)) (.cells #[.int .i64 1,.int .i64 2] 3)
 rw [zu] at hc
 have HB:=zF hB
 have Hb:=zF hb'
 have Hc:=zF hc
 have HR:=zF hb
 have HP:=zF hP
 clear hB hb hc hb' hP
 obtain ⟨s,hs⟩:=eV w.heap.size
 rw [hs] at HB Hb Hc HP
 have Hs:=zF hs
 clear hs
 go_enter Tryz.func63,Tryz.ntmps63
 go_wp2
 rw [Hs.out]
 go_loopw [9] (fun i wr=>∃ y:Int,i=.int .i64 y∧Below s w wr∧wr.heap[s]?=some (.cells #[.int .i64 z,.slice A bs.length c,.slice Ak nk ck] 80 (0,0))∧wr.heap[s+1]?=some (.cells #[.int .i64 1,.int .i64 2] 3 (0,0))∧(z=6→y≠0→bs≠yL)∧(y=2→z=6→bs≠yK)∧(y=0∨y=1∨y=2)) (fun i _=>2 - (intOf i).toNat)
 case atStart=>exact ⟨0,rfl,HB.out,Hb.out,Hc.out,fun _ h=>absurd rfl h,fun h=>absurd h (by decide),.inl rfl⟩
 case round =>
  clear HB Hb Hc
  obtain ⟨y,rfl,hB,hb,hc,hn1,hn2,hz⟩:=hrel
  have HN1:=zF hn1
  have HN2:=zF hn2
  clear hn1 hn2
  have x0:=zH hc 0
  have x1:=zH hc 1
  simp only [zI,zJ,zL] at x0 x1
  have hl1:=ql hc
  have hs1:=hB.size
  have HB:=zF hB
  have Hb:=zF hb
  have Hc:=zF hc
  clear hB hb hc
  rcases hz with rfl | rfl | rfl
  · go_wp2_with fail
    refine (aF wr).mono ?_
    rintro e w2 ⟨⟨A1,c1,rfl,hr1⟩,hB2⟩
    have h2:=(hB2.block s (by omega)).trans Hb.out
    have h3:=(hB2.block (s+1) hl1).trans Hc.out
    have hlt:s<w2.heap.size:=by have:=hB2.size;omega
    have hlt3:s+1<w2.heap.size:=by have:=hB2.size;omega
    have q0:=zH h2 0
    have q1:=zH h2 1
    simp only [zI,zJ,zL] at q0 q1
    have HB3:=zF (HB.out.trans (hB2.mono (by omega)))
    have H2:=zF h2
    have H3:=zF h3
    have Hr1:=zF (hr1.keep (w':=w2.alloc (.cells #[.int .i64 6,.slice A1 8 c1,.slice none 0 0] 80)) fun p hp=>zS (zm _ _ _ hp.2))
    have HR2:=zF (HR.out.keep (w':=w2.alloc (.cells #[.int .i64 6,.slice A1 8 c1,.slice none 0 0] 80)) fun p hp=>zS ((zm _ _ _ (by have:=HP.out _ hp;omega)).trans ((hB2.block _ (by have:=HP.out _ hp;omega)).trans (HB.out.block _ (HP.out _ hp)))))
    clear h2 h3 hB2 x0 x1 hr1
    by_cases h6:z=6
    · subst h6
      have he:=yu _ _ A A1 c c1 bs yL _ HR2.out Hr1.out
      rw [show yL.length=8 from rfl] at he
      obtain ⟨d,hd⟩:∃ d,decide (bs=yL)=d:=⟨_,rfl⟩
      rw [hd] at he
      have HE:=zF he
      have Hd:=zF hd
      clear he hd
      go_wp2_with fail
      refine HE.out.mono ?_
      rintro e w3 ⟨rfl,rfl⟩
      cases d
      · have hno:bs≠yL:=by simpa using Hd.out
        have Hno:=zF hno
        clear hno
        go_wp2
        go_roundw
        case rel=>exact ⟨1,by go_num,HB3.out.alloc (by omega) _,(zm _ _ _ hlt).trans H2.out,(zm _ _ _ hlt3).trans H3.out,fun _ _=>Hno.out,fun h=>absurd h (by decide),.inr (.inl rfl)⟩
        case measure=>first | (simp [intOf];done) | (simp [intOf];decide)
      · have hyes:bs=yL:=by simpa using Hd.out
        have HW:Hid (k9 6 bs=1):=zF (by rw [hyes];decide)
        clear hyes
        go_wp2
        go_ret
        exact ⟨(by rw [HW.out];rfl),by rw [Hs.out];exact HB3.out.alloc (by omega) _⟩
    · have h6':(z==6)=false:=by simpa using h6
      have H6:=zF h6
      clear h6
      go_wp2
      go_roundw
      case rel=>exact ⟨1,by go_num,HB3.out.alloc (by omega) _,(zm _ _ _ hlt).trans H2.out,(zm _ _ _ hlt3).trans H3.out,fun h=>absurd h H6.out,fun h=>absurd h (by decide),.inr (.inl rfl)⟩
      case measure=>first | (simp [intOf];done) | (simp [intOf];decide)
  · go_wp2_with fail
    refine (aE wr).mono ?_
    rintro e w2 ⟨⟨A1,c1,rfl,hr1⟩,hB2⟩
    have h2:=(hB2.block s (by omega)).trans Hb.out
    have h3:=(hB2.block (s+1) hl1).trans Hc.out
    have hlt:s<w2.heap.size:=by have:=hB2.size;omega
    have hlt3:s+1<w2.heap.size:=by have:=hB2.size;omega
    have q0:=zH h2 0
    have q1:=zH h2 1
    simp only [zI,zJ,zL] at q0 q1
    have HB3:=zF (HB.out.trans (hB2.mono (by omega)))
    have H2:=zF h2
    have H3:=zF h3
    have Hr1:=zF (hr1.keep (w':=w2.alloc (.cells #[.int .i64 6,.slice A1 5 c1,.slice none 0 0] 80)) fun p hp=>zS (zm _ _ _ hp.2))
    have HR2:=zF (HR.out.keep (w':=w2.alloc (.cells #[.int .i64 6,.slice A1 5 c1,.slice none 0 0] 80)) fun p hp=>zS ((zm _ _ _ (by have:=HP.out _ hp;omega)).trans ((hB2.block _ (by have:=HP.out _ hp;omega)).trans (HB.out.block _ (HP.out _ hp)))))
    clear h2 h3 hB2 x0 x1 hr1
    by_cases h6:z=6
    · subst h6
      have he:=yu _ _ A A1 c c1 bs yK _ HR2.out Hr1.out
      rw [show yK.length=5 from rfl] at he
      obtain ⟨d,hd⟩:∃ d,decide (bs=yK)=d:=⟨_,rfl⟩
      rw [hd] at he
      have HE:=zF he
      have Hd:=zF hd
      clear he hd
      go_wp2_with fail
      refine HE.out.mono ?_
      rintro e w3 ⟨rfl,rfl⟩
      cases d
      · have hno:bs≠yK:=by simpa using Hd.out
        have Hno:=zF hno
        clear hno
        go_wp2
        go_roundw
        case rel=>exact ⟨2,by go_num,HB3.out.alloc (by omega) _,(zm _ _ _ hlt).trans H2.out,(zm _ _ _ hlt3).trans H3.out,fun h _=>HN1.out h (by decide),fun _ _=>Hno.out,.inr (.inr rfl)⟩
        case measure=>first | (simp [intOf];done) | (simp [intOf];decide)
      · have hyes:bs=yK:=by simpa using Hd.out
        have HW:Hid (k9 6 bs=2):=zF (by rw [hyes];decide)
        clear hyes
        go_wp2
        go_ret
        exact ⟨(by rw [HW.out];rfl),by rw [Hs.out];exact HB3.out.alloc (by omega) _⟩
    · have h6':(z==6)=false:=by simpa using h6
      have H6:=zF h6
      clear h6
      go_wp2
      go_roundw
      case rel=>exact ⟨2,by go_num,HB3.out.alloc (by omega) _,(zm _ _ _ hlt).trans H2.out,(zm _ _ _ hlt3).trans H3.out,fun h=>absurd h H6.out,fun _ h=>absurd h H6.out,.inr (.inr rfl)⟩
      case measure=>first | (simp [intOf];done) | (simp [intOf];decide)
  · have hw:k9 z bs=0:=by
     unfold k9
     rw [zr (fun h=>HN1.out h.1 (by decide) h.2),zr (fun h=>HN2.out rfl h.1 h.2)]
    have HW:=zF hw
    clear hw
    go_wp2
    go_ret
    exact ⟨(by rw [HW.out];rfl),by rw [Hs.out];exact HB.out⟩
end Go.Proofs.YtmlbicgpehchhaaGreat.Der
namespace Go.Proofs.YtmlbicgpehchhaaGreat.Der
open Go.RowKit Go.Shelf Ec
mutual
def smT (N:Nat):DN→Prop
 | .mk _ bs ks=>bs.length≤N∧xr N ks
def xr (N:Nat):List DN→Prop
 | []=>True
 | k :: ks=>smT N k∧xr N ks
end
mutual
theorem gA {N M:Nat} (h:N≤M):∀ {t:DN},smT N t→smT M t
  | .mk _ _ _, ht => by
    unfold smT at ht ⊢
    exact ⟨zU ht.1 h,gY h ht.2⟩
theorem gY {N M:Nat} (h:N≤M):∀ {ks:List DN},xr N ks→xr M ks
  | [],_=>by unfold xr;trivial
  | k :: ks, ht => by
    unfold xr at ht ⊢
    exact ⟨gA h ht.1,gY h ht.2⟩
end
theorem dp {N:Nat} : ∀ {ks:List DN} {k:DN},xr N ks→smT N k→xr N (ks++[k])
  | [], k, _, h => by
    rw [List.nil_append,xr,xr]
    exact ⟨h,trivial⟩
  | x :: ks, k, h, hk => by
    rw [List.cons_append,xr]
    rw [xr] at h
    exact ⟨h.1,dp h.2 hk⟩
theorem bk {N:Nat} : ∀ {ks:List DN} {i:Nat} (h:i<ks.length),xr N ks→smT N ks[i]
  | x :: ks,0,_,hs=>by rw [xr] at hs;exact hs.1
  | x :: ks, i + 1, h, hs => by
    rw [xr] at hs
    exact bk (ks:=ks) (i:=i) (by simpa using h) hs.2
theorem nX {rd:Nat→List Nat→Option (DN×List Nat×Nat)} {N:Nat} (hr:∀ {left b k r l},rd left b=some (k,r,l)→r.length≤b.length∧smT b.length k):∀ {f left:Nat} {acc:List DN} {b:List Nat} {ks:List DN} {l:Nat},b.length≤N→xr N acc→kQ rd f left acc b=some (ks,l)→xr N ks
  | 0, left, acc, b, ks, l, _, ha, e => by
    unfold kQ at e
    split at e
    · cases e;exact ha
    · cases e
  | f + 1, left, acc, b, ks, l, hb, ha, e => by
    unfold kQ at e
    split at e
    · cases e;exact ha
    split at e
    · cases e
    rename_i k r l' hk
    have:=hr hk
    exact nX hr (zU this.1 hb) (dp ha (gA hb this.2)) e
theorem nU:∀ {d left:Nat} {b:List Nat} {k:DN} {r:List Nat} {l:Nat},jO d left b=some (k,r,l)→smT (b.length - r.length) k
  | 0,_,_,_,_,_,e=>by simp [jO] at e
  | d + 1, left, b, k, r, l, e => by
    rw [jO] at e
    split at e
    · cases e
    split at e
    · cases e
    rename_i t h r' hh
    have:=aa hh
    split at e
    · split at e
      · cases e
        rw [smT,xr]
        exact ⟨by omega,trivial⟩
      · cases e
    · split at e
      · cases e
      · rename_i hk
        cases e
        rw [smT]
        refine ⟨by simp,gY (by omega) (nX (N:=h.length) (rd:=jO d) (fun {left b k r l} hx=>⟨by have:=uO hx;omega,gA (by omega) (nU hx)⟩) (zG _) (by rw [xr];trivial) hk)⟩
theorem rk {N:Nat} : ∀ {p:List Nat} {t:DN},smT N t→smT N (atT t p)
  | [],t,h=>by rw [np];exact h
  | i :: p, .mk tag bs kids, h => by
    by_cases hi:i<kids.length
    · rw [nm hi]
      rw [smT] at h
      exact rk (bk hi h.2)
    · rw [rm (by omega),smT,xr]
      exact ⟨by simp,trivial⟩
theorem pY (b:List Nat):smT 65536 (kL b):=by
 unfold kL vD
 split
 · rw [smT,xr];exact ⟨by simp,trivial⟩
 · rename_i t n h
   split at h
   · cases h
   · rename_i t' r l hn
     split at h
     · cases h
     · cases h
       exact gA (by omega) (nU hn)
theorem ri (b p:List Nat):(vh (atT (kL b) p)).length≤65536:=by
 have h:=rk (p:=p) (pY b)
 cases ht:atT (kL b) p
 rw [ht,smT] at h
 exact h.1
def un:DN→Int
 | .mk tag bs _=>k9 tag bs
theorem aV (t:DN) (v:Value) (w:World) (h:RD w (Al w) t v):Calls Tryz.prog 63 #[v] w fun e w'=>e=.returned (.int .i64 (un t))∧Below w.heap.size w w':=by
 obtain ⟨tag,bs,kids⟩:=t
 obtain ⟨A',c',Ak,ck,cs,rfl,hb,_⟩:=h.open_
 exact gW (Al w) tag A' Ak c' _ ck bs w hb (fun q hq=>hq)
def kEC (c:Int) (x:Nat):Option (List Nat):=if c=1 then uT oq yL x else if c=2 then uT tQ yK x else none
theorem tD (c:Int) (P:Nat→Prop) (A:Option Addr) (cap:Nat) (l:List Nat) (w:World) (h:RN w P A cap l) (hP:∀ b,P b→b<w.heap.size) :
 Calls Tryz.prog 11 #[.int .i64 c,.slice A l.length cap] w fun e w'=>WrB (kEC c (val 18446744073709551616 l)) e w'∧Below w.heap.size w w':=by
 unfold kEC
 by_cases h1:c=1
 · rw [qE h1];exact fL (.inl ⟨h1,rfl⟩) (.inl ⟨h1,rfl⟩) P A cap l w h hP
 rw [zr h1]
 by_cases h2:c=2
 · rw [qE h2];exact fL (.inr ⟨h2,rfl⟩) (.inr ⟨h2,rfl⟩) P A cap l w h hP
 rw [zr h2]
 exact nY h1 h2 P A cap l w h hP
end Go.Proofs.YtmlbicgpehchhaaGreat.Der
namespace Go.Proofs.YtmlbicgpehchhaaGreat.Der
open Go.RowKit Go.Shelf
attribute [local go_sem] Oper.semAt_some
theorem ro {w:World} {g b0 m c:Nat} {P:Nat→Prop} {A:Option Addr} {cs:List Nat} (hq:w.heap[g]?=some (.cells #[.int .u8 (b0:Int)] 5 (0,0))) (hb:b0<256) (hr:RB w P A c cs) (hm:cs.length=m) (h0:0<m) (hl:m≤1000000) :
 ∃ A' c' w',(∀ ty,(Builtin.append_ #[34,34] ty #[.slice (some ⟨g,0,none⟩) 1 1,.slice A m c]).run Tryz.prog w=.ok (.slice A' (1+m) c') w')∧Ext w w'∧RB w' (Al w') A' c' (b0 :: cs):=by
 obtain ⟨i0,hi,hz0,hz1,hz2⟩:=info_parts cQ
 subst hm
 obtain ⟨ad,rfl,_,hc⟩:=hr.1.2.2.2 h0
 have hs:(bys cs).length=cs.length:=by simp [bys]
 have hn:Builtin.nextslicecap (1+cs.length) 1*i0.bytes≤281474976710656:=growslice_fits (by omega) (by rw [hz2];omega)
 have hX:∀ (o:Obj),Ext w (w.drew.alloc o):=fun o=>(qT (zQ _ w) 1).alloc (zG _) o
 have hge:=grownCap_ge w (1+cs.length) 1 5
 have hcm:grownCap w (1+cs.length) 1 5≤maxLen:=grownCap_le_maxLen w (1+cs.length) 1 5 (by unfold maxLen;omega)
 refine ⟨_,_,_,fun ty=>run_append_grow (P:=Tryz.prog) w 34 ty 5 i0 (.int .u8 0) Tryz.underlying34 hi hz0 ⟨g,0,none⟩ 1 1 [.int .u8 (b0:Int)] (by rw [hz1];rfl) (fun j v hj=>?_) ad cs.length c (bys cs) (by rw [hs,hz1,jS]) hc (by omega) (by omega) hn,hX _,?_⟩
 · rcases j with _ | j
   · cases hj
     have:=zH hq 0
     simpa [Addr.add] using this
   · simp at hj
 · refine ⟨⟨by rw [jA];omega,hcm,by simp [bys],fun _=>⟨_,rfl,?_,fun j v hj=>?_⟩⟩,fun b h=>?_,by rw [jA];omega⟩
   · unfold Al;simp
   · have hk:=zH (zN w.drew (.cells ([Value.int .u8 (b0:Int)].toArray++(bys cs).toArray++Builtin.zeroCells (Value.int .u8 0).cells (grownCap w (1+cs.length) 1 5 - (1+cs.length))) 5)) j
     have e:(⟨w.heap.size,0,none⟩:Addr).add j=⟨w.drew.heap.size,j,none⟩:=by simp [Addr.add];exact fun h=>h.symm
     have hb2:bys (b0 :: cs)=Value.int .u8 (b0:Int) :: bys cs:=rfl
     rw [hb2] at hj
     rw [e,hk,←hj]
     have hlt:j<(Value.int .u8 (b0:Int) :: bys cs).length:=by
      rcases qB j (Value.int .u8 (b0:Int) :: bys cs).length with h | h
      · exact h
      · rw [jD h] at hj;cases hj
     have h2 : [Value.int .u8 (b0:Int)].toArray++(bys cs).toArray=(Value.int .u8 (b0:Int) :: bys cs).toArray:=by simp
     rw [h2,Array.getElem?_append_left (by simpa using hlt)]
     simp
   · rcases List.mem_cons.1 h with h | h
     · subst h;exact hb
     · exact hr.2.1 b h
theorem tp {o:Oper} {a:Act} {w w':World} {K:Act→World→Prop} {Q:Exit→Act→World→Prop} {v1 v2 v:Value} (s x:Operand) (ho:o.op=.call { callee:=.builtin .append,args:=#[s,x],argTypes:=#[34,34] }) (hs:a.eval s=v1) (hx:a.eval x=v2)
 (hrun:(Builtin.append_ #[34,34] o.type #[v1,v2]).run Tryz.prog w=.ok v w') (h:K (a.put o.dst v) w'):o.wp Tryz.prog a w K Q:=by
 unfold Oper.wp execOp
 simp only [ho,resolve,invoke,builtin,wg,Sem.run_pure,qk,List.map_toArray,List.map_cons,List.map_nil,hs,hx,hrun]
 exact h
def xq (ta:DN) (B:List Nat):Option (List Nat):=wH (.mk 48 [] [ta,.mk 3 (0 :: B) []])
theorem pL (ta:DN) (va:Value) (A:Option Addr) (c:Nat) (B:List Nat) (w:World) (ha:RD w (Al w) ta va) (hb:RB w (Al w) A c B) (h0:0<B.length) (hl:B.length≤1000000) :
 Calls Tryz.prog 58 #[va,.slice A B.length c] w fun e w'=>WrB (xq ta B) e w'∧Below w.heap.size w w':=by
 obtain ⟨xi,B1,n1,d1,B2,n2,d2,rfl⟩:=ha.shape
 obtain ⟨W0,hW0⟩:=eW (w.alloc (.cells #[.int .i64 xi,.slice B1 n1 d1,.slice B2 n2 d2] 80))
 obtain ⟨s,hs⟩:=eV w.heap.size
 have hq0:=zN w (.cells #[.int .i64 xi,.slice B1 n1 d1,.slice B2 n2 d2] 80)
 have hE:Ext w W0:=by rw [hW0];exact zR _ _
 rw [←hW0,hs] at hq0
 have HD:=zF (ha.al hE)
 have HR:=zF (jr hb hE)
 obtain ⟨N,hN⟩:=eV B.length
 rw [hN] at h0 hl ⊢
 have HN:=zF hN
 obtain ⟨R,hR⟩:=eV (xq ta B)
 rw [hR]
 unfold xq at hR
 have HRT:=zF hR
 obtain ⟨bs,hbs⟩:=eV (R.getD [])
 obtain ⟨ok,hok⟩:=eV R.isSome
 obtain ⟨M,hM⟩:=eV bs.length
 have Hbs:=zF hbs
 have Hok:=zF hok
 have HM:=zF hM
 have HE:=zF hE
 have Hs:=zF hs
 have H0:=zF h0
 have Hl:=zF hl
 clear ha hb hE hs hR hbs hok hM hN h0 hl
 go_enter Tryz.func58,Tryz.ntmps58
 go_upto_region 1 with fail
 rw [←hW0,Hs.out]
 clear hW0
 refine zj (by kernel_rfl) 12 [0,0,0,6,14,31,63,127,255,255,1023,2047] [] (fun j f X=>match j with
  | 0=>f 0=.agg #[.int .i64 xi,.slice B1 n1 d1,.slice B2 n2 d2]
  | 1=>∃ b,f 1=.slice (some ⟨b,0,none⟩) 1 1∧X.heap[b]?=some (.cells #[.int .u8 ((0:Nat):Int)] 5 (0,0))
  | 2=>f 2=.slice A N c
  | 3=>∃ A1 c1,f 3=.slice A1 (1+N) c1∧RB X (Al X) A1 c1 (0 :: B)
  | 4=>∃ A1 c1,f 4=.agg #[.int .i64 3,.slice A1 (1+N) c1,.slice none 0 0]∧RB X (Al X) A1 c1 (0 :: B)
  | 5=>∃ b A1 c1,f 5=.slice (some ⟨b,0,none⟩) 2 2∧RS X (Al X) 3 (some ⟨b,0,none⟩) 2 2 [.int .i64 xi,.slice B1 n1 d1,.slice B2 n2 d2,.int .i64 3,.slice A1 (1+N) c1,.slice none 0 0]∧RB X (Al X) A1 c1 (0 :: B)
  | 6=>∃ b A1 c1,f 6=.agg #[.int .i64 48,.slice none 0 0,.slice (some ⟨b,0,none⟩) 2 2]∧RS X (Al X) 3 (some ⟨b,0,none⟩) 2 2 [.int .i64 xi,.slice B1 n1 d1,.slice B2 n2 d2,.int .i64 3,.slice A1 (1+N) c1,.slice none 0 0]∧RB X (Al X) A1 c1 (0 :: B)
  | 7=>∃ A1 c1,f 7=.tuple #[.slice A1 M c1,.bool ok]∧RB X (Al X) A1 c1 bs
  | 8=>∃ A1 c1,f 8=.slice A1 M c1∧RB X (Al X) A1 c1 bs
  | 9=>f 9=.bool ok
  | 10=>∃ A1 c1,f 10=.slice A1 M c1∧RB X (Al X) A1 c1 bs
  | 11=>f 11=.bool ok
  | _=>True) (by kernel_rfl) [(6,0),(7,1),(8,2),(9,3),(10,4),(11,5),(12,6),(13,7),(14,8),(15,9),(4,10),(5,11)] (by kernel_rfl) ?_
 refine zt 1 11 [(7,1),(8,2),(9,3),(10,4)] (fun f X hX hR K hK=>?_) ?_
 · simp only [yZ]
   refine ⟨zc (by kernel_rfl) (jg 80 (.tmp 2) rfl rfl (hX.at_ hq0) Tryz.underlying80 rfl yk rfl ?_)⟩
   exact qe hK (s:=by simp only [yZ])
 refine zt 2 10 [(6,0),(8,2)] (fun f X hX hR K hK=>?_) ?_
 · simp only [yZ]
   refine ⟨?_⟩
   go_simp
   exact hK.out _ (.slice (some ⟨X.heap.size,0,none⟩) 1 1) _ (by simp only [yZ]) (zR _ _) trivial (fun Y hY=>⟨_,rfl,hY.at_ (zN _ _)⟩)
 refine zT 3 9 ?_
 refine zt 4 8 [(6,0),(7,1),(8,2)] (fun f X hX hR K hK=>?_) ?_
 · obtain ⟨b1,(e1:f 1=_),r1⟩:=hR.out 1 rfl
   have e2:f 2=_:=hR.out 2 rfl
   simp only [yZ,e1,e2]
   obtain ⟨A4,c4,w4,h4,hE4,hr4⟩:=ro r1 (by omega) (jr HR.out hX) HN.out H0.out Hl.out
   refine ⟨zc (by kernel_rfl) (tp (.tmp 7) (.tmp 8) rfl rfl rfl (h4 _) ?_)⟩
   exact hK.out _ (.slice A4 (1+N) c4) _ (by simp only [yZ,e1,e2]) hE4 trivial (fun Y hY=>⟨_,_,rfl,jr hr4 hY⟩)
 refine zt 5 7 [(6,0),(7,1),(8,2),(9,3)] (fun f X hX hR K hK=>?_) ?_
 · obtain ⟨A3,c3,(e3:f 3=_),r3⟩:=hR.out 3 rfl
   simp only [yZ,e3]
   refine ⟨?_⟩
   go_simp
   exact hK.out _ (.agg #[.int .i64 3,.slice A3 (1+N) c3,.slice none 0 0]) _ (by simp only [yZ,e3]) (zd _) trivial (fun Y hY=>⟨_,_,rfl,jr r3 hY⟩)
 refine zt 6 6 [(6,0),(7,1),(8,2),(9,3),(10,4)] (fun f X hX hR K hK=>?_) ?_
 · have e0:f 0=_:=hR.out 0 rfl
   obtain ⟨A4,c4,(e4:f 4=_),r4⟩:=hR.out 4 rfl
   simp only [yZ,e0,e4]
   refine ⟨?_⟩
   go_simp
   exact hK.out _ (.slice (some ⟨X.heap.size,0,none⟩) 2 2) _ (by simp only [yZ,e0,e4]) (zR _ _) trivial (fun Y hY=>⟨_,A4,c4,rfl,RS.al (jW (w:=X) (P:=Al (X.alloc (.cells #[.int .i64 xi,.slice B1 n1 d1,.slice B2 n2 d2,.int .i64 3,.slice A4 (1+N) c4,.slice none 0 0] 80))) #[.int .i64 xi,.slice B1 n1 d1,.slice B2 n2 d2,.int .i64 3,.slice A4 (1+N) c4,.slice none 0 0] 80 3 2 rfl (by unfold maxLen;omega) (by simp [Al])) hY,jr r4 ((zR _ _).trans hY)⟩)
 refine qC 7 5 (fun f=>#[f 5]) (F':=47) (fun f X hX hR=>?_) ?_
 · obtain ⟨b5,A5,c5,(e5:f 5=_),s5,r5⟩:=hR.out 5 rfl
   simp only [e5]
   refine (fH (some ⟨b5,0,none⟩) 2 2 X).mono ?_
   rintro e w' ⟨rfl,hB⟩
   exact ⟨(.agg #[.int .i64 48,.slice none 0 0,.slice (some ⟨b5,0,none⟩) 2 2]),rfl,hB,fun Y hY=>⟨b5,A5,c5,rfl,RS.al s5 (za hB hY),jr r5 (za hB hY)⟩⟩
 refine qC 8 4 (fun f=>#[f 6]) (F':=85) (fun f X hX hR=>?_) ?_
 · obtain ⟨b6,A6,c6,(e6:f 6=_),s6,r6⟩:=hR.out 6 rfl
   simp only [e6]
   have hlf:=xe (tag:=3) r6 (by decide)
   have hNN:(0 :: B).length=1+N:=by rw [jA,HN.out,kG]
   rw [hNN] at hlf
   have hT:RD X (Al X) (.mk 48 [] [ta,.mk 3 (0 :: B) []]) (.agg #[.int .i64 48,.slice none 0 0,.slice (some ⟨b6,0,none⟩) 2 2]):=RD.seq s6 (vj (HD.out.al hX) (vj hlf RDs.nil_)) rfl
   refine (xQ (Al X) _ _ X hT (fun q hq=>hq)).mono ?_
   rintro e w' ⟨hW,hB⟩
   have hW:=WrP.b hW
   rw [HRT.out] at hW
   obtain ⟨A7,c7,rfl,hr7⟩:=hW
   rw [Hok.out,Hbs.out,HM.out]
   rw [Hbs.out] at hr7
   exact ⟨(.tuple #[.slice A7 M c7,.bool ok]),rfl,hB,fun Y hY=>⟨A7,c7,rfl,jr hr7 hY⟩⟩
 refine zt 9 3 [(6,0),(7,1),(8,2),(9,3),(10,4),(11,5),(12,6),(13,7),(15,9)] (fun f X hX hR K hK=>?_) ?_
 · obtain ⟨A7,c7,(e7:f 7=_),r7⟩:=hR.out 7 rfl
   simp only [yZ,e7]
   refine ⟨?_⟩
   go_simp
   exact hK.out _ (.slice A7 M c7) _ (by simp only [yZ,e7]) (zd _) trivial (fun Y hY=>⟨A7,c7,rfl,jr r7 hY⟩)
 refine zt 10 2 [(6,0),(7,1),(8,2),(9,3),(10,4),(11,5),(12,6),(13,7),(14,8)] (fun f X hX hR K hK=>?_) ?_
 · obtain ⟨A7,c7,(e7:f 7=_),r7⟩:=hR.out 7 rfl
   simp only [yZ,e7]
   refine ⟨?_⟩
   go_simp
   exact qe hK (s:=by simp only [yZ,e7])
 refine zt 11 1 [(6,0),(7,1),(8,2),(9,3),(10,4),(11,5),(12,6),(13,7),(14,8),(15,9)] (fun f X hX hR K hK=>?_) ?_
 · obtain ⟨A8,c8,(e8:f 8=_),r8⟩:=hR.out 8 rfl
   simp only [yZ,e8]
   refine ⟨?_⟩
   go_simp
   exact hK.out _ (.slice A8 M c8) _ (by simp only [yZ,e8]) (zd _) trivial (fun Y hY=>⟨A8,c8,rfl,jr r8 hY⟩)
 refine qL 12 0 9 ?_
 refine yF ⟨fun f X hX hR hal hap=>?_⟩
 obtain ⟨b1,(e1:f 1=_),r1⟩:=hR 1 (by decide)
 obtain ⟨A3,c3,(e3:f 3=_),r3⟩:=hR 3 (by decide)
 obtain ⟨A4,c4,(e4:f 4=_),r4⟩:=hR 4 (by decide)
 obtain ⟨b5,A5,c5,(e5:f 5=_),s5,r5⟩:=hR 5 (by decide)
 obtain ⟨b6,A6,c6,(e6:f 6=_),s6,r6⟩:=hR 6 (by decide)
 obtain ⟨A7,c7,(e7:f 7=_),r7⟩:=hR 7 (by decide)
 obtain ⟨A8,c8,(e8:f 8=_),r8⟩:=hR 8 (by decide)
 obtain ⟨A10,c10,(e10:f 10=_),r10⟩:=hR 10 (by decide)
 have e11:f 11=_:=hR 11 (by decide)
 simp only [yZ,e1,e3,e4,e5,e6,e7,e8,e10,e11]
 clear hR hal hap e1 e3 e4 e5 e6 e7 e8 e10 e11
 refine zK ?_
 have HX:=zF (za HE.out hX)
 have Hr10:=zF r10
 clear r10 hX
 go_wp2
 go_ret2
 exact ⟨⟨A10,c10,by rw [Hbs.out,HM.out,Hok.out];rfl,by rw [Hbs.out];exact Hr10.out⟩,by have:=HX.out;unfold Ext at this;rwa [Hs.out] at this⟩
end Go.Proofs.YtmlbicgpehchhaaGreat.Der
namespace Go.Proofs.YtmlbicgpehchhaaGreat
open Go.RowKit
def uf (C:Crv) (bi:Bool) (x y:Nat):Option (List Nat):=if onQ C bi x y=true then some (if bi then [0] else 4 :: (bytesOf x C.size++bytesOf y C.size)) else none
theorem Crv.Fine.bits {C:Crv} (h:C.Fine) {x:Nat} (hx:x<C.M):qa x≤8*C.size:=ww (zP (xL hx h.room) (by rw [ga];exact zG _))
theorem jt (x n:Nat):(bytesOf x n).length=n:=by simp [bytesOf]
theorem rP {c:Int} {C:Crv} (hC:IsC c C) {p:Value} {bi:Bool} {x y:Nat} (w:World) (hp:APt w p bi x y) :
 Calls Tryz.prog 57 #[.int .i64 c,p] w fun e w'=>∃ A1 c1,e=.returned (.tuple #[.slice A1 ((uf C bi x y).getD []).length c1,.bool (uf C bi x y).isSome])∧RB w' (In w.heap.size w'.heap.size) A1 c1 ((uf C bi x y).getD [])∧Ext w w':=by
 obtain ⟨A,A',ca,cb,a,b,rfl,ha,hb,hx,hy⟩:=hp
 have hp:APt w (.agg #[.bool bi,.slice A a.length ca,.slice A' b.length cb]) bi x y:=⟨A,A',ca,cb,a,b,rfl,ha,hb,hx,hy⟩
 obtain ⟨W0,hW0⟩:=eW (w.alloc (.cells #[.bool bi,.slice A a.length ca,.slice A' b.length cb] 29))
 obtain ⟨q,hq⟩:=eV w.heap.size
 have hE0:Ext w W0:=by rw [hW0];exact zR _ _
 have h1:=zN w (.cells #[.bool bi,.slice A a.length ca,.slice A' b.length cb] 29)
 rw [←hW0,hq] at h1
 have hp0:=zF (hp.ext hE0)
 have HE0:=zF hE0
 have HC:=zF hC
 have Ha:=zF (zb ha hE0)
 have Hb:=zF (zb hb hE0)
 have Hx:=zF hx
 have Hy:=zF hy
 rw [hq]
 obtain ⟨res,hres⟩:=eV (uf C bi x y)
 rw [hres]
 have Hres:=zF hres
 clear hp hE0 hC hres ha hb hx hy
 go_enter Tryz.func57,Tryz.ntmps57
 go_upto_region 1 with fail
 rw [←hW0]
 have Hq:=zF hq
 clear hW0 hq
 obtain ⟨o1,Ho1⟩:=eG (onQ C bi x y)
 go_upto_region 2 with (go_at_call 102;refine (ft HC.out _).mono ?_;rintro e wa ⟨k,rfl,hk,hE1⟩)
 have HE1:=zF hE1
 replace h1:=hE1.at_ h1
 clear hE1
 cases o1
 case false =>
  obtain rfl:res=none:=by rw [←Hres.out,uf,zr (by rw [Ho1.out];decide)]
  refine zX 4 [0,0,3,7] [] (fun j f X=>match j with
   | 0=>f 0=.pointer (some ⟨k,0,none⟩)
   | 1=>f 1=.agg #[.bool bi,.slice A a.length ca,.slice A' b.length cb]
   | 2=>f 2=.bool false
   | 3=>f 3=.bool true
   | _=>True) (by kernel_rfl) [(13,0),(14,1),(15,2),(16,3)] (by kernel_rfl) ?_
  refine zT 1 3 ?_
  refine lV0 2 2 h1 vG ?_
  refine qC 3 1 (fun f=>#[f 0,f 1]) (F':=108) (fun f X hX hR=>?_) ?_
  · have e0:f 0=_:=hR.out 0 rfl
    have e1:f 1=_:=hR.out 1 rfl
    simp only [e0,e1]
    refine (oH (hk.ext hX) HC.out.fine (hp0.out.ext (HE1.out.trans hX))).mono ?_
    rw [Ho1.out]
    rintro e w2 ⟨rfl,hB⟩
    exact ⟨_,rfl,hB,fun _ _=>rfl⟩
  refine qL 4 0 2 ?_
  refine yF ⟨fun f X hX hR hal hap=>?_⟩
  have e3:f 3=_:=hR 3 (by decide)
  simp only [yZ,e3]
  clear hR hal hap e3
  refine zK ?_
  go_wp2
  go_ret2
  exact ⟨none,0,rfl,vY _ _,(HE0.out.trans HE1.out).trans hX⟩
 case true =>
  cases bi
  case true =>
   obtain rfl:res=some [0]:=by rw [←Hres.out,uf,qE Ho1.out];rfl
   refine zX 4 [0,0,3,7] [] (fun j f X=>match j with
    | 0=>f 0=.pointer (some ⟨k,0,none⟩)
    | 1=>f 1=.agg #[.bool true,.slice A a.length ca,.slice A' b.length cb]
    | 2=>f 2=.bool true
    | 3=>f 3=.bool false
    | _=>True) (by kernel_rfl) [(13,0),(14,1),(15,2),(16,3)] (by kernel_rfl) ?_
   refine zT 1 3 ?_
   refine lV0 2 2 h1 vG ?_
   refine qC 3 1 (fun f=>#[f 0,f 1]) (F':=108) (fun f X hX hR=>?_) ?_
   · have e0:f 0=_:=hR.out 0 rfl
     have e1:f 1=_:=hR.out 1 rfl
     simp only [e0,e1]
     refine (oH (hk.ext hX) HC.out.fine (hp0.out.ext (HE1.out.trans hX))).mono ?_
     rw [Ho1.out]
     rintro e w2 ⟨rfl,hB⟩
     exact ⟨_,rfl,hB,fun _ _=>rfl⟩
   refine qL 4 0 2 ?_
   refine yF ⟨fun f X hX hR hal hap=>?_⟩
   have e3:f 3=_:=hR 3 (by decide)
   simp only [yZ,e3]
   clear hR hal hap e3
   refine zK ?_
   have c0:=zH (hX.at_ h1) 0
   simp only [zI,zJ] at c0
   have HX:=zF ((HE0.out.trans HE1.out).trans hX)
   clear hX h1
   rename World=>X2
   have hw:=xB X2 0 (by omega)
   go_wp2
   go_ret2
   have:=HX.out.bsize
   have:=Hq.out
   exact ⟨_,_,rfl,(hw.rb (by simp)).mono (fun b hb=>⟨by have:=hb.1;omega,hb.2⟩),HX.out.trans (zR _ _)⟩
  case false =>
   obtain ⟨hxM,hyM⟩:=mX Ho1.out rfl
   obtain rfl:res=some (4 :: (bytesOf x C.size++bytesOf y C.size)):=by rw [←Hres.out,uf,qE Ho1.out];rfl
   refine zX 4 [0,0,3,7] [] (fun j f X=>match j with
    | 0=>f 0=.pointer (some ⟨k,0,none⟩)
    | 1=>f 1=.agg #[.bool false,.slice A a.length ca,.slice A' b.length cb]
    | 2=>f 2=.bool true
    | 3=>f 3=.bool false
    | _=>True) (by kernel_rfl) [(13,0),(14,1),(15,2),(16,3)] (by kernel_rfl) ?_
   refine zT 1 3 ?_
   refine lV0 2 2 h1 vG ?_
   refine qC 3 1 (fun f=>#[f 0,f 1]) (F':=108) (fun f X hX hR=>?_) ?_
   · have e0:f 0=_:=hR.out 0 rfl
     have e1:f 1=_:=hR.out 1 rfl
     simp only [e0,e1]
     refine (oH (hk.ext hX) HC.out.fine (hp0.out.ext (HE1.out.trans hX))).mono ?_
     rw [Ho1.out]
     rintro e w2 ⟨rfl,hB⟩
     exact ⟨_,rfl,hB,fun _ _=>rfl⟩
   refine qL 4 0 2 ?_
   refine yF ⟨fun f X hX hR hal hap=>?_⟩
   have e3:f 3=_:=hR 3 (by decide)
   simp only [yZ,e3]
   clear hR hal hap e3
   refine zK ?_
   have hk2:=hk.ext hX
   have ks:=hk2.size
   have HX:=zF hX
   have HEX:=zF ((HE0.out.trans HE1.out).trans hX)
   replace h1:=hX.at_ h1
   have c0:=zH h1 0
   have c1:=zH h1 1
   have c2:=zH h1 2
   simp only [zI,zJ,zL] at c0 c1 c2
   have HM:=zF HC.out.fine
   clear hX h1
   rename World=>X2
   go_upto_region 6 with fail
   refine zj (by kernel_rfl) 12 [0,1,0,4,12,28,63,127,255,255,511,2047] [] (fun j f X=>match j with
    | 0=>f 0=.pointer (some ⟨q,1,none⟩)
    | 1=>f 1=.slice A a.length ca
    | 2=>f 2=.pointer (some ⟨k,0,none⟩)
    | 3=>f 3=.pointer (some ⟨k,0,none⟩)
    | 4=>f 4=.pointer (some ⟨k,0,none⟩)
    | 5=>f 5=.int .i64 (C.size:Int)
    | 6=>∃ A1,f 6=.tuple #[.slice A1 C.size C.size,.bool true]∧RB X (fun b=>b<X.heap.size) A1 C.size (bytesOf x C.size)
    | 7=>∃ A1,f 7=.tuple #[.slice A1 C.size C.size,.bool true]∧RB X (fun b=>b<X.heap.size) A1 C.size (bytesOf x C.size)
    | 8=>∃ A1,f 8=.slice A1 C.size C.size∧RB X (fun b=>b<X.heap.size) A1 C.size (bytesOf x C.size)
    | 9=>f 9=.bool true
    | 10=>∃ A1,f 10=.slice A1 C.size C.size∧RB X (fun b=>b<X.heap.size) A1 C.size (bytesOf x C.size)
    | 11=>f 11=.bool true
    | _=>True) (by kernel_rfl) [(21,0),(22,1),(23,2),(24,3),(25,4),(26,5),(27,6),(20,7),(28,8),(29,9),(7,10),(8,11)] (by kernel_rfl) ?_
   refine zT 1 11 ?_
   refine qG 2 10 0 c1 ?_
   refine zT 3 9 ?_
   refine qL 4 8 2 ?_
   refine qL 5 7 3 ?_
   refine qG 6 6 4 ks ?_
   refine qC 7 5 (fun f=>#[f 1,f 5]) (F':=43) (fun f X hX hR=>?_) ?_
   · have e1:f 1=_:=hR.out 1 rfl
     have e5:f 5=_:=hR.out 5 rfl
     simp only [e1,e5]
     refine (yS _ A ca a C.size X (zb Ha.out ((HE1.out.trans HX.out).trans hX)) (fun b hb=>hb) (by have:=HM.out.small;omega) (by rw [Hx.out];exact HM.out.bits hxM)).mono ?_
     rw [Hx.out]
     rintro e w2 ⟨A1,rfl,hO,hB⟩
     exact ⟨_,rfl,hB,fun Y hY=>⟨A1,rfl,RB.upE (hO.mono fun b hb=>hb.2) hY⟩⟩
   refine zt 8 4 [(21,0),(22,1),(23,2),(24,3),(25,4),(26,5),(27,6)] (fun f X hX hR K hK=>?_) ?_
   · obtain ⟨A6,(e6:f 6=_),o6⟩:=hR.out 6 rfl
     simp only [yZ,e6]
     refine ⟨?_⟩
     go_simp
     exact hK.out _ _ _ (by simp only [yZ,e6]) (zd _) trivial (fun Y hY=>⟨A6,rfl,o6.upE hY⟩)
   refine zt 9 3 [(21,0),(22,1),(23,2),(24,3),(25,4),(26,5),(27,6),(20,7),(29,9)] (fun f X hX hR K hK=>?_) ?_
   · obtain ⟨A7,(e7:f 7=_),o7⟩:=hR.out 7 rfl
     simp only [yZ,e7]
     refine ⟨?_⟩
     go_simp
     exact hK.out _ _ _ (by simp only [yZ,e7]) (zd _) trivial (fun Y hY=>⟨A7,rfl,o7.upE hY⟩)
   refine zt 10 2 [(21,0),(22,1),(23,2),(24,3),(25,4),(26,5),(27,6),(20,7),(28,8),(7,10)] (fun f X hX hR K hK=>?_) ?_
   · obtain ⟨A7,(e7:f 7=_),o7⟩:=hR.out 7 rfl
     simp only [yZ,e7]
     refine ⟨?_⟩
     go_simp
     exact qe hK (s:=by simp only [yZ,e7])
   refine zt 11 1 [(21,0),(22,1),(23,2),(24,3),(25,4),(26,5),(27,6),(20,7),(28,8),(29,9)] (fun f X hX hR K hK=>?_) ?_
   · obtain ⟨A8,(e8:f 8=_),o8⟩:=hR.out 8 rfl
     simp only [yZ,e8]
     refine ⟨?_⟩
     go_simp
     exact hK.out _ _ _ (by simp only [yZ,e8]) (zd _) trivial (fun Y hY=>⟨A8,rfl,o8.upE hY⟩)
   refine qL 12 0 9 ?_
   refine yF ⟨fun f X hX hR hal hap=>?_⟩
   obtain ⟨A6,(e6:f 6=_),o6⟩:=hR 6 (by decide)
   obtain ⟨A7,(e7:f 7=_),o7⟩:=hR 7 (by decide)
   obtain ⟨A8,(e8:f 8=_),o8⟩:=hR 8 (by decide)
   obtain ⟨Bx,(e10:f 10=_),o10⟩:=hR 10 (by decide)
   simp only [yZ,e6,e7,e8,e10]
   clear hR hal hap e6 e7 e8 e10
   refine zK ?_
   have HXY:=zF hX
   replace c2:=hX.cell c2
   replace ks:=hX.cell ks
   have HOx:=zF o10
   clear hX o6 o7 o8 o10 c0 c1
   rename World=>X3
   go_upto_region 7 with fail
   refine zj (by kernel_rfl) 12 [0,1,0,4,12,28,63,127,255,255,511,2047] [] (fun j f X=>match j with
    | 0=>f 0=.pointer (some ⟨q,2,none⟩)
    | 1=>f 1=.slice A' b.length cb
    | 2=>f 2=.pointer (some ⟨k,0,none⟩)
    | 3=>f 3=.pointer (some ⟨k,0,none⟩)
    | 4=>f 4=.pointer (some ⟨k,0,none⟩)
    | 5=>f 5=.int .i64 (C.size:Int)
    | 6=>∃ A1,f 6=.tuple #[.slice A1 C.size C.size,.bool true]∧RB X (fun b=>b<X.heap.size) A1 C.size (bytesOf y C.size)
    | 7=>∃ A1,f 7=.tuple #[.slice A1 C.size C.size,.bool true]∧RB X (fun b=>b<X.heap.size) A1 C.size (bytesOf y C.size)
    | 8=>∃ A1,f 8=.slice A1 C.size C.size∧RB X (fun b=>b<X.heap.size) A1 C.size (bytesOf y C.size)
    | 9=>f 9=.bool true
    | 10=>∃ A1,f 10=.slice A1 C.size C.size∧RB X (fun b=>b<X.heap.size) A1 C.size (bytesOf y C.size)
    | 11=>f 11=.bool true
    | _=>True) (by kernel_rfl) [(31,0),(32,1),(33,2),(34,3),(35,4),(36,5),(37,6),(30,7),(38,8),(39,9),(9,10),(10,11)] (by kernel_rfl) ?_
   refine zT 1 11 ?_
   refine qG 2 10 0 c2 ?_
   refine zT 3 9 ?_
   refine qL 4 8 2 ?_
   refine qL 5 7 3 ?_
   refine qG 6 6 4 ks ?_
   refine qC 7 5 (fun f=>#[f 1,f 5]) (F':=43) (fun f X hX hR=>?_) ?_
   · have e1:f 1=_:=hR.out 1 rfl
     have e5:f 5=_:=hR.out 5 rfl
     simp only [e1,e5]
     refine (yS _ A' cb b C.size X (zb Hb.out (((HE1.out.trans HX.out).trans HXY.out).trans hX)) (fun b hb=>hb) (by have:=HM.out.small;omega) (by rw [Hy.out];exact HM.out.bits hyM)).mono ?_
     rw [Hy.out]
     rintro e w2 ⟨A1,rfl,hO,hB⟩
     exact ⟨_,rfl,hB,fun Y hY=>⟨A1,rfl,RB.upE (hO.mono fun b hb=>hb.2) hY⟩⟩
   refine zt 8 4 [(31,0),(32,1),(33,2),(34,3),(35,4),(36,5),(37,6)] (fun f X hX hR K hK=>?_) ?_
   · obtain ⟨A6,(e6:f 6=_),o6⟩:=hR.out 6 rfl
     simp only [yZ,e6]
     refine ⟨?_⟩
     go_simp
     exact hK.out _ _ _ (by simp only [yZ,e6]) (zd _) trivial (fun Y hY=>⟨A6,rfl,o6.upE hY⟩)
   refine zt 9 3 [(31,0),(32,1),(33,2),(34,3),(35,4),(36,5),(37,6),(30,7),(39,9)] (fun f X hX hR K hK=>?_) ?_
   · obtain ⟨A7,(e7:f 7=_),o7⟩:=hR.out 7 rfl
     simp only [yZ,e7]
     refine ⟨?_⟩
     go_simp
     exact hK.out _ _ _ (by simp only [yZ,e7]) (zd _) trivial (fun Y hY=>⟨A7,rfl,o7.upE hY⟩)
   refine zt 10 2 [(31,0),(32,1),(33,2),(34,3),(35,4),(36,5),(37,6),(30,7),(38,8),(9,10)] (fun f X hX hR K hK=>?_) ?_
   · obtain ⟨A7,(e7:f 7=_),o7⟩:=hR.out 7 rfl
     simp only [yZ,e7]
     refine ⟨?_⟩
     go_simp
     exact qe hK (s:=by simp only [yZ,e7])
   refine zt 11 1 [(31,0),(32,1),(33,2),(34,3),(35,4),(36,5),(37,6),(30,7),(38,8),(39,9)] (fun f X hX hR K hK=>?_) ?_
   · obtain ⟨A8,(e8:f 8=_),o8⟩:=hR.out 8 rfl
     simp only [yZ,e8]
     refine ⟨?_⟩
     go_simp
     exact hK.out _ _ _ (by simp only [yZ,e8]) (zd _) trivial (fun Y hY=>⟨A8,rfl,o8.upE hY⟩)
   refine qL 12 0 9 ?_
   refine yF ⟨fun f X hX hR hal hap=>?_⟩
   obtain ⟨A6,(e6:f 6=_),o6⟩:=hR 6 (by decide)
   obtain ⟨A7,(e7:f 7=_),o7⟩:=hR 7 (by decide)
   obtain ⟨A8,(e8:f 8=_),o8⟩:=hR 8 (by decide)
   obtain ⟨By,(e10:f 10=_),o10⟩:=hR 10 (by decide)
   simp only [yZ,e6,e7,e8,e10]
   clear hR hal hap e6 e7 e8 e10
   refine zK ?_
   have HXZ:=zF hX
   have hx8:=zF (HOx.out.upE hX)
   have hy8:=zF o10
   clear hX o6 o7 o8 o10 c2 ks
   rename World=>X4
   obtain ⟨B0,hB0⟩:=eV X4.heap.size
   have hl:OW (X4.alloc (.cells #[.int .u8 4] 5)) X4.heap.size (some ⟨X4.heap.size,0,none⟩) 1 [4]:=xB X4 4 (by omega)
   have hA:=zR X4 (.cells #[.int .u8 4] 5)
   have hx9:=zF ((hx8.out).below hA (fun b hb=>hb))
   have hy9:=zF ((hy8.out).below hA (fun b hb=>hb))
   have hz9:(X4.alloc (.cells #[.int .u8 4] 5)).heap.size=B0+1:=by rw [zu,hB0]
   have HA:=zF hA
   rw [hB0] at hl
   have Hl:=zF hl
   have HB0:=zF hB0
   have lx:=jt x C.size
   have ly:=jt y C.size
   have HS:=zF lx
   have HT:=zF ly
   have Hsm:=zF HM.out.small
   have Hz9:=zF hz9
   clear hl hA hz9 lx ly
   go_upto_region 8 with fail
   go_wp2_with (at_builtin;first
    | (refine wf rfl (.tmp 40) (.tmp 41) rfl B0 rfl Hl.out (by rw [HS.out];rfl) hx9.out (by rw [HS.out];have:=Hsm.out;simp;omega) (by have:=Hz9.out;omega) ?_;intro A1 c1 w1 hw1 hb1;have Hw1:=zF hw1;have Hb1:=zF hb1;clear hw1 hb1)
    | (refine wf rfl (.tmp 42) (.tmp 43) rfl B0 rfl Hw1.out (by rw [HT.out];rfl) (hy9.out.below Hb1.out (fun b hb=>by have:=HB0.out;omega)) (by rw [zk,HS.out,HT.out];have:=Hsm.out;simp;omega) (by have:=Hz9.out;have:=Hb1.out.size;omega) ?_;intro A2 c2 w2 hw2 hb2;have Hw2:=zF hw2;have Hb2:=zF hb2;clear hw2 hb2))
   go_ret2
   have hEx:=(HEX.out.trans HXY.out).trans HXZ.out
   have hq:q≤B0:=by have:=hEx.bsize;have:=Hq.out;omega
   have hrb:=Hw2.out.rb (by rw [zk,zk,HS.out,HT.out];have:=Hsm.out;simp;omega)
   refine ⟨A2,c2,?_,hrb.mono (fun b hb=>⟨by have:=hb.1;omega,hb.2⟩),kU (hEx.trans HA.out) (Below.mono (Hb1.out.trans Hb2.out) (by have:=hEx.bsize;omega))⟩
   show _=Ending.returned (.tuple #[.slice A2 (4 :: (bytesOf x C.size++bytesOf y C.size)).length c2,.bool true])
   rw [jA,zk]
   rfl
theorem mq {c:Int} (h1:c≠1) (h2:c≠2) (bi:Bool) (p1 p2:Value) (w:World):Calls Tryz.prog 57 #[.int .i64 c,.agg #[.bool bi,p1,p2]] w fun e w'=>e=.returned (.tuple #[.slice none 0 0,.bool false])∧Ext w w':=by
 have hA:=zR w (.cells #[.bool bi,p1,p2] 29)
 have hb:=zN w (.cells #[.bool bi,p1,p2] 29)
 obtain ⟨W0,hW0⟩:=eW (w.alloc (.cells #[.bool bi,p1,p2] 29))
 obtain ⟨q,hq⟩:=eV w.heap.size
 rw [←hW0,hq] at hb
 rw [←hW0] at hA
 have HA:=zF hA
 clear hA
 go_enter Tryz.func57,Tryz.ntmps57
 go_upto_region 1 with fail
 rw [←hW0]
 clear hW0 hq
 go_upto_region 2 with (go_at_call 102;refine (mZ h1 h2 _).mono ?_;rintro e wa ⟨rfl,hE1⟩)
 replace hb:=hE1.at_ hb
 obtain ⟨z0,z1,z2,f0,f1,f2⟩:=qc hb
 have HE:=zF (HA.out.trans hE1)
 clear hE1
 go_wp2_with (go_at_call 108;refine (zAL _ _ _ _).mono ?_;rintro e wb ⟨rfl,hE2⟩)
 go_ret2
 exact ⟨rfl,HE.out.trans hE2⟩
end Go.Proofs.YtmlbicgpehchhaaGreat
namespace Go.Proofs.YtmlbicgpehchhaaGreat.Ec
open Go.RowKit Go.Shelf Der
attribute [local go_sem] Oper.semAt_some
def fA (C:Crv) (oc:List Nat) (bi:Bool) (x y:Nat):Option (List Nat):=if bi then none else (uf C bi x y).bind (xq (xz oc))
theorem rR {C:Crv} {x y:Nat} {e:List Nat} (h:uf C false x y=some e):e.length=1+(C.size+C.size):=by
 unfold uf at h
 split at h
 · cases h;simp [jt];omega
 · cases h
theorem dG {c:Int} {C:Crv} {oc:List Nat} (hC:IsC c C) (hn:IsN c oc) {p:Value} {bi:Bool} {x y:Nat} (w:World) (hp:APt w p bi x y) :
    Calls Tryz.prog 13 #[.int .i64 c,p] w fun e w'=>WrB (fA C oc bi x y) e w'∧Below w.heap.size w w':=by
  have HEn:=zF (fun X (hX:Ext w X)=>rP hC X (hp.ext hX))
  have hs2:=hC.fine.small
  have he:=@rR C x y
  have hpk:fA C oc bi x y=if bi then none else (uf C bi x y).bind (xq (xz oc)):=rfl
  obtain ⟨q,hq⟩:=eV (uf C bi x y)
  simp only [hq] at HEn hpk
  obtain ⟨R,hR⟩:=eV (fA C oc bi x y)
  rw [hR] at hpk ⊢
  have hq2:bi=false→∀ e,q=some e→0<e.length∧e.length≤1000000:=fun h0 e h1=>by
    have:=he (e:=e) (by rw [←h1,←hq,h0])
    omega
  have HPa:=zF (gI hn w)
  obtain ⟨L,hL⟩:=eV oc.length
  rw [hL] at HPa
  have HL:=zF hL
  have Hpk:=zF hpk
  have Hq2:=zF hq2
  obtain ⟨A,A',ca,cb,a,b,rfl,_,_,_,_⟩:=hp
  obtain ⟨W0,hW0⟩:=eW (w.alloc (.cells #[.bool bi,.slice A a.length ca,.slice A' b.length cb] 29))
  obtain ⟨s,hs⟩:=eV w.heap.size
  have hq0:=zN w (.cells #[.bool bi,.slice A a.length ca,.slice A' b.length cb] 29)
  have hE:Ext w W0:=by rw [hW0];exact zR _ _
  rw [←hW0,hs] at hq0
  have HP0:=zF (gI hn W0)
  rw [hL] at HP0
  have HE:=zF hE
  have Hs:=zF hs
  have Hq0:=zF hq0
  clear hC hn hs2 he hpk hq hR hq2 hL hE hs hq0 HPa
  go_enter Tryz.func13,Tryz.ntmps13
  go_upto_region 1 with fail
  rw [←hW0,Hs.out]
  clear hW0
  go_wp2_with fail
  refine HP0.out.mono ?_
  rintro e w1 ⟨⟨Ac,cc,rfl,hr⟩,hB1⟩
  obtain ⟨g,hg⟩:=eV w1.heap.size
  have hq1:=zN w1 (.cells #[.int .i64 6,.slice Ac L cc,.slice none 0 0] 80)
  have hE1:Ext w1 (w1.alloc (.cells #[.int .i64 6,.slice Ac L cc,.slice none 0 0] 80)):=zR _ _
  have HR1:=zF (RB.al hr hE1 (fun q hq=>hq.2) hE1.bsize)
  have HE0:=zF (za hB1 hE1)
  rw [hg] at hq1
  have Hq1:=zF hq1
  have Hg:=zF hg
  clear hr hB1 hE1 hq1 hg HP0
  go_upto_region 2 with fail
  rw [Hg.out]
  generalize w1.alloc (.cells #[.int .i64 6,.slice Ac L cc,.slice none 0 0] 80)=W2 at *
  have HE2:=zF (za HE.out HE0.out)
  have hq2:=HE0.out.at_ Hq0.out
  obtain ⟨z0,z1,z2,f0,f1,f2⟩:=qc hq2
  have HEn2:=zF (HEn.out W2 HE2.out)
  clear HEn
  go_wp2_with fail
  refine HEn2.out.mono ?_
  rintro e w3 ⟨A3,c3,rfl,hr3,hE3⟩
  have HE3:=zF (za HE2.out hE3)
  have hq3:=hE3.at_ hq2
  have Hq1b:=zF (hE3.at_ Hq1.out)
  have HR3:=zF (jr HR1.out hE3)
  have Hr3:=zF (hr3.mono (fun q hq=>hq.2:∀ q,In W2.heap.size w3.heap.size q→Al w3 q))
  clear z0 z1 z2 f0 f1 f2 hq2 hr3 hE3 HEn2 HE2 HR1 Hq1 HE0 HE Hq0
  obtain ⟨z0,z1,z2,f0,f1,f2⟩:=qc hq3
  clear hq3
  cases q with
  | none =>
    have hR:none=R:=by rw [Hpk.out];cases bi <;> rfl
    subst hR
    have h1:(none:Option (List Nat)).isSome=false:=rfl
    rw [h1]
    clear Hpk Hr3
    go_wp2
    go_ret2
    exact ⟨⟨_,_,rfl,vY _ _⟩,HE3.out⟩
  | some e0 =>
    have h1:(some e0).isSome=true:=rfl
    have h2:(some e0).getD []=e0:=rfl
    rw [h2] at Hr3
    rw [h1,h2]
    clear h1 h2
    cases bi
    rotate_left
    · have hR:none=R:=by rw [Hpk.out];rfl
      subst hR
      clear Hpk Hr3
      go_wp2
      go_ret2
      exact ⟨⟨_,_,rfl,vY _ _⟩,HE3.out⟩
    · have hR:xq (xz oc) e0=R:=by rw [Hpk.out];rfl
      obtain ⟨n0,n1⟩:=Hq2.out rfl e0 rfl
      have HR:=zF hR
      have Hn0:=zF n0
      have Hn1:=zF n1
      clear hR n0 n1 Hpk Hq2
      obtain ⟨q0,q1,q2,_,_,_⟩:=jh Hq1b.out
      have hlf:=xe (tag:=6) HR3.out (by decide)
      rw [HL.out] at hlf
      have HAl:=zF (cU _ _ w3 hlf)
      clear hlf
      go_upto_region 5 with fail
      go_wp2_with fail
      refine HAl.out.mono ?_
      rintro e w5 ⟨⟨v5,rfl,hd5⟩,hB5⟩
      obtain ⟨x5,D1,m1,j1,D2,m2,j2,rfl⟩:=hd5.shape
      have HE5:=zF (za HE3.out hB5)
      have HS:=pL (xz oc) _ A3 c3 e0 w5 hd5 (jr Hr3.out hB5) Hn0.out Hn1.out
      rw [HR.out] at HS
      have HS:=zF HS
      clear hd5 hB5 q0 q1 q2 HAl Hr3
      go_wp2_with fail
      refine HS.out.mono ?_
      rintro e w6 ⟨⟨A6,c6,rfl,hr6⟩,hB6⟩
      have HE6:=zF (za HE5.out hB6)
      have Hr6:=zF hr6
      clear hr6 hB6 HS
      go_wp2
      go_ret2
      exact ⟨⟨A6,c6,rfl,Hr6.out⟩,HE6.out⟩
theorem aW {c:Int} (g1:c≠1) (g2:c≠2) (bi:Bool) (p1 p2:Value) (w:World) :
 Calls Tryz.prog 13 #[.int .i64 c,.agg #[.bool bi,p1,p2]] w fun e w'=>WrB none e w'∧Below w.heap.size w w':=by
 have HEn:=zF (fun X=>mq (c:=c) g1 g2 bi p1 p2 X)
 have HPa:=zF (fun X=>cA c X g1 g2)
 obtain ⟨W0,hW0⟩:=eW (w.alloc (.cells #[.bool bi,p1,p2] 29))
 obtain ⟨s,hs⟩:=eV w.heap.size
 have hq0:=zN w (.cells #[.bool bi,p1,p2] 29)
 have hE:Ext w W0:=by rw [hW0];exact zR _ _
 rw [←hW0,hs] at hq0
 have HE:=zF hE
 have Hs:=zF hs
 have Hq0:=zF hq0
 have HP0:=zF (HPa.out W0)
 clear hE hs hq0 g1 g2 HPa
 go_enter Tryz.func13,Tryz.ntmps13
 go_upto_region 1 with fail
 rw [←hW0,Hs.out]
 clear hW0
 go_wp2_with fail
 refine HP0.out.mono ?_
 rintro e w1 ⟨rfl,hB1⟩
 have HE0:=zF (show Ext W0 (w1.alloc (.cells #[.int .i64 0,.slice none 0 0,.slice none 0 0] 80)) from za hB1 (zR _ _))
 clear hB1 HP0
 go_upto_region 2 with fail
 generalize w1.alloc (.cells #[.int .i64 0,.slice none 0 0,.slice none 0 0] 80)=W2 at *
 have hq2:=HE0.out.at_ Hq0.out
 obtain ⟨z0,z1,z2,f0,f1,f2⟩:=qc hq2
 have HEn2:=zF (HEn.out W2)
 clear HEn hq2
 go_wp2_with fail
 refine HEn2.out.mono ?_
 rintro e w3 ⟨rfl,hE3⟩
 have HE3:=zF (za HE.out (za HE0.out hE3))
 clear z0 z1 z2 f0 f1 f2 hE3 HEn2
 go_wp2
 go_ret2
 exact ⟨⟨_,_,rfl,vY _ _⟩,HE3.out⟩
end Go.Proofs.YtmlbicgpehchhaaGreat.Ec
namespace Go.Proofs.YtmlbicgpehchhaaGreat
open Go.RowKit
def gO (C:Crv) (bi:Bool) (x y:Nat):List Nat:=if bi then [0] else 4 :: (bytesOf x C.size++bytesOf y C.size)
theorem aA {C:Crv} {v p:Value} {bi:Bool} {x y:Nat} (hF:C.Fine) (w:World) (hc:RC w C v) (hp:RPv w p bi x y) (hxy:bi=false→x<C.M∧y<C.M) :
 Calls Tryz.prog 61 #[v,p] w fun e w'=>∃ A1 c1,e=.returned (.slice A1 (gO C bi x y).length c1)∧RB w' (In w.heap.size w'.heap.size) A1 c1 (gO C bi x y)∧Ext w w':=by
 obtain ⟨Ap,An,Ab,Ax,Ay,cp,cn,cb,cx,cy,rfl,hP,hN,hB,hX1,hY1⟩:=hc
 obtain ⟨A,A',ca,cb',rfl,ha,hb⟩:=hp
 obtain ⟨W0,hW0⟩:=eW ((w.alloc (.cells #[.slice Ap (digs 4294967296 C.M).length cp,.slice An (digs 4294967296 (val 18446744073709551616 C.nl)).length cn,.slice Ab (digs 4294967296 C.bb).length cb,.slice Ax (digs 4294967296 (val 18446744073709551616 C.xl)).length cx,.slice Ay (digs 4294967296 (val 18446744073709551616 C.yl)).length cy,.int .i64 (C.size:Int)] 73)).alloc (.cells #[.bool bi,.slice A (digs 4294967296 x).length ca,.slice A' (digs 4294967296 y).length cb'] 32))
 obtain ⟨q,hq⟩:=eV w.heap.size
 have hE0:Ext w W0:=by rw [hW0];exact (zR _ _).trans (zR _ _)
 obtain ⟨h1,h2,hz0⟩:=kW w (.cells #[.slice Ap (digs 4294967296 C.M).length cp,.slice An (digs 4294967296 (val 18446744073709551616 C.nl)).length cn,.slice Ab (digs 4294967296 C.bb).length cb,.slice Ax (digs 4294967296 (val 18446744073709551616 C.xl)).length cx,.slice Ay (digs 4294967296 (val 18446744073709551616 C.yl)).length cy,.int .i64 (C.size:Int)] 73) (.cells #[.bool bi,.slice A (digs 4294967296 x).length ca,.slice A' (digs 4294967296 y).length cb'] 32)
 rw [←hW0,hq] at h1 h2 hz0
 have k5:=zH h1 5
 have c0:=zH h2 0
 have c1:=zH h2 1
 have c2:=zH h2 2
 simp only [zI,zJ,zL] at k5 c0 c1 c2
 have Ha:=zF (zb ha hE0)
 have Hb:=zF (zb hb hE0)
 have HE0:=zF hE0
 have HM:=zF hF
 have Hxy:=zF hxy
 clear hP hN hB hX1 hY1 ha hb hE0 hz0 h1 h2 hF hxy
 cases bi
 case true =>
  go_enter Tryz.func61,Tryz.ntmps61
  go_upto_region 1 with fail
  rw [←hW0]
  have Hq:=zF hq
  clear hW0 hq
  have hw:=xB W0 0 (by omega)
  go_wp2
  go_ret
  have:=HE0.out.bsize
  have:=Hq.out
  exact ⟨_,_,rfl,(hw.rb (by simp)).mono (fun b hb=>⟨by have:=hb.1;omega,hb.2⟩),HE0.out.trans (zR _ _)⟩
 case false =>
  obtain ⟨hxM,hyM⟩:=Hxy.out rfl
  go_enter Tryz.func61,Tryz.ntmps61
  go_upto_region 1 with fail
  rw [←hW0]
  have Hq:=zF hq
  clear hW0 hq
  go_upto_region 4 with (go_at_call 51;refine (xO _ A ca x C.size _ Ha.out (fun b hb=>hb) (by have:=HM.out.small;omega) (HM.out.bits hxM)).mono ?_;rintro e X3 ⟨Bx,rfl,hx,hX⟩)
  replace c2:=Ext.cell hX c2
  replace k5:=Ext.cell hX k5
  have HXY:=zF (show Ext W0 X3 from hX)
  have hOx:=RB.mono hx (fun b hb=>hb.2)
  have HOx:=zF hOx
  clear hX c0 c1 hx hOx
  go_upto_region 5 with (go_at_call 51;refine (xO _ A' cb' y C.size _ (zb Hb.out HXY.out) (fun b hb=>hb) (by have:=HM.out.small;omega) (HM.out.bits hyM)).mono ?_;rintro e X4 ⟨By,rfl,hy,hX⟩)
  have HXZ:=zF (show Ext X3 X4 from hX)
  have hx8:=zF (RB.upE HOx.out hX)
  have hy8:=zF (RB.mono hy (fun b hb=>hb.2))
  clear hX hy c2 k5 HOx
  obtain ⟨B0,hB0⟩:=eV X4.heap.size
  have hl:OW (X4.alloc (.cells #[.int .u8 4] 5)) X4.heap.size (some ⟨X4.heap.size,0,none⟩) 1 [4]:=xB X4 4 (by omega)
  have hA:=zR X4 (.cells #[.int .u8 4] 5)
  have hx9:=zF ((hx8.out).below hA (fun b hb=>hb))
  have hy9:=zF ((hy8.out).below hA (fun b hb=>hb))
  have hz9:(X4.alloc (.cells #[.int .u8 4] 5)).heap.size=B0+1:=by rw [zu,hB0]
  have HA:=zF hA
  rw [hB0] at hl
  have Hl:=zF hl
  have HB0:=zF hB0
  have lx:=jt x C.size
  have ly:=jt y C.size
  have HS:=zF lx
  have HT:=zF ly
  have Hsm:=zF HM.out.small
  have Hz9:=zF hz9
  clear hl hA hz9 lx ly
  go_wp2_with (at_builtin;first
   | (refine wf rfl (.tmp 28) (.tmp 29) rfl B0 rfl Hl.out (by rw [HS.out];rfl) hx9.out (by rw [HS.out];have:=Hsm.out;simp;omega) (by have:=Hz9.out;omega) ?_;intro A1 c1 w1 hw1 hb1;have Hw1:=zF hw1;have Hb1:=zF hb1;clear hw1 hb1)
   | (refine wf rfl (.tmp 30) (.tmp 31) rfl B0 rfl Hw1.out (by rw [HT.out];rfl) (hy9.out.below Hb1.out (fun b hb=>by have:=HB0.out;omega)) (by rw [zk,HS.out,HT.out];have:=Hsm.out;simp;omega) (by have:=Hz9.out;have:=Hb1.out.size;omega) ?_;intro A2 c2 w2 hw2 hb2;have Hw2:=zF hw2;have Hb2:=zF hb2;clear hw2 hb2))
  go_ret
  have hEx:=(HE0.out.trans HXY.out).trans HXZ.out
  have hq:q≤B0:=by have:=hEx.bsize;have:=Hq.out;have:=HB0.out;omega
  have hrb:=Hw2.out.rb (by rw [zk,zk,HS.out,HT.out];have:=Hsm.out;simp;omega)
  have hq9:=Hq.out
  refine ⟨A2,c2,?_,hrb.mono (fun b hb=>⟨by have:=hb.1;omega,hb.2⟩),kU (hEx.trans HA.out) (Below.mono (Hb1.out.trans Hb2.out) (by have:=hEx.bsize;omega))⟩
  show _=Ending.returned (.slice A2 (4 :: (bytesOf x C.size++bytesOf y C.size)).length c2)
  rw [jA,zk]
  rfl
def RPt (w:World) (base:Nat) (v:Value):Option (Nat×Nat)→Prop
 | none=>v=vu
 | some p=>∃ A c A' c',v=.agg #[.bool false,.slice A (digs 4294967296 p.1).length c,.slice A' (digs 4294967296 p.2).length c']∧OB w base A c (digs 4294967296 p.1)∧OB w base A' c' (digs 4294967296 p.2)
theorem mu {c:Int} (h1:c≠1) (h2:c≠2) (A:Option Addr) (n cap:Nat) (w:World):Calls Tryz.prog 69 #[.int .i64 c,.slice A n cap] w fun e w'=>e=.returned (.tuple #[vu,.bool false])∧Ext w w':=by
 have hr:=zN w (.cells #[.bool false,.slice none 0 0,.slice none 0 0] 29)
 go_enter Tryz.func69,Tryz.ntmps69
 go_wp2_with (first
  | (go_at_call 102;refine (mZ h1 h2 _).mono ?_;rintro e wa ⟨rfl,hE1⟩;have hra:=hE1.at_ hr)
  | (go_at_call 113;refine (kt _).mono ?_;rintro e wb ⟨rfl,hE2⟩;have hrb2:=hE2.at_ hra;obtain ⟨z0,z1,z2,f0,f1,f2⟩:=qc hrb2))
 exact xI rfl rfl rfl rfl (kw hrb2 _ _ _) ⟨rfl,ky (((zR w _).trans hE1).trans hE2) (zG _) _ _ _⟩
theorem cT {C:Crv} {bi:Bool} {x y x' y':Nat} (ho:onQ C bi x y=true) (hx:(if bi then 0 else x)=x') (hy:(if bi then 0 else y)=y'):uf C bi x y=some (gO C bi x' y'):=by
 subst hx hy
 unfold uf gO
 rw [qE ho]
 cases bi <;> rfl
theorem ah {C:Crv} {bi:Bool} {x y:Nat} (ho:onQ C bi x y=false):uf C bi x y=none:=by
 unfold uf
 rw [zr (by rw [ho];decide)]
theorem tN {C:Crv} (hF:C.Fine) {bi:Bool} {x y:Nat} (ho:bi=false→onB C.M C.bb x y=true):gQ C (gO C bi x y)=some (if bi then none else some (x,y)):=by
 cases bi
 · have ho:=ho rfl
   obtain ⟨hx,hy⟩:=mY ho
   have hb:∀ z,z<C.M→kT (bytesOf z C.size)=z:=fun z hz=>uk (zP (xL hz hF.room) (by rw [ga];exact zG _))
   rw [show gO C false x y=4 :: (bytesOf x C.size++bytesOf y C.size) from rfl]
   unfold gQ
   rw [zr (by
    intro h
    have h2:=congrArg List.length h
    have:=hF.pos
    simp only [jA,zk,jt,List.length_nil] at h2
    omega)]
   rw [qE (⟨by simp only [jA,zk,jt];omega,rfl⟩:(4 :: (bytesOf x C.size++bytesOf y C.size)).length=1+2*C.size∧dg (4 :: (bytesOf x C.size++bytesOf y C.size)) 0=4)]
   have e1:((4 :: (bytesOf x C.size++bytesOf y C.size)).drop 1).take C.size=bytesOf x C.size:=by
    show (bytesOf x C.size++bytesOf y C.size).take C.size=_
    exact List.take_left' (jt _ _)
   have e2:(4 :: (bytesOf x C.size++bytesOf y C.size)).drop (1+C.size)=bytesOf y C.size:=by
    rw [kG]
    show (bytesOf x C.size++bytesOf y C.size).drop C.size=_
    exact List.drop_left' (jt _ _)
   rw [e1,e2,hb x hx,hb y hy,qE ho]
   rfl
 · rfl
theorem RPt.pv {w:World} {base:Nat} {v:Value} {o:Option (Nat×Nat)} (h:RPt w base v o):RPv w v o.isNone (o.elim 0 (·.1)) (o.elim 0 (·.2)):=by
 cases o with
 | none=>obtain rfl:v=vu:=h;exact RPv.inf_ w
 | some p=>obtain ⟨A,c,A',c',rfl,h1,h2⟩:=h;exact ⟨A,A',c,c',rfl,h1.ru,h2.ru⟩
end Go.Proofs.YtmlbicgpehchhaaGreat
namespace Go.Proofs.YtmlbicgpehchhaaGreat.Der
open Go.RowKit Go.Shelf
attribute [local go_sem] Oper.semAt_some
def oB (b:List Nat):Option (Int×Nat) :=
 if kEC (un (atT (kL b) [1,1])) (kT (vh (atT (kL (vh (atT (kL b) [2]))) [1])))=some b then some (un (atT (kL b) [1,1]),kT (vh (atT (kL (vh (atT (kL b) [2]))) [1]))) else none
def RdK (R:Option (Int×Nat)) (e:Ending) (w':World):Prop:=match R with
 | none=>e=.returned (.tuple #[.int .i64 0,.slice none 0 0,.bool false])
 | some (c,x)=>∃ A k,e=.returned (.tuple #[.int .i64 c,.slice A (digs 18446744073709551616 x).length k,.bool true])∧RN w' (Al w') A k (digs 18446744073709551616 x)
theorem RN.al {w w':World} {B:Nat} {P:Nat→Prop} {A:Option Addr} {c:Nat} {l:List Nat} (h:RN w P A c l) (hb:Below B w w') (hP:∀ q,P q→q<B) (hs:B≤w'.heap.size):RN w' (Al w') A c l:=(h.below hb hP).mono fun q hq=>zP (hP q hq) hs
theorem fe (P:Nat→Prop) (A:Option Addr) (c:Nat) (b:List Nat) (w:World) (hb:RB w P A c b) (hP:∀ q,P q→q<w.heap.size) :
 Calls Tryz.prog 15 #[.slice A b.length c] w fun e w'=>RdK (oB b) e w'∧Below w.heap.size w w':=by
 have HIn:=zF (oR P A c b w hb hP)
 have HB0:=zF (fun X (hX:Ext w X)=>(show RB X (Al X) A c b from RB.al hb hX hP hX.bsize))
 obtain ⟨R,hR⟩:=eV (oB b)
 rw [hR]
 unfold oB at hR
 have hsm:=ri (vh (atT (kL b) [2])) [1]
 obtain ⟨T1,hT1⟩:=eV (kL b)
 rw [hT1] at HIn hR hsm
 obtain ⟨T2,hT2⟩:=eV (kL (vh (atT T1 [2])))
 rw [hT2] at HIn hR hsm
 obtain ⟨T3,hT3⟩:=eV (atT T1 [1,1])
 obtain ⟨T4,hT4⟩:=eV (atT T2 [1])
 rw [hT3,hT4] at hR
 rw [hT4] at hsm
 obtain ⟨z,hz⟩:=eV (un T3)
 obtain ⟨bs,hbs⟩:=eV (vh T4)
 rw [hbs] at hsm hR
 rw [hz] at hR
 obtain ⟨x,hx⟩:=eV (kT bs)
 rw [hx] at hR
 obtain ⟨dx,hdx⟩:=eV (digs 18446744073709551616 x)
 obtain ⟨Lx,hLx⟩:=eV dx.length
 have hvx:val 18446744073709551616 dx=x:=by rw [←hdx];exact z7 (by omega) x
 obtain ⟨Kq,hKq⟩:=eV (kEC z x)
 rw [hKq] at hR
 have HT3:=zF hT3
 have HT4:=zF hT4
 have Hz:=zF hz
 have Hbs:=zF hbs
 have Hx:=zF hx
 have Hdx:=zF hdx
 have HLx:=zF hLx
 have Hvx:=zF hvx
 have HK:=zF hKq
 have HR:=zF hR
 have Hsm:=zF hsm
 clear hb hP hR hsm hT1 hT2 hT3 hT4 hz hbs hx hdx hLx hvx hKq
 go_enter Tryz.func15,Tryz.ntmps15
 go_upto_region 1 with fail
 go_wp2_with fail
 refine HIn.out.mono ?_
 rintro e w1 ⟨⟨v1,v2,rfl,hd1,hd2⟩,hB1⟩
 obtain ⟨x1,B1,n1,d1,B2,n2,d2,rfl⟩:=hd1.shape
 obtain ⟨x2,C1,m1,e1,C2,m2,e2,rfl⟩:=hd2.shape
 obtain ⟨s,hs⟩:=eV w1.heap.size
 obtain ⟨hq0,hq1,hz2⟩:=bc w1 (.cells #[.int .i64 x1,.slice B1 n1 d1,.slice B2 n2 d2] 80) (.cells #[.int .i64 x2,.slice C1 m1 e1,.slice C2 m2 e2] 80)
 have hA1:Ext w1 ((w1.alloc (.cells #[.int .i64 x1,.slice B1 n1 d1,.slice B2 n2 d2] 80)).alloc (.cells #[.int .i64 x2,.slice C1 m1 e1,.slice C2 m2 e2] 80)):=za (zR _ _) (zR _ _)
 rw [hs] at hq0 hq1
 have HE1:=zF (za hB1 hA1)
 have HD1:=zF (hd1.al hA1)
 have HD2:=zF (hd2.al hA1)
 have Hs:=zF hs
 have Hq0:=zF hq0
 have Hq1:=zF hq1
 clear hd1 hd2 hB1 hA1 hs hz2 hq0 hq1 HIn
 go_upto_region 2 with fail
 simp only [Hs.out]
 generalize (w1.alloc (.cells #[.int .i64 x1,.slice B1 n1 d1,.slice B2 n2 d2] 80)).alloc (.cells #[.int .i64 x2,.slice C1 m1 e1,.slice C2 m2 e2] 80)=W2 at *
 have hf:∀ (a b c:Value) (w:World),Sem.run Tryz.prog (Instr.field 80 (.agg #[a,b,c]) 1) w=.ok b w:=fun _ _ _ _=>by kernel_rfl
 have hq0:=Hq0.out
 have hq1:=Hq1.out
 refine zj (by kernel_rfl) 9 [0,0,3,7,0,0,63,127,255,511,1023] [] (fun j f X=>match j with
  | 0=>f 0=.agg #[.int .i64 x1,.slice B1 n1 d1,.slice B2 n2 d2]
  | 1=>∃ b,f 1=.slice (some ⟨b,0,none⟩) 2 2∧RZ X (Al X) (some ⟨b,0,none⟩) 2 ([1,1].map fun (i:Nat)=>(i:Int))
  | 2=>∃ v,f 2=v∧RD X (Al X) T3 v
  | 3=>f 3=.int .i64 z
  | 4=>f 4=.agg #[.int .i64 x2,.slice C1 m1 e1,.slice C2 m2 e2]
  | 5=>∃ b,f 5=.slice (some ⟨b,0,none⟩) 1 1∧RZ X (Al X) (some ⟨b,0,none⟩) 1 ([1].map fun (i:Nat)=>(i:Int))
  | 6=>∃ y D k g D' k' g',f 6=.agg #[.int .i64 y,.slice D k g,.slice D' k' g']∧RD X (Al X) T4 (.agg #[.int .i64 y,.slice D k g,.slice D' k' g'])
  | 7=>∃ D g,f 7=.slice D bs.length g∧RB X (Al X) D g bs
  | 8=>∃ D g,f 8=.slice D Lx g∧RN X (Al X) D g dx
  | _=>True) (by kernel_rfl) [(16,0),(17,1),(18,2),(19,3),(20,4),(21,5),(22,6),(23,7),(24,8)] (by kernel_rfl) ?_
 refine zt 1 8 [(17,1),(20,4),(21,5)] (fun f X hX hR K hK=>?_) ?_
 · simp only [yZ]
   refine ⟨zc (by kernel_rfl) (jg 80 (.tmp 5) rfl rfl (hX.at_ hq0) Tryz.underlying80 rfl yk rfl ?_)⟩
   exact qe hK (s:=by simp only [yZ])
 refine zt 2 7 [(16,0),(20,4),(21,5)] (fun f X hX hR K hK=>?_) ?_
 · simp only [yZ]
   refine ⟨?_⟩
   go_simp
   exact hK.out _ (.slice (some ⟨X.heap.size,0,none⟩) 2 2) _ (by simp only [yZ]) (zR _ _) trivial (fun Y hY=>⟨_,rfl,RZ.al (show RZ _ (Al _) _ 2 ([1,1].map fun (i:Nat)=>(i:Int)) from jW (w:=X) (P:=Al (X.alloc (.cells #[.int .i64 1,.int .i64 1] 3))) #[.int .i64 1,.int .i64 1] 3 1 2 rfl (by unfold maxLen;omega) (by simp [Al])) hY⟩)
 refine qC 3 6 (fun f=>#[f 0,f 1]) (F':=64) (fun f X hX hR=>?_) ?_
 · have e0:f 0=_:=hR.out 0 rfl
   obtain ⟨b1,(e1:f 1=_),r1⟩:=hR.out 1 rfl
   simp only [e0,e1]
   have hm:=dS T1 _ _ _ 2 [1,1] X (RD.al HD1.out hX) r1 (fun q hq=>hq) (by simp)
   rw [HT3.out] at hm
   refine hm.mono ?_
   rintro e w' ⟨⟨v',rfl,hd⟩,hB⟩
   exact ⟨v',rfl,hB,fun Y hY=>⟨_,rfl,hd.al hY⟩⟩
 refine qC 4 5 (fun f=>#[f 2]) (F':=63) (fun f X hX hR=>?_) ?_
 · obtain ⟨v2,(e2:f 2=_),r2⟩:=hR.out 2 rfl
   simp only [e2]
   have hm:=aV T3 _ X r2
   rw [Hz.out] at hm
   refine hm.mono ?_
   rintro e w' ⟨rfl,hB⟩
   exact ⟨(.int .i64 z),rfl,hB,fun _ _=>rfl⟩
 refine zt 5 4 [(16,0),(17,1),(18,2),(19,3),(21,5)] (fun f X hX hR K hK=>?_) ?_
 · simp only [yZ]
   refine ⟨zc (by kernel_rfl) (jg 80 (.tmp 6) rfl rfl (hX.at_ hq1) Tryz.underlying80 rfl yk rfl ?_)⟩
   exact qe hK (s:=by simp only [yZ])
 refine zt 6 3 [(16,0),(17,1),(18,2),(19,3),(20,4)] (fun f X hX hR K hK=>?_) ?_
 · simp only [yZ]
   refine ⟨?_⟩
   go_simp
   exact hK.out _ (.slice (some ⟨X.heap.size,0,none⟩) 1 1) _ (by simp only [yZ]) (zR _ _) trivial (fun Y hY=>⟨_,rfl,RZ.al (show RZ _ (Al _) _ 1 ([1].map fun (i:Nat)=>(i:Int)) from jW (w:=X) (P:=Al (X.alloc (.cells #[.int .i64 1] 3))) #[.int .i64 1] 3 1 1 rfl (by unfold maxLen;omega) (by simp [Al])) hY⟩)
 refine qC 7 2 (fun f=>#[f 4,f 5]) (F':=64) (fun f X hX hR=>?_) ?_
 · have e4:f 4=_:=hR.out 4 rfl
   obtain ⟨b5,(e5:f 5=_),r5⟩:=hR.out 5 rfl
   simp only [e4,e5]
   have hm:=dS T2 _ _ _ 1 [1] X (RD.al HD2.out hX) r5 (fun q hq=>hq) (by simp)
   rw [HT4.out] at hm
   refine hm.mono ?_
   rintro e w' ⟨⟨v',rfl,hd⟩,hB⟩
   obtain ⟨y6,D6,k6,g6,D7,k7,g7,rfl⟩:=hd.shape
   exact ⟨(.agg #[.int .i64 y6,.slice D6 k6 g6,.slice D7 k7 g7]),rfl,hB,fun Y hY=>⟨_,_,_,_,_,_,_,rfl,hd.al hY⟩⟩
 refine zt 8 1 [(16,0),(17,1),(18,2),(19,3),(20,4),(21,5),(22,6)] (fun f X hX hR K hK=>?_) ?_
 · obtain ⟨y6,D6,k6,g6,D7,k7,g7,(e6:f 6=_),r6⟩:=hR.out 6 rfl
   simp only [yZ,e6]
   refine ⟨?_⟩
   obtain ⟨hk,hr⟩:=r6.bytes
   rw [Hbs.out] at hk hr
   subst hk
   go_simp
   exact hK.out _ (.slice D6 bs.length g6) _ (by simp only [yZ,e6]) (zd _) trivial (fun Y hY=>⟨_,_,rfl,jr hr hY⟩)
 refine qC 9 0 (fun f=>#[f 7]) (F':=65) (fun f X hX hR=>?_) ?_
 · obtain ⟨D8,g8,(e7:f 7=_),r7⟩:=hR.out 7 rfl
   simp only [e7]
   have hm:=xw (Al X) _ _ bs X r7 (fun q hq=>hq) (by have:=Hsm.out;omega)
   rw [Hx.out,Hdx.out,HLx.out] at hm
   refine hm.mono ?_
   rintro e w' ⟨A1,c1,rfl,hO,hB⟩
   exact ⟨(.slice A1 Lx c1),rfl,hB,fun Y hY=>⟨_,_,rfl,RN.al hO.rn hY (fun q hq=>hq.2) hY.bsize⟩⟩
 refine yF ⟨fun f X hX hR hal hap=>?_⟩
 obtain ⟨b1,(e1:f 1=_),r1⟩:=hR 1 (by decide)
 obtain ⟨v2,(e2:f 2=_),r2⟩:=hR 2 (by decide)
 have e3:f 3=_:=hR 3 (by decide)
 obtain ⟨b5,(e5:f 5=_),r5⟩:=hR 5 (by decide)
 obtain ⟨y6,D6,k6,g6,D7,k7,g7,(e6:f 6=_),r6⟩:=hR 6 (by decide)
 obtain ⟨D8,g8,(e7:f 7=_),r7⟩:=hR 7 (by decide)
 obtain ⟨D9,g9,(e8:f 8=_),r8⟩:=hR 8 (by decide)
 simp only [yZ,e1,e2,e3,e5,e6,e7,e8]
 clear hR hal hap e1 e2 e3 e5 e6 e7 e8
 refine zZ (fun K hK=>⟨zc (by kernel_rfl) ?_⟩)
 go_simp
 refine hK.out _ _ ?_
 refine zZ (fun K hK=>⟨zc (by kernel_rfl) ?_⟩)
 go_simp
 refine hK.out _ _ ?_
 refine zK ?_
 have HX:=zF (za HE1.out hX)
 have Hr8:=zF r8
 clear hX r8 hq0 hq1 hf
 have HEc:=tD z (Al X) D9 g9 dx X Hr8.out (fun q hq=>hq)
 rw [Hvx.out,HK.out,HLx.out] at HEc
 have HEc:=zF HEc
 cases Kq with
 | none =>
  have hR:none=R:=by rw [←HR.out];rfl
  subst hR
  go_wp2_with fail
  refine HEc.out.mono ?_
  rintro e w3 ⟨⟨A3,c3,rfl,hr3⟩,hB3⟩
  have HX3:=zF (za HX.out hB3)
  clear hr3 hB3
  have h1:(none:Option (List Nat)).isSome=false:=rfl
  rw [h1]
  go_wp2
  go_ret3
  exact ⟨rfl,HX3.out⟩
 | some k =>
  have h1:(some k).isSome=true:=rfl
  have h2:(some k).getD []=k:=rfl
  go_wp2_with fail
  refine HEc.out.mono ?_
  rintro e w3 ⟨⟨A3,c3,rfl,hr3⟩,hB3⟩
  rw [h2] at hr3
  have HX3:=zF (za HX.out hB3)
  have HEq:=zF (yu (Al w3) (Al w3) A3 A c3 c k b w3 hr3 (HB0.out w3 HX3.out))
  have Hr3:=zF (RN.al Hr8.out hB3 (fun q hq=>hq) hB3.size)
  rw [h1,h2]
  clear hr3 hB3 h1 h2
  by_cases hkb:k=b
  · have hR:some (z,x)=R:=by rw [←HR.out,qE (by rw [hkb])]
    subst hR
    rw [qi hkb] at HEq
    clear hkb
    go_wp2_with fail
    refine HEq.out.mono ?_
    rintro e w4 ⟨rfl,rfl⟩
    go_wp2
    go_ret3
    exact ⟨⟨D9,g9,by rw [Hdx.out,HLx.out];rfl,by rw [Hdx.out];exact Hr3.out⟩,HX3.out⟩
  · have hR:none=R:=by rw [←HR.out,zr (fun h=>hkb (by injection h))]
    subst hR
    rw [qp hkb] at HEq
    clear hkb
    go_wp2_with fail
    refine HEq.out.mono ?_
    rintro e w4 ⟨rfl,rfl⟩
    go_wp2
    go_ret3
    exact ⟨rfl,HX3.out⟩
end Go.Proofs.YtmlbicgpehchhaaGreat.Der
