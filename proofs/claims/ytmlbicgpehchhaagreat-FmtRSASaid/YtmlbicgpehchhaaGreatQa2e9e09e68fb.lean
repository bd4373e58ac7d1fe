/- Laws that the proof rests on. -/
import Derived.Test.YtmlbicgpehchhaaGreatQ1f2b1b5475c9
set_option maxRecDepth 100000
set_option maxHeartbeats 16000000
namespace Go.Proofs.YtmlbicgpehchhaaGreat.Der
open Go.RowKit Go.Shelf
attribute [local go_sem] Oper.semAt_some
def n9:List Nat:=[42,134,72,134,247,13,1,1,1]
theorem re:ww [1,2,840,113549,1,1,1]=n9:=by decide
def jX:DN:=.mk 48 [] [.mk 6 n9 [],.mk 5 [] []]
theorem RDs.al {w w':World}{ks:List DN}{cs:List Value}(h:RDs w (Al w) ks cs) (hb:Below w.heap.size w w'):RDs w' (Al w') ks cs:=(wZ (fun _ hp=>hb.cell hp) h).mono fun q hq=>zR hq hb.size
theorem cL (w:World) :
 Calls Tryz.prog 76 #[] w fun e w'=>(∃ v',e=.returned v'∧RD w' (Al w') jX v')∧Below w.heap.size w w':=by
 obtain ⟨W0,hW0⟩:=eW (w.alloc (.cells #[.int .i64 0,.slice none 0 0,.slice none 0 0] 80))
 obtain ⟨s,hs⟩:=eV w.heap.size
 have hq0:=zP w (.cells #[.int .i64 0,.slice none 0 0,.slice none 0 0] 80)
 have hE:Ext w W0:=by rw [hW0];exact zb _ _
 have hz:W0.heap.size=s+1:=by rw [hW0];simp [hs]
 rw [←hW0,hs] at hq0
 have HE:=zF hE
 have Hz:=zF hz
 have Hs:=zF hs
 clear hE hz hs
 go_enter Tryz.func76,Tryz.ntmps76
 go_upto_region 1 with fail
 rw [←hW0,Hs.out]
 clear hW0
 refine qQ 5 [0,1,0,7,15,31] [] (fun j f X=>match j with
  | 0=>∃ b,f 0=.slice (some ⟨b,0,none⟩) 7 7∧RZ X (Al X) (some ⟨b,0,none⟩) 7 [1,2,840,113549,1,1,1]
  | 1=>∃ A1 c1,f 1=.agg #[.int .i64 6,.slice A1 9 c1,.slice none 0 0]∧RB X (An s X) A1 c1 n9
  | 2=>f 2=.agg #[.int .i64 5,.slice none 0 0,.slice none 0 0]
  | 3=>∃ b A1 c1,f 3=.slice (some ⟨b,0,none⟩) 2 2∧RS X (An s X) 3 (some ⟨b,0,none⟩) 2 2 [.int .i64 6,.slice A1 9 c1,.slice none 0 0,.int .i64 5,.slice none 0 0,.slice none 0 0]∧RB X (An s X) A1 c1 n9
  | 4=>∃ b A1 c1,f 4=.agg #[.int .i64 48,.slice none 0 0,.slice (some ⟨b,0,none⟩) 2 2]∧RS X (An s X) 3 (some ⟨b,0,none⟩) 2 2 [.int .i64 6,.slice A1 9 c1,.slice none 0 0,.int .i64 5,.slice none 0 0,.slice none 0 0]∧RB X (An s X) A1 c1 n9
  | _=>True) (by kernel_rfl) [(1,0),(2,1),(3,2),(4,3),(5,4)] (by kernel_rfl) ?_
 refine qH 1 4 [(3,2)] (fun f X hX hR K hK=>?_) ?_
 · simp only [yZ];refine ⟨?_⟩;go_simp;exact hK.out _ (.slice (some ⟨X.heap.size,0,none⟩) 7 7) _ (by simp only [yZ]) (zb _ _) trivial (fun Y hY=>⟨_,rfl,RZ.al (show RZ _ (Al _) _ 7 [1,2,840,113549,1,1,1] from jM (w:=X) (P:=Al (X.alloc (.cells #[.int .i64 1,.int .i64 2,.int .i64 840,.int .i64 113549,.int .i64 1,.int .i64 1,.int .i64 1] 3))) #[.int .i64 1,.int .i64 2,.int .i64 840,.int .i64 113549,.int .i64 1,.int .i64 1,.int .i64 1] 3 1 7 rfl (by unfold maxLen;omega) (by simp [Al])) hY⟩)
 refine qJ 2 3 (fun f=>#[f 0]) (F':=97) (fun f X hX hR=>?_) ?_
 · obtain ⟨b0,(e0:f 0=_),r0⟩:=hR.out 0 rfl;simp only [e0];refine (gi (Al X) b0 7 [1,2,840,113549,1,1,1] X r0 (fun b hb=>hb) (by simp) rfl (by simp) (gq (by simp))).mono ?_;rw [re];rintro e w' ⟨⟨A1,c1,rfl,hr⟩,hB⟩;exact ⟨(.agg #[.int .i64 6,.slice A1 9 c1,.slice none 0 0]),rfl,hB,fun Y hY=>⟨A1,c1,rfl,RB.an hr hY (fun q hq=>⟨by have:=hq.1;have:=hX.bsize;have:=Hz.out;omega,hq.2⟩) hY.bsize⟩⟩
 refine zf 3 2 ?_
 refine qH 4 1 [(1,0),(2,1),(3,2)] (fun f X hX hR K hK=>?_) ?_
 · obtain ⟨A1,c1,(e1:f 1=_),r1⟩:=hR.out 1 rfl;have e2:f 2=_:=hR.out 2 rfl;simp only [yZ,e1,e2];refine ⟨?_⟩;go_simp;exact hK.out _ (.slice (some ⟨X.heap.size,0,none⟩) 2 2) _ (by simp only [yZ,e1,e2]) (zb _ _) trivial (fun Y hY=>⟨_,A1,c1,rfl,RS.an (jM (w:=X) (P:=An s (X.alloc (.cells #[.int .i64 6,.slice A1 9 c1,.slice none 0 0,.int .i64 5,.slice none 0 0,.slice none 0 0] 80))) #[.int .i64 6,.slice A1 9 c1,.slice none 0 0,.int .i64 5,.slice none 0 0,.slice none 0 0] 80 3 2 rfl (by unfold maxLen;omega) (by have:=hX.bsize;have:=Hz.out;simp [An];omega)) hY,RB.an r1 ((zb _ _).trans hY) (fun q hq=>hq) ((zb _ _).trans hY).bsize⟩)
 refine qJ 5 0 (fun f=>#[f 3]) (F':=47) (fun f X hX hR=>?_) ?_
 · obtain ⟨b3,A3,c3,(e3:f 3=_),s3,r3⟩:=hR.out 3 rfl;simp only [e3];refine (ug (some ⟨b3,0,none⟩) 2 2 X).mono ?_;rintro e w' ⟨rfl,hB⟩;exact ⟨(.agg #[.int .i64 48,.slice none 0 0,.slice (some ⟨b3,0,none⟩) 2 2]),rfl,hB,fun Y hY=>⟨b3,A3,c3,rfl,RS.an s3 (zI hB hY),RB.an r3 (zI hB hY) (fun q hq=>hq) (zI hB hY).bsize⟩⟩
 refine yF ⟨fun f X hX hR hal hap=>?_⟩
 obtain ⟨b0,(e0:f 0=_),r0⟩:=hR 0 (by decide)
 obtain ⟨A1,c1,(e1:f 1=_),r1⟩:=hR 1 (by decide)
 obtain ⟨b3,A3,c3,(e3:f 3=_),s3,r3⟩:=hR 3 (by decide)
 obtain ⟨b4,A4,c4,(e4:f 4=_),s4,r4⟩:=hR 4 (by decide)
 simp only [yZ,e0,e1,e3,e4]
 clear hR hal hap e0 e1 e3 e4
 refine zg (fun K hK=>⟨zZ (by kernel_rfl) (vD 80 (.tmp 0) (.tmp 5) rfl rfl rfl rfl (hX.at_ hq0) yo rfl (mf _ _ _ _ _ _ _) (fun Y1 j1 j2 j3=>hK.out _ _ ?_))⟩)
 refine zU ?_
 go_wp2
 have HEX:Ext w X:=zI HE.out hX
 have hs:=Hs.out
 refine uE rfl rfl rfl j1 ⟨⟨_,rfl,RD.just (RD.seq s4 (jg (wi r4 (by decide)) (jg (wi (tag:=5) (vn _ _) (by decide)) RDs.nil_)) rfl) j2 j3⟩,?_⟩
 exact j2.ext HEX (by omega)
theorem gx (w:World) :
 Calls Tryz.prog 83 #[] w fun e w'=>(∃ v',e=.returned v'∧RD w' (Al w') jX v')∧Below w.heap.size w w':=by
 obtain ⟨W0,hW0⟩:=eW (w.alloc (.cells #[.int .i64 0,.slice none 0 0,.slice none 0 0] 80))
 obtain ⟨s,hs⟩:=eV w.heap.size
 have hq0:=zP w (.cells #[.int .i64 0,.slice none 0 0,.slice none 0 0] 80)
 have hE:Ext w W0:=by rw [hW0];exact zb _ _
 have hz:W0.heap.size=s+1:=by rw [hW0];simp [hs]
 rw [←hW0,hs] at hq0
 have HE:=zF hE
 have Hz:=zF hz
 have Hs:=zF hs
 clear hE hz hs
 go_enter Tryz.func83,Tryz.ntmps83
 go_upto_region 1 with fail
 rw [←hW0,Hs.out]
 clear hW0
 refine qQ 5 [0,1,0,7,15,31] [] (fun j f X=>match j with
  | 0=>∃ b,f 0=.slice (some ⟨b,0,none⟩) 7 7∧RZ X (Al X) (some ⟨b,0,none⟩) 7 [1,2,840,113549,1,1,1]
  | 1=>∃ A1 c1,f 1=.agg #[.int .i64 6,.slice A1 9 c1,.slice none 0 0]∧RB X (An s X) A1 c1 n9
  | 2=>f 2=.agg #[.int .i64 5,.slice none 0 0,.slice none 0 0]
  | 3=>∃ b A1 c1,f 3=.slice (some ⟨b,0,none⟩) 2 2∧RS X (An s X) 3 (some ⟨b,0,none⟩) 2 2 [.int .i64 6,.slice A1 9 c1,.slice none 0 0,.int .i64 5,.slice none 0 0,.slice none 0 0]∧RB X (An s X) A1 c1 n9
  | 4=>∃ b A1 c1,f 4=.agg #[.int .i64 48,.slice none 0 0,.slice (some ⟨b,0,none⟩) 2 2]∧RS X (An s X) 3 (some ⟨b,0,none⟩) 2 2 [.int .i64 6,.slice A1 9 c1,.slice none 0 0,.int .i64 5,.slice none 0 0,.slice none 0 0]∧RB X (An s X) A1 c1 n9
  | _=>True) (by kernel_rfl) [(1,0),(2,1),(3,2),(4,3),(5,4)] (by kernel_rfl) ?_
 refine qH 1 4 [(3,2)] (fun f X hX hR K hK=>?_) ?_
 · simp only [yZ];refine ⟨?_⟩;go_simp;exact hK.out _ (.slice (some ⟨X.heap.size,0,none⟩) 7 7) _ (by simp only [yZ]) (zb _ _) trivial (fun Y hY=>⟨_,rfl,RZ.al (show RZ _ (Al _) _ 7 [1,2,840,113549,1,1,1] from jM (w:=X) (P:=Al (X.alloc (.cells #[.int .i64 1,.int .i64 2,.int .i64 840,.int .i64 113549,.int .i64 1,.int .i64 1,.int .i64 1] 3))) #[.int .i64 1,.int .i64 2,.int .i64 840,.int .i64 113549,.int .i64 1,.int .i64 1,.int .i64 1] 3 1 7 rfl (by unfold maxLen;omega) (by simp [Al])) hY⟩)
 refine qJ 2 3 (fun f=>#[f 0]) (F':=107) (fun f X hX hR=>?_) ?_
 · obtain ⟨b0,(e0:f 0=_),r0⟩:=hR.out 0 rfl;simp only [e0];refine (su (Al X) b0 7 [1,2,840,113549,1,1,1] X r0 (fun b hb=>hb) (by simp) rfl (by simp) (rM (by simp))).mono ?_;rw [re];rintro e w' ⟨⟨A1,c1,rfl,hr⟩,hB⟩;exact ⟨(.agg #[.int .i64 6,.slice A1 9 c1,.slice none 0 0]),rfl,hB,fun Y hY=>⟨A1,c1,rfl,RB.an hr hY (fun q hq=>⟨by have:=hq.1;have:=hX.bsize;have:=Hz.out;omega,hq.2⟩) hY.bsize⟩⟩
 refine zf 3 2 ?_
 refine qH 4 1 [(1,0),(2,1),(3,2)] (fun f X hX hR K hK=>?_) ?_
 · obtain ⟨A1,c1,(e1:f 1=_),r1⟩:=hR.out 1 rfl;have e2:f 2=_:=hR.out 2 rfl;simp only [yZ,e1,e2];refine ⟨?_⟩;go_simp;exact hK.out _ (.slice (some ⟨X.heap.size,0,none⟩) 2 2) _ (by simp only [yZ,e1,e2]) (zb _ _) trivial (fun Y hY=>⟨_,A1,c1,rfl,RS.an (jM (w:=X) (P:=An s (X.alloc (.cells #[.int .i64 6,.slice A1 9 c1,.slice none 0 0,.int .i64 5,.slice none 0 0,.slice none 0 0] 80))) #[.int .i64 6,.slice A1 9 c1,.slice none 0 0,.int .i64 5,.slice none 0 0,.slice none 0 0] 80 3 2 rfl (by unfold maxLen;omega) (by have:=hX.bsize;have:=Hz.out;simp [An];omega)) hY,RB.an r1 ((zb _ _).trans hY) (fun q hq=>hq) ((zb _ _).trans hY).bsize⟩)
 refine qJ 5 0 (fun f=>#[f 3]) (F':=53) (fun f X hX hR=>?_) ?_
 · obtain ⟨b3,A3,c3,(e3:f 3=_),s3,r3⟩:=hR.out 3 rfl;simp only [e3];refine (yg (some ⟨b3,0,none⟩) 2 2 X).mono ?_;rintro e w' ⟨rfl,hB⟩;exact ⟨(.agg #[.int .i64 48,.slice none 0 0,.slice (some ⟨b3,0,none⟩) 2 2]),rfl,hB,fun Y hY=>⟨b3,A3,c3,rfl,RS.an s3 (zI hB hY),RB.an r3 (zI hB hY) (fun q hq=>hq) (zI hB hY).bsize⟩⟩
 refine yF ⟨fun f X hX hR hal hap=>?_⟩
 obtain ⟨b0,(e0:f 0=_),r0⟩:=hR 0 (by decide)
 obtain ⟨A1,c1,(e1:f 1=_),r1⟩:=hR 1 (by decide)
 obtain ⟨b3,A3,c3,(e3:f 3=_),s3,r3⟩:=hR 3 (by decide)
 obtain ⟨b4,A4,c4,(e4:f 4=_),s4,r4⟩:=hR 4 (by decide)
 simp only [yZ,e0,e1,e3,e4]
 clear hR hal hap e0 e1 e3 e4
 refine zg (fun K hK=>⟨zZ (by kernel_rfl) (vD 80 (.tmp 0) (.tmp 5) rfl rfl rfl rfl (hX.at_ hq0) yo rfl (mf _ _ _ _ _ _ _) (fun Y1 j1 j2 j3=>hK.out _ _ ?_))⟩)
 refine zU ?_
 go_wp2
 have HEX:Ext w X:=zI HE.out hX
 have hs:=Hs.out
 refine uE rfl rfl rfl j1 ⟨⟨_,rfl,RD.just (RD.seq s4 (jg (wi r4 (by decide)) (jg (wi (tag:=5) (vn _ _) (by decide)) RDs.nil_)) rfl) j2 j3⟩,?_⟩
 exact j2.ext HEX (by omega)
end Go.Proofs.YtmlbicgpehchhaaGreat.Der
namespace Go.Proofs.YtmlbicgpehchhaaGreat
open Go.RowKit
attribute [local go_sem] Oper.semAt_some
theorem oU {m:Nat} : ∀ (n s:Nat),s≤n→∀ r t u,t<m→u<m→(kt m r s t u).2<m:=by
 intro n;induction n with
 | zero =>
   intro s hs r t u ht hu;obtain rfl:s=0:=by omega
   rw [yR];exact ht
 | succ n ih =>
   intro s hs r t u ht hu;rcases za s with rfl | h0
   · rw [yR];exact ht
   · rw [un (by omega)];exact ih (r % s) (by have:=qP r h0;omega) s u _ hu (qP _ (by omega))
theorem fK {x m:Nat}(hm:2≤m):(kD x m).1<m:=by
 unfold kD;split
 · exact oU (x % m) _ (zH _) _ _ _ (by omega) (by omega)
 · show 0<m;omega
theorem kd {a b:Nat}(h:a≤b):zo a≤zo b:=by
 by_cases h0:b=0
 · obtain rfl:a=0:=by omega
   rw [h0];exact zH _
 · exact kh (jB h (kC h0).2.1)
structure VK (n e d p q:Nat):Prop where
 n4:zo n≤4096
 e4:zo e≤4096
 d4:zo d≤4096
 p4:zo p≤4096
 q4:zo q≤4096
 p2:2≤p
 q2:2≤q
theorem zCC {n e d p q:Nat}(h:vOf n e d p q=true):VK n e d p q:=by
 unfold vOf at h;simp only [wN,vg] at h;obtain ⟨⟨⟨⟨⟨⟨⟨⟨⟨⟨⟨h1,h2⟩,h3⟩,h4⟩,h5⟩,h6⟩,h7⟩,h8⟩,h9⟩,h10⟩,h11⟩,h12⟩:=h;have hn:0<n:=by omega
 have hb:=yP h8 hn;exact ⟨h2,zQ (kd (qt h5)) h2,zQ (kd (qt h4)) h2,by omega,by omega,uU h9,uU h10⟩
theorem aj {A:Option Addr}{c:Nat}{a:List Nat}{X:Nat}{w:World}(h:RU w A c a) (hX:val 18446744073709551616 a=X) (hl:a.length<100000) (h1:1≤X) :
 Calls Tryz.prog 75 #[.slice A a.length c] w fun e w'=>∃ A1 c1,e=.returned (.slice A1 (digs 18446744073709551616 (X - 1)).length c1)∧RU w' A1 c1 (digs 18446744073709551616 (X - 1))∧Ext w w':=by
 have Hh:=zF h
 have HX:=zF hX
 have H1:=zF h1
 have Hl:=zF hl
 clear h hX h1 hl
 go_enter Tryz.func75,Tryz.ntmps75
 go_wp2_with fail
 refine (xN 1 w (by omega)).mono ?_
 rintro e w1 ⟨A1,c1,rfl,hO,hB⟩
 have HB:=zF (show Ext w w1 from hB)
 have HO:=zF hO
 clear hB hO
 go_wp2_with fail
 have hs:=fU _ _ A A1 c c1 a (digs 18446744073709551616 1) w1 (Hh.out.up HB.out) HO.out.ru jq jq Hl.out (by rw [HX.out,zc (by omega)];exact H1.out)
 rw [HX.out,zc (by omega)] at hs
 refine hs.mono ?_
 rintro e w2 ⟨A2,c2,rfl,hO2,hB2⟩
 have HB2:=zF (zI HB.out hB2)
 have HO2:=zF hO2
 clear hO2 hB2 hs
 go_wp2
 go_ret
 exact ⟨A2,c2,rfl,HO2.out.ru,HB2.out⟩
theorem af {A A':Option Addr}{c c':Nat}{a b:List Nat}{X M:Nat}{w:World}(h:RU w A c a) (h':RU w A' c' b) (hX:val 18446744073709551616 a=X) (hM:val 18446744073709551616 b=M) (hl:a.length<90000) (hl':b.length<90000) (h0:0<M) :
 Calls Tryz.prog 74 #[.slice A a.length c,.slice A' b.length c'] w fun e w'=>∃ A1 c1,e=.returned (.slice A1 (digs 18446744073709551616 (X % M)).length c1)∧RU w' A1 c1 (digs 18446744073709551616 (X % M))∧Ext w w':=by
 have hq:=uB _ _ A A' c c' a b w h h' jq jq hl hl' (by rw [hM];exact h0)
 rw [hX,hM] at hq
 have Hq:=zF hq
 clear h h' hX hM hl hl' h0 hq
 go_enter Tryz.func74,Tryz.ntmps74
 go_wp2_with fail
 refine Hq.out.mono ?_
 rintro e w1 ⟨A1,c1,A2,c2,rfl,hO1,hO2,hB⟩
 have HB:=zF (show Ext w w1 from hB)
 have HO2:=zF hO2
 clear hO1 hB hO2 Hq
 go_wp2
 go_ret
 exact ⟨A2,c2,rfl,HO2.out.ru,HB.out⟩
theorem zAn {A A':Option Addr}{c c':Nat}{a b:List Nat}{X M:Nat}{w:World}(h:NV w A c a X) (h':NV w A' c' b M) (hM2:2≤M) (hX:zo X≤4096) (hM:zo M≤4096) :
 Calls Tryz.prog 72 #[.slice A a.length c,.slice A' b.length c'] w fun e w'=>∃ A1 c1,e=.returned (.tuple #[.slice A1 (digs 18446744073709551616 (kD X M).1).length c1,.bool (kD X M).2])∧RU w' A1 c1 (digs 18446744073709551616 (kD X M).1)∧Ext w w':=by
 have hi:=oT _ _ A A' c c' a b X M w h.1 h'.1 jq jq h.2.1 h'.2.1 hM2 (by have:=h.2.2;omega) (by have:=h'.2.2;omega) ⟨hX,hM⟩
 rw [pw] at hi
 refine hi.mono ?_
 rintro e w' ⟨A1,c1,rfl,hO,hB⟩
 exact ⟨A1,c1,rfl,hO.ru,hB⟩
open Der in
theorem xo {A:Option Addr}{c:Nat}{a:List Nat}{x:Nat}{w:World}(h:RU w A c a) (hx:val 18446744073709551616 a=x) (hb:zo x≤4096) :
 Calls Tryz.prog 73 #[.slice A a.length c] w fun e w'=>(∃ A1 c1,e=.returned (.agg #[.int .i64 2,.slice A1 (ja x).length c1,.slice none 0 0])∧RB w' (Al w') A1 c1 (ja x))∧Ext w w':=by
 refine (mh _ A c a x w h jq (by omega) hx).mono ?_
 rintro e w' ⟨⟨A1,c1,rfl,hr⟩,hB⟩
 exact ⟨⟨A1,c1,rfl,hr.mono (fun q hq=>hq.2)⟩,hB⟩
end Go.Proofs.YtmlbicgpehchhaaGreat
namespace Go.Proofs.YtmlbicgpehchhaaGreat.Der
open Go.RowKit Go.Shelf
attribute [local go_sem] Oper.semAt_some
def WrB (R:Option (List Nat)) (e:Ending) (w':World):Prop:=∃ A c,e=.returned (.tuple #[.slice A (R.getD []).length c,.bool R.isSome])∧RB w' (Al w') A c (R.getD [])
theorem fP {t:DN}{b:List Nat}(h:vR t=some b):b.length≤65536:=by
 unfold vR at h;split at h
 · cases h
 split at h
 · cases h
 · cases h;omega
theorem WrP.b {t:DN}{s:Nat}{e:Ending}{w':World}(h:WrP (vR t) s e w'):WrB (vR t) e w':=by
 cases hR:vR t with
 | none=>rw [hR] at h;exact ⟨none,0,h,vn _ _⟩
 | some b =>
  rw [hR] at h;obtain ⟨A,c,rfl,hO⟩:=h;have:=fP hR;exact ⟨A,c,rfl,(hO.rb (by omega)).mono fun q hq=>hq.2⟩
def fm (ta:DN) (b:List Nat):DN:=.mk 48 [] [.mk 2 [0] [],ta,.mk 4 b []]
def xw (ta tk:DN):Option (List Nat):=(vR tk).bind fun b=>vR (fm ta b)
theorem oB (w:World):Calls Tryz.prog 48 #[.int .u64 0] w fun e w'=>(∃ A1 c1,e=.returned (.agg #[.int .i64 2,.slice A1 1 c1,.slice none 0 0])∧RB w' (In w.heap.size w'.heap.size) A1 c1 [0])∧Below w.heap.size w w':=cl 0 (by omega) w
theorem zAa (w:World):Calls Tryz.prog 48 #[.int .u64 1] w fun e w'=>(∃ A1 c1,e=.returned (.agg #[.int .i64 2,.slice A1 1 c1,.slice none 0 0])∧RB w' (In w.heap.size w'.heap.size) A1 c1 [1])∧Below w.heap.size w w':=cl 1 (by omega) w
theorem nc (w:World):Calls Tryz.prog 54 #[.int .u64 0] w fun e w'=>(∃ A1 c1,e=.returned (.agg #[.int .i64 2,.slice A1 1 c1,.slice none 0 0])∧RB w' (In w.heap.size w'.heap.size) A1 c1 [0])∧Below w.heap.size w w':=pV 0 (by omega) w
theorem RB.up {w w':World}{A:Option Addr}{c:Nat}{bs:List Nat}(h:RB w (Al w) A c bs) (hb:Below w.heap.size w w'):RB w' (Al w') A c bs:=RB.al h hb (fun q hq=>hq) hb.size
theorem oV (ta tk:DN) (va vk:Value) (w:World) (ha:RD w (Al w) ta va) (hk:RD w (Al w) tk vk) :
 Calls Tryz.prog 45 #[va,vk] w fun e w'=>WrB (xw ta tk) e w'∧Below w.heap.size w w':=by
 obtain ⟨xi,B1,n1,d1,B2,n2,d2,rfl⟩:=ha.shape
 obtain ⟨yi,D1,m1,k1,D2,m2,k2,rfl⟩:=hk.shape
 obtain ⟨W0,hW0⟩:=eW ((w.alloc (.cells #[.int .i64 xi,.slice B1 n1 d1,.slice B2 n2 d2] 80)).alloc (.cells #[.int .i64 yi,.slice D1 m1 k1,.slice D2 m2 k2] 80))
 obtain ⟨s,hs⟩:=eV w.heap.size
 obtain ⟨hq0,hq1,hz⟩:=aL w (.cells #[.int .i64 xi,.slice B1 n1 d1,.slice B2 n2 d2] 80) (.cells #[.int .i64 yi,.slice D1 m1 k1,.slice D2 m2 k2] 80)
 have hE:Below s w W0:=by rw [hW0,←hs];exact ((zO _ w).alloc (zH _) _).alloc (by simp) _
 rw [←hW0,hs] at hq0 hq1 hz
 have HWk:=zF ((xB (Al W0) tk _ W0 (hk.al (hs▸hE)) (fun q hq=>hq)).mono fun e w' h=>(⟨h.1.b,h.2⟩:WrB (vR tk) e w'∧Below W0.heap.size W0 w'))
 have HD:=zF (ha.al (hs▸hE))
 obtain ⟨R,hR⟩:=eV (xw ta tk)
 rw [hR,hs]
 unfold xw at hR
 obtain ⟨Rk,hRk⟩:=eV (vR tk)
 rw [hRk] at HWk hR
 have HE:=zF hE
 have Hz:=zF hz
 have Hs:=zF hs
 have HR:=zF hR
 have q0:=zJ hq1 0
 have q1:=zJ hq1 1
 have q2:=zJ hq1 2
 simp only [zK,zL,zS] at q0 q1 q2
 clear ha hk hE hz hs hR hRk
 go_enter Tryz.func45,Tryz.ntmps45
 go_upto_region 1 with fail
 rw [←hW0]
 clear hW0
 simp only [qL,Hs.out]
 go_wp2_with fail
 refine HWk.out.mono ?_
 rintro e w1 ⟨⟨Ab,cb,rfl,hr⟩,hB1⟩
 have HB1:=zF (HE.out.trans (hB1.mono (show s≤W0.heap.size by have:=Hz.out;omega)))
 have hqa:=(hB1.block s (by have:=Hz.out;omega)).trans hq0
 have HD1:=zF (HD.out.al hB1)
 clear hB1 hq0 hq1 q0 q1 q2 HWk HD HE
 cases Rk with
 | none =>
  have hR:none=R:=HR.out;subst hR;go_wp2;go_ret2;exact ⟨⟨_,_,rfl,vn _ _⟩,HB1.out⟩
 | some b =>
  have hg:(some b).getD []=b:=rfl;rw [hg] at hr ⊢;have hi:(some b).isSome=true:=rfl;rw [hi];have hr:=hr;have Hr:=zF hr;have HRT:Hid (vR (fm ta b)=R):=HR;obtain ⟨N,hN⟩:=eV b.length;have HN:=zF hN;rw [hN];clear hr hg hi hN HR;obtain ⟨bs,hbs⟩:=eV (R.getD []);obtain ⟨ok,hok⟩:=eV R.isSome;obtain ⟨M,hM⟩:=eV bs.length;have Hbs:=zF hbs;have Hok:=zF hok;have HM:=zF hM;clear hbs hok hM;go_upto_region 4 with fail
  refine z8 (by kernel_rfl) 11 [0,0,0,5,15,31,63,127,127,511,1023] [] (fun j f X=>match j with
   | 0=>∃ A1 c1,f 0=.agg #[.int .i64 2,.slice A1 1 c1,.slice none 0 0]∧RB X (Al X) A1 c1 [0]
   | 1=>f 1=.agg #[.int .i64 xi,.slice B1 n1 d1,.slice B2 n2 d2]
   | 2=>f 2=.slice Ab N cb
   | 3=>f 3=.agg #[.int .i64 4,.slice Ab N cb,.slice none 0 0]
   | 4=>∃ b A1 c1,f 4=.slice (some ⟨b,0,none⟩) 3 3∧RS X (Al X) 3 (some ⟨b,0,none⟩) 3 3 [.int .i64 2,.slice A1 1 c1,.slice none 0 0,.int .i64 xi,.slice B1 n1 d1,.slice B2 n2 d2,.int .i64 4,.slice Ab N cb,.slice none 0 0]∧RB X (Al X) A1 c1 [0]
   | 5=>∃ b A1 c1,f 5=.agg #[.int .i64 48,.slice none 0 0,.slice (some ⟨b,0,none⟩) 3 3]∧RS X (Al X) 3 (some ⟨b,0,none⟩) 3 3 [.int .i64 2,.slice A1 1 c1,.slice none 0 0,.int .i64 xi,.slice B1 n1 d1,.slice B2 n2 d2,.int .i64 4,.slice Ab N cb,.slice none 0 0]∧RB X (Al X) A1 c1 [0]
   | 6=>∃ A1 c1,f 6=.tuple #[.slice A1 M c1,.bool ok]∧RB X (Al X) A1 c1 bs
   | 7=>∃ A1 c1,f 7=.slice A1 M c1∧RB X (Al X) A1 c1 bs
   | 8=>f 8=.bool ok
   | 9=>∃ A1 c1,f 9=.slice A1 M c1∧RB X (Al X) A1 c1 bs
   | 10=>f 10=.bool ok
   | _=>True) (by kernel_rfl) [(15,0),(16,1),(17,2),(18,3),(19,4),(20,5),(21,6),(22,7),(23,8),(4,9),(5,10)] (by kernel_rfl) ?_
  refine qJ 1 10 (fun _=>#[Value.int IntKind.u64 0]) (F':=48) (fun f X hX hR=>?_) ?_
  · refine (oB X).mono ?_;rintro e w' ⟨⟨A1,c1,rfl,hr⟩,hB⟩;exact ⟨(.agg #[.int .i64 2,.slice A1 1 c1,.slice none 0 0]),rfl,hB,fun Y hY=>⟨A1,c1,rfl,RB.al hr hY (fun q hq=>hq.2) hY.bsize⟩⟩
  refine qH 2 9 [(15,0),(17,2),(18,3)] (fun f X hX hR K hK=>?_) ?_
  · simp only [yZ];refine ⟨zZ (by kernel_rfl) (vf 80 (.tmp 2) rfl rfl (hX.at_ hqa) Tryz.underlying80 rfl yo rfl ?_)⟩;exact jA hK (s:=by simp only [yZ])
  refine zf 3 8 ?_;refine qJ 4 7 (fun f=>#[f 2]) (F':=49) (fun f X hX hR=>?_) ?_
  · have e2:f 2=_:=hR.out 2 rfl;simp only [e2];refine (cj Ab N cb X).mono ?_;rintro e w' ⟨rfl,hB⟩;exact ⟨(.agg #[.int .i64 4,.slice Ab N cb,.slice none 0 0]),rfl,hB,fun _ _=>rfl⟩
  refine qH 5 6 [(15,0),(16,1),(17,2),(18,3)] (fun f X hX hR K hK=>?_) ?_
  · obtain ⟨A0,c0,(e0:f 0=_),r0⟩:=hR.out 0 rfl;have e1:f 1=_:=hR.out 1 rfl;have e3:f 3=_:=hR.out 3 rfl;simp only [yZ,e0,e1,e3];refine ⟨?_⟩;go_simp;exact hK.out _ (.slice (some ⟨X.heap.size,0,none⟩) 3 3) _ (by simp only [yZ,e0,e1,e3]) (zb _ _) trivial (fun Y hY=>⟨_,A0,c0,rfl,RS.al (jM (w:=X) (P:=Al (X.alloc (.cells #[.int .i64 2,.slice A0 1 c0,.slice none 0 0,.int .i64 xi,.slice B1 n1 d1,.slice B2 n2 d2,.int .i64 4,.slice Ab N cb,.slice none 0 0] 80))) #[.int .i64 2,.slice A0 1 c0,.slice none 0 0,.int .i64 xi,.slice B1 n1 d1,.slice B2 n2 d2,.int .i64 4,.slice Ab N cb,.slice none 0 0] 80 3 3 rfl (by unfold maxLen;omega) (by simp [Al])) hY,RB.up r0 ((zb _ _).trans hY)⟩)
  refine qJ 6 5 (fun f=>#[f 4]) (F':=47) (fun f X hX hR=>?_) ?_
  · obtain ⟨b4,A4,c4,(e4:f 4=_),s4,r4⟩:=hR.out 4 rfl;simp only [e4];refine (ug (some ⟨b4,0,none⟩) 3 3 X).mono ?_;rintro e w' ⟨rfl,hB⟩;exact ⟨(.agg #[.int .i64 48,.slice none 0 0,.slice (some ⟨b4,0,none⟩) 3 3]),rfl,hB,fun Y hY=>⟨b4,A4,c4,rfl,RS.al s4 (zI hB hY),RB.up r4 (zI hB hY)⟩⟩
  refine qJ 7 4 (fun f=>#[f 5]) (F':=85) (fun f X hX hR=>?_) ?_
  · obtain ⟨b5,A5,c5,(e5:f 5=_),s5,r5⟩:=hR.out 5 rfl;simp only [e5];have hlf:=wi (tag:=4) (RB.up Hr.out hX) (by decide);rw [HN.out] at hlf;have hT:RD X (Al X) (fm ta b) (.agg #[.int .i64 48,.slice none 0 0,.slice (some ⟨b5,0,none⟩) 3 3]):=RD.seq s5 (jg (wi r5 (by decide)) (jg (HD1.out.al hX) (jg hlf RDs.nil_))) rfl;refine (xB (Al X) _ _ X hT (fun q hq=>hq)).mono ?_;rintro e w' ⟨hW,hB⟩;have hW:=WrP.b hW;rw [HRT.out] at hW;obtain ⟨A6,c6,rfl,hr6⟩:=hW;rw [Hok.out,Hbs.out,HM.out];rw [Hbs.out] at hr6;exact ⟨(.tuple #[.slice A6 M c6,.bool ok]),rfl,hB,fun Y hY=>⟨A6,c6,rfl,RB.up hr6 hY⟩⟩
  refine qH 8 3 [(15,0),(16,1),(17,2),(18,3),(19,4),(20,5),(21,6),(23,8)] (fun f X hX hR K hK=>?_) ?_
  · obtain ⟨A6,c6,(e6:f 6=_),r6⟩:=hR.out 6 rfl;simp only [yZ,e6];refine ⟨?_⟩;go_simp;exact hK.out _ (.slice A6 M c6) _ (by simp only [yZ,e6]) (zy _) trivial (fun Y hY=>⟨A6,c6,rfl,RB.up r6 hY⟩)
  refine qH 9 2 [(15,0),(16,1),(17,2),(18,3),(19,4),(20,5),(21,6),(22,7)] (fun f X hX hR K hK=>?_) ?_
  · obtain ⟨A6,c6,(e6:f 6=_),r6⟩:=hR.out 6 rfl;simp only [yZ,e6];refine ⟨?_⟩;go_simp;exact jA hK (s:=by simp only [yZ,e6])
  refine qH 10 1 [(15,0),(16,1),(17,2),(18,3),(19,4),(20,5),(21,6),(22,7),(23,8)] (fun f X hX hR K hK=>?_) ?_
  · obtain ⟨A7,c7,(e7:f 7=_),r7⟩:=hR.out 7 rfl;simp only [yZ,e7];refine ⟨?_⟩;go_simp;exact hK.out _ (.slice A7 M c7) _ (by simp only [yZ,e7]) (zy _) trivial (fun Y hY=>⟨A7,c7,rfl,RB.up r7 hY⟩)
  refine qM 11 0 8 ?_;refine yF ⟨fun f X hX hR hal hap=>?_⟩;obtain ⟨A0,c0,(e0:f 0=_),r0⟩:=hR 0 (by decide);obtain ⟨b4,A4,c4,(e4:f 4=_),s4,r4⟩:=hR 4 (by decide);obtain ⟨b5,A5,c5,(e5:f 5=_),s5,r5⟩:=hR 5 (by decide);obtain ⟨A6,c6,(e6:f 6=_),r6⟩:=hR 6 (by decide);obtain ⟨A7,c7,(e7:f 7=_),r7⟩:=hR 7 (by decide);obtain ⟨A9,c9,(e9:f 9=_),r9⟩:=hR 9 (by decide);have e10:f 10=_:=hR 10 (by decide);simp only [yZ,e0,e4,e5,e6,e7,e9,e10];clear hR hal hap e0 e4 e5 e6 e7 e9 e10;refine zU ?_;have HX:=zF (show Below s w X from HB1.out.trans (Below.mono hX (by have:=HB1.out.size;have:=Hs.out;omega)));have Hr9:=zF r9;clear r9 hX;go_wp2;go_ret2;exact ⟨⟨A9,c9,by rw [Hbs.out,HM.out,Hok.out];rfl,by rw [Hbs.out];exact Hr9.out⟩,HX.out⟩
end Go.Proofs.YtmlbicgpehchhaaGreat.Der
namespace Go.Proofs.YtmlbicgpehchhaaGreat
theorem jk:type_of% @Der.RB.up:=@Der.RB.up
end Go.Proofs.YtmlbicgpehchhaaGreat
namespace Go.Proofs.YtmlbicgpehchhaaGreat.Der
open Go.RowKit Go.Shelf
attribute [local go_sem] Oper.semAt_some
def wR (x:Nat):DN:=.mk 2 (ja x) []
def kB (n e d p q:Nat):List DN:=[.mk 2 [0] [],wR n,wR e,wR d,wR p,wR q,wR (d % (p - 1)),wR (d % (q - 1)),wR (kD q p).1]
def gH (n e d p q:Nat):Option (List Nat):=if vOf n e d p q=true then xw jX (.mk 48 [] (kB n e d p q)) else none
theorem gg {x m k:Nat}(hm:0<m) (h:zo m≤k):zo (x % m)≤k:=zQ (kd (qt (qP x hm))) h
theorem xu {w:World}{A:Option Addr}{c x L:Nat}(h:RB w (Al w) A c (ja x)) (hL:(ja x).length=L):RD w (Al w) (wR x) (.agg #[.int .i64 2,.slice A L c,.slice none 0 0]):=by
 subst hL;exact wi h (by decide)
theorem rb_an {w:World}{A:Option Addr}{c g:Nat}{bs:List Nat}{x:Int}{B1 B2:Option Addr}{n1 d1 n2 d2:Nat}{ty:TypeId}{fz:Nat×Nat}(h:RB w (Al w) A c bs) (hg:w.heap[g]?=some (.cells #[.int .i64 x,.slice B1 n1 d1,.slice B2 n2 d2] ty fz)):RB w (An g w) A c bs:=by
 obtain ⟨⟨h1,h2,h3,h4⟩,h5⟩:=h;refine ⟨⟨h1,h2,h3,fun hn=>?_⟩,h5⟩;obtain ⟨ad,rfl,hb,hc⟩:=h4 hn;refine ⟨ad,rfl,⟨fun e=>?_,hb⟩,hc⟩;obtain ⟨b,bs',rfl⟩:∃ b bs',bs=b :: bs':=by cases bs with | nil=>simp at hn | cons b bs'=>exact ⟨b,bs',rfl⟩
 have h0:=hc 0 (.int .u8 (b:Int)) rfl;rw [show ad.add 0=ad from by simp [Addr.add]] at h0;obtain ⟨bl,off,fld⟩:=ad;obtain rfl:bl=g:=e;simp only [World.cell?] at h0;rw [hg] at h0;cases fld with
 | none=>rcases off with _ | _ | _ | off <;> simp at h0
 | some k=>simp at h0
theorem zAJ {w:World}{g:Nat}{x:Int}{B1 B2:Option Addr}{n1 d1 n2 d2:Nat}{ty:TypeId}{fz:Nat×Nat}(hg:w.heap[g]?=some (.cells #[.int .i64 x,.slice B1 n1 d1,.slice B2 n2 d2] ty fz)):∀ {ks:List DN}{cs:List Value},(∀ k∈ks,∃ t bs,k=.mk t bs [])→RDs w (Al w) ks cs→RDs w (An g w) ks cs
 | [],cs,_,h=>by unfold RDs at h ⊢;exact h
 | k :: ks,cs,hl,h=>by
  unfold RDs at h ⊢;obtain ⟨a,b,c,rest,rfl,h1,h2⟩:=h;obtain ⟨t,bs,rfl⟩:=hl k List.mem_cons_self;refine ⟨a,b,c,rest,rfl,?_,zAJ hg (fun k hk=>hl k (List.mem_cons_of_mem _ hk)) h2⟩;unfold RD at h1 ⊢;obtain ⟨A,c',Ak,ck,cs',e1,e2,e3,e4,e5⟩:=h1;exact ⟨A,c',Ak,ck,cs',e1,rb_an e2 hg,e3,⟨e4.1,e4.2.1,e4.2.2.1,fun hn=>by simp at hn⟩,by unfold RDs at e5 ⊢;exact e5⟩
theorem rs_an {w:World}{b g n c m:Nat}{cs:List Value}{x0 x1 x2:Value}{ty:TypeId}{fz:Nat×Nat}(h:RS w (Al w) 3 (some ⟨b,0,none⟩) n c cs) (hn:2≤n) (hg:w.heap[g]?=some (.cells #[x0,x1,x2] ty fz)) (hm:cs.length=m):RS w (An g w) 3 (some ⟨b,0,none⟩) n c cs:=by
 obtain ⟨h1,h2,h3,h4⟩:=h;refine ⟨h1,h2,h3,fun hn'=>?_⟩;obtain ⟨ad,e,hb,hc⟩:=h4 hn';cases e;refine ⟨_,rfl,⟨fun e=>?_,hb⟩,hc⟩;obtain rfl:b=g:=e;have hlt:3<cs.length:=by omega
 have:=hc 3 _ (qO hlt);rw [xZ] at this;simp only [World.cell?] at this;rw [hg] at this;simp at this
theorem tF {n e d p q:Nat} : ∀ k∈kB n e d p q,∃ t bs,k=.mk t bs []:=by
 intro k hk;simp only [kB,wR,ya,xT,or_false] at hk;rcases hk with h | h | h | h | h | h | h | h | h <;> exact ⟨_,_,h⟩
theorem oP {v:Value}{n e d p q:Nat}(w:World) (hk:RK w v n e d p q) :
 Calls Tryz.prog 21 #[v] w fun ev w'=>WrB (gH n e d p q) ev w'∧Below w.heap.size w w':=by
 have hk2:=hk
 obtain ⟨A0,A1,A2,A3,A4,c0,c1,c2,c3,c4,l0,l1,l2,l3,l4,rfl,h0,h1,h2,h3,h4⟩:=hk
 obtain ⟨W0,hW0⟩:=eW (w.alloc (.cells #[.slice A0 l0.length c0,.slice A1 l1.length c1,.slice A2 l2.length c2,.slice A3 l3.length c3,.slice A4 l4.length c4] 48))
 obtain ⟨s,hs⟩:=eV w.heap.size
 have hq0:=zP w (.cells #[.slice A0 l0.length c0,.slice A1 l1.length c1,.slice A2 l2.length c2,.slice A3 l3.length c3,.slice A4 l4.length c4] 48)
 have hE:Ext w W0:=by rw [hW0];exact zb _ _
 rw [←hW0,hs] at hq0
 have HV:=zF (sN W0 (hk2.ext hE))
 have H0:=fun X (hX:Ext W0 X)=>h0.ext (zI hE hX)
 have H1:=fun X (hX:Ext W0 X)=>h1.ext (zI hE hX)
 have H2:=fun X (hX:Ext W0 X)=>h2.ext (zI hE hX)
 have H3:=fun X (hX:Ext W0 X)=>h3.ext (zI hE hX)
 have H4:=fun X (hX:Ext W0 X)=>h4.ext (zI hE hX)
 have hvk:=@zCC n e d p q
 have hR0:gH n e d p q=if vOf n e d p q=true then xw jX (.mk 48 [] (kB n e d p q)) else none:=rfl
 obtain ⟨R,hR⟩:=eV (gH n e d p q)
 obtain ⟨V,hV⟩:=eV (vOf n e d p q)
 rw [hR,hV] at hR0
 rw [hV] at HV hvk
 rw [hR]
 have HE0:=zF hE
 have Hs:=zF hs
 have Hq0:=zF hq0
 have HR0:=zF hR0
 obtain ⟨L0,hL0⟩:=eV ((ja n).length)
 obtain ⟨L1,hL1⟩:=eV ((ja e).length)
 obtain ⟨L2,hL2⟩:=eV ((ja d).length)
 obtain ⟨L3,hL3⟩:=eV ((ja p).length)
 obtain ⟨L4,hL4⟩:=eV ((ja q).length)
 obtain ⟨L6,hL6⟩:=eV ((ja (d % (p - 1))).length)
 obtain ⟨L7,hL7⟩:=eV ((ja (d % (q - 1))).length)
 obtain ⟨L8,hL8⟩:=eV ((ja (kD q p).1).length)
 obtain ⟨m1,hm1⟩:=eV ((digs 18446744073709551616 (p - 1)).length)
 obtain ⟨m2,hm2⟩:=eV ((digs 18446744073709551616 (q - 1)).length)
 obtain ⟨m3,hm3⟩:=eV ((digs 18446744073709551616 (d % (p - 1))).length)
 obtain ⟨m4,hm4⟩:=eV ((digs 18446744073709551616 (d % (q - 1))).length)
 obtain ⟨m5,hm5⟩:=eV ((digs 18446744073709551616 (kD q p).1).length)
 have HI0:=zF (fun (hv:V=true) X (hX:Ext W0 X)=>(hL0▸xo (H0 X hX).1 (H0 X hX).2.1 (hvk hv).n4:Calls Tryz.prog 73 #[.slice A0 l0.length c0] X fun ev w'=>(∃ A1 c1,ev=.returned (.agg #[.int .i64 2,.slice A1 L0 c1,.slice none 0 0])∧RB w' (Al w') A1 c1 (ja n))∧Ext X w'))
 have HI1:=zF (fun (hv:V=true) X (hX:Ext W0 X)=>(hL1▸xo (H1 X hX).1 (H1 X hX).2.1 (hvk hv).e4:Calls Tryz.prog 73 #[.slice A1 l1.length c1] X fun ev w'=>(∃ A1 c1,ev=.returned (.agg #[.int .i64 2,.slice A1 L1 c1,.slice none 0 0])∧RB w' (Al w') A1 c1 (ja e))∧Ext X w'))
 have HI2:=zF (fun (hv:V=true) X (hX:Ext W0 X)=>(hL2▸xo (H2 X hX).1 (H2 X hX).2.1 (hvk hv).d4:Calls Tryz.prog 73 #[.slice A2 l2.length c2] X fun ev w'=>(∃ A1 c1,ev=.returned (.agg #[.int .i64 2,.slice A1 L2 c1,.slice none 0 0])∧RB w' (Al w') A1 c1 (ja d))∧Ext X w'))
 have HI3:=zF (fun (hv:V=true) X (hX:Ext W0 X)=>(hL3▸xo (H3 X hX).1 (H3 X hX).2.1 (hvk hv).p4:Calls Tryz.prog 73 #[.slice A3 l3.length c3] X fun ev w'=>(∃ A1 c1,ev=.returned (.agg #[.int .i64 2,.slice A1 L3 c1,.slice none 0 0])∧RB w' (Al w') A1 c1 (ja p))∧Ext X w'))
 have HI4:=zF (fun (hv:V=true) X (hX:Ext W0 X)=>(hL4▸xo (H4 X hX).1 (H4 X hX).2.1 (hvk hv).q4:Calls Tryz.prog 73 #[.slice A4 l4.length c4] X fun ev w'=>(∃ A1 c1,ev=.returned (.agg #[.int .i64 2,.slice A1 L4 c1,.slice none 0 0])∧RB w' (Al w') A1 c1 (ja q))∧Ext X w'))
 have HI6:=zF (fun (hv:V=true) X (A:Option Addr) (c:Nat) (h:RU X A c (digs 18446744073709551616 (d % (p - 1))))=>(hL6▸hm3▸xo h (zc (by omega) _) (gg (by have:=(hvk hv).p2;omega) (zQ (kd (xF p 1)) (hvk hv).p4)):Calls Tryz.prog 73 #[.slice A m3 c] X fun ev w'=>(∃ A1 c1,ev=.returned (.agg #[.int .i64 2,.slice A1 L6 c1,.slice none 0 0])∧RB w' (Al w') A1 c1 (ja (d % (p - 1))))∧Ext X w'))
 have HI7:=zF (fun (hv:V=true) X (A:Option Addr) (c:Nat) (h:RU X A c (digs 18446744073709551616 (d % (q - 1))))=>(hL7▸hm4▸xo h (zc (by omega) _) (gg (by have:=(hvk hv).q2;omega) (zQ (kd (xF q 1)) (hvk hv).q4)):Calls Tryz.prog 73 #[.slice A m4 c] X fun ev w'=>(∃ A1 c1,ev=.returned (.agg #[.int .i64 2,.slice A1 L7 c1,.slice none 0 0])∧RB w' (Al w') A1 c1 (ja (d % (q - 1))))∧Ext X w'))
 have HI8:=zF (fun (hv:V=true) X (A:Option Addr) (c:Nat) (h:RU X A c (digs 18446744073709551616 (kD q p).1))=>(hL8▸hm5▸xo h (zc (by omega) _) (zQ (kd (qt (fK (hvk hv).p2))) (hvk hv).p4):Calls Tryz.prog 73 #[.slice A m5 c] X fun ev w'=>(∃ A1 c1,ev=.returned (.agg #[.int .i64 2,.slice A1 L8 c1,.slice none 0 0])∧RB w' (Al w') A1 c1 (ja (kD q p).1))∧Ext X w'))
 have lp:(digs 18446744073709551616 (p - 1)).length≤20000:=by
  have h:=H3 W0 (zy _);refine zQ (qg (by omega) (xF p 1)) ?_;rw [←h.2.1];exact zQ (ql (by omega) h.1.2.1) h.2.2
 have lq:(digs 18446744073709551616 (q - 1)).length≤20000:=by
  have h:=H4 W0 (zy _);refine zQ (qg (by omega) (xF q 1)) ?_;rw [←h.2.1];exact zQ (ql (by omega) h.1.2.1) h.2.2
 have HLp:=zF (fun (hv:V=true) X (hX:Ext W0 X)=>(hm1▸aj (H3 X hX).1 (H3 X hX).2.1 (by have:=(H3 X hX).2.2;omega) (by have:=(hvk hv).p2;omega):Calls Tryz.prog 75 #[.slice A3 l3.length c3] X fun e w'=>∃ A1 c1,e=.returned (.slice A1 m1 c1)∧RU w' A1 c1 (digs 18446744073709551616 (p - 1))∧Ext X w'))
 have HLq:=zF (fun (hv:V=true) X (hX:Ext W0 X)=>(hm2▸aj (H4 X hX).1 (H4 X hX).2.1 (by have:=(H4 X hX).2.2;omega) (by have:=(hvk hv).q2;omega):Calls Tryz.prog 75 #[.slice A4 l4.length c4] X fun e w'=>∃ A1 c1,e=.returned (.slice A1 m2 c1)∧RU w' A1 c1 (digs 18446744073709551616 (q - 1))∧Ext X w'))
 have HRp:=zF (fun (hv:V=true) X (hX:Ext W0 X) (A:Option Addr) (c:Nat) (h:RU X A c (digs 18446744073709551616 (p - 1)))=>(hm3▸hm1▸af (H2 X hX).1 h (H2 X hX).2.1 (zc (by omega) _) (by have:=(H2 X hX).2.2;omega) (by omega) (by have:=(hvk hv).p2;omega):Calls Tryz.prog 74 #[.slice A2 l2.length c2,.slice A m1 c] X fun e w'=>∃ A1 c1,e=.returned (.slice A1 m3 c1)∧RU w' A1 c1 (digs 18446744073709551616 (d % (p - 1)))∧Ext X w'))
 have HRq:=zF (fun (hv:V=true) X (hX:Ext W0 X) (A:Option Addr) (c:Nat) (h:RU X A c (digs 18446744073709551616 (q - 1)))=>(hm4▸hm2▸af (H2 X hX).1 h (H2 X hX).2.1 (zc (by omega) _) (by have:=(H2 X hX).2.2;omega) (by omega) (by have:=(hvk hv).q2;omega):Calls Tryz.prog 74 #[.slice A2 l2.length c2,.slice A m2 c] X fun e w'=>∃ A1 c1,e=.returned (.slice A1 m4 c1)∧RU w' A1 c1 (digs 18446744073709551616 (d % (q - 1)))∧Ext X w'))
 have HIv:=zF (fun (hv:V=true) X (hX:Ext W0 X)=>(hm5▸zAn (H4 X hX) (H3 X hX) (hvk hv).p2 (hvk hv).q4 (hvk hv).p4:Calls Tryz.prog 72 #[.slice A4 l4.length c4,.slice A3 l3.length c3] X fun e w'=>∃ A1 c1,e=.returned (.tuple #[.slice A1 m5 c1,.bool (kD q p).2])∧RU w' A1 c1 (digs 18446744073709551616 (kD q p).1)∧Ext X w'))
 obtain ⟨iv,hiv⟩:=eV ((kD q p).2)
 rw [hiv] at HIv
 have HL0:=zF hL0
 have HL1:=zF hL1
 have HL2:=zF hL2
 have HL3:=zF hL3
 have HL4:=zF hL4
 have HL6:=zF hL6
 have HL7:=zF hL7
 have HL8:=zF hL8
 clear hk2 h0 h1 h2 h3 h4 H0 H1 H2 H3 H4 hvk hR0 hR hV hE hs hq0 hL0 hL1 hL2 hL3 hL4 hL6 hL7 hL8 hm1 hm2 hm3 hm4 hm5 lp lq hiv
 go_enter Tryz.func21,Tryz.ntmps21
 go_upto_region 1 with fail
 rw [←hW0,Hs.out]
 clear hW0
 obtain ⟨y0,y1,y2,y3,y4⟩:=jO Hq0.out
 go_wp2_with fail
 refine HV.out.mono ?_
 rintro e9 w1 ⟨rfl,hx⟩
 have HE:=zF (show Ext W0 w1 from hx)
 clear hx y0 y1 y2 y3 y4 HV
 cases V
 · have hR:none=R:=by rw [HR0.out];rfl
   subst hR;go_wp2;go_ret2;exact ⟨⟨_,_,rfl,vn _ _⟩,zI HE0.out HE.out⟩
 have hR:xw jX (.mk 48 [] (kB n e d p q))=R:=by rw [HR0.out];rfl
 have HR:=zF hR
 replace HI0:=zF (HI0.out rfl)
 replace HI1:=zF (HI1.out rfl)
 replace HI2:=zF (HI2.out rfl)
 replace HI3:=zF (HI3.out rfl)
 replace HI4:=zF (HI4.out rfl)
 replace HI6:=zF (HI6.out rfl)
 replace HI7:=zF (HI7.out rfl)
 replace HI8:=zF (HI8.out rfl)
 replace HLp:=zF (HLp.out rfl)
 replace HLq:=zF (HLq.out rfl)
 replace HRp:=zF (HRp.out rfl)
 replace HRq:=zF (HRq.out rfl)
 replace HIv:=zF (HIv.out rfl)
 clear hR HR0
 obtain ⟨y0,y1,y2,y3,y4⟩:=jO (jQ HE.out Hq0.out)
 go_upto_region 3 with fail
 go_wp2_with fail
 refine (HIv.out w1 HE.out).mono ?_
 rintro e9 w2 ⟨Ai,ci,rfl,hri,hx⟩
 replace HE:=zF (zI HE.out hx)
 have HRi:=zF hri
 clear hx hri y0 y1 y2 y3 y4 HIv
 obtain ⟨y0,y1,y2,y3,y4⟩:=jO (jQ HE.out Hq0.out)
 go_upto_region 4 with fail
 refine z8 (by kernel_rfl) 35 [0,0,2,7,0,16,63,0,128,511,0,1024,4095,0,8192,32767,0,65536,0,262144,851967,2097151,4194303,0,8388608,0,33554432,109051903,268435455,536870911,0,2147483647,4294967295,8589934591,0,34359738367] [34] (fun j f X=>match j with
  | 0=>∃ A1 c1,f 0=.agg #[.int .i64 2,.slice A1 1 c1,.slice none 0 0]∧RB X (Al X) A1 c1 [0]
  | 1=>f 1=.pointer (some ⟨s,0,none⟩)
  | 2=>f 2=.slice A0 l0.length c0
  | 3=>∃ A1 c1,f 3=.agg #[.int .i64 2,.slice A1 L0 c1,.slice none 0 0]∧RB X (Al X) A1 c1 (ja n)
  | 4=>f 4=.pointer (some ⟨s,1,none⟩)
  | 5=>f 5=.slice A1 l1.length c1
  | 6=>∃ A1 c1,f 6=.agg #[.int .i64 2,.slice A1 L1 c1,.slice none 0 0]∧RB X (Al X) A1 c1 (ja e)
  | 7=>f 7=.pointer (some ⟨s,2,none⟩)
  | 8=>f 8=.slice A2 l2.length c2
  | 9=>∃ A1 c1,f 9=.agg #[.int .i64 2,.slice A1 L2 c1,.slice none 0 0]∧RB X (Al X) A1 c1 (ja d)
  | 10=>f 10=.pointer (some ⟨s,3,none⟩)
  | 11=>f 11=.slice A3 l3.length c3
  | 12=>∃ A1 c1,f 12=.agg #[.int .i64 2,.slice A1 L3 c1,.slice none 0 0]∧RB X (Al X) A1 c1 (ja p)
  | 13=>f 13=.pointer (some ⟨s,4,none⟩)
  | 14=>f 14=.slice A4 l4.length c4
  | 15=>∃ A1 c1,f 15=.agg #[.int .i64 2,.slice A1 L4 c1,.slice none 0 0]∧RB X (Al X) A1 c1 (ja q)
  | 16=>f 16=.pointer (some ⟨s,2,none⟩)
  | 17=>f 17=.slice A2 l2.length c2
  | 18=>f 18=.pointer (some ⟨s,3,none⟩)
  | 19=>f 19=.slice A3 l3.length c3
  | 20=>∃ A1 c1,f 20=.slice A1 m1 c1∧RU X A1 c1 (digs 18446744073709551616 (p - 1))
  | 21=>∃ A1 c1,f 21=.slice A1 m3 c1∧RU X A1 c1 (digs 18446744073709551616 (d % (p - 1)))
  | 22=>∃ A1 c1,f 22=.agg #[.int .i64 2,.slice A1 L6 c1,.slice none 0 0]∧RB X (Al X) A1 c1 (ja (d % (p - 1)))
  | 23=>f 23=.pointer (some ⟨s,2,none⟩)
  | 24=>f 24=.slice A2 l2.length c2
  | 25=>f 25=.pointer (some ⟨s,4,none⟩)
  | 26=>f 26=.slice A4 l4.length c4
  | 27=>∃ A1 c1,f 27=.slice A1 m2 c1∧RU X A1 c1 (digs 18446744073709551616 (q - 1))
  | 28=>∃ A1 c1,f 28=.slice A1 m4 c1∧RU X A1 c1 (digs 18446744073709551616 (d % (q - 1)))
  | 29=>∃ A1 c1,f 29=.agg #[.int .i64 2,.slice A1 L7 c1,.slice none 0 0]∧RB X (Al X) A1 c1 (ja (d % (q - 1)))
  | 30=>f 30=.slice Ai m5 ci
  | 31=>∃ A1 c1,f 31=.agg #[.int .i64 2,.slice A1 L8 c1,.slice none 0 0]∧RB X (Al X) A1 c1 (ja (kD q p).1)
  | 32=>∃ b cs,f 32=.slice (some ⟨b,0,none⟩) 9 9∧RS X (Al X) 3 (some ⟨b,0,none⟩) 9 9 cs∧RDs X (Al X) (kB n e d p q) cs
  | 33=>∃ b cs,f 33=.agg #[.int .i64 48,.slice none 0 0,.slice (some ⟨b,0,none⟩) 9 9]∧RS X (Al X) 3 (some ⟨b,0,none⟩) 9 9 cs∧RDs X (Al X) (kB n e d p q) cs
  | 34=>∃ b,f 34=.pointer (some ⟨b,0,none⟩)∧w2.heap.size≤b∧X.heap[b]?=some (.cells #[.int .i64 0,.slice none 0 0,.slice none 0 0] 80 (0,0))
  | _=>True) (by kernel_rfl) [(18,0),(19,1),(20,2),(21,3),(22,4),(23,5),(24,6),(25,7),(26,8),(27,9),(28,10),(29,11),(30,12),(31,13),(32,14),(33,15),(34,16),(35,17),(36,18),(37,19),(38,20),(39,21),(40,22),(41,23),(42,24),(43,25),(44,26),(45,27),(46,28),(47,29),(48,30),(49,31),(50,32),(51,33),(6,34)] (by kernel_rfl) ?_
 refine qJ 1 34 (fun _=>#[Value.int IntKind.u64 0]) (F':=48) (fun f X hX hR=>?_) ?_
 · refine (oB X).mono ?_;rintro e w' ⟨⟨Ax,cx,rfl,hr⟩,hB⟩;exact ⟨(.agg #[.int .i64 2,.slice Ax 1 cx,.slice none 0 0]),rfl,hB,fun Y hY=>⟨Ax,cx,rfl,RB.al hr hY (fun q hq=>hq.2) hY.bsize⟩⟩
 refine zf 2 33 ?_
 refine q9 3 32 1 y0 ?_
 refine qJ 4 31 (fun f=>#[f 2]) (F':=73) (fun f X hX hR=>?_) ?_
 · have e2:f 2=_:=hR.out 2 rfl;simp only [e2];refine (HI0.out  X (zI HE.out hX)).mono ?_;rintro e w' ⟨⟨Ax,cx,rfl,hr⟩,hB⟩;exact ⟨(.agg #[.int .i64 2,.slice Ax L0 cx,.slice none 0 0]),rfl,hB,fun Y hY=>⟨Ax,cx,rfl,jk hr hY⟩⟩
 refine zf 5 30 ?_
 refine q9 6 29 4 y1 ?_
 refine qJ 7 28 (fun f=>#[f 5]) (F':=73) (fun f X hX hR=>?_) ?_
 · have e5:f 5=_:=hR.out 5 rfl;simp only [e5];refine (HI1.out  X (zI HE.out hX)).mono ?_;rintro e w' ⟨⟨Ax,cx,rfl,hr⟩,hB⟩;exact ⟨(.agg #[.int .i64 2,.slice Ax L1 cx,.slice none 0 0]),rfl,hB,fun Y hY=>⟨Ax,cx,rfl,jk hr hY⟩⟩
 refine zf 8 27 ?_
 refine q9 9 26 7 y2 ?_
 refine qJ 10 25 (fun f=>#[f 8]) (F':=73) (fun f X hX hR=>?_) ?_
 · have e8:f 8=_:=hR.out 8 rfl;simp only [e8];refine (HI2.out  X (zI HE.out hX)).mono ?_;rintro e w' ⟨⟨Ax,cx,rfl,hr⟩,hB⟩;exact ⟨(.agg #[.int .i64 2,.slice Ax L2 cx,.slice none 0 0]),rfl,hB,fun Y hY=>⟨Ax,cx,rfl,jk hr hY⟩⟩
 refine zf 11 24 ?_
 refine q9 12 23 10 y3 ?_
 refine qJ 13 22 (fun f=>#[f 11]) (F':=73) (fun f X hX hR=>?_) ?_
 · have e11:f 11=_:=hR.out 11 rfl;simp only [e11];refine (HI3.out  X (zI HE.out hX)).mono ?_;rintro e w' ⟨⟨Ax,cx,rfl,hr⟩,hB⟩;exact ⟨(.agg #[.int .i64 2,.slice Ax L3 cx,.slice none 0 0]),rfl,hB,fun Y hY=>⟨Ax,cx,rfl,jk hr hY⟩⟩
 refine zf 14 21 ?_
 refine q9 15 20 13 y4 ?_
 refine qJ 16 19 (fun f=>#[f 14]) (F':=73) (fun f X hX hR=>?_) ?_
 · have e14:f 14=_:=hR.out 14 rfl;simp only [e14];refine (HI4.out  X (zI HE.out hX)).mono ?_;rintro e w' ⟨⟨Ax,cx,rfl,hr⟩,hB⟩;exact ⟨(.agg #[.int .i64 2,.slice Ax L4 cx,.slice none 0 0]),rfl,hB,fun Y hY=>⟨Ax,cx,rfl,jk hr hY⟩⟩
 refine zf 17 18 ?_
 refine q9 18 17 16 y2 ?_
 refine zf 19 16 ?_
 refine q9 20 15 18 y3 ?_
 refine qJ 21 14 (fun f=>#[f 19]) (F':=75) (fun f X hX hR=>?_) ?_
 · have e19:f 19=_:=hR.out 19 rfl;simp only [e19];refine (HLp.out  X (zI HE.out hX)).mono ?_;rintro e w' ⟨Ax,cx,rfl,hr,hB⟩;exact ⟨(.slice Ax m1 cx),rfl,hB,fun Y hY=>⟨Ax,cx,rfl,qm hr hY⟩⟩
 refine qJ 22 13 (fun f=>#[f 17,f 20]) (F':=74) (fun f X hX hR=>?_) ?_
 · have e17:f 17=_:=hR.out 17 rfl;obtain ⟨B20,k20,(e20:f 20=_),r20⟩:=hR.out 20 rfl;simp only [e17,e20];refine (HRp.out  X (zI HE.out hX) _ _ r20).mono ?_;rintro e w' ⟨Ax,cx,rfl,hr,hB⟩;exact ⟨(.slice Ax m3 cx),rfl,hB,fun Y hY=>⟨Ax,cx,rfl,qm hr hY⟩⟩
 refine qJ 23 12 (fun f=>#[f 21]) (F':=73) (fun f X hX hR=>?_) ?_
 · obtain ⟨B21,k21,(e21:f 21=_),r21⟩:=hR.out 21 rfl;simp only [e21];refine (HI6.out  X _ _ r21).mono ?_;rintro e w' ⟨⟨Ax,cx,rfl,hr⟩,hB⟩;exact ⟨(.agg #[.int .i64 2,.slice Ax L6 cx,.slice none 0 0]),rfl,hB,fun Y hY=>⟨Ax,cx,rfl,jk hr hY⟩⟩
 refine zf 24 11 ?_
 refine q9 25 10 23 y2 ?_
 refine zf 26 9 ?_
 refine q9 27 8 25 y4 ?_
 refine qJ 28 7 (fun f=>#[f 26]) (F':=75) (fun f X hX hR=>?_) ?_
 · have e26:f 26=_:=hR.out 26 rfl;simp only [e26];refine (HLq.out  X (zI HE.out hX)).mono ?_;rintro e w' ⟨Ax,cx,rfl,hr,hB⟩;exact ⟨(.slice Ax m2 cx),rfl,hB,fun Y hY=>⟨Ax,cx,rfl,qm hr hY⟩⟩
 refine qJ 29 6 (fun f=>#[f 24,f 27]) (F':=74) (fun f X hX hR=>?_) ?_
 · have e24:f 24=_:=hR.out 24 rfl;obtain ⟨B27,k27,(e27:f 27=_),r27⟩:=hR.out 27 rfl;simp only [e24,e27];refine (HRq.out  X (zI HE.out hX) _ _ r27).mono ?_;rintro e w' ⟨Ax,cx,rfl,hr,hB⟩;exact ⟨(.slice Ax m4 cx),rfl,hB,fun Y hY=>⟨Ax,cx,rfl,qm hr hY⟩⟩
 refine qJ 30 5 (fun f=>#[f 28]) (F':=73) (fun f X hX hR=>?_) ?_
 · obtain ⟨B28,k28,(e28:f 28=_),r28⟩:=hR.out 28 rfl;simp only [e28];refine (HI7.out  X _ _ r28).mono ?_;rintro e w' ⟨⟨Ax,cx,rfl,hr⟩,hB⟩;exact ⟨(.agg #[.int .i64 2,.slice Ax L7 cx,.slice none 0 0]),rfl,hB,fun Y hY=>⟨Ax,cx,rfl,jk hr hY⟩⟩
 refine zf 31 4 ?_
 refine qJ 32 3 (fun f=>#[f 30]) (F':=73) (fun f X hX hR=>?_) ?_
 · have e30:f 30=_:=hR.out 30 rfl;simp only [e30];refine (HI8.out  X _ _ (qm HRi.out hX)).mono ?_;rintro e w' ⟨⟨Ax,cx,rfl,hr⟩,hB⟩;exact ⟨(.agg #[.int .i64 2,.slice Ax L8 cx,.slice none 0 0]),rfl,hB,fun Y hY=>⟨Ax,cx,rfl,jk hr hY⟩⟩
 refine qH 33 2 [(18,0),(19,1),(20,2),(21,3),(22,4),(23,5),(24,6),(25,7),(26,8),(27,9),(28,10),(29,11),(30,12),(31,13),(32,14),(33,15),(34,16),(35,17),(36,18),(37,19),(38,20),(39,21),(40,22),(41,23),(42,24),(43,25),(44,26),(45,27),(46,28),(47,29),(48,30),(49,31),(6,34)] (fun f X hX hR K hK=>?_) ?_
 · obtain ⟨B0,k0,(e0:f 0=_),r0⟩:=hR.out 0 rfl;obtain ⟨B3,k3,(e3:f 3=_),r3⟩:=hR.out 3 rfl;obtain ⟨B6,k6,(e6:f 6=_),r6⟩:=hR.out 6 rfl;obtain ⟨B9,k9,(e9:f 9=_),r9⟩:=hR.out 9 rfl;obtain ⟨B12,k12,(e12:f 12=_),r12⟩:=hR.out 12 rfl;obtain ⟨B15,k15,(e15:f 15=_),r15⟩:=hR.out 15 rfl;obtain ⟨B22,k22,(e22:f 22=_),r22⟩:=hR.out 22 rfl;obtain ⟨B29,k29,(e29:f 29=_),r29⟩:=hR.out 29 rfl;obtain ⟨B31,k31,(e31:f 31=_),r31⟩:=hR.out 31 rfl;have hkids:RDs X (Al X) (kB n e d p q) [.int .i64 2,.slice B0 1 k0,.slice none 0 0,.int .i64 2,.slice B3 L0 k3,.slice none 0 0,.int .i64 2,.slice B6 L1 k6,.slice none 0 0,.int .i64 2,.slice B9 L2 k9,.slice none 0 0,.int .i64 2,.slice B12 L3 k12,.slice none 0 0,.int .i64 2,.slice B15 L4 k15,.slice none 0 0,.int .i64 2,.slice B22 L6 k22,.slice none 0 0,.int .i64 2,.slice B29 L7 k29,.slice none 0 0,.int .i64 2,.slice B31 L8 k31,.slice none 0 0]:=jg (wi (tag:=2) r0 (by decide)) (jg (xu r3 HL0.out) (jg (xu r6 HL1.out) (jg (xu r9 HL2.out) (jg (xu r12 HL3.out) (jg (xu r15 HL4.out) (jg (xu r22 HL6.out) (jg (xu r29 HL7.out) (jg (xu r31 HL8.out) (RDs.nil_)))))))));simp only [yZ,e0,e3,e6,e9,e12,e15,e22,e29,e31];refine ⟨?_⟩;go_simp;exact hK.out _ (.slice (some ⟨X.heap.size,0,none⟩) 9 9) _ (by simp only [yZ,e0,e3,e6,e9,e12,e15,e22,e29,e31]) (zb _ _) trivial (fun Y hY=>⟨_,_,rfl,RS.al (jM (w:=X) (P:=Al (X.alloc (.cells #[.int .i64 2,.slice B0 1 k0,.slice none 0 0,.int .i64 2,.slice B3 L0 k3,.slice none 0 0,.int .i64 2,.slice B6 L1 k6,.slice none 0 0,.int .i64 2,.slice B9 L2 k9,.slice none 0 0,.int .i64 2,.slice B12 L3 k12,.slice none 0 0,.int .i64 2,.slice B15 L4 k15,.slice none 0 0,.int .i64 2,.slice B22 L6 k22,.slice none 0 0,.int .i64 2,.slice B29 L7 k29,.slice none 0 0,.int .i64 2,.slice B31 L8 k31,.slice none 0 0] 80))) #[.int .i64 2,.slice B0 1 k0,.slice none 0 0,.int .i64 2,.slice B3 L0 k3,.slice none 0 0,.int .i64 2,.slice B6 L1 k6,.slice none 0 0,.int .i64 2,.slice B9 L2 k9,.slice none 0 0,.int .i64 2,.slice B12 L3 k12,.slice none 0 0,.int .i64 2,.slice B15 L4 k15,.slice none 0 0,.int .i64 2,.slice B22 L6 k22,.slice none 0 0,.int .i64 2,.slice B29 L7 k29,.slice none 0 0,.int .i64 2,.slice B31 L8 k31,.slice none 0 0] 80 3 9 rfl (by unfold maxLen;omega) (by simp [Al])) hY,RDs.al hkids ((zb _ _).trans hY)⟩)
 refine qJ 34 1 (fun f=>#[f 32]) (F':=47) (fun f X hX hR=>?_) ?_
 · obtain ⟨b32,cs32,(e32:f 32=_),s32,d32⟩:=hR.out 32 rfl;simp only [e32];refine (ug (some ⟨b32,0,none⟩) 9 9 X).mono ?_;rintro e w' ⟨rfl,hB⟩;exact ⟨(.agg #[.int .i64 48,.slice none 0 0,.slice (some ⟨b32,0,none⟩) 9 9]),rfl,hB,fun Y hY=>⟨b32,_,rfl,RS.al s32 (zI hB hY),RDs.al d32 (zI hB hY)⟩⟩
 refine vB 35 0 ?_
 refine yF ⟨fun f X hX hR hal hap=>?_⟩
 obtain ⟨B0,k0,(e0:f 0=_),r0⟩:=hR 0 (by decide)
 obtain ⟨B3,k3,(e3:f 3=_),r3⟩:=hR 3 (by decide)
 obtain ⟨B6,k6,(e6:f 6=_),r6⟩:=hR 6 (by decide)
 obtain ⟨B9,k9,(e9:f 9=_),r9⟩:=hR 9 (by decide)
 obtain ⟨B12,k12,(e12:f 12=_),r12⟩:=hR 12 (by decide)
 obtain ⟨B15,k15,(e15:f 15=_),r15⟩:=hR 15 (by decide)
 obtain ⟨B20,k20,(e20:f 20=_),r20⟩:=hR 20 (by decide)
 obtain ⟨B21,k21,(e21:f 21=_),r21⟩:=hR 21 (by decide)
 obtain ⟨B22,k22,(e22:f 22=_),r22⟩:=hR 22 (by decide)
 obtain ⟨B27,k27,(e27:f 27=_),r27⟩:=hR 27 (by decide)
 obtain ⟨B28,k28,(e28:f 28=_),r28⟩:=hR 28 (by decide)
 obtain ⟨B29,k29,(e29:f 29=_),r29⟩:=hR 29 (by decide)
 obtain ⟨B31,k31,(e31:f 31=_),r31⟩:=hR 31 (by decide)
 obtain ⟨b32,cs32,(e32:f 32=_),s32,d32⟩:=hR 32 (by decide)
 obtain ⟨b33,cs33,(e33:f 33=_),s33,d33⟩:=hR 33 (by decide)
 obtain ⟨b34,(e34:f 34=_),l34,h34⟩:=hR 34 (by decide)
 simp only [yZ,e0,e3,e6,e9,e12,e15,e20,e21,e22,e27,e28,e29,e31,e32,e33,e34]
 clear hR hal hap e0 e3 e6 e9 e12 e15 e20 e21 e22 e27 e28 e29 e31 e32 e33 e34
 refine zg (fun K hK=>⟨zZ (by kernel_rfl) (vD 80 (.tmp 6) (.tmp 51) rfl rfl rfl rfl h34 yo rfl (mf _ _ _ _ _ _ _) (fun Y1 j1 j2 j3=>hK.out _ _ ?_))⟩)
 refine zU ?_
 have hD:=RD.just (RD.seq (rs_an s33 (by omega) h34 rfl) (zAJ h34 tF d33) rfl) j2 j3
 have hY:Ext w2 Y1:=j2.ext hX l34
 replace HE:=zF (zI HE.out hY)
 have HD:=zF hD
 have Hj:=zF j1
 clear hD hY hX s33 d33 j1 j2 j3 h34 l34 y0 y1 y2 y3 y4
 obtain ⟨bs,hbs⟩:=eV (R.getD [])
 obtain ⟨ok,hok⟩:=eV R.isSome
 obtain ⟨M,hM⟩:=eV bs.length
 have Hbs:=zF hbs
 have Hok:=zF hok
 have HM:=zF hM
 clear hbs hok hM
 have hj:=Hj.out
 go_upto_region 5 with fail
 refine z8 (by kernel_rfl) 7 [0,0,3,7,7,31,63] [] (fun j f X=>match j with
  | 0=>∃ v,f 0=v∧RD X (Al X) jX v
  | 1=>f 1=.agg #[.int .i64 48,.slice none 0 0,.slice (some ⟨b33,0,none⟩) 9 9]
  | 2=>∃ A1 c1,f 2=.tuple #[.slice A1 M c1,.bool ok]∧RB X (Al X) A1 c1 bs
  | 3=>∃ A1 c1,f 3=.slice A1 M c1∧RB X (Al X) A1 c1 bs
  | 4=>f 4=.bool ok
  | 5=>∃ A1 c1,f 5=.slice A1 M c1∧RB X (Al X) A1 c1 bs
  | 6=>f 6=.bool ok
  | _=>True) (by kernel_rfl) [(52,0),(53,1),(54,2),(55,3),(56,4),(2,5),(3,6)] (by kernel_rfl) ?_
 refine qJ 1 6 (fun _=>#[]) (F':=76) (fun f X hX hR=>?_) ?_
 · refine (cL X).mono ?_;rintro e w' ⟨⟨v1,rfl,hd⟩,hB⟩;exact ⟨v1,rfl,hB,fun Y hY=>⟨v1,rfl,RD.al hd hY⟩⟩
 refine lV0 2 5 hj yo ?_
 refine qJ 3 4 (fun f=>#[f 0,f 1]) (F':=45) (fun f X hX hR=>?_) ?_
 · obtain ⟨v0,(e0:f 0=_),d0⟩:=hR.out 0 rfl;have e1:f 1=_:=hR.out 1 rfl;simp only [e0,e1];refine (oV _ _ _ _ X d0 (RD.al HD.out hX)).mono ?_;rintro e w' ⟨hW,hB⟩;rw [HR.out] at hW;obtain ⟨A7,c7,rfl,hr7⟩:=hW;rw [Hok.out,Hbs.out,HM.out];rw [Hbs.out] at hr7;exact ⟨(.tuple #[.slice A7 M c7,.bool ok]),rfl,hB,fun Y hY=>⟨A7,c7,rfl,jk hr7 hY⟩⟩
 refine qH 4 3 [(52,0),(53,1),(54,2),(56,4)] (fun f X hX hR K hK=>?_) ?_
 · obtain ⟨A5,c5,(e2:f 2=_),r2⟩:=hR.out 2 rfl;simp only [yZ,e2];refine ⟨?_⟩;go_simp;exact hK.out _ (.slice A5 M c5) _ (by simp only [yZ,e2]) (zy _) trivial (fun Y hY=>⟨A5,c5,rfl,jk r2 hY⟩)
 refine qH 5 2 [(52,0),(53,1),(54,2),(55,3)] (fun f X hX hR K hK=>?_) ?_
 · obtain ⟨A5,c5,(e2:f 2=_),r2⟩:=hR.out 2 rfl;simp only [yZ,e2];refine ⟨?_⟩;go_simp;exact jA hK (s:=by simp only [yZ,e2])
 refine qH 6 1 [(52,0),(53,1),(54,2),(55,3),(56,4)] (fun f X hX hR K hK=>?_) ?_
 · obtain ⟨A6,c6,(e3:f 3=_),r3⟩:=hR.out 3 rfl;simp only [yZ,e3];refine ⟨?_⟩;go_simp;exact hK.out _ (.slice A6 M c6) _ (by simp only [yZ,e3]) (zy _) trivial (fun Y hY=>⟨A6,c6,rfl,jk r3 hY⟩)
 refine qM 7 0 4 ?_
 refine yF ⟨fun f X hX hR hal hap=>?_⟩
 obtain ⟨v0,(e0:f 0=_),d0⟩:=hR 0 (by decide)
 obtain ⟨A5,c5,(e2:f 2=_),r2⟩:=hR 2 (by decide)
 obtain ⟨A6,c6,(e3:f 3=_),r3⟩:=hR 3 (by decide)
 obtain ⟨A9,c9,(e5:f 5=_),r5⟩:=hR 5 (by decide)
 have e6:f 6=_:=hR 6 (by decide)
 simp only [yZ,e0,e2,e3,e5,e6]
 clear hR hal hap e0 e2 e3 e5 e6
 refine zU ?_
 have HX:=zF (zI HE0.out (zI HE.out hX))
 have Hr5:=zF r5
 clear r5 hX
 go_wp2
 go_ret2
 exact ⟨⟨A9,c9,by rw [Hbs.out,HM.out,Hok.out];rfl,by rw [Hbs.out];exact Hr5.out⟩,HX.out⟩
end Go.Proofs.YtmlbicgpehchhaaGreat.Der
namespace Go.Proofs.YtmlbicgpehchhaaGreat
open Go.RowKit
def EV (l:List Nat):Value:=.agg (nts l).toArray
theorem six {l:List Nat}(h:l.length=6):∃ a b c d e f,l=[a,b,c,d,e,f]:=by
 match l,h with
 | [a,b,c,d,e,f],_=>exact ⟨a,b,c,d,e,f,rfl⟩
theorem zAy (a b c d e f:Nat) (w:World):(Op.equalIn 10000 147 (.agg #[.int .u64 (a:Int),.int .u64 (b:Int),.int .u64 (c:Int),.int .u64 (d:Int),.int .u64 (e:Int),.int .u64 (f:Int)]) (.agg #[.int .u64 0,.int .u64 0,.int .u64 0,.int .u64 0,.int .u64 0,.int .u64 0])).run Tryz.prog w =
 .ok (decide ([a,b,c,d,e,f]=[0,0,0,0,0,0])) w:=by
 obtain ⟨i0,hi,hz0,hz1,hz2⟩:=wM j9
 have hc:Tryz.prog.cellsOf 69=1:=by kernel_rfl
 rw [show (10000:Nat)=9999+1 by rfl,run_equalIn_array _ _ _ _ Tryz.underlying147 hi,hc]
 rw [show List.range 6=[0,1,2,3,4,5] by rfl]
 have he:∀ x y:Int,(Op.equalIn 9999 69 (.int .u64 x) (.int .u64 y)).run Tryz.prog w=.ok (x==y) w:=fun x y=>run_equalIn_int w 9998 _ .u64 .u64 x y Tryz.underlying69
 have hp:∀ (xs:Array Value) (j:Nat) (x:Value),xs[j]?=some x→(part 69 xs j).run Tryz.prog w=.ok x w:=fun xs j x h=>by
  simp [part,run_sizeOf w hi,hz1,h,go_sem]
 have hs:∀ (xs ys:Array Value) (j:Nat) (x y:Int) (is:List Nat),xs[j]?=some (.int .u64 x)→ys[j]?=some (.int .u64 y) →
  (Op.eqItems 9999 69 1 xs ys (j :: is)).run Tryz.prog w=if x=y then (Op.eqItems 9999 69 1 xs ys is).run Tryz.prog w else .ok false w:=by
  intro xs ys j x y is h1 h2
  have p1:=hp xs j _ h1
  have p2:=hp ys j _ h2
  simp only [Op.eqItems,vh,jS,p1,p2,he,qy]
  by_cases hxy:x=y
  · simp [hxy]
  · simp [hxy]
 rw [hs _ _ 0 a 0 _ rfl rfl,hs _ _ 1 b 0 _ rfl rfl,hs _ _ 2 c 0 _ rfl rfl,hs _ _ 3 d 0 _ rfl rfl,hs _ _ 4 e 0 _ rfl rfl,hs _ _ 5 f 0 _ rfl rfl]
 have hn:(Op.eqItems 9999 69 1 #[.int .u64 (a:Int),.int .u64 (b:Int),.int .u64 (c:Int),.int .u64 (d:Int),.int .u64 (e:Int),.int .u64 (f:Int)] #[.int .u64 0,.int .u64 0,.int .u64 0,.int .u64 0,.int .u64 0,.int .u64 0] []).run Tryz.prog w=.ok true w:=by simp [Op.eqItems]
 rw [hn]
 have hd:decide ([a,b,c,d,e,f]=[0,0,0,0,0,0])=decide ((a:Int)=0∧(b:Int)=0∧(c:Int)=0∧(d:Int)=0∧(e:Int)=0∧(f:Int)=0):=by
  rw [decide_eq_decide];simp
 rw [hd]
 by_cases h1:(a:Int)=0 <;> by_cases h2:(b:Int)=0 <;> by_cases h3:(c:Int)=0 <;> by_cases h4:(d:Int)=0 <;> by_cases h5:(e:Int)=0 <;> by_cases h6:(f:Int)=0 <;> simp only [h1,h2,h3,h4,h5,h6,if_true,if_false,and_self,and_true,true_and,and_false,false_and,decide_true,decide_false]
theorem vQ (l:List Nat) (w:World) (hl:l.length=6):Calls Tryz.prog 152 #[EV l] w fun e w'=>e=.returned (.bool (decide (l=[0,0,0,0,0,0])))∧Below w.heap.size w w':=by
 obtain ⟨a,b,c,d,e,f,rfl⟩:=six hl;simp only [EV,nts,wI,wm];have heq:=zAy a b c d e f;generalize decide ([a,b,c,d,e,f]=[0,0,0,0,0,0])=r at *;go_enter Tryz.func152,Tryz.ntmps152;go_wp2;go_ret;exact ⟨rfl,(zO _ w).alloc (zH _) _⟩
end Go.Proofs.YtmlbicgpehchhaaGreat
namespace Go.Proofs.YtmlbicgpehchhaaGreat
def df (B M:Nat) (a b:List Nat) (T i:Nat):Prop:=T<M+val B b∧∃ k,T*B ^ i=val B (a.take i)*val B b+k*M
theorem df.zero {B M:Nat}(a b:List Nat) (hM:0<M):df B M a b 0 0:=⟨by omega,0,by simp⟩
theorem df.step {B M inv i q T T2 T4:Nat}{a b:List Nat}(hB:2≤B) (h:df B M a b T i) (ha:dg a i<B) (hq:q=(T+dg a i*val B b) % B*inv % B) (h2:T2=T+dg a i*val B b+q*M) (h4:T2=B*T4):df B M a b T4 (i+1):=by
 have hq':q<B:=by rw [hq];exact qP _ (by omega)
 obtain ⟨hb,k,hk⟩:=h;refine ⟨bE (by omega) h2 hb ha hq' h4,k+q*B ^ i,?_⟩;rw [zu,show T4*(B ^ i*B)=(B*T4)*B ^ i by rw [zj (B ^ i),←zd,zj T4],←h4];exact rq h2 hk (qD B a i)
def yU (B:Nat) (t b o:List Nat) (f j c:Nat):Prop:=o.length=t.length∧(∀ p,j≤p→dg o p=dg t p)∧val B (o.take j)+B ^ j*c=val B (t.take j)+f*val B (b.take j)
theorem yU.zero (B:Nat) (t b:List Nat) (f:Nat):yU B t b t f 0 0:=⟨rfl,fun _ _=>rfl,by simp⟩
theorem yU.step {B f j c s c':Nat}{t b o:List Nat}(h:yU B t b o f j c) (hj:j<t.length) (he:s+B*c'=dg o j+f*dg b j+c):yU B t b (o.set j s) f (j+1) c':=by
 obtain ⟨h1,h2,h3⟩:=h;refine ⟨by simpa using h1,fun p hp=>by rw [getD_set_ne (by omega)];exact h2 p (by omega),?_⟩;rw [je B (by omega),qD,qD,zu,zd];have e:=congrArg (fun z=>B ^ j*z) he;simp only [zr] at e;rw [h2 j (zH _)] at e;have e2:B ^ j*(f*dg b j)=f*(B ^ j*dg b j):=jR _ _ _;rw [zr f];omega
theorem yU.fin {B f n c s c':Nat}{t b o:List Nat}(h:yU B t b o f n c) (hn:n+2≤t.length) (hb:b.take n=b∨val B (b.take n)=val B b) (he:s+B*c'=dg o n+c) :
   ((o.set n s).set (n+1) c').length=t.length∧val B (((o.set n s).set (n+1) c').take (n+2))=val B (t.take (n+1))+f*val B b:=by
 obtain ⟨h1,h2,h3⟩:=h
 have hb' : val B (b.take n) = val B b := by rcases hb with h | h; · rw [h]
                                             · exact h
 refine ⟨by simpa using h1,?_⟩;rw [je B (by simp;omega),je B (by omega),qD B t n,zu];have e:=congrArg (fun z=>B ^ n*z) he;simp only [zr] at e;rw [h2 n (zH _),←zd] at e;rw [hb'] at h3;omega
def yT (B:Nat) (t m o:List Nat) (u k c:Nat):Prop:=o.length=t.length∧(∀ p,k≤p→dg o p=dg t p)∧B*val B (o.take k)+B ^ (k+1)*c=val B (t.take (k+1))+u*val B (m.take (k+1))
theorem yT.zero {B u c:Nat}{t m:List Nat}(he:B*c=dg t 0+u*dg m 0):yT B t m t u 0 c:=by
 refine ⟨rfl,fun _ _=>rfl,?_⟩;rw [qD,qD];simp;exact he
theorem yT.step {B u k c s c':Nat}{t m o:List Nat}(h:yT B t m o u k c) (hk:k<t.length) (he:s+B*c'=dg o (k+1)+u*dg m (k+1)+c):yT B t m (o.set k s) u (k+1) c':=by
 obtain ⟨h1,h2,h3⟩:=h;refine ⟨by simpa using h1,fun p hp=>by rw [getD_set_ne (by omega)];exact h2 p (by omega),?_⟩;rw [je B (by omega),qD B t (k+1),qD B m (k+1)];have e:=congrArg (fun z=>B ^ (k+1)*z) he;simp only [zr] at e;rw [h2 (k+1) (by omega)] at e;have e2:B ^ (k+1)*(u*dg m (k+1))=u*(B ^ (k+1)*dg m (k+1)):=jR _ _ _;have e3:B ^ (k+1)*(B*c')=B ^ (k+1+1)*c':=by rw [←zd,←zu]
 have e4:B*(B ^ k*s)=B ^ (k+1)*s:=by rw [←zd,zj B,←zu]
 rw [zr B,zr u,e4];omega
theorem yT.fin {B u k c s c':Nat}{t m o:List Nat}(h:yT B t m o u k c) (hn:k+3≤t.length) (hm:val B (m.take (k+1))=val B m) (he:s+B*c'=dg o (k+1)+c) :
 ((o.set k s).set (k+1) (dg o (k+2)+c')).length=t.length∧B*val B (((o.set k s).set (k+1) (dg o (k+2)+c')).take (k+2))=val B (t.take (k+3))+u*val B m:=by
 obtain ⟨h1,h2,h3⟩:=h
 refine ⟨by simpa using h1,?_⟩
 rw [je B (by simp;omega),je B (by omega),qD B t (k+2),qD B t (k+1),h2 (k+2) (by omega)]
 have e:=congrArg (fun z=>B ^ (k+1)*z) he
 simp only [zr] at e
 rw [h2 (k+1) (by omega)] at e
 rw [hm] at h3
 have e3:B ^ (k+1)*(B*c')=B ^ (k+2)*c':=by rw [←zd,←zu]
 have e4:B*(B ^ k*s)=B ^ (k+1)*s:=by rw [←zd,zj B,←zu]
 have e5:B*(B ^ (k+1)*(dg t (k+2)+c'))=B ^ (k+2)*dg t (k+2)+B ^ (k+2)*c':=by rw [←zd,zj B,←zu,zr]
 rw [zr B,zr B,e4,e5]
 omega
end Go.Proofs.YtmlbicgpehchhaaGreat
namespace Go.Proofs.YtmlbicgpehchhaaGreat
open Go.RowKit
def ky (n inv:Nat) (ml ol rl:List Nat):List Value:=.int .i64 (n:Int) :: (nts ml++.int .u64 (inv:Int) :: (nts ol++nts rl))
structure Fld (w:World) (g n inv:Nat) (ml ol rl:List Nat):Prop where
 blk:w.heap[g]?=some (.cells (ky n inv ml ol rl).toArray 224 (0,0))
 m6:ml.length=6
 o6:ol.length=6
 r6:rl.length=6
variable {w w':World} {g n inv:Nat} {ml ol rl:List Nat}
theorem Fld.below {B:Nat}(h:Fld w g n inv ml ol rl) (hb:Below B w w') (hg:g<B):Fld w' g n inv ml ol rl:=⟨(hb.block g hg).trans h.blk,h.m6,h.o6,h.r6⟩
theorem Fld.lt (h:Fld w g n inv ml ol rl):g<w.heap.size:=qw h.blk
theorem Fld.n0 (h:Fld w g n inv ml ol rl):w.cell? ⟨g,0,none⟩=some (.int .i64 (n:Int)):=by
 rw [zJ h.blk 0];rfl
theorem Fld.inv_ (h:Fld w g n inv ml ol rl):w.cell? ⟨g,7,none⟩=some (.int .u64 (inv:Int)):=by
 rw [zJ h.blk 7];obtain ⟨a,b,c,d,e,f,rfl⟩:=six h.m6;rfl
theorem Fld.m_ (h:Fld w g n inv ml ol rl){j:Nat}(hj:j<6):w.cell? ⟨g,1+j,none⟩=some (.int .u64 (dg ml j:Int)):=by
 rw [zJ h.blk (1+j)];obtain ⟨a,b,c,d,e,f,rfl⟩:=six h.m6;match j,hj with
 | 0,_ | 1,_ | 2,_ | 3,_ | 4,_ | 5,_=>rfl
def vo (w:World) (g:Nat) (ty:TypeId) (l:List Nat):Prop:=w.heap[g]?=some (.cells (nts l).toArray ty (0,0))
theorem vo.cell {ty:TypeId}{l:List Nat}(h:vo w g ty l){i:Nat}(hi:i<l.length):w.cell? ⟨g,i,none⟩=some (.int .u64 (dg l i:Int)):=by
 rw [zJ h i,zK,uk hi]
theorem vo.free {ty:TypeId}{l:List Nat}(h:vo w g ty l) (i:Nat):w.frozen? ⟨g,i,none⟩=false:=zv h i
theorem vo.set {ty:TypeId}{l:List Nat}(h:vo w g ty l) (i x:Nat):vo (w.setCell ⟨g,i,none⟩ (.int .u64 (x:Int))) g ty (l.set i x):=by
 have:=jm h i (.int .u64 (x:Int));rw [vo,this];simp [nts,List.map_set]
theorem vo.below {ty:TypeId}{l:List Nat}{B:Nat}(h:vo w g ty l) (hb:Below B w w') (hg:g<B):vo w' g ty l:=(hb.block g hg).trans h
theorem vo.lt {ty:TypeId}{l:List Nat}(h:vo w g ty l):g<w.heap.size:=qw h
theorem xy {w:World}{g:Nat}{ty:TypeId}{a b c d e f:Value}(h:w.heap[g]?=some (.cells #[a,b,c,d,e,f] ty (0,0))) :
 w.cell? ⟨g,0,none⟩=some a∧w.cell? ⟨g,1,none⟩=some b∧w.cell? ⟨g,2,none⟩=some c∧w.cell? ⟨g,3,none⟩=some d∧w.cell? ⟨g,4,none⟩=some e∧w.cell? ⟨g,5,none⟩=some f :=
 ⟨zJ h 0,zJ h 1,zJ h 2,zJ h 3,zJ h 4,zJ h 5⟩
theorem uf {w:World}{g:Nat}{ty:TypeId}{x0 x1 x2 x3 x4 x5:Value}(h:w.heap[g]?=some (.cells #[x0,x1,x2,x3,x4,x5] ty (0,0))) (a b c d e f:Value) :
 ((((((w.setCell ⟨g,0,none⟩ a).setCell ⟨g,1,none⟩ b).setCell ⟨g,2,none⟩ c).setCell ⟨g,3,none⟩ d).setCell ⟨g,4,none⟩ e).setCell ⟨g,5,none⟩ f).heap[g]?=some (.cells #[a,b,c,d,e,f] ty (0,0)):=by
 have h1:=jm (jm (jm (jm (jm (jm h 0 a) 1 b) 2 c) 3 d) 4 e) 5 f
 rw [h1]
 rfl
theorem xL {B g:Nat}{w0 w:World}(h:Below B w0 w) (hg:B≤g) (a b c d e f:Value):Below B w0 ((((((w.setCell ⟨g,0,none⟩ a).setCell ⟨g,1,none⟩ b).setCell ⟨g,2,none⟩ c).setCell ⟨g,3,none⟩ d).setCell ⟨g,4,none⟩ e).setCell ⟨g,5,none⟩ f) :=
 (((((h.setCell (p:=⟨g,0,none⟩) hg a).setCell (p:=⟨g,1,none⟩) hg b).setCell (p:=⟨g,2,none⟩) hg c).setCell (p:=⟨g,3,none⟩) hg d).setCell (p:=⟨g,4,none⟩) hg e).setCell (p:=⟨g,5,none⟩) hg f
theorem rC {fn:Func}{R:Ending→World→Prop}{a:Act}{W:World}{p:Tmp}{g:Nat}{ty:TypeId}{fr:Nat×Nat}{x0 x1 x2 x3 x4 x5:Value}(hr:fn.results=#[.cell p 147]) (hp:a.tmps.getD p undef=.pointer (some ⟨g,0,none⟩)) (hd:a.defers=[])
 (hg:W.heap[g]?=some (.cells #[x0,x1,x2,x3,x4,x5] ty fr)) (hR:R (.returned (.agg #[x0,x1,x2,x3,x4,x5])) W):bodyPost Tryz.prog fn R .ret a W :=
 qS (yV hr a.tmps W g _ _ _ (.array 6 69) hp hg Tryz.underlying147 rfl (by kernel_rfl)) hd hR
theorem tX (w:World) (g gt n c c':Nat) (ty ty':TypeId) (u src:List Nat) (hu:vo w g ty u) (hs:vo w gt ty' src) (hn:n≤src.length) (hn':n≤u.length) (hpos:0<n) :
 (Builtin.copy_ #[22,22] 3 #[.slice (some ⟨g,0,none⟩) n c,.slice (some ⟨gt,0,none⟩) n c']).run Tryz.prog w=.ok (goInt n) (w.setRow g (nts (src.take n++u.drop n)).toArray):=by
 have hl:(nts (src.take n)).length=n:=by rw [qj,qB];omega
 have h:=run_copy_row (P:=Tryz.prog) w 22 22 3 69 g 0 n c ⟨gt,0,none⟩ n c' (nts u).toArray ty (nts (src.take n)) Tryz.underlying22 xP hu
  (by rw [hl]; simp) (fun j v hj => by
   have hj':j<n:=by have:=(List.getElem?_eq_some_iff.1 hj).1;omega
   rw [xZ,zJ hs j,zK]
   rw [nts,wn,List.getElem?_take,qK hj'] at hj
   rw [nts,wn]
   exact hj) (by rw [hl];simp [nts];omega) (kG _)
 rw [hl] at h
 rw [h]
 simp [nts,List.map_drop]
theorem wd {B:Nat}{l:List Nat}(h:∀ x∈l,x<B) (k:Nat) (hB:0<B:=by omega):val B (l.take k)<B ^ k:=by
 have h1:=jf (B:=B) (l:=l.take k) fun x hx=>h x (qW hx);exact zR h1 (qF hB (by rw [qB];omega))
theorem ku {B k:Nat}{l:List Nat}(h:∀ p,k≤p→dg l p=0):val B (l.take k)=val B l:=by
 rcases zz k l.length with h1 | h1
 · rw [jL B l (n:=k) (by omega),wJ (l:=l.drop k) ?_,jK,qu];intro x hx;obtain ⟨j,hj,rfl⟩:=List.mem_iff_getElem.1 hx;have h2:=h (k+j) (by omega);rw [jC] at hj;rw [yy];rwa [dg,jW (by omega)] at h2
 · rw [zk h1]
theorem cE (gt over:Nat) (t:List Nat) (w:World) (hF:Fld w g n inv ml ol rl) (hml:∀ x∈ml,x<18446744073709551616) (hT:vo w gt 225 t) (hgt:gt≠g) (ht8:t.length=8) (ht:∀ x∈t,x<18446744073709551616) (hn:n≤6) (hn1:0<n)
 (hmv:val 18446744073709551616 (ml.take n)=val 18446744073709551616 ml) (ho:over<18446744073709551616) (hv:val 18446744073709551616 (t.take n)+18446744073709551616 ^ n*over<2*val 18446744073709551616 ml) :
 Calls Tryz.prog 182 #[.pointer (some ⟨g,0,none⟩),.pointer (some ⟨gt,0,none⟩),.int .u64 (over:Int)] w fun e w'=>∃ o,e=.returned (EV o)∧o.length=6∧(∀ x∈o,x<18446744073709551616) ∧
  val 18446744073709551616 o=uj (val 18446744073709551616 (t.take n)+18446744073709551616 ^ n*over) (val 18446744073709551616 ml)∧Below w.heap.size w w':=by
 have h0:=hF.n0
 have hg:=hF.lt
 have hgtl:=hT.lt
 have hB0:Below w.heap.size w ((w.alloc (.cells #[.int .u64 0,.int .u64 0,.int .u64 0,.int .u64 0,.int .u64 0,.int .u64 0] 147)).alloc (.cells #[.int .u64 0,.int .u64 0,.int .u64 0,.int .u64 0,.int .u64 0,.int .u64 0] 147)):=((zO _ w).alloc (zH _) _).alloc (by simp) _
 have hr0:vo ((w.alloc (.cells #[.int .u64 0,.int .u64 0,.int .u64 0,.int .u64 0,.int .u64 0,.int .u64 0] 147)).alloc (.cells #[.int .u64 0,.int .u64 0,.int .u64 0,.int .u64 0,.int .u64 0,.int .u64 0] 147)) (w.heap.size+1) 147 [0,0,0,0,0,0]:=by
  have:=zP (w.alloc (.cells #[.int .u64 0,.int .u64 0,.int .u64 0,.int .u64 0,.int .u64 0,.int .u64 0] 147)) (.cells #[.int .u64 0,.int .u64 0,.int .u64 0,.int .u64 0,.int .u64 0,.int .u64 0] 147);rw [qL] at this;exact this
 have hres:((w.alloc (.cells #[.int .u64 0,.int .u64 0,.int .u64 0,.int .u64 0,.int .u64 0,.int .u64 0] 147)).alloc (.cells #[.int .u64 0,.int .u64 0,.int .u64 0,.int .u64 0,.int .u64 0,.int .u64 0] 147)).heap[w.heap.size]?=some (.cells #[.int .u64 0,.int .u64 0,.int .u64 0,.int .u64 0,.int .u64 0,.int .u64 0] 147 (0,0)):=(zx _ _ _ (by simp)).trans (zP w _)
 go_enter Tryz.func182,Tryz.ntmps182
 go_wp2_with fail
 generalize (w.alloc (.cells #[.int .u64 0,.int .u64 0,.int .u64 0,.int .u64 0,.int .u64 0,.int .u64 0] 147)).alloc (.cells #[.int .u64 0,.int .u64 0,.int .u64 0,.int .u64 0,.int .u64 0,.int .u64 0] 147)=W0 at *
 have hW0:w.heap.size+2≤W0.heap.size:=by have:=hr0.lt;omega
 have Hv:=zF hv
 have Hmv:=zF hmv
 have Hml:=zF hml
 have Ht:=zF ht
 have Ht8:=zF ht8
 have hm6:=zF hF.m6
 clear hv hmv hml ht ht8
 go_loopw [8,14] (fun cv iv wr=>∃ (k cr:Nat) (o:List Nat),iv=.int .i64 (k:Int)∧cv=.int .u64 (cr:Int)∧k≤n∧cr≤1∧vz 18446744073709551616 t ml o k cr∧Hid (o.length=6)∧Hid (∀ x∈o,x<18446744073709551616)∧Hid (∀ p,k≤p→dg o p=0)∧vo wr (w.heap.size+1) 147 o∧Below (w.heap.size+1) W0 wr) (fun _ iv _=>n - (intOf iv).toNat)
 case atStart=>exact ⟨0,0,_,rfl,rfl,by omega,by omega,vz.zero _ _ _ _,zF rfl,zF (by simp),zF (fun p _=>by match p with | 0 | 1 | 2 | 3 | 4 | 5=>rfl | p+6=>rfl),hr0,zO _ _⟩
 case round =>
  obtain ⟨k,cr,o,rfl,rfl,hk,hcr,hA,Ho,Hlo,Hz,hblk,hB⟩:=hrel;have hBw:Below w.heap.size w wr:=hB0.trans (hB.mono (by omega));have hFr:=hF.below hBw hg;have hTr:=hT.below hBw hgtl;have c0:=hFr.n0;by_cases hlt:k<n
  · have q1:=hTr.cell (i:=k) (by have:=Ht8.out;omega);have q2:=hFr.m_ (j:=k) (by omega);have dt:dg t k<18446744073709551616:=jZ (by omega) Ht.out k;have dm:dg ml k<18446744073709551616:=jZ (by omega) Hml.out k;obtain ⟨s,cr',hs,hcr',he⟩:=yY (dg t k) (dg ml k) cr dt dm hcr;have hok:k<o.length:=by have:=Ho.out;omega
    have q3:=hblk.cell hok;have q4:=hblk.free k;have hA':=hA.step hok he;have hblk':=hblk.set k s;have hB':=hB.setCell (p:=⟨w.heap.size+1,k,none⟩) (zH _) (.int .u64 (s:Int));have Ho':Hid ((o.set k s).length=6):=zF (by rw [jt];exact Ho.out);have Hlo':Hid (∀ x∈o.set k s,x<18446744073709551616):=zF (wu Hlo.out hs);have Hz':Hid (∀ p,k+1≤p→dg (o.set k s) p=0):=zF fun p hp=>by rw [getD_set_ne (by omega)];exact Hz.out p (by omega)
    have hsub:=fun w=>ye (dg t k) (dg ml k) cr s cr' hcr dt dm hs he hcr' w;have ki:(k:Int)<8:=by omega
    have ki6:(k:Int)<6:=by omega
    clear he hA hblk hB hok hBw hFr hTr;go_wp2_with fail;have hfar:∀ q:Addr,q.block<w.heap.size→(wr.setCell ⟨w.heap.size+1,k,none⟩ (.int .u64 (s:Int))).drew.cell? q=wr.cell? q:=fun q hq=>zT (zN _ _ _ _ (by show q.block≠w.heap.size+1;omega));have f1:=(hfar ⟨gt,k,none⟩ hgtl).trans q1;have f2:=(hfar ⟨g,1+k,none⟩ hg).trans q2;clear hfar;go_region_held3 (fun w'=>w'.cell? ⟨gt,k,none⟩=some (.int .u64 (dg t k:Int))∧w'.cell? ⟨g,1+k,none⟩=some (.int .u64 (dg ml k:Int))) (first | exact ⟨q1,q2⟩ | exact ⟨f1,f2⟩ | go_keep) (fail);go_wp2;go_roundw;case rel=>exact ⟨k+1,cr',o.set k s,by go_num,rfl,by omega,hcr',hA',Ho',Hlo',Hz',hblk',hB'.drew⟩
    case measure=>simp [intOf];omega
  · obtain rfl:k=n:=by omega
    have hfin:val 18446744073709551616 o+val 18446744073709551616 ml=val 18446744073709551616 (t.take k)+18446744073709551616 ^ k*cr:=by
     have h1:val 18446744073709551616 (o.take k)+val 18446744073709551616 (ml.take k)=val 18446744073709551616 (t.take k)+18446744073709551616 ^ k*cr:=hA;rw [Hmv.out] at h1;have h2:val 18446744073709551616 (o.take k)=val 18446744073709551616 o:=ku Hz.out;omega
    have hvo:val 18446744073709551616 o<18446744073709551616 ^ k:=by
     rw [←ku Hz.out];exact wd Hlo.out k
    have hvm:val 18446744073709551616 ml<18446744073709551616 ^ k:=by rw [←Hmv.out];exact wd Hml.out k
    have hvt:=wd Ht.out k;have hv:=Hv.out;by_cases hcase:over<cr
    · obtain rfl:cr=1:=by omega
      obtain rfl:over=0:=by omega
      rw [jK,qu] at hv;have hoff:uj (val 18446744073709551616 (t.take k)+18446744073709551616 ^ k*0) (val 18446744073709551616 ml)=val 18446744073709551616 (t.take k):=by rw [jK,qu,uj,qK (by omega)]
      have hcp:=tX wr.drew (w.heap.size+1) gt k 6 8 147 225 o t hblk hTr (by have:=Ht8.out;omega) (by have:=Ho.out;omega) hn1;have hvv:val 18446744073709551616 (t.take k++o.drop k)=val 18446744073709551616 (t.take k):=by
       rw [kJ,wJ (l:=o.drop k) ?_,jK,qu];intro x hx;obtain ⟨j,hj,rfl⟩:=List.mem_iff_getElem.1 hx;have h2:=Hz.out (k+j) (by omega);rw [jC] at hj;rw [yy];rwa [dg,jW (by omega)] at h2
      have hlen:(t.take k++o.drop k).length=6:=by rw [zt,qB,jC,Ho.out,Ht8.out];omega
      have hlim:∀ x∈t.take k++o.drop k,x<18446744073709551616:=fun x hx=>by
       rcases List.mem_append.1 hx with h | h
       · exact Ht.out x (qW h)
       · exact Hlo.out x (uQ h)
      generalize t.take k++o.drop k=o2 at *;have hb2:vo (wr.drew.setRow (w.heap.size+1) (nts o2).toArray) (w.heap.size+1) 147 o2:=setRow_heap wr.drew _ _ _ _ _ hblk;have hB2:=wv hB.drew (zH (w.heap.size+1)) (nts o2).toArray;obtain ⟨a,b,c,d,e,f,hoe⟩:=six hlen;have hcb:((wr.drew.setRow (w.heap.size+1) (nts o2).toArray).heap[w.heap.size+1]?=some (.cells #[.int .u64 (a:Int),.int .u64 (b:Int),.int .u64 (c:Int),.int .u64 (d:Int),.int .u64 (e:Int),.int .u64 (f:Int)] 147 (0,0))):=by
       have h:=hb2;rw [vo] at h;rw [h,hoe];rfl
      have hrb:(wr.drew.setRow (w.heap.size+1) (nts o2).toArray).heap[w.heap.size]?=some (.cells #[.int .u64 0,.int .u64 0,.int .u64 0,.int .u64 0,.int .u64 0,.int .u64 0] 147 (0,0)):=(hB2.block w.heap.size (by omega)).trans hres;obtain ⟨e0,e1,e2,e3,e4,e5⟩:=xy hcb;obtain ⟨r0,r1,r2,r3,r4,r5⟩:=xy hrb;have z:=fun i=>zv hrb i;have z0:=z 0;have z1:=z 1;have z2:=z 2;have z3:=z 3;have z4:=z 4;have z5:=z 5;have hrb':=hrb;have hBf:Below w.heap.size w (wr.drew.setRow (w.heap.size+1) (nts o2).toArray):=hB0.trans (hB2.mono (by omega));have Hoff:=zF (hvv.trans hoff.symm);have Hoe:=zF hoe;have Hlen:=zF hlen;have Hlim:=zF hlim;have k6:(k:Int)≤6:=by omega
      have k8:(k:Int)≤8:=by omega
      clear hvo hv hfin hvm hvt hoff hA hblk hFr hTr z hcb hrb hvv hoe hlen hlim hb2 hB2;go_wp2_with fail;go_region;generalize wr.drew.setRow (w.heap.size+1) (nts o2).toArray=W9 at *;go_wp2_with fail;refine rC rfl rfl rfl (uf hrb' _ _ _ _ _ _) ?_;exact ⟨o2,by rw [Hoe.out];rfl,Hlen.out,Hlim.out,Hoff.out,xL hBf (zH _) _ _ _ _ _ _⟩
    · have hoff:val 18446744073709551616 o=uj (val 18446744073709551616 (t.take k)+18446744073709551616 ^ k*over) (val 18446744073709551616 ml):=by
       have hcr':cr=0∨cr=1:=by omega
       generalize 18446744073709551616 ^ k=R at *;rcases za over with rfl | hpo
       · obtain rfl:cr=0:=by omega
         rw [jK,qu] at hfin hv ⊢;rw [uj,qA (by omega)];omega
       · have h1:R*1≤R*over:=zi _ hpo;have h2:over=1:=by
          rcases zz over 2 with h | h
          · omega
          · have:R*2≤R*over:=zi _ h;omega
         subst h2;rw [uj,qA (by omega)];rcases hcr' with rfl | rfl
         · rw [jK,qu] at hfin;omega
         · omega
      have Hoff:=zF hoff;obtain ⟨a,b,c,d,e,f,hoe⟩:=six Ho.out;have hcb:(wr.heap[w.heap.size+1]?=some (.cells #[.int .u64 (a:Int),.int .u64 (b:Int),.int .u64 (c:Int),.int .u64 (d:Int),.int .u64 (e:Int),.int .u64 (f:Int)] 147 (0,0))):=by
       rw [hoe] at hblk;exact hblk
      have hrb:wr.heap[w.heap.size]?=some (.cells #[.int .u64 0,.int .u64 0,.int .u64 0,.int .u64 0,.int .u64 0,.int .u64 0] 147 (0,0)):=(hB.block w.heap.size (by omega)).trans hres;obtain ⟨e0,e1,e2,e3,e4,e5⟩:=xy hcb;obtain ⟨r0,r1,r2,r3,r4,r5⟩:=xy hrb;have z:=fun i=>zv hrb i;have z0:=z 0;have z1:=z 1;have z2:=z 2;have z3:=z 3;have z4:=z 4;have z5:=z 5;have hrb':=hrb;clear hvo hv hfin hvm hvt hoff hA hblk hFr hTr z hcb hrb;go_wp2_with fail;refine rC rfl rfl rfl (uf hrb' _ _ _ _ _ _) ?_;exact ⟨o,by rw [hoe];rfl,Ho.out,Hlo.out,Hoff.out,xL hBw (zH _) _ _ _ _ _ _⟩
end Go.Proofs.YtmlbicgpehchhaaGreat
namespace Go.Proofs.YtmlbicgpehchhaaGreat
open Go.RowKit
structure FF (w:World) (g n inv M:Nat) (ml ol rl:List Nat):Prop where
 fld:Fld w g n inv ml ol rl
 mlt:∀ x∈ml,x<18446744073709551616
 mval:val 18446744073709551616 ml=M
 mtake:val 18446744073709551616 (ml.take n)=M
 npos:0<n
 nle:n≤6
 big:1<M
 invLt:inv<18446744073709551616
 invV:(inv*M+1) % 18446744073709551616=0
theorem FF.below {w w':World}{g n inv M B:Nat}{ml ol rl:List Nat}(h:FF w g n inv M ml ol rl) (hb:Below B w w') (hg:g<B):FF w' g n inv M ml ol rl :=
 ⟨h.fld.below hb hg,h.mlt,h.mval,h.mtake,h.npos,h.nle,h.big,h.invLt,h.invV⟩
theorem FF.room {w:World}{g n inv M:Nat}{ml ol rl:List Nat}(h:FF w g n inv M ml ol rl):M<18446744073709551616 ^ n:=by rw [←h.mtake];exact wd h.mlt n
structure Elt (M:Nat) (l:List Nat):Prop where
 six:l.length=6
 lim:∀ x∈l,x<18446744073709551616
 lt:val 18446744073709551616 l<M
theorem Elt.take {w:World}{g n inv M:Nat}{ml ol rl l:List Nat}(h:FF w g n inv M ml ol rl) (he:Elt M l):val 18446744073709551616 (l.take n)=val 18446744073709551616 l:=by
 have h1:=jL 18446744073709551616 l (n:=n) (by rw [he.six];exact h.nle);have h2:=h.room;rcases za (val 18446744073709551616 (l.drop n)) with h3 | h3
 · rw [h3] at h1;omega
 · have h4:18446744073709551616 ^ n*1≤18446744073709551616 ^ n*val 18446744073709551616 (l.drop n):=zi _ h3;have h5:=he.lt;omega
theorem zCl (w:World) (o1 o2 o3 o4:Obj):((((w.alloc o1).alloc o2).alloc o3).alloc o4).heap[w.heap.size]?=some o1∧((((w.alloc o1).alloc o2).alloc o3).alloc o4).heap[w.heap.size+1]?=some o2∧((((w.alloc o1).alloc o2).alloc o3).alloc o4).heap[w.heap.size+1+1]?=some o3∧((((w.alloc o1).alloc o2).alloc o3).alloc o4).heap[w.heap.size+1+1+1]?=some o4 ∧
 ((((w.alloc o1).alloc o2).alloc o3).alloc o4).heap.size=w.heap.size+4∧Below w.heap.size w ((((w.alloc o1).alloc o2).alloc o3).alloc o4):=by
 have e1:=zP w o1
 have e2:=zP (w.alloc o1) o2
 have e3:=zP ((w.alloc o1).alloc o2) o3
 have e4:=zP (((w.alloc o1).alloc o2).alloc o3) o4
 simp only [qL] at e2 e3 e4
 refine ⟨?_,?_,?_,e4,by simp,(((((zO _ w).alloc (zH _) _).alloc (by simp) _).alloc (by simp;omega) _).alloc (by simp;omega) _)⟩
 · exact (zx _ _ _ (by simp <;> omega)).trans ((zx _ _ _ (by simp <;> omega)).trans ((zx _ _ _ (by simp)).trans e1))
 · exact (zx _ _ _ (by simp <;> omega)).trans ((zx _ _ _ (by simp)).trans e2)
 · exact (zx _ _ _ (by simp)).trans e3
theorem tg {g n inv M:Nat}{ml ol rl:List Nat}(a b:List Nat) (w:World) (hF:FF w g n inv M ml ol rl) (ha:Elt M a) (hb:Elt M b) :
 Calls Tryz.prog 149 #[.pointer (some ⟨g,0,none⟩),EV a,EV b] w fun e w'=>∃ o,e=.returned (EV o)∧Elt M o∧val 18446744073709551616 o=uj (val 18446744073709551616 a+val 18446744073709551616 b) M∧Below w.heap.size w w':=by
 have hg:=hF.fld.lt
 have h0:=hF.fld.n0
 have hn:=hF.nle
 have hn1:=hF.npos
 have ta:=ha.take hF
 have tb:=hb.take hF
 obtain ⟨a0,a1,a2,a3,a4,a5,hae⟩:=six ha.six
 obtain ⟨b0,b1,b2,b3,b4,b5,hbe⟩:=six hb.six
 obtain ⟨l1,l2,l3,l4,hz,hB0⟩:=zCl w (.cells #[.int .u64 (a0:Int),.int .u64 (a1:Int),.int .u64 (a2:Int),.int .u64 (a3:Int),.int .u64 (a4:Int),.int .u64 (a5:Int)] 147)
  (.cells #[.int .u64 (b0:Int),.int .u64 (b1:Int),.int .u64 (b2:Int),.int .u64 (b3:Int),.int .u64 (b4:Int),.int .u64 (b5:Int)] 147) (.cells #[.int .u64 0,.int .u64 0,.int .u64 0,.int .u64 0,.int .u64 0,.int .u64 0] 147)
  (.cells #[.int .u64 0,.int .u64 0,.int .u64 0,.int .u64 0,.int .u64 0,.int .u64 0,.int .u64 0,.int .u64 0] 225)
 have hva:EV a=.agg #[.int .u64 (a0:Int),.int .u64 (a1:Int),.int .u64 (a2:Int),.int .u64 (a3:Int),.int .u64 (a4:Int),.int .u64 (a5:Int)]:=by rw [hae];rfl
 have hvb:EV b=.agg #[.int .u64 (b0:Int),.int .u64 (b1:Int),.int .u64 (b2:Int),.int .u64 (b3:Int),.int .u64 (b4:Int),.int .u64 (b5:Int)]:=by rw [hbe];rfl
 rw [hva,hvb]
 have h00:=(hB0.cell (p:=⟨g,0,none⟩) hg).trans h0
 go_enter Tryz.func149,Tryz.ntmps149
 go_wp2_with fail
 generalize (((w.alloc (.cells #[.int .u64 (a0:Int),.int .u64 (a1:Int),.int .u64 (a2:Int),.int .u64 (a3:Int),.int .u64 (a4:Int),.int .u64 (a5:Int)] 147)).alloc
  (.cells #[.int .u64 (b0:Int),.int .u64 (b1:Int),.int .u64 (b2:Int),.int .u64 (b3:Int),.int .u64 (b4:Int),.int .u64 (b5:Int)] 147)).alloc (.cells #[.int .u64 0,.int .u64 0,.int .u64 0,.int .u64 0,.int .u64 0,.int .u64 0] 147)).alloc
  (.cells #[.int .u64 0,.int .u64 0,.int .u64 0,.int .u64 0,.int .u64 0,.int .u64 0,.int .u64 0,.int .u64 0] 225)=W0 at *
 have A0:vo W0 w.heap.size 147 a:=by rw [hae];exact l1
 have B0:vo W0 (w.heap.size+1) 147 b:=by rw [hbe];exact l2
 have T0:vo W0 (w.heap.size+1+1+1) 225 [0,0,0,0,0,0,0,0]:=l4
 have hW0:w.heap.size+4≤W0.heap.size:=by omega
 have Ha:=zF ha
 have Hb:=zF hb
 have Hae:=zF hae
 have Hbe:=zF hbe
 have HF:=zF hF
 clear l1 l2 l4 hz ha hb hae hbe hva hvb hF
 go_loopw [8,14] (fun cv iv wr=>∃ (k cr:Nat) (o:List Nat),iv=.int .i64 (k:Int)∧cv=.int .u64 (cr:Int)∧k≤n∧cr≤1∧wf 18446744073709551616 a b o k cr∧Hid (o.length=8)∧Hid (∀ x∈o,x<18446744073709551616)∧vo wr (w.heap.size+1+1+1) 225 o∧Below (w.heap.size+1+1+1) W0 wr) (fun _ iv _=>n - (intOf iv).toNat)
 case atStart=>exact ⟨0,0,_,rfl,rfl,by omega,by omega,wf.zero _ _ _ _,zF rfl,zF (by simp),T0,zO _ _⟩
 case round =>
  obtain ⟨k,cr,o,rfl,rfl,hk,hcr,hA,Ho,Hlo,hblk,hB⟩:=hrel;have hBw:Below w.heap.size w wr:=hB0.trans (hB.mono (by omega));have hFr:=HF.out.below hBw hg;have c0:=hFr.fld.n0;have hAr:=A0.below hB (by omega);have hBr:=B0.below hB (by omega);by_cases hlt:k<n
  · have q1:=hAr.cell (i:=k) (by rw [Ha.out.six];omega);have q2:=hBr.cell (i:=k) (by rw [Hb.out.six];omega);have dt:dg a k<18446744073709551616:=jZ (by omega) Ha.out.lim k;have dm:dg b k<18446744073709551616:=jZ (by omega) Hb.out.lim k;obtain ⟨s,cr',hs,hcr',he⟩:=xp (dg a k) (dg b k) cr dt dm hcr;have hok:k<o.length:=by have:=Ho.out;omega
    have q3:=hblk.cell hok;have q4:=hblk.free k;have hA':=hA.step hok (by omega);have hblk':=hblk.set k s;have hB':=hB.setCell (p:=⟨w.heap.size+1+1+1,k,none⟩) (zH _) (.int .u64 (s:Int));have Ho':Hid ((o.set k s).length=8):=zF (by rw [jt];exact Ho.out);have Hlo':Hid (∀ x∈o.set k s,x<18446744073709551616):=zF (wu Hlo.out hs);have hadd:=fun w=>kF (dg a k) (dg b k) cr s cr' hcr hs (by omega) w;have ki:(k:Int)<8:=by omega
    have ki6:(k:Int)<6:=by omega
    clear he hA hblk hB hok hBw hFr hAr hBr;go_wp2_with fail;have hfar:∀ q:Addr,q.block<w.heap.size+1+1+1→(wr.setCell ⟨w.heap.size+1+1+1,k,none⟩ (.int .u64 (s:Int))).drew.cell? q=wr.cell? q:=fun q hq=>zT (zN _ _ _ _ (by show q.block≠w.heap.size+1+1+1;omega));have f1:=(hfar ⟨w.heap.size,k,none⟩ (by show w.heap.size<_;omega)).trans q1;have f2:=(hfar ⟨w.heap.size+1,k,none⟩ (by show w.heap.size+1<_;omega)).trans q2;clear hfar;go_region_held3 (fun w'=>w'.cell? ⟨w.heap.size,k,none⟩=some (.int .u64 (dg a k:Int))∧w'.cell? ⟨w.heap.size+1,k,none⟩=some (.int .u64 (dg b k:Int))) (first | exact ⟨q1,q2⟩ | exact ⟨f1,f2⟩ | go_keep) (fail);go_wp2;go_roundw;case rel=>exact ⟨k+1,cr',o.set k s,by go_num,rfl,by omega,hcr',hA',Ho',Hlo',hblk',hB'.drew⟩
    case measure=>simp [intOf];omega
  · obtain rfl:k=n:=by omega
    have hsum:val 18446744073709551616 (o.take k)+18446744073709551616 ^ k*cr=val 18446744073709551616 a+val 18446744073709551616 b:=by
     have h1:val 18446744073709551616 (o.take k)+18446744073709551616 ^ k*cr=val 18446744073709551616 (a.take k)+val 18446744073709551616 (b.take k):=by have:=hA;unfold wf at this;omega
     rw [ta,tb] at h1;exact h1
    have hbel:=cE (w.heap.size+1+1+1) cr o wr hFr.fld hFr.mlt hblk (by omega) Ho.out Hlo.out hn hn1 (by rw [hFr.mtake,hFr.mval]) (by omega) (by rw [hsum,hFr.mval];have:=Ha.out.lt;have:=Hb.out.lt;omega);rw [hsum,hFr.mval] at hbel;have Hbel:=zF hbel;clear hbel hA hblk hFr hAr hBr hsum;go_wp2_with fail;refine Hbel.out.mono ?_;rintro e w2 ⟨o2,rfl,ho6,hlim,hv2,hB2⟩;obtain ⟨x0,x1,x2,x3,x4,x5,hoe⟩:=six ho6;have hrb:=(hB2.block (w.heap.size+1+1) (by have:=hB.size;omega)).trans ((hB.block (w.heap.size+1+1) (by omega)).trans l3);obtain ⟨r0,r1,r2,r3,r4,r5⟩:=xy hrb;have z:=fun i=>zv hrb i;have z0:=z 0;have z1:=z 1;have z2:=z 2;have z3:=z 3;have z4:=z 4;have z5:=z 5;have hrb':=hrb;have hBf:Below w.heap.size w w2:=hBw.trans (hB2.mono hBw.size);have Hv2:=zF hv2;have Ho6:=zF ho6;have Hlim:=zF hlim;have Hoe:=zF hoe;have hve:EV o2=.agg #[.int .u64 (x0:Int),.int .u64 (x1:Int),.int .u64 (x2:Int),.int .u64 (x3:Int),.int .u64 (x4:Int),.int .u64 (x5:Int)]:=by rw [hoe];rfl
    rw [hve];clear hve hoe hv2 ho6 hlim z hrb hB2 hB Hbel;go_wp2_with fail;refine rC rfl rfl rfl (uf hrb' _ _ _ _ _ _) ?_;exact ⟨o2,by rw [Hoe.out];rfl,⟨Ho6.out,Hlim.out,by rw [Hv2.out];exact mc (by have:=Ha.out.lt;have:=Hb.out.lt;omega)⟩,Hv2.out,xL hBf (by omega) _ _ _ _ _ _⟩
def bm (x y M:Nat):Nat:=if y≤x then x - y else x+M - y
theorem rS {x y M:Nat}(hx:x<M) (hy:y<M):bm x y M<M:=by unfold bm;split <;> omega
theorem t7 {x y M:Nat}(hx:x<M) (hy:y<M):bm x y M=(x+M - y) % M:=by
 unfold bm;split
 · rw [show x+M - y=x - y+M by omega,Nat.add_mod_right,qG (by omega)]
 · rw [qG (by omega)]
theorem td {g n inv M:Nat}{ml ol rl:List Nat}(a b:List Nat) (w:World) (hF:FF w g n inv M ml ol rl) (ha:Elt M a) (hb:Elt M b) :
 Calls Tryz.prog 151 #[.pointer (some ⟨g,0,none⟩),EV a,EV b] w fun e w'=>∃ o,e=.returned (EV o)∧Elt M o∧val 18446744073709551616 o=bm (val 18446744073709551616 a) (val 18446744073709551616 b) M∧Below w.heap.size w w':=by
 have hg:=hF.fld.lt
 have h0:=hF.fld.n0
 have hn:=hF.nle
 have hn1:=hF.npos
 have ta:=ha.take hF
 have tb:=hb.take hF
 obtain ⟨a0,a1,a2,a3,a4,a5,hae⟩:=six ha.six
 obtain ⟨b0,b1,b2,b3,b4,b5,hbe⟩:=six hb.six
 obtain ⟨l1,l2,l3,l4,hz,hB0⟩:=zCl w (.cells #[.int .u64 (a0:Int),.int .u64 (a1:Int),.int .u64 (a2:Int),.int .u64 (a3:Int),.int .u64 (a4:Int),.int .u64 (a5:Int)] 147)
  (.cells #[.int .u64 (b0:Int),.int .u64 (b1:Int),.int .u64 (b2:Int),.int .u64 (b3:Int),.int .u64 (b4:Int),.int .u64 (b5:Int)] 147) (.cells #[.int .u64 0,.int .u64 0,.int .u64 0,.int .u64 0,.int .u64 0,.int .u64 0] 147)
  (.cells #[.int .u64 0,.int .u64 0,.int .u64 0,.int .u64 0,.int .u64 0,.int .u64 0] 147)
 have hva:EV a=.agg #[.int .u64 (a0:Int),.int .u64 (a1:Int),.int .u64 (a2:Int),.int .u64 (a3:Int),.int .u64 (a4:Int),.int .u64 (a5:Int)]:=by rw [hae];rfl
 have hvb:EV b=.agg #[.int .u64 (b0:Int),.int .u64 (b1:Int),.int .u64 (b2:Int),.int .u64 (b3:Int),.int .u64 (b4:Int),.int .u64 (b5:Int)]:=by rw [hbe];rfl
 rw [hva,hvb]
 have h00:=(hB0.cell (p:=⟨g,0,none⟩) hg).trans h0
 go_enter Tryz.func151,Tryz.ntmps151
 go_wp2_with fail
 generalize (((w.alloc (.cells #[.int .u64 (a0:Int),.int .u64 (a1:Int),.int .u64 (a2:Int),.int .u64 (a3:Int),.int .u64 (a4:Int),.int .u64 (a5:Int)] 147)).alloc
  (.cells #[.int .u64 (b0:Int),.int .u64 (b1:Int),.int .u64 (b2:Int),.int .u64 (b3:Int),.int .u64 (b4:Int),.int .u64 (b5:Int)] 147)).alloc (.cells #[.int .u64 0,.int .u64 0,.int .u64 0,.int .u64 0,.int .u64 0,.int .u64 0] 147)).alloc
  (.cells #[.int .u64 0,.int .u64 0,.int .u64 0,.int .u64 0,.int .u64 0,.int .u64 0] 147)=W0 at *
 have A0:vo W0 w.heap.size 147 a:=by rw [hae];exact l1
 have B0:vo W0 (w.heap.size+1) 147 b:=by rw [hbe];exact l2
 have T0:vo W0 (w.heap.size+1+1+1) 147 [0,0,0,0,0,0]:=l4
 have hW0:w.heap.size+4≤W0.heap.size:=by omega
 have Ha:=zF ha
 have Hb:=zF hb
 have Hae:=zF hae
 have Hbe:=zF hbe
 have HF:=zF hF
 clear l1 l2 l4 hz ha hb hae hbe hva hvb hF
 go_loopw [8,16] (fun cv iv wr=>∃ (k cr:Nat) (o:List Nat),iv=.int .i64 (k:Int)∧cv=.int .u64 (cr:Int)∧k≤n∧cr≤1∧vz 18446744073709551616 a b o k cr∧Hid (o.length=6)∧Hid (∀ x∈o,x<18446744073709551616)∧Hid (∀ p,k≤p→dg o p=0)∧vo wr (w.heap.size+1+1+1) 147 o∧Below (w.heap.size+1+1+1) W0 wr) (fun _ iv _=>n - (intOf iv).toNat)
 case atStart=>exact ⟨0,0,_,rfl,rfl,by omega,by omega,vz.zero _ _ _ _,zF rfl,zF (by simp),zF (fun p _=>by match p with | 0 | 1 | 2 | 3 | 4 | 5=>rfl | p+6=>rfl),T0,zO _ _⟩
 case round =>
  obtain ⟨k,cr,o,rfl,rfl,hk,hcr,hA,Ho,Hlo,Hz,hblk,hB⟩:=hrel;have hBw:Below w.heap.size w wr:=hB0.trans (hB.mono (by omega));have hFr:=HF.out.below hBw hg;have c0:=hFr.fld.n0;have hAr:=A0.below hB (by omega);have hBr:=B0.below hB (by omega);by_cases hlt:k<n
  · have q1:=hAr.cell (i:=k) (by rw [Ha.out.six];omega);have q2:=hBr.cell (i:=k) (by rw [Hb.out.six];omega);have dt:dg a k<18446744073709551616:=jZ (by omega) Ha.out.lim k;have dm:dg b k<18446744073709551616:=jZ (by omega) Hb.out.lim k;obtain ⟨s,cr',hs,hcr',he⟩:=yY (dg a k) (dg b k) cr dt dm hcr;have hok:k<o.length:=by have:=Ho.out;omega
    have q3:=hblk.cell hok;have q4:=hblk.free k;have hA':=hA.step hok he;have hblk':=hblk.set k s;have hB':=hB.setCell (p:=⟨w.heap.size+1+1+1,k,none⟩) (zH _) (.int .u64 (s:Int));have Ho':Hid ((o.set k s).length=6):=zF (by rw [jt];exact Ho.out);have Hlo':Hid (∀ x∈o.set k s,x<18446744073709551616):=zF (wu Hlo.out hs);have Hz':Hid (∀ p,k+1≤p→dg (o.set k s) p=0):=zF fun p hp=>by rw [getD_set_ne (by omega)];exact Hz.out p (by omega)
    have hsub:=fun w=>ye (dg a k) (dg b k) cr s cr' hcr dt dm hs he hcr' w;have ki6:(k:Int)<6:=by omega
    clear he hA hblk hB hok hBw hFr hAr hBr;go_wp2_with fail;have hfar:∀ q:Addr,q.block<w.heap.size+1+1+1→(wr.setCell ⟨w.heap.size+1+1+1,k,none⟩ (.int .u64 (s:Int))).drew.cell? q=wr.cell? q:=fun q hq=>zT (zN _ _ _ _ (by show q.block≠w.heap.size+1+1+1;omega));have f1:=(hfar ⟨w.heap.size,k,none⟩ (by show w.heap.size<_;omega)).trans q1;have f2:=(hfar ⟨w.heap.size+1,k,none⟩ (by show w.heap.size+1<_;omega)).trans q2;clear hfar;go_region_held3 (fun w'=>w'.cell? ⟨w.heap.size,k,none⟩=some (.int .u64 (dg a k:Int))∧w'.cell? ⟨w.heap.size+1,k,none⟩=some (.int .u64 (dg b k:Int))) (first | exact ⟨q1,q2⟩ | exact ⟨f1,f2⟩ | go_keep) (fail);go_wp2;go_roundw;case rel=>exact ⟨k+1,cr',o.set k s,by go_num,rfl,by omega,hcr',hA',Ho',Hlo',Hz',hblk',hB'.drew⟩
    case measure=>simp [intOf];omega
  · obtain rfl:k=n:=by omega
    have hdif:val 18446744073709551616 o+val 18446744073709551616 b=val 18446744073709551616 a+18446744073709551616 ^ k*cr:=by
     have h1:val 18446744073709551616 (o.take k)+val 18446744073709551616 (b.take k)=val 18446744073709551616 (a.take k)+18446744073709551616 ^ k*cr:=hA;rw [ta,tb,ku Hz.out] at h1;exact h1
    have hvo:val 18446744073709551616 o<18446744073709551616 ^ k:=by rw [←ku Hz.out];exact wd Hlo.out k
    have hroom:=hFr.room;have hal:=Ha.out.lt;have hbl:=Hb.out.lt;have hrb:=(hB.block (w.heap.size+1+1) (by omega)).trans l3;rcases za cr with h0c | h0c
    · subst h0c;have hv2:val 18446744073709551616 o=bm (val 18446744073709551616 a) (val 18446744073709551616 b) M:=by
       rw [jK,qu] at hdif;rw [bm,qK (by omega)];omega
      obtain ⟨x0,x1,x2,x3,x4,x5,hoe⟩:=six Ho.out;have hcb:wr.heap[w.heap.size+1+1+1]?=some (.cells #[.int .u64 (x0:Int),.int .u64 (x1:Int),.int .u64 (x2:Int),.int .u64 (x3:Int),.int .u64 (x4:Int),.int .u64 (x5:Int)] 147 (0,0)):=by
       rw [hoe] at hblk;exact hblk
      obtain ⟨e0,e1,e2,e3,e4,e5⟩:=xy hcb;obtain ⟨r0,r1,r2,r3,r4,r5⟩:=xy hrb;have z:=fun i=>zv hrb i;have z0:=z 0;have z1:=z 1;have z2:=z 2;have z3:=z 3;have z4:=z 4;have z5:=z 5;have hrb':=hrb;have Hv2:=zF hv2;have Hoe:=zF hoe;clear hv2 hoe hcb hrb z hdif hvo hroom hal hbl hA hblk hFr hAr hBr hB;go_wp2_with fail;refine rC rfl rfl rfl (uf hrb' _ _ _ _ _ _) ?_;exact ⟨o,by rw [Hoe.out];rfl,⟨Ho.out,Hlo.out,by rw [Hv2.out];exact rS Ha.out.lt Hb.out.lt⟩,Hv2.out,xL hBw (by omega) _ _ _ _ _ _⟩
    · obtain rfl:cr=1:=by omega
      rw [jS] at hdif;have Hdif:=zF hdif;have Hvo:=zF hvo;have Hroom:=zF hroom;have hB1:=hB;have hblk1:=hblk;have hAs:=wf.zero 18446744073709551616 o ml o;have HBw:=zF hBw;clear hA hdif hvo hroom hal hbl hFr hAr hBr hrb hB hblk hBw;go_wp2_with fail;have HT:=zF (⟨Ho.out,Hlo.out,Hz.out⟩:o.length=6∧(∀ x∈o,x<18446744073709551616)∧∀ p,k≤p→dg o p=0);go_loopw [10,40] (fun cv iv wx=>∃ (j cr:Nat) (o2:List Nat),iv=.int .i64 (j:Int)∧cv=.int .u64 (cr:Int)∧j≤k∧cr≤1∧wf 18446744073709551616 o ml o2 j cr∧Hid (∀ p,j≤p→dg o2 p=dg o p)∧Hid (o2.length=6)∧Hid (∀ x∈o2,x<18446744073709551616)∧Hid (∀ p,k≤p→dg o2 p=0)∧vo wx (w.heap.size+1+1+1) 147 o2∧Below (w.heap.size+1+1+1) W0 wx) (fun _ iv _=>k - (intOf iv).toNat);case atStart=>exact ⟨0,0,o,rfl,rfl,by omega,by omega,hAs,zF fun _ _=>rfl,Ho,Hlo,Hz,hblk1,hB1⟩
      case round =>
       clear hAs hblk1 hB1;obtain ⟨j,cr,o2,rfl,rfl,hj,hcr2,hA,Hsame,Ho2,Hlo2,Hz2,hblk,hB⟩:=hrel;have hBw:Below w.heap.size w wr:=hB0.trans (hB.mono (by omega));have hFr:=HF.out.below hBw hg;have c0:=hFr.fld.n0;by_cases hlt2:j<k
       · have q1:=hblk.cell (i:=j) (by have:=Ho2.out;omega);rw [Hsame.out j (zH _)] at q1;have q2:=hFr.fld.m_ (j:=j) (by omega);have dt:dg o j<18446744073709551616:=jZ (by omega) HT.out.2.1 j;have dm:dg ml j<18446744073709551616:=jZ (by omega) hFr.mlt j;obtain ⟨s,cr',hs,hcr',he⟩:=xp (dg o j) (dg ml j) cr dt dm hcr2;have hok:j<o2.length:=by have:=Ho2.out;omega
         have q4:=hblk.free j;have hA':=hA.step hok (by omega);have hblk':=hblk.set j s;have hB':=hB.setCell (p:=⟨w.heap.size+1+1+1,j,none⟩) (zH _) (.int .u64 (s:Int));have Ho':Hid ((o2.set j s).length=6):=zF (by rw [jt];exact Ho2.out);have Hlo':Hid (∀ x∈o2.set j s,x<18446744073709551616):=zF (wu Hlo2.out hs);have Hz':Hid (∀ p,k≤p→dg (o2.set j s) p=0):=zF fun p hp=>by rw [getD_set_ne (by omega)];exact Hz2.out p hp
         have Hs':Hid (∀ p,j+1≤p→dg (o2.set j s) p=dg o p):=zF fun p hp=>by rw [getD_set_ne (by omega)];exact Hsame.out p (by omega)
         have hadd:=fun w=>kF (dg o j) (dg ml j) cr s cr' hcr2 hs (by omega) w;have ki6:(j:Int)<6:=by omega
         clear he hA hblk hB hok hBw hFr;go_wp2_with fail;go_region_with (fail)
         all_goals
          go_wp2;go_roundw;case rel =>
           refine ⟨_,_,_,_,_,_,_,_,_,_,_,_,_,_,_,_,_,_,_,_,_,_,?_,rfl⟩;exact ⟨j+1,cr',o2.set j s,by go_num,rfl,by omega,hcr',hA',Hs',Ho',Hlo',Hz',hblk',hB'.drew⟩
          case measure=>simp [intOf];omega
       · obtain rfl:j=k:=by omega
         have hsum:val 18446744073709551616 o2+18446744073709551616 ^ j*cr=val 18446744073709551616 o+M:=by
          have h1:val 18446744073709551616 (o2.take j)+18446744073709551616 ^ j*cr=val 18446744073709551616 (o.take j)+val 18446744073709551616 (ml.take j):=hA;rwa [ku Hz2.out,ku HT.out.2.2,hFr.mtake] at h1
         have hv2:val 18446744073709551616 o2=bm (val 18446744073709551616 a) (val 18446744073709551616 b) M:=by
          have h1:=Hdif.out;have h2:=Hroom.out;have h3:=Ha.out.lt;have h4:=Hb.out.lt;have h5:val 18446744073709551616 o2<18446744073709551616 ^ j:=by rw [←ku Hz2.out];exact wd Hlo2.out j
          have h6:=Hvo.out;generalize 18446744073709551616 ^ j=R at *;have h7:cr=0∨cr=1:=by omega
          rw [bm,qA (by omega)];rcases h7 with rfl | rfl
          · rw [jK] at hsum;omega
          · omega
         have hrb:=(hB.block (w.heap.size+1+1) (by omega)).trans l3;obtain ⟨x0,x1,x2,x3,x4,x5,hoe⟩:=six Ho2.out;have hcb:wr.heap[w.heap.size+1+1+1]?=some (.cells #[.int .u64 (x0:Int),.int .u64 (x1:Int),.int .u64 (x2:Int),.int .u64 (x3:Int),.int .u64 (x4:Int),.int .u64 (x5:Int)] 147 (0,0)):=by
          rw [hoe] at hblk;exact hblk
         obtain ⟨e0,e1,e2,e3,e4,e5⟩:=xy hcb;obtain ⟨r0,r1,r2,r3,r4,r5⟩:=xy hrb;have z:=fun i=>zv hrb i;have z0:=z 0;have z1:=z 1;have z2:=z 2;have z3:=z 3;have z4:=z 4;have z5:=z 5;have hrb':=hrb;have Hv2:=zF hv2;have Hoe:=zF hoe;clear hv2 hoe hcb hrb z hsum hA hblk hFr hB;go_wp2_with fail;refine rC rfl rfl rfl (uf hrb' _ _ _ _ _ _) ?_;exact ⟨o2,by rw [Hoe.out];rfl,⟨Ho2.out,Hlo2.out,by rw [Hv2.out];exact rS Ha.out.lt Hb.out.lt⟩,Hv2.out,xL hBw (by omega) _ _ _ _ _ _⟩
theorem fQ {B:Nat}{l:List Nat}(h:∀ x∈l,x<B) (hB:0<B) (k:Nat):val B (l.take (k+1)) % B=dg l 0:=by
 cases l with
 | nil=>simp [dg]
 | cons x m=>rw [List.take_succ_cons,ju,kR,qG (h x (by simp))];rfl
theorem zAj {B M inv V u t0 m0:Nat}(hB:0<B) (hi:(inv*M+1) % B=0) (hV:V % B=t0) (hm:M % B=m0) (hu:u=t0*inv % B):(t0+u*m0) % B=0:=by
 have h1:=oI (v:=V) hi hV hu;rw [←hV,←hm,Nat.add_mod,xr,Nat.mul_mod_mod,←Nat.add_mod];exact h1
theorem tD {u m0 t0:Nat}(hu:u<18446744073709551616) (hm:m0<18446744073709551616) (ht:t0<18446744073709551616) (hz:(t0+u*m0) % 18446744073709551616=0) :
 ∃ hi lo c:Nat,lo<18446744073709551616∧lo+18446744073709551616*hi=u*m0∧c≤1∧0+18446744073709551616*c=lo+t0+0∧hi+c<18446744073709551616∧18446744073709551616*(hi+c)=t0+u*m0:=by
 have hb:=yX hu hm ht (show 0<18446744073709551616 by omega)
 refine ⟨u*m0 / 18446744073709551616,u*m0 % 18446744073709551616,(u*m0 % 18446744073709551616+t0) / 18446744073709551616,qP _ (by omega),Nat.mod_add_div _ _,?_,?_,?_,?_⟩
 all_goals
  generalize u*m0=p at *;omega
theorem sU {M vb T x R top:Nat}(e1:T=x+R*top) (h2:T<M+vb) (hM:M≤R) (hb:vb<M):top≤1:=by
 rcases zz top 2 with h | h
 · omega
 · have e5:R*2≤R*top:=zi _ h;omega
theorem cD {g n inv M:Nat}{ml ol rl:List Nat}(a b:List Nat) (w:World) (hF:FF w g n inv M ml ol rl) (ha:Elt M a) (hb:Elt M b) :
 Calls Tryz.prog 150 #[.pointer (some ⟨g,0,none⟩),EV a,EV b] w fun e w'=>∃ o,e=.returned (EV o)∧Elt M o∧val 18446744073709551616 o*18446744073709551616 ^ n % M=val 18446744073709551616 a*val 18446744073709551616 b % M∧Below w.heap.size w w':=by
 have hg:=hF.fld.lt
 have h0:=hF.fld.n0
 have hn:=hF.nle
 have hn1:=hF.npos
 have ta:=ha.take hF
 have tb:=hb.take hF
 obtain ⟨a0,a1,a2,a3,a4,a5,hae⟩:=six ha.six
 obtain ⟨b0,b1,b2,b3,b4,b5,hbe⟩:=six hb.six
 obtain ⟨l1,l2,l3,l4,hz,hB0⟩:=zCl w (.cells #[.int .u64 (a0:Int),.int .u64 (a1:Int),.int .u64 (a2:Int),.int .u64 (a3:Int),.int .u64 (a4:Int),.int .u64 (a5:Int)] 147)
  (.cells #[.int .u64 (b0:Int),.int .u64 (b1:Int),.int .u64 (b2:Int),.int .u64 (b3:Int),.int .u64 (b4:Int),.int .u64 (b5:Int)] 147) (.cells #[.int .u64 0,.int .u64 0,.int .u64 0,.int .u64 0,.int .u64 0,.int .u64 0] 147)
  (.cells #[.int .u64 0,.int .u64 0,.int .u64 0,.int .u64 0,.int .u64 0,.int .u64 0,.int .u64 0,.int .u64 0] 225)
 have hva:EV a=.agg #[.int .u64 (a0:Int),.int .u64 (a1:Int),.int .u64 (a2:Int),.int .u64 (a3:Int),.int .u64 (a4:Int),.int .u64 (a5:Int)]:=by rw [hae];rfl
 have hvb:EV b=.agg #[.int .u64 (b0:Int),.int .u64 (b1:Int),.int .u64 (b2:Int),.int .u64 (b3:Int),.int .u64 (b4:Int),.int .u64 (b5:Int)]:=by rw [hbe];rfl
 rw [hva,hvb]
 have h00:=(hB0.cell (p:=⟨g,0,none⟩) hg).trans h0
 go_enter Tryz.func150,Tryz.ntmps150
 go_wp2_with fail
 generalize (((w.alloc (.cells #[.int .u64 (a0:Int),.int .u64 (a1:Int),.int .u64 (a2:Int),.int .u64 (a3:Int),.int .u64 (a4:Int),.int .u64 (a5:Int)] 147)).alloc
  (.cells #[.int .u64 (b0:Int),.int .u64 (b1:Int),.int .u64 (b2:Int),.int .u64 (b3:Int),.int .u64 (b4:Int),.int .u64 (b5:Int)] 147)).alloc (.cells #[.int .u64 0,.int .u64 0,.int .u64 0,.int .u64 0,.int .u64 0,.int .u64 0] 147)).alloc
  (.cells #[.int .u64 0,.int .u64 0,.int .u64 0,.int .u64 0,.int .u64 0,.int .u64 0,.int .u64 0,.int .u64 0] 225)=W0 at *
 have A0:vo W0 w.heap.size 147 a:=by rw [hae];exact l1
 have B0:vo W0 (w.heap.size+1) 147 b:=by rw [hbe];exact l2
 have T0:vo W0 (w.heap.size+1+1+1) 225 [0,0,0,0,0,0,0,0]:=l4
 have hW0:w.heap.size+4≤W0.heap.size:=by omega
 have Ha:=zF ha
 have Hb:=zF hb
 have Hae:=zF hae
 have Hbe:=zF hbe
 have HF:=zF hF
 clear l1 l2 l4 hz ha hb hae hbe hva hvb hF
 have hmg:Hid (∀ j,j<6→True):=zF fun _ _=>trivial
 go_loopw [24] (fun iv wr=>∃ (i:Nat) (o:List Nat),iv=.int .i64 (i:Int)∧i≤n∧Hid (df 18446744073709551616 M a b (val 18446744073709551616 (o.take (n+1))) i)∧Hid (o.length=8)∧Hid (∀ x∈o,x<18446744073709551616)∧vo wr (w.heap.size+1+1+1) 225 o∧Below (w.heap.size+1+1+1) W0 wr) (fun iv _=>n - (intOf iv).toNat)
 case atStart=>exact ⟨0,_,rfl,by omega,zF (by
  have h1:val 18446744073709551616 (([0,0,0,0,0,0,0,0]:List Nat).take (n+1))=0:=wJ fun x hx=>by have:=qW hx;simp at this;exact this
  rw [h1];exact df.zero _ _ (by have:=HF.out.big;omega)),zF rfl,zF (by simp),T0,zO _ _⟩
 case round =>
  obtain ⟨i,o,rfl,hi,HM,Ho,Hlo,hblk,hB⟩:=hrel;have hBw:Below w.heap.size w wr:=hB0.trans (hB.mono (by omega));have c0:=(HF.out.below hBw hg).fld.n0;by_cases hlt:i<n
  · have dai:dg a i<18446744073709551616:=jZ (by omega) Ha.out.lim i;obtain ⟨ai,hai⟩:=eV (dg a i);rw [hai] at dai;have Hai:=zF hai;have ki6:(i:Int)<6:=by omega
    have hstart:=yU.zero 18446744073709551616 o b ai;have Hstart:=zF hstart;clear hai hstart hBw;go_wp2_with fail;go_loopw [11,28] (fun cv jv wr=>∃ (j cr:Nat) (o1:List Nat),jv=.int .i64 (j:Int)∧cv=.int .u64 (cr:Int)∧j≤n∧cr<18446744073709551616∧Hid (yU 18446744073709551616 o b o1 ai j cr)∧Hid (∀ x∈o1,x<18446744073709551616)∧vo wr (w.heap.size+1+1+1) 225 o1∧Below (w.heap.size+1+1+1) W0 wr) (fun _ jv _=>n - (intOf jv).toNat);case atStart=>exact ⟨0,0,o,rfl,rfl,by omega,by omega,Hstart,Hlo,hblk,hB⟩
    case round =>
     clear hblk hB c0;obtain ⟨j,cr,o1,rfl,rfl,hj,hcr,HA,Hlo1,hblk,hB⟩:=hrel;have hl1:o1.length=8:=by have:=HA.out.1;have:=Ho.out;omega
     have hBw:Below w.heap.size w wr:=hB0.trans (hB.mono (by omega));have hAr:=A0.below hB (by omega);have hBr:=B0.below hB (by omega);by_cases hjt:j<n
     · have q1:=hAr.cell (i:=i) (by rw [Ha.out.six];omega);rw [Hai.out] at q1;have q2:=hBr.cell (i:=j) (by rw [Hb.out.six];omega);have q3:=hblk.cell (i:=j) (by omega);have q4:=hblk.free j;have db:dg b j<18446744073709551616:=jZ (by omega) Hb.out.lim j;have d1:dg o1 j<18446744073709551616:=jZ (by omega) Hlo1.out j;obtain ⟨hi',lo,s1,c1,s2,c2,b1,b2,b3,b4,b5,b6,b7,b8,b9,b10,he⟩:=ge ai (dg b j) (dg o1 j) cr dai db d1 hcr;have hmul:=zF (fun k=>(yk ai (dg b j) hi' lo dai db b1 b2 (World.drewN wr k)).mono fun e w' (h:e=_∧_=w')=>(⟨h.1,h.2.symm⟩:e=.returned (.tuple #[.int .u64 (hi':Int),.int .u64 (lo:Int)])∧w'=World.drewN wr k));have hadd1:=fun w=>kF lo (dg o1 j) 0 s1 c1 (by omega) b3 b4 w;have hadd2:=fun w=>kF s1 cr 0 s2 c2 (by omega) b5 b6 w;simp only [qe] at hadd1 hadd2;have hA':=zF (HA.out.step (s:=s2) (c':=hi'+c1+c2) (by have:=Ho.out;omega) (by rw [he];omega));have hblk':=hblk.set j s2;have hB':=hB.setCell (p:=⟨w.heap.size+1+1+1,j,none⟩) (zH _) (.int .u64 (s2:Int));have Hlo':Hid (∀ x∈o1.set j s2,x<18446744073709551616):=zF (wu Hlo1.out b5);have kj8:(j:Int)<8:=by omega
       have kj6:(j:Int)<6:=by omega
       have hl8:(o1.set j s2).length=8:=by simpa using hl1
       clear he b2 b4 b6 HA hB hBw hAr hBr hl1 hblk;go_wp2_with fail;go_quiet (first | (go_at_call 154;exact Calls.quiet_of_same (hmul.out _)));go_wp2_with fail;go_roundw;case rel=>exact ⟨j+1,hi'+c1+c2,o1.set j s2,by go_num,by go_num,by omega,b10,hA',Hlo',hblk',qR hB' _⟩
       case measure=>simp [intOf];omega
     · obtain rfl:j=n:=by omega
       have q3:=hblk.cell (i:=j) (by omega);have q4:=hblk.free j;have d1:dg o1 j<18446744073709551616:=jZ (by omega) Hlo1.out j;obtain ⟨s,c1,hs1,hs2,hs3⟩:=xp (dg o1 j) cr 0 d1 hcr (by omega);have hadd:=fun w=>kF (dg o1 j) cr 0 s c1 (by omega) hs1 hs3 w;simp only [qe] at hadd;obtain ⟨hl2,hv2⟩:=HA.out.fin (s:=s) (c':=c1) (by have:=Ho.out;omega) (.inr tb) (by omega);have hlim2:∀ x∈(o1.set j s).set (j+1) c1,x<18446744073709551616:=wu (wu Hlo1.out hs1) (by omega);have hblk1:=hblk.set j s;have q5:=hblk1.cell (i:=j+1) (by simp;omega);have q6:=hblk1.free (j+1);have hblk2:=hblk1.set (j+1) c1;have hB2:=(hB.setCell (p:=⟨w.heap.size+1+1+1,j,none⟩) (zH _) (.int .u64 (s:Int))).setCell (p:=⟨w.heap.size+1+1+1,j+1,none⟩) (zH _) (.int .u64 (c1:Int));have kj8:(j:Int)<8:=by omega
       have kj9:(j:Int)+1<8:=by omega
       have hl2':((o1.set j s).set (j+1) c1).length=8:=by rw [hl2];exact Ho.out
       generalize ho2:(o1.set j s).set (j+1) c1=o2 at *;have hW2:=hB2.size;have m0:dg ml 0<18446744073709551616:=jZ (by omega) HF.out.mlt 0;have t0:dg o2 0<18446744073709551616:=jZ (by omega) hlim2 0;have HV2:=zF hv2;have Hl2:=zF hl2';have Hlim2:=zF hlim2;clear hs3 HA hv2 hl2 hl2' hlim2 hblk hblk1 hB ho2 hBw hAr hBr;go_wp2_with fail;generalize (World.setCell wr ⟨w.heap.size+1+1+1,j,none⟩ (.int .u64 (s:Int))).setCell ⟨w.heap.size+1+1+1,j+1,none⟩ (.int .u64 (c1:Int))=W2 at *;have hBw2:Below w.heap.size w W2:=hB0.trans (hB2.mono (by omega));have hF2:=HF.out.below hBw2 hg;have i7:=hF2.fld.inv_;have i1:=hF2.fld.m_ (j:=0) (by omega);have e0:=hblk2.cell (i:=0) (by have:=Hl2.out;omega);obtain ⟨u,hu⟩:=eV (dg o2 0*inv % 18446744073709551616);have hub:u<18446744073709551616:=by rw [←hu];exact qP _ (by omega)
       have hwu:=nG (dg o2 0) inv;rw [hu] at hwu;have hV0:(val 18446744073709551616 (o.take (j+1))+ai*val 18446744073709551616 b) % 18446744073709551616=dg o2 0:=by rw [←HV2.out];exact fQ Hlim2.out (by omega) _
       have hM0:M % 18446744073709551616=dg ml 0:=by
        obtain ⟨k,hk⟩:∃ k,j=k+1:=⟨j - 1,by omega⟩
        rw [←HF.out.mtake,hk];exact fQ HF.out.mlt (by omega) _
       have hz:=zAj (by omega) HF.out.invV hV0 hM0 hu.symm;obtain ⟨hi',lo,c2,b1,b2,b3,b4,b5,b6⟩:=tD hub m0 t0 hz;have hmul:=zF (fun w=>yk u (dg ml 0) hi' lo hub m0 b1 b2 w);have hadd3:=fun w=>kF lo (dg o2 0) 0 0 c2 (by omega) (by omega) b4 w;simp only [qe] at hadd3;obtain ⟨p0,hp0⟩:∃ p0,p0+1=j:=⟨j - 1,by omega⟩
       have Hs0:=zF (yT.zero (t:=o2) (m:=ml) (u:=u) (c:=hi'+c2) b6);have Hu:=zF (show u=(val 18446744073709551616 (o.take (j+1))+dg a i*val 18446744073709551616 b) % 18446744073709551616*inv % 18446744073709551616 by rw [Hai.out,hV0,hu]);have Hp0:=zF hp0;clear hu hV0 hM0 hz b2 b4 b6 hp0;go_quiet (fail);go_wp2_with fail;refine (hmul.out _).mono ?_;rintro e w3 ⟨rfl,rfl⟩;go_wp2_with fail;have hblk3:vo (W2.drewN nq) (w.heap.size+1+1+1) 225 o2:=hblk2;have hB3:=qR hB2 nq;clear hblk2 hB2 e0 i7 i1 hF2 hBw2 q3 q4 q5 q6 hmul;generalize W2.drewN nq=W3 at *;go_loopw [11,18] (fun cv qv wr=>∃ (k cr:Nat) (o3:List Nat),qv=.int .i64 ((k:Int)+1)∧cv=.int .u64 (cr:Int)∧k+1≤j∧cr<18446744073709551616∧Hid (yT 18446744073709551616 o2 ml o3 u k cr)∧Hid (∀ x∈o3,x<18446744073709551616)∧vo wr (w.heap.size+1+1+1) 225 o3∧Below (w.heap.size+1+1+1) W0 wr) (fun _ qv _=>j - (intOf qv).toNat);case atStart=>exact ⟨0,hi'+c2,o2,rfl,by go_num,by omega,b5,Hs0,Hlim2,hblk3,hB3⟩
       case round =>
        clear hblk3 hB3;obtain ⟨k,cr,o3,rfl,rfl,hk,hcr,HS,Hlo3,hblk,hB⟩:=hrel;have hl3:o3.length=8:=by have:=HS.out.1;have:=Hl2.out;omega
        have hBw:Below w.heap.size w wr:=hB0.trans (hB.mono (by omega));have hFr:=(HF.out.below hBw hg).fld;by_cases hkt:k+1<j
        · have i1:=hFr.m_ (j:=k+1) (by omega);have q3:=hblk.cell (i:=k+1) (by omega);have q4:=hblk.free k;have q5:=hblk.cell (i:=k) (by omega);have dm:dg ml (k+1)<18446744073709551616:=jZ (by omega) HF.out.mlt (k+1);have d1:dg o3 (k+1)<18446744073709551616:=jZ (by omega) Hlo3.out (k+1);obtain ⟨hi',lo,s1,c1,s2,c2,b1,b2,b3,b4,b5,b6,b7,b8,b9,b10,he⟩:=ge u (dg ml (k+1)) (dg o3 (k+1)) cr hub dm d1 hcr;have hmul:=zF (fun w=>yk u (dg ml (k+1)) hi' lo hub dm b1 b2 w);have hadd1:=fun w=>kF lo (dg o3 (k+1)) 0 s1 c1 (by omega) b3 b4 w;have hadd2:=fun w=>kF s1 cr 0 s2 c2 (by omega) b5 b6 w;simp only [qe] at hadd1 hadd2;have hS':=zF (HS.out.step (s:=s2) (c':=hi'+c1+c2) (by have:=Hl2.out;omega) (by rw [he];omega));have hblk':=hblk.set k s2;have hB':=hB.setCell (p:=⟨w.heap.size+1+1+1,k,none⟩) (zH _) (.int .u64 (s2:Int));have Hlo':Hid (∀ x∈o3.set k s2,x<18446744073709551616):=zF (wu Hlo3.out b5);have kj8:(k:Int)+1<8:=by omega
          have kj6:(k:Int)+1<6:=by omega
          have kk8:(k:Int)<8:=by omega
          clear he b2 b4 b6 HS hB hBw hFr hl3 hblk;go_wp2_with fail;refine (hmul.out _).mono ?_;rintro e w3 ⟨rfl,rfl⟩;go_wp2;go_roundw;case rel=>exact ⟨k+1,hi'+c1+c2,o3.set k s2,by go_num,by go_num,by omega,b10,hS',Hlo',hblk',hB'⟩
          case measure=>simp [intOf];omega
        · have hkj:k+1=j:=by omega
          have q3:=hblk.cell (i:=j) (by omega);have q4:=hblk.free k;have q5:=hblk.cell (i:=k) (by omega);have d1:dg o3 j<18446744073709551616:=jZ (by omega) Hlo3.out j;obtain ⟨s,c1,hs1,hs2,hs3⟩:=xp (dg o3 j) cr 0 d1 hcr (by omega);have hadd:=fun w=>kF (dg o3 j) cr 0 s c1 (by omega) hs1 hs3 w;simp only [qe] at hadd;obtain ⟨hl4,hv4⟩:=HS.out.fin (s:=s) (c':=c1) (by have:=Hl2.out;omega) (by rw [hkj,HF.out.mtake,HF.out.mval]) (by rw [hkj];omega);rw [HF.out.mval,show k+3=j+2 by omega,HV2.out] at hv4;have hM4:=df.step (by omega) HM.out (by rw [Hai.out];exact dai) Hu.out rfl (T4:=val 18446744073709551616 (((o3.set k s).set (k+1) (dg o3 (k+2)+c1)).take (k+2))) (by rw [Hai.out];exact hv4.symm);have htop:dg o3 (k+2)+c1≤1:=by
           have e1:=qD 18446744073709551616 ((o3.set k s).set (k+1) (dg o3 (k+2)+c1)) (k+1);rw [vV (by simp;omega)] at e1;have e2:=hM4.1;have e3:=HF.out.room;rw [←hkj] at e3;exact sU e1 e2 (qt e3) Hb.out.lt
          have hlim4:∀ x∈(o3.set k s).set (k+1) (dg o3 (k+2)+c1),x<18446744073709551616:=wu (wu Hlo3.out hs1) (by omega);rw [show k+2=j+1 by omega,hkj] at hM4 hlim4 hl4;rw [show k+2=j+1 by omega] at htop;have hblk1:=hblk.set k s;have q6:=hblk1.cell (i:=j+1) (by simp;omega);rw [getD_set_ne (by omega)] at q6;have q7:=hblk1.cell (i:=j) (by simp;omega);have q8:=hblk1.free j;have hblk2:=hblk1.set j (dg o3 (j+1)+c1);have hB2:=(hB.setCell (p:=⟨w.heap.size+1+1+1,k,none⟩) (zH _) (.int .u64 (s:Int))).setCell (p:=⟨w.heap.size+1+1+1,j,none⟩) (zH _) (.int .u64 ((dg o3 (j+1)+c1:Nat):Int));have kj8:(j:Int)<8:=by omega
          have kj9:(j:Int)+1<8:=by omega
          have kk8:(k:Int)<8:=by omega
          have hl5:((o3.set k s).set j (dg o3 (j+1)+c1)).length=8:=by simpa using hl3
          have HM4:=zF hM4;have Hlim4:=zF hlim4;have Hl5:=zF hl5;have hwt:=jD ((dg o3 (j+1):Int)+(c1:Int)) (by omega);have Hwt:=zF hwt;have Hkj:=zF hkj;clear hs3 HS hv4 hM4 hlim4 hl4 hl5 hblk hblk1 hB hBw hFr htop hkj hwt;go_upto_region 30 with fail;have i0:(j:Int) - 1=(k:Int):=by have:=Hkj.out;omega
          go_upto_region 31 with fail;have hwt:=Hwt.out;go_wp2_with fail;refine ⟨⟨i+1,(o3.set k s).set j (dg o3 (j+1)+c1),by go_num,by omega,HM4,Hl5,Hlim4,by simpa using hblk2,by simpa using hB2⟩,by simp [intOf];omega⟩
  · obtain rfl:i=n:=by omega
    obtain ⟨hTb,kk,hTk⟩:=HM.out;have hFr:=HF.out.below hBw hg;have hT:val 18446744073709551616 (o.take i)+18446744073709551616 ^ i*dg o i=val 18446744073709551616 (o.take (i+1)):=(qD _ _ _).symm;have q1:=hblk.cell (i:=i) (by have:=Ho.out;omega);have hbel:=cE (w.heap.size+1+1+1) (dg o i) o wr hFr.fld hFr.mlt hblk (by omega) Ho.out Hlo.out hn hn1 (by rw [hFr.mtake,hFr.mval]) (jZ (by omega) Hlo.out i) (by rw [hT,hFr.mval];have:=Hb.out.lt;omega);rw [hT,hFr.mval] at hbel;have hoff:=oA (v:=val 18446744073709551616 (o.take (i+1))) (M:=M) (R:=18446744073709551616 ^ i) hTk;rw [ta] at hoff;have hltm:=mc (v:=val 18446744073709551616 (o.take (i+1))) (M:=M) (by have:=Hb.out.lt;omega);have Hoff:=zF hoff;have Hltm:=zF hltm;have Hbel:=zF hbel;have ki8:(i:Int)<8:=by omega
    clear hbel hT hFr hTb hTk hoff hltm hblk;go_wp2_with fail;refine Hbel.out.mono ?_;rintro e w2 ⟨o2,rfl,ho6,hlim,hv2,hB2⟩;obtain ⟨x0,x1,x2,x3,x4,x5,hoe⟩:=six ho6;have hrb:=(hB2.block (w.heap.size+1+1) (by have:=hB.size;omega)).trans ((hB.block (w.heap.size+1+1) (by omega)).trans l3);obtain ⟨r0,r1,r2,r3,r4,r5⟩:=xy hrb;have z:=fun i=>zv hrb i;have z0:=z 0;have z1:=z 1;have z2:=z 2;have z3:=z 3;have z4:=z 4;have z5:=z 5;have hrb':=hrb;have hBf:Below w.heap.size w w2:=hBw.trans (hB2.mono hBw.size);have Hv2:=zF hv2;have Ho6:=zF ho6;have Hlim:=zF hlim;have Hoe:=zF hoe;have hve:EV o2=.agg #[.int .u64 (x0:Int),.int .u64 (x1:Int),.int .u64 (x2:Int),.int .u64 (x3:Int),.int .u64 (x4:Int),.int .u64 (x5:Int)]:=by rw [hoe];rfl
    rw [hve];clear hve hoe hv2 ho6 hlim z hrb hB2 hB Hbel;go_wp2_with fail;refine rC rfl rfl rfl (uf hrb' _ _ _ _ _ _) ?_;exact ⟨o2,by rw [Hoe.out];rfl,⟨Ho6.out,Hlim.out,by rw [Hv2.out];exact Hltm.out⟩,by rw [Hv2.out];exact Hoff.out,xL hBf (by omega) _ _ _ _ _ _⟩
theorem yu {a b c M:Nat}(h:(a+c) % M=(b+c) % M):a % M=b % M:=by
 have h1:=congrArg (fun z:Nat=>(z:Int)) h;simp only [Int.natCast_emod,vK] at h1;have h2:((a:Int)+c - c) % M=((b:Int)+c - c) % M:=by rw [Int.sub_emod,h1,←Int.sub_emod]
 rw [Int.add_sub_cancel,Int.add_sub_cancel] at h2;exact_mod_cast h2
theorem mO {x y M R:Nat}(hM:0<M) (hy:y≤M):bm (x*R % M) (y*R % M) M=(x+M - y)*R % M:=by
 have h1:=qP (x*R) hM;have h2:=qP (y*R) hM;rw [t7 h1 h2];refine yu (c:=y*R % M) ?_;rw [show x*R % M+M - y*R % M+y*R % M=x*R % M+M by omega,Nat.add_mod_right,xr];rw [Nat.add_mod_mod,←qr,show x+M - y+y=x+M by omega,qr,kR]
theorem zBn {x M:Nat}(h:x<2*M):uj x M=x % M:=by
 rw [uj];split
 · rw [qG (by assumption)]
 · rw [show x=x - M+M by omega,Nat.add_mod_right,qG (by omega)];omega
structure FE (M n:Nat) (l:List Nat) (x:Nat):Prop where
 elt:Elt M l
 form:val 18446744073709551616 l=x*18446744073709551616 ^ n % M
theorem FE.mod {M n:Nat}{l:List Nat}{x:Nat}(h:FE M n l x):FE M n l (x % M):=⟨h.elt,by rw [Nat.mod_mul_mod];exact h.form⟩
theorem FE.zero_iff {w:World}{g n inv M:Nat}{ml ol rl l:List Nat}{x:Nat}(h:FE M n l x) (hF:FF w g n inv M ml ol rl):l=[0,0,0,0,0,0]↔x % M=0:=by
 constructor
 · intro hz;have h1:=h.form;rw [hz] at h1;have h2:x*18446744073709551616 ^ n % M=0*18446744073709551616 ^ n % M:=by rw [←h1];simp
   have:=uw hF.invV h2;simpa using this
 · intro hz;have h1:=h.form;rw [←Nat.mod_mul_mod,hz,Nat.zero_mul,Nat.zero_mod] at h1;obtain ⟨a,b,c,d,e,f,rfl⟩:=six h.elt.six;simp only [ju,zBO] at h1;simp;omega
theorem uX {g n inv M:Nat}{ml ol rl:List Nat}{a b:List Nat}{x y:Nat}(w:World) (hF:FF w g n inv M ml ol rl) (ha:FE M n a x) (hb:FE M n b y) :
 Calls Tryz.prog 150 #[.pointer (some ⟨g,0,none⟩),EV a,EV b] w fun e w'=>∃ o,e=.returned (EV o)∧FE M n o (x*y)∧Below w.heap.size w w':=by
 refine (cD a b w hF ha.elt hb.elt).mono ?_
 rintro e w' ⟨o,rfl,ho,hv,hB⟩
 refine ⟨o,rfl,⟨ho,?_⟩,hB⟩
 rw [ha.form,hb.form,←vZ] at hv
 have h1:val 18446744073709551616 o*18446744073709551616 ^ n % M=(x*y*18446744073709551616 ^ n)*18446744073709551616 ^ n % M:=by
  rw [hv];congr 1;generalize 18446744073709551616 ^ n=R;rw [Nat.mul_mul_mul_comm,zd (x*y)]
 have h2:=uw hF.invV h1
 rwa [qG ho.lt] at h2
theorem od {g n inv M:Nat}{ml ol rl:List Nat}{a b:List Nat}{x y:Nat}(w:World) (hF:FF w g n inv M ml ol rl) (ha:FE M n a x) (hb:FE M n b y) :
 Calls Tryz.prog 149 #[.pointer (some ⟨g,0,none⟩),EV a,EV b] w fun e w'=>∃ o,e=.returned (EV o)∧FE M n o (x+y)∧Below w.heap.size w w':=by
 refine (tg a b w hF ha.elt hb.elt).mono ?_
 rintro e w' ⟨o,rfl,ho,hv,hB⟩
 refine ⟨o,rfl,⟨ho,?_⟩,hB⟩
 have h1:=ha.elt.lt
 have h2:=hb.elt.lt
 rw [hv,zBn (by omega),ha.form,hb.form,←Nat.add_mod,←qr]
theorem bO {g n inv M:Nat}{ml ol rl:List Nat}{a b:List Nat}{x y:Nat}(w:World) (hF:FF w g n inv M ml ol rl) (ha:FE M n a x) (hb:FE M n b y) (hy:y≤M) :
 Calls Tryz.prog 151 #[.pointer (some ⟨g,0,none⟩),EV a,EV b] w fun e w'=>∃ o,e=.returned (EV o)∧FE M n o (x+M - y)∧Below w.heap.size w w':=by
 refine (td a b w hF ha.elt hb.elt).mono ?_
 rintro e w' ⟨o,rfl,ho,hv,hB⟩
 refine ⟨o,rfl,⟨ho,?_⟩,hB⟩
 rw [hv,ha.form,hb.form,mO (by have:=hF.big;omega) hy]
theorem zA5 {x y b M:Nat}(hM:3<M):(y*y+M - (((x*x+M - 3)*x+b) % M)) % M=0↔y*y % M=((x*x % M*x % M+M - 3*x % M) % M+b) % M:=by
 have h0:0<M:=by omega
 have hr:=qP ((x*x+M - 3)*x+b) h0;have e1:(y*y+M - (((x*x+M - 3)*x+b) % M)) % M=0↔y*y % M=((x*x+M - 3)*x+b) % M:=by
  constructor
  · intro h;have h1:(y*y+M - (((x*x+M - 3)*x+b) % M)+(((x*x+M - 3)*x+b) % M)) % M=(0+((x*x+M - 3)*x+b) % M) % M:=by rw [Nat.add_mod,h,xr,jc]
    rw [show y*y+M - (((x*x+M - 3)*x+b) % M)+(((x*x+M - 3)*x+b) % M)=y*y+M by omega,Nat.add_mod_right,jc,xr] at h1;exact h1
  · intro h;have h1:(y*y+M - (((x*x+M - 3)*x+b) % M)+(((x*x+M - 3)*x+b) % M)) % M=(0+((x*x+M - 3)*x+b) % M) % M:=by
     rw [show y*y+M - (((x*x+M - 3)*x+b) % M)+(((x*x+M - 3)*x+b) % M)=y*y+M by omega,Nat.add_mod_right,jc,xr];exact h
    have h2:=yu h1;rwa [Nat.zero_mod] at h2
 have h3:=qP (3*x) h0;have h4:(x*x+M - 3)*x % M=(x*x % M*x % M+M - 3*x % M) % M:=by
  refine yu (c:=3*x) ?_;rw [←qr,show x*x+M - 3+3=x*x+M by omega,qr,kR];rw [Nat.add_mod (x*x % M*x % M+M - 3*x % M),←xr (3*x) M,←Nat.add_mod,xr,show x*x % M*x % M+M - 3*x % M+3*x % M=x*x % M*x % M+M by omega,Nat.add_mod_right,xr,Nat.mod_mul_mod]
 rw [e1,Nat.add_mod ((x*x+M - 3)*x),h4,Nat.add_mod_mod]
structure FR (w:World) (g n inv M:Nat) (ml ol rl:List Nat):Prop where
 ff:FF w g n inv M ml ol rl
 oelt:Elt M ol
 oval:val 18446744073709551616 ol=18446744073709551616 ^ n % M
 relt:Elt M rl
 rval:val 18446744073709551616 rl=18446744073709551616 ^ n*18446744073709551616 ^ n % M
theorem FR.below {w w':World}{g n inv M B:Nat}{ml ol rl:List Nat}(h:FR w g n inv M ml ol rl) (hb:Below B w w') (hg:g<B):FR w' g n inv M ml ol rl :=
 ⟨h.ff.below hb hg,h.oelt,h.oval,h.relt,h.rval⟩
theorem Fld.r_ {w:World}{g n inv:Nat}{ml ol rl:List Nat}(h:Fld w g n inv ml ol rl){j:Nat}(hj:j<6):w.cell? ⟨g,14+j,none⟩=some (.int .u64 (dg rl j:Int)):=by
 rw [zJ h.blk (14+j)];obtain ⟨a,b,c,d,e,f,rfl⟩:=six h.m6;obtain ⟨a,b,c,d,e,f,rfl⟩:=six h.o6;obtain ⟨a,b,c,d,e,f,rfl⟩:=six h.r6;match j,hj with
 | 0,_ | 1,_ | 2,_ | 3,_ | 4,_ | 5,_=>rfl
theorem gl {dT sT:TypeId}(hdT:Tryz.prog.underlying dT=some (.slice 69)) (w:World) (g o dLen dCap:Nat) (cur:List Value) (ty:TypeId) (hg:w.heap[g]?=some (.cells cur.toArray ty (0,0))) (P:Nat→Prop) (A:Option Addr) (c:Nat) (a:List Nat) (h:RN w P A c a) (hle:a.length≤dLen) (hfit:o+a.length≤cur.length) :
   ∃ W', (Builtin.copy_ #[dT, sT] 3 #[.slice (some ⟨g, o, none⟩) dLen dCap, .slice A a.length c]).run Tryz.prog w = .ok (goInt a.length) W' ∧ W'.heap[g]? = some (.cells (cur.take o ++ nts a ++ cur.drop (o + a.length)).toArray ty (0, 0)) ∧
     (∀ B w0,B≤g→Below B w0 w→Below B w0 W')∧(∀ k,k≠g→W'.heap[k]?=w.heap[k]?)∧W'.heap.size=w.heap.size:=by
 rcases za a.length with h0 | hpos
 · obtain rfl:=qC h0;refine ⟨w,run_copy_none w dT sT 3 69 (some ⟨g,o,none⟩) A dLen dCap 0 c hdT xP (qc (j6 _)),?_,fun _ _ _ h=>h,fun _ _=>rfl,rfl⟩;rw [hg];simp [nts]
 · obtain ⟨ad,rfl,_,_⟩:=h.at_ hpos
   have hr:=run_copy_row (P:=Tryz.prog) w dT sT 3 69 g o dLen dCap ad a.length c cur.toArray ty (nts a) hdT xP hg (by rw [qj];exact (qc hle).symm) (fun j v hj=>by
     have hj':j<a.length:=by have:=(List.getElem?_eq_some_iff.1 hj).1;simpa [nts] using this
     rw [h.cells j hj']
     rw [uk hj'] at hj
     exact hj) (by rw [qj];simpa using hfit) (kG a)
   rw [qj] at hr;refine ⟨_,hr,setRow_heap w g _ _ _ _ hg,fun B w0 hB hb=>wv hb hB _,fun k hk=>?_,by simp [World.setRow]⟩;simp [World.setRow,kY,show ¬ g=k from fun e=>hk e.symm]
theorem yz {g n inv M:Nat}{ml ol rl:List Nat}(P:Nat→Prop) (A:Option Addr) (c:Nat) (a:List Nat) (w:World) (hF:FR w g n inv M ml ol rl) (h:RN w P A c a) (hP:∀ b,P b→b<w.heap.size) (hl:a.length≤6) (hlt:val 18446744073709551616 a<M) :
   Calls Tryz.prog 145 #[.pointer (some ⟨g,0,none⟩),.slice A a.length c] w fun e w'=>∃ o,e=.returned (EV o)∧FE M n o (val 18446744073709551616 a)∧Below w.heap.size w w':=by
 have hg:=hF.ff.fld.lt;have l1:((w.alloc (.cells #[.int .u64 0,.int .u64 0,.int .u64 0,.int .u64 0,.int .u64 0,.int .u64 0] 147)).alloc (.cells #[.int .u64 0,.int .u64 0,.int .u64 0,.int .u64 0,.int .u64 0,.int .u64 0] 147)).heap[w.heap.size]?=some (.cells #[.int .u64 0,.int .u64 0,.int .u64 0,.int .u64 0,.int .u64 0,.int .u64 0] 147 (0,0)):=(zx _ _ _ (by simp)).trans (zP w _);have l2:((w.alloc (.cells #[.int .u64 0,.int .u64 0,.int .u64 0,.int .u64 0,.int .u64 0,.int .u64 0] 147)).alloc (.cells #[.int .u64 0,.int .u64 0,.int .u64 0,.int .u64 0,.int .u64 0,.int .u64 0] 147)).heap[w.heap.size+1]?=some (.cells ([.int .u64 0,.int .u64 0,.int .u64 0,.int .u64 0,.int .u64 0,.int .u64 0]:List Value).toArray 147 (0,0)):=by
   have:=zP (w.alloc (.cells #[.int .u64 0,.int .u64 0,.int .u64 0,.int .u64 0,.int .u64 0,.int .u64 0] 147)) (.cells #[.int .u64 0,.int .u64 0,.int .u64 0,.int .u64 0,.int .u64 0,.int .u64 0] 147);rw [qL] at this;exact this
 have hB0:Below w.heap.size w ((w.alloc (.cells #[.int .u64 0,.int .u64 0,.int .u64 0,.int .u64 0,.int .u64 0,.int .u64 0] 147)).alloc (.cells #[.int .u64 0,.int .u64 0,.int .u64 0,.int .u64 0,.int .u64 0,.int .u64 0] 147)):=((zO _ w).alloc (zH _) _).alloc (by simp) _;obtain ⟨W',hcp,hw1,hw2,hw3,hw4⟩:=gl (dT:=22) (sT:=23) Tryz.underlying22 _ (w.heap.size+1) 0 6 6 _ 147 l2 P A c a (h.below hB0 hP) hl (by simp;omega);have hB1:=hw2 w.heap.size w (by omega) hB0;have hrb:=(hw3 w.heap.size (by omega)).trans l1;clear l1 l2 hw2 hw3 hw4 hB0;have hpad:(([.int .u64 0,.int .u64 0,.int .u64 0,.int .u64 0,.int .u64 0,.int .u64 0]:List Value).take 0++nts a++([.int .u64 0,.int .u64 0,.int .u64 0,.int .u64 0,.int .u64 0,.int .u64 0]:List Value).drop (0+a.length))=nts (a++List.replicate (6 - a.length) 0):=by
   have e:([.int .u64 0,.int .u64 0,.int .u64 0,.int .u64 0,.int .u64 0,.int .u64 0]:List Value)=List.replicate 6 (.int .u64 0):=rfl;rw [e,List.take_zero,kI,jc,List.drop_replicate];simp [nts]
 rw [hpad] at hw1;have hp6:(a++List.replicate (6 - a.length) 0).length=6:=by simp;omega
 have hpv:val 18446744073709551616 (a++List.replicate (6 - a.length) 0)=val 18446744073709551616 a:=fR _ _ _;have hpl:∀ x∈a++List.replicate (6 - a.length) 0,x<18446744073709551616:=fun x hx=>by
   rcases List.mem_append.1 hx with h1 | h1
   · exact h.2.1 x h1
   · have:=(List.mem_replicate.1 h1).2;omega
 generalize a++List.replicate (6 - a.length) 0=pa at *;have hpe:Elt M pa:=⟨hp6,hpl,by rw [hpv];exact hlt⟩
 obtain ⟨x0,x1,x2,x3,x4,x5,hxe⟩:=six hp6;obtain ⟨y0,y1,y2,y3,y4,y5,hye⟩:=six hF.relt.six;have hcb:W'.heap[w.heap.size+1]?=some (.cells #[.int .u64 (x0:Int),.int .u64 (x1:Int),.int .u64 (x2:Int),.int .u64 (x3:Int),.int .u64 (x4:Int),.int .u64 (x5:Int)] 147 (0,0)):=by rw [hxe] at hw1;exact hw1
 obtain ⟨e0,e1,e2,e3,e4,e5⟩:=xy hcb;have hFr:=hF.below hB1 hg;have f:=fun j (hj:j<6)=>hFr.ff.fld.r_ hj;have f0:=f 0 (by omega);have f1:=f 1 (by omega);have f2:=f 2 (by omega);have f3:=f 3 (by omega);have f4:=f 4 (by omega);have f5:=f 5 (by omega);rw [hye] at f0 f1 f2 f3 f4 f5;simp only [qu,Nat.reduceAdd,yS,xA] at f0 f1 f2 f3 f4 f5;have hmul:=cD pa rl W'.drew (hFr.ff.below ((zO W'.heap.size W').drew) (by have:=hB1.size;omega)) hpe hF.relt;have hva:EV pa=.agg #[.int .u64 (x0:Int),.int .u64 (x1:Int),.int .u64 (x2:Int),.int .u64 (x3:Int),.int .u64 (x4:Int),.int .u64 (x5:Int)]:=by rw [hxe];rfl
 have hvb:EV rl=.agg #[.int .u64 (y0:Int),.int .u64 (y1:Int),.int .u64 (y2:Int),.int .u64 (y3:Int),.int .u64 (y4:Int),.int .u64 (y5:Int)]:=by rw [hye];rfl
 rw [hva,hvb] at hmul;have Hmul:=zF hmul;have HF:=zF hF;have Hpv:=zF hpv;have z0:=zv hrb 0;have zB1:=hB1.size;have hlt1:w.heap.size<W'.heap.size:=qw hrb;clear hmul hva hvb hcb hw1 hpad hp6 hpl hpe hxe hye f hF hFr hlt;go_enter Tryz.func145,Tryz.ntmps145;go_wp2_with fail
 go_region_with (first
   | (go_at_call 150
      refine Hmul.out.mono ?_
      rintro e w2 ⟨o2,rfl,ho2,hv2,hB2⟩
      have hrb2:=(hB2.block w.heap.size hlt1).trans hrb
      obtain ⟨u0,u1,u2,u3,u4,u5,hoe⟩:=six ho2.six
      obtain ⟨r0,r1,r2,r3,r4,r5⟩:=xy hrb2
      have z0:=zv hrb2 0
      have z1:=zv hrb2 1
      have z2:=zv hrb2 2
      have z3:=zv hrb2 3
      have z4:=zv hrb2 4
      have z5:=zv hrb2 5
      have hve:EV o2=.agg #[.int .u64 (u0:Int),.int .u64 (u1:Int),.int .u64 (u2:Int),.int .u64 (u3:Int),.int .u64 (u4:Int),.int .u64 (u5:Int)]:=by rw [hoe];rfl
      rw [hve]
      have Hoe:=zF hoe
      have Hv2:=zF hv2
      clear hve hoe hv2))
 all_goals
   go_wp2;refine rC rfl rfl rfl (uf hrb2 _ _ _ _ _ _) ?_;refine ⟨o2,by rw [Hoe.out];rfl,⟨ho2,?_⟩,xL (hB1.trans ((⟨hB2.os,hB2.tape,hB2.output,hB2.size,hB2.block⟩:Below W'.heap.size W' w2).mono zB1)) (zH _) _ _ _ _ _ _⟩;have h1:val 18446744073709551616 o2*18446744073709551616 ^ n % M=(val 18446744073709551616 a*18446744073709551616 ^ n)*18446744073709551616 ^ n % M:=by
     rw [Hv2.out,Hpv.out,HF.out.rval,Nat.mul_mod_mod,zd]
   have h2:=uw HF.out.ff.invV h1;rwa [qG ho2.lt] at h2
def z6:List Nat:=[0,0,0,0,0,0]
theorem fc_m (n inv:Nat) (a ol rl:List Nat) (ha:a.length≤6):(ky n inv z6 ol rl).take 1++nts a++(ky n inv z6 ol rl).drop (1+a.length)=ky n inv (a++List.replicate (6 - a.length) 0) ol rl:=by
 match a,ha with
 | [],_ | [_],_ | [_,_],_ | [_,_,_],_ | [_,_,_,_],_ | [_,_,_,_,_],_ | [_,_,_,_,_,_],_=>rfl
theorem fc_o (n inv:Nat) (a ml rl:List Nat) (hm:ml.length=6) (ha:a.length≤6):(ky n inv ml z6 rl).take 8++nts a++(ky n inv ml z6 rl).drop (8+a.length)=ky n inv ml (a++List.replicate (6 - a.length) 0) rl:=by
 obtain ⟨_,_,_,_,_,_,rfl⟩:=six hm;match a,ha with
 | [],_ | [_],_ | [_,_],_ | [_,_,_],_ | [_,_,_,_],_ | [_,_,_,_,_],_ | [_,_,_,_,_,_],_=>rfl
theorem fc_r (n inv:Nat) (a ml ol:List Nat) (hm:ml.length=6) (ho:ol.length=6) (ha:a.length≤6):(ky n inv ml ol z6).take 14++nts a++(ky n inv ml ol z6).drop (14+a.length)=ky n inv ml ol (a++List.replicate (6 - a.length) 0):=by
 obtain ⟨_,_,_,_,_,_,rfl⟩:=six hm;obtain ⟨_,_,_,_,_,_,rfl⟩:=six ho;match a,ha with
 | [],_ | [_],_ | [_,_],_ | [_,_,_],_ | [_,_,_,_],_ | [_,_,_,_,_],_ | [_,_,_,_,_,_],_=>rfl
theorem zCo (n inv:Nat) (ml ol rl:List Nat) (hm:ml.length=6):(ky n 0 ml ol rl).toArray.setIfInBounds 7 (.int .u64 (inv:Int))=(ky n inv ml ol rl).toArray:=by
 obtain ⟨_,_,_,_,_,_,rfl⟩:=six hm;simp [ky,nts]
theorem rB (n inv:Nat) (ml ol rl:List Nat) (hm:ml.length=6) (ho:ol.length=6) (hr:rl.length=6):(ky n inv ml ol rl).length=20:=by simp [ky,nts,hm,ho,hr]
theorem mY {a:List Nat}(h:a.length≤6):(a++List.replicate (6 - a.length) 0).length=6:=by simp;omega
theorem mZ {a:List Nat}(h:∀ x∈a,x<18446744073709551616):∀ x∈a++List.replicate (6 - a.length) 0,x<18446744073709551616:=fun x hx=>by
 rcases List.mem_append.1 hx with h1 | h1
 · exact h x h1
 · have:=(List.mem_replicate.1 h1).2;omega
theorem nE (P:Nat→Prop) (A:Option Addr) (c:Nat) (a:List Nat) (M:Nat) (w:World) (h:RN w P A c a) (hM:val 18446744073709551616 a=M) (h1:1<M) (hodd:M % 2=1) (hl:a.length<40000) (hl6:(digs 18446744073709551616 M).length≤6) :
 Calls Tryz.prog 144 #[.slice A a.length c] w fun e w'=>∃ g inv ml ol rl,e=.returned (.pointer (some ⟨g,0,none⟩))∧w.heap.size≤g∧FR w' g (digs 18446744073709551616 M).length inv M ml ol rl∧Below w.heap.size w w':=by
 obtain ⟨i0,hi,hz0,hz1,hz2⟩:=wM j9
 have hn1:=wy P A c a w h
 have hln:=ql (B:=18446744073709551616) (by omega) h.2.1
 rw [hM] at hn1 hln
 have hvd:=zc (B:=18446744073709551616) (by omega) M
 have hlim:=kQ (B:=18446744073709551616) (by omega) M
 have hm0:=uF hlim (by omega)
 rw [hvd] at hm0
 obtain ⟨ml,hml⟩:=eV (digs 18446744073709551616 M)
 rw [hml] at hn1 hln hvd hm0 hlim hl6 ⊢
 obtain ⟨m0,hm0'⟩:=eV (dg ml 0)
 rw [hm0'] at hm0
 have hm2:(m0:Int) % 2=1:=by omega
 obtain ⟨n,hn⟩:=eV ml.length
 have hn0:0<n:=by
  rcases za n with h0 | h0
  · have:ml=[]:=qC (hn.trans h0);rw [this] at hvd;simp at hvd;omega
  · exact h0
 have hn6:n≤6:=by omega
 have kn:(0:Int)<(n:Int):=by omega
 rw [hn] at hn1 ⊢
 have Hn1:=zF hn1
 have Hml:=zF hml
 have Hn:=zF hn
 have Hvd:=zF hvd
 have Hm0:=zF hm0
 have Hm2:=zF hm2
 have Hlim:=zF hlim
 clear hn1 hln hml hn hvd hm0 hm2 hl hodd hM hlim hl6
 go_enter Tryz.func144,Tryz.ntmps144
 go_wp2_with fail
 refine Hn1.out.mono ?_
 rintro e w1 ⟨A1,c1,rfl,hO1,hB1⟩
 have r1:=hO1.rn
 have hG0:=zP w1 (.cells (ky n 0 z6 z6 z6).toArray 224)
 have hBG:Below w1.heap.size w1 (w1.alloc (.cells (ky n 0 z6 z6 z6).toArray 224)):=(zO _ w1).alloc (zH _) _
 have r1a:=r1.below hBG (fun b hb=>hb.2)
 have hcpy:=gl (dT:=22) (sT:=23) Tryz.underlying22 (w1.alloc (.cells (ky n 0 z6 z6 z6).toArray 224)) w1.heap.size 1 6 6 (ky n 0 z6 z6 z6) 224 hG0 _ A1 c1 ml r1a (by rw [Hn.out];exact hn6) (by rw [rB _ _ _ _ _ rfl rfl rfl,Hn.out];omega)
 rw [fc_m _ _ _ _ _ (by rw [Hn.out];exact hn6),Hn.out] at hcpy
 obtain ⟨X,hcp,hG1,hX2,hX3,hX4⟩:=hcpy
 have hBX:Below w1.heap.size w1 X:=hX2 _ w1 (zH _) hBG
 have r1X:=r1.below hBX (fun b hb=>hb.2)
 have hfc:(ky n 0 z6 z6 z6).toArray=#[.int .i64 (n:Int),.int .u64 0,.int .u64 0,.int .u64 0,.int .u64 0,.int .u64 0,.int .u64 0,.int .u64 0,.int .u64 0,.int .u64 0,.int .u64 0,.int .u64 0,.int .u64 0,.int .u64 0,.int .u64 0,.int .u64 0,.int .u64 0,.int .u64 0,.int .u64 0,.int .u64 0]:=rfl
 rw [hfc] at hcp
 have hmp6:=mY (a:=ml) (by rw [Hn.out];exact hn6)
 have hmpl:=mZ Hlim.out
 have hmpv:val 18446744073709551616 (ml++List.replicate (6 - ml.length) 0)=M:=by rw [fR];exact Hvd.out
 have hmpt:val 18446744073709551616 ((ml++List.replicate (6 - ml.length) 0).take n)=M:=by rw [←Hn.out,List.take_left'];exact Hvd.out;rfl
 rw [Hn.out] at hmp6 hmpl hmpv hmpt
 generalize ml++List.replicate (6 - n) 0=mp at *
 have hGX:w1.heap.size<X.heap.size:=qw hG1
 obtain ⟨ad,rfl,hb1,q1⟩:=r1X.at_ (i:=0) (by rw [Hn.out];exact hn0)
 rw [hm0'] at q1
 have q1b:X.cell? ad=some (.int .u64 (m0:Int)):=by simpa [Addr.add] using q1
 have Hmp6:=zF hmp6
 have Hmpl:=zF hmpl
 have Hmpv:=zF hmpv
 have Hmpt:=zF hmpt
 clear hfc hBG hG0 r1a hX2 hX3 hX4 q1 hmp6 hmpl hmpv hmpt
 go_wp2_with fail
 go_loopw [4,23] (fun iv jv wr=>∃ (y:Int) (r:Nat),jv=.int .i64 (r:Int)∧iv=.int .u64 y∧r≤6∧yv (m0:Int) r y∧X=wr) (fun _ jv _=>6 - (intOf jv).toNat)
 case atStart=>exact ⟨1,0,rfl,rfl,by omega,yv.zero Hm2.out,rfl⟩
 case round =>
  obtain ⟨y,r,rfl,rfl,hr,hN,rfl⟩:=hrel;by_cases hlt:r<6
  · have hN':=hN.step hlt;have hw1:IntKind.u64.wrap ((m0:Int)*y)=(m0:Int)*y % 18446744073709551616:=wc _;have hw2:IntKind.u64.wrap (2 - (m0:Int)*y % 18446744073709551616)=(2 - (m0:Int)*y % 18446744073709551616) % 18446744073709551616:=wc _;have hw3:IntKind.u64.wrap (y*((2 - (m0:Int)*y % 18446744073709551616) % 18446744073709551616))=y*((2 - (m0:Int)*y % 18446744073709551616) % 18446744073709551616) % 18446744073709551616:=wc _;generalize (m0:Int)*y % 18446744073709551616=x1 at *;generalize (2 - x1) % 18446744073709551616=x2 at *;generalize y*x2 % 18446744073709551616=x3 at *;have HN:=zF hN';clear hN hN';go_wp2;go_roundw;case rel=>exact ⟨x3,r+1,by go_num,by first | rfl | simp [hw1,hw2,hw3],by omega,HN.out,by first | rfl | trivial⟩
    case measure=>simp [intOf];omega
  · obtain rfl:r=6:=by omega
    obtain ⟨t,ht⟩:=hN.fin;have hinv:=rj Hm0.out ht;have h0:0≤(-y) % 18446744073709551616:=Int.emod_nonneg _ (by decide);have hlt2:(-y) % 18446744073709551616<18446744073709551616:=Int.emod_lt_of_pos _ (by decide);obtain ⟨inv,hv⟩:∃ inv:Nat,(-y) % 18446744073709551616=(inv:Int):=⟨_,(Int.toNat_of_nonneg h0).symm⟩
    have hneg:IntKind.u64.wrap (-y)=(inv:Int):=by rw [wc];exact hv
    rw [hv,kU] at hinv;rw [hv] at hlt2;have Hinv:=zF hinv;have Hlt2:=zF hlt2;have hmk:=jH (P:=Tryz.prog) 23 69 (.int .u64 0) 8 Tryz.underlying23 j9 rfl .i64 .i64 n (by omega) (by omega);clear ht hinv h0 hv hN hlt hlt2;have g7:=zJ hG1 7;rw [show (ky n 0 mp z6 z6).toArray[7]?=some (.int .u64 0) by obtain ⟨_,_,_,_,_,_,e⟩:=six Hmp6.out;rw [e];rfl] at g7;have f7:=zv hG1 7;have hG2:=jm hG1 7 (.int .u64 (inv:Int));rw [zCo _ _ _ _ _ Hmp6.out] at hG2;have hBY:Below w1.heap.size w1 (X.setCell ⟨w1.heap.size,7,none⟩ (.int .u64 (inv:Int))):=hBX.setCell (p:=⟨w1.heap.size,7,none⟩) (zH _) _;have hzY:(X.setCell ⟨w1.heap.size,7,none⟩ (.int .u64 (inv:Int))).heap.size=X.heap.size:=by simp [World.setCell]
    have r1Y:=r1.below hBY (fun b hb=>hb.2);have n0:(X.setCell ⟨w1.heap.size,7,none⟩ (.int .u64 (inv:Int))).cell? ⟨w1.heap.size,0,none⟩=some (.int .i64 (n:Int)):=by rw [zJ hG2 0];rfl
    go_upto_region 10 with fail;generalize X.setCell ⟨w1.heap.size,7,none⟩ (.int .u64 (inv:Int))=Y at *;have hGY:w1.heap.size<Y.heap.size:=by omega
    clear hzY hG1 r1X q1b g7 f7 hBX hcp hneg;have hbz:=vA Y n
    have hown:(Y.alloc (.cells (madeCells #[.int .u64 0] n) 69)).ownsRow Y.heap.size 69 1 (.slice (some ⟨Y.heap.size,0,none⟩) n n) n (nts (List.replicate n 0)) :=
     fJ (o:=List.replicate n 0) hbz (zH _) (by simp) (by unfold maxLen;omega) (zH _) (by simp) (by simp)
    have hfr:RS ((Y.alloc (.cells (madeCells #[.int .u64 0] n) 69)).alloc (.cells #[.int .u64 1] 69)) (fun _=>True) 1 (some ⟨Y.heap.size+1,0,none⟩) 1 1 (nts [1]):=by
     have:=jM (w:=Y.alloc (.cells (madeCells #[.int .u64 0] n) 69)) (P:=fun _=>True) #[.int .u64 1] 69 1 1 rfl (by unfold maxLen;omega) trivial;rw [qL] at this;exact this
    have hown':=hown.alloc (.cells #[.int .u64 1] 69);have hBZ:Below Y.heap.size Y ((Y.alloc (.cells (madeCells #[.int .u64 0] n) 69)).alloc (.cells #[.int .u64 1] 69)):=((zO _ Y).alloc (zH _) _).alloc (by simp) _;have hzZ:((Y.alloc (.cells (madeCells #[.int .u64 0] n) 69)).alloc (.cells #[.int .u64 1] 69)).heap.size=Y.heap.size+2:=by simp
    clear hbz hown;go_wp2_with (at_builtin;generalize (Y.alloc (.cells (madeCells #[.int .u64 0] n) 69)).alloc (.cells #[.int .u64 1] 69)=W at *;refine jG _ rfl _ _ 23 rfl Y.heap.size 69 i0 (.int .u64 0) 1 8 Tryz.underlying23 hi hz0 hz1 hz2 rfl (by decide) (.slice (some ⟨Y.heap.size,0,none⟩) n n) n _ rfl hown' (fun _=>True) _ 1 1 (nts [1]) rfl hfr (kG [1]) (n+1) rfl (by unfold maxLen;omega) (by omega) (by omega) ?_;intro A2 c2 w2 hown2 hg2 hor2);have hzw2:=hg2.size;have hBw2:Below Y.heap.size Y w2:=hBZ.grown hg2 (by omega) (fun k hk=>by simp [Value.ownBlock] at hk;omega);have hs2:=hBw2.size;have hG3:=(hBw2.block w1.heap.size hGY).trans hG2
    have hLr:Lim (List.replicate n 0++[1]):=⟨fun x hx=>by
     rcases List.mem_append.1 hx with h | h
     · simp at h;omega
     · simp at h;omega,by simp;omega⟩
    have hlr:(List.replicate n 0++[1]).length=n+1:=by simp
    have hOr:OB w2 Y.heap.size A2 c2 (List.replicate n 0++[1]):=OB.of_own (by rw [hlr];simpa [nts] using hown2) hLr;have hvr:=rO n;generalize List.replicate n 0++[1]=rlst at *;have hw1:=hB1.size;have hY1:=hBY.size;have hBw:=hB1.trans ((hBY.trans (hBw2.mono hY1)).mono hw1);have r2:=r1Y.below hBw2 (fun b hb=>by have:=hb.2;omega);have hq1:=uB _ _ A2 (some ad) c2 c1 rlst ml w2 hOr.rn r2 (fun b hb=>hb.2) (fun b hb=>by have:=hb.2;omega) (by omega) (by have:=Hn.out;omega) (by rw [Hvd.out];omega);rw [hvr,Hvd.out,hlr,Hn.out] at hq1;obtain ⟨v1,hv1⟩:=eV (18446744073709551616 ^ n % M);rw [hv1] at hq1;have hv1M:v1<M:=by rw [←hv1];exact qP _ (by omega)
    have hl1:(digs 18446744073709551616 v1).length≤n:=by
     have:=qg (B:=18446744073709551616) (by omega) (qt hv1M);rw [Hml.out,Hn.out] at this;exact this
    have Hq1:=zF hq1;have Hv1:=zF hv1;clear hq1 hown2 hg2 hor2 hfr hown' hG2 hBZ hOr hvr hlr hLr hmk hv1 n0 hBw2;refine Hq1.out.mono ?_;rintro e w3 ⟨A3,c3,A4,c4,rfl,_,hO4,hB3⟩;have hG4:=(hB3.block w1.heap.size (qw hG3)).trans hG3;have hs3:=hB3.size;have hm1:=dw _ _ A4 A4 c4 c4 _ _ w3 hO4.rn hO4.rn (fun b hb=>hb.2) (fun b hb=>hb.2) (by omega) (by omega);rw [zc (by omega)] at hm1;have Hm1:=zF hm1;clear hm1;go_wp2_with fail;refine Hm1.out.mono ?_;rintro e w4 ⟨A5,c5,rfl,hO5,hB4⟩;have hs4:=hB4.size;have hB24:=hB3.trans (hB4.mono hs3);have r4:=r2.below hB24 fun b hb=>by have:=hb.2;omega
    have hl2:(digs 18446744073709551616 (v1*v1)).length<90000:=by
     have:=sE (qt hv1M) (qt hv1M) (show (digs 18446744073709551616 M).length≤n by rw [Hml.out,Hn.out];exact zH _);omega
    have hq2:=uB _ _ A5 (some ad) c5 c1 _ ml w4 hO5.rn r4 (fun b hb=>hb.2) (fun b hb=>by have:=hb.2;omega) hl2 (by have:=Hn.out;omega) (by rw [Hvd.out];omega);rw [zc (by omega),Hvd.out,Hn.out] at hq2;obtain ⟨v2,hv2⟩:=eV (v1*v1 % M);rw [hv2] at hq2;have hv2M:v2<M:=by rw [←hv2];exact qP _ (by omega)
    have hl3:(digs 18446744073709551616 v2).length≤n:=by
     have:=qg (B:=18446744073709551616) (by omega) (qt hv2M);rw [Hml.out,Hn.out] at this;exact this
    have Hq2:=zF hq2;have Hv2:=zF hv2;clear hq2 hv2 hl2;go_wp2_with fail;refine Hq2.out.mono ?_;rintro e w5 ⟨A6,c6,A7,c7,rfl,_,hO7,hB5⟩;have hs5:=hB5.size;have hB35:=hB4.trans (hB5.mono hs4);have hG5:=(hB35.block w1.heap.size (qw hG4)).trans hG4;have hO4':=hO4.below hB35 (zH _);have hBw5:=hBw.trans ((hB3.trans (hB35.mono hs3)).mono (by omega));obtain ⟨V1,hcp1,hGa,hVa2,hVa3,hVa4⟩:=gl (dT:=22) (sT:=23) Tryz.underlying22 w5 w1.heap.size 8 6 6 (ky n inv mp z6 z6) 224 hG5 _ A4 c4 _ hO4'.rn (by omega) (by rw [rB _ _ _ _ _ Hmp6.out rfl rfl];omega);rw [fc_o _ _ _ _ _ Hmp6.out (by omega)] at hGa;have hBV1:=hVa2 w.heap.size w (by omega) hBw5;have r7:RN V1 (In w4.heap.size w5.heap.size) A7 c7 (digs 18446744073709551616 v2):=hO7.rn.keep fun q hq=>zT (hVa3 q.block (by have:=hq.1;omega));have ho6:=mY (a:=digs 18446744073709551616 v1) (by omega);have hol:=mZ (kQ (B:=18446744073709551616) (by omega) v1);have hov:val 18446744073709551616 (digs 18446744073709551616 v1++List.replicate (6 - (digs 18446744073709551616 v1).length) 0)=v1:=by rw [fR];exact zc (by omega) v1
    generalize digs 18446744073709551616 v1++List.replicate (6 - (digs 18446744073709551616 v1).length) 0=op at *;obtain ⟨V2,hcp2,hGb,hVb2,hVb3,hVb4⟩:=gl (dT:=22) (sT:=23) Tryz.underlying22 V1 w1.heap.size 14 6 6 (ky n inv mp op z6) 224 hGa _ A7 c7 _ r7 (by omega) (by rw [rB _ _ _ _ _ Hmp6.out ho6 rfl];omega);rw [fc_r _ _ _ _ _ Hmp6.out ho6 (by omega)] at hGb;have hBV2:=hVb2 w.heap.size w (by omega) hBV1;have hr6:=mY (a:=digs 18446744073709551616 v2) (by omega);have hrl:=mZ (kQ (B:=18446744073709551616) (by omega) v2);have hrv:val 18446744073709551616 (digs 18446744073709551616 v2++List.replicate (6 - (digs 18446744073709551616 v2).length) 0)=v2:=by rw [fR];exact zc (by omega) v2
    generalize digs 18446744073709551616 v2++List.replicate (6 - (digs 18446744073709551616 v2).length) 0=rp at *;have hfin:FR V2 w1.heap.size n inv M mp op rp:=⟨⟨⟨hGb,Hmp6.out,ho6,hr6⟩,Hmpl.out,Hmpv.out,Hmpt.out,hn0,hn6,h1,by have:=Hlt2.out;omega,Hinv.out⟩,⟨ho6,hol,by rw [hov];exact hv1M⟩,by rw [hov];exact Hv1.out.symm,⟨hr6,hrl,by rw [hrv];exact hv2M⟩,by rw [hrv,←Hv2.out,←Hv1.out,←vZ]⟩
    have Hfin:=zF hfin;have HB:=zF hBV2;clear hfin hBV2 hrv hrl hr6 hov hol ho6 hGa hGb hVa2 hVa3 hVb2 hVb3 hG5 r7 hBV1 hO4' hBw5;go_wp2;go_ret;exact ⟨_,inv,mp,op,rp,rfl,hw1,Hfin.out,HB.out⟩
end Go.Proofs.YtmlbicgpehchhaaGreat
