/- Laws that the proof rests on. -/
import Derived.Test.YtmlbicgpehchhaaGreatQ5b91754ecace
set_option maxRecDepth 100000
set_option maxHeartbeats 16000000
namespace Go.Proofs.YtmlbicgpehchhaaGreat.Der
open Go.RowKit Go.Shelf
attribute [local go_sem] Oper.semAt_some
theorem yk:(Tryz.prog.info? 80).map (·.size)=some 3:=by kernel_rfl
theorem yP {fn:Func} {R:Ending→World→Prop} {a:Act} {W:World} {p:Tmp} {g:Nat} {ty:TypeId} {fr:Nat×Nat} {x0 x1 x2:Value} (hr:fn.results=#[.cell p 80]) (hp:a.tmps.getD p undef=.pointer (some ⟨g,0,none⟩)) (hd:a.defers=[])
 (hg:W.heap[g]?=some (.cells #[x0,x1,x2] ty fr)) (hR:R (.returned (.agg #[x0,x1,x2])) W):bodyPost Tryz.prog fn R .ret a W :=
 qF (vi hr a.tmps W g _ _ _ _ hp hg Tryz.underlying80 rfl yk) hd hR
theorem jh {W:World} {g:Nat} {ty:TypeId} {x0 x1 x2:Value} (h:W.heap[g]?=some (.cells #[x0,x1,x2] ty (0,0))) :
 W.cell? ⟨g,0,none⟩=some x0∧W.cell? ⟨g,1,none⟩=some x1∧W.cell? ⟨g,2,none⟩=some x2∧W.frozen? ⟨g,0,none⟩=false∧W.frozen? ⟨g,1,none⟩=false∧W.frozen? ⟨g,2,none⟩=false :=
 ⟨zH h 0,zH h 1,zH h 2,zp h 0,zp h 1,zp h 2⟩
def fC (x:Nat):List Nat:=bytesOf x (qa x / 8+1)
theorem fH (A:Option Addr) (n c:Nat) (w:World):Calls Tryz.prog 47 #[.slice A n c] w fun e w'=>e=.returned (.agg #[.int .i64 48,.slice none 0 0,.slice A n c])∧Below w.heap.size w w':=by
 go_enter Tryz.func47,Tryz.ntmps47
 go_wp2
 exact yP rfl rfl rfl (zN w _) ⟨rfl,(zQ _ w).alloc (zG _) _⟩
theorem yc (A:Option Addr) (n c:Nat) (w:World):Calls Tryz.prog 53 #[.slice A n c] w fun e w'=>e=.returned (.agg #[.int .i64 48,.slice none 0 0,.slice A n c])∧Below w.heap.size w w':=by
 go_enter Tryz.func53,Tryz.ntmps53
 go_wp2
 exact yP rfl rfl rfl (zN w _) ⟨rfl,(zQ _ w).alloc (zG _) _⟩
theorem fu (A:Option Addr) (n c:Nat) (w:World):Calls Tryz.prog 49 #[.slice A n c] w fun e w'=>e=.returned (.agg #[.int .i64 4,.slice A n c,.slice none 0 0])∧Below w.heap.size w w':=by
 go_enter Tryz.func49,Tryz.ntmps49
 go_wp2
 exact yP rfl rfl rfl (zN w _) ⟨rfl,(zQ _ w).alloc (zG _) _⟩
theorem uh (A:Option Addr) (n c:Nat) (w:World):Calls Tryz.prog 55 #[.slice A n c] w fun e w'=>e=.returned (.agg #[.int .i64 4,.slice A n c,.slice none 0 0])∧Below w.heap.size w w':=by
 go_enter Tryz.func55,Tryz.ntmps55
 go_wp2
 exact yP rfl rfl rfl (zN w _) ⟨rfl,(zQ _ w).alloc (zG _) _⟩
theorem tF (P:Nat→Prop) (A:Option Addr) (c:Nat) (a:List Nat) (x:Nat) (w:World) (h:RN w P A c (a)) (hP:∀ b,P b→b<w.heap.size) (hb:qa x≤100000) (hx:val 18446744073709551616 a=x) :
 Calls Tryz.prog 73 #[.slice A (a).length c] w fun e w'=>(∃ A1 c1,e=.returned (.agg #[.int .i64 2,.slice A1 (fC x).length c1,.slice none 0 0])∧RB w' (In w.heap.size w'.heap.size) A1 c1 (fC x))∧Below w.heap.size w w':=by
 obtain ⟨W0,hW0⟩:=eW (w.alloc (.cells #[.int .i64 0,.slice none 0 0,.slice none 0 0] 80))
 have hE:Below w.heap.size w W0:=by rw [hW0];exact (zQ _ w).alloc (zG _) _
 have hn:=zN w (.cells #[.int .i64 0,.slice none 0 0,.slice none 0 0] 80)
 rw [←hW0] at hn
 have h0:=h.below hE hP
 have hP0:∀ b,P b→b<W0.heap.size:=fun b hb=>zP (hP b hb) hE.size
 have HBi:=hx▸xZ P A c a W0 h0
 have HBy:=hx▸yS P A c a (qa (val 18446744073709551616 a) / 8+1) W0 h0 hP0 (by rw [hx];omega) (by omega)
 obtain ⟨s,hs⟩:=eV w.heap.size
 rw [hs] at hn hE ⊢
 unfold fC
 obtain ⟨n,hnn⟩:=eV (qa x)
 obtain ⟨m,hm⟩:=eV ((a).length)
 rw [hnn] at HBi HBy hb ⊢
 obtain ⟨k,hk⟩:=eV (n / 8+1)
 rw [hk] at HBy ⊢
 have hq1:Int.tdiv (n:Int) 8=((n / 8:Nat):Int):=by rw [je (by omega)];omega
 have hq2:(n:Int) / 8+1=(k:Int):=by omega
 have hq3:IntKind.i64.wrap ((n:Int) / 8+1)=(k:Int):=by rw [qm];omega
 have HBi:=zF HBi
 have HBy:=zF HBy
 have HE:=zF hE
 have Hn:=zF hn
 have Hs:=zF hs
 have HlB:=zF (jF x k)
 clear hn hE hP h hs h0 hP0 hnn hk hm
 go_enter Tryz.func73,Tryz.ntmps73
 go_upto_region 1 with fail
 rw [←hW0,Hs.out]
 clear hW0
 go_wp2_with fail
 refine HBi.out.mono ?_
 rintro e w1 ⟨rfl,rfl⟩
 go_wp2_with fail
 refine HBy.out.mono ?_
 rintro e w1 ⟨A1,rfl,hL,hB1⟩
 have HL:=zF hL
 have hn1:=(hB1.block s (by have:=ql Hn.out;omega)).trans Hn.out
 have HB1:=zF (HE.out.trans (hB1.mono (show s≤W0.heap.size by have:=HE.out.size;have:=Hs.out;omega)))
 obtain ⟨z0,z1,z2,f0,f1,f2⟩:=jh hn1
 have Hn1:=zF hn1
 clear hL hB1 hn1 HBi HBy
 go_wp2
 refine yP rfl rfl rfl (wK Hn1.out _ _ _) ⟨⟨A1,k,by rw [HlB.out],?_⟩,?_⟩
 · have hlt:=ql Hn.out
   refine (HL.out.keep fun p hp=>zS ?_).mono fun q hq=>⟨by have:=hq.1;have:=HE.out.size;have:=Hs.out;omega,by have:=hq.2;simpa [World.setCell] using this⟩
   have hq:p.block≠s:=by have:=hp.1;omega
   exact (zO _ _ _ _ hq).trans ((zO _ _ _ _ hq).trans (zO _ _ _ _ hq))
 · exact ((HB1.out.setCell (p:=⟨s,0,none⟩) (by simp) _).setCell (p:=⟨s,1,none⟩) (by simp) _).setCell (p:=⟨s,2,none⟩) (by simp) _
theorem mO (P:Nat→Prop) (A:Option Addr) (c:Nat) (x:Nat) (w:World) (h:RN w P A c (digs 4294967296 x)) (hP:∀ b,P b→b<w.heap.size) (hb:qa x≤100000) :
 Calls Tryz.prog 82 #[.slice A (digs 4294967296 x).length c] w fun e w'=>(∃ A1 c1,e=.returned (.agg #[.int .i64 2,.slice A1 (fC x).length c1,.slice none 0 0])∧RB w' (In w.heap.size w'.heap.size) A1 c1 (fC x))∧Below w.heap.size w w':=by
 obtain ⟨W0,hW0⟩:=eW (w.alloc (.cells #[.int .i64 0,.slice none 0 0,.slice none 0 0] 80))
 have hE:Below w.heap.size w W0:=by rw [hW0];exact (zQ _ w).alloc (zG _) _
 have hn:=zN w (.cells #[.int .i64 0,.slice none 0 0,.slice none 0 0] 80)
 rw [←hW0] at hn
 have h0:=h.below hE hP
 have hP0:∀ b,P b→b<W0.heap.size:=fun b hb=>zP (hP b hb) hE.size
 have HBi:=uF P A c x W0 h0
 have HBy:=xO P A c x (qa x / 8+1) W0 h0 hP0 (by omega) (by omega)
 obtain ⟨s,hs⟩:=eV w.heap.size
 rw [hs] at hn hE ⊢
 unfold fC
 obtain ⟨n,hnn⟩:=eV (qa x)
 obtain ⟨m,hm⟩:=eV ((digs 4294967296 x).length)
 rw [hnn] at HBi HBy hb ⊢
 obtain ⟨k,hk⟩:=eV (n / 8+1)
 rw [hk] at HBy ⊢
 have hq1:Int.tdiv (n:Int) 8=((n / 8:Nat):Int):=by rw [je (by omega)];omega
 have hq2:(n:Int) / 8+1=(k:Int):=by omega
 have hq3:IntKind.i64.wrap ((n:Int) / 8+1)=(k:Int):=by rw [qm];omega
 have HBi:=zF HBi
 have HBy:=zF HBy
 have HE:=zF hE
 have Hn:=zF hn
 have Hs:=zF hs
 have HlB:=zF (jF x k)
 clear hn hE hP h hs h0 hP0 hnn hk hm
 go_enter Tryz.func82,Tryz.ntmps82
 go_upto_region 1 with fail
 rw [←hW0,Hs.out]
 clear hW0
 go_wp2_with fail
 refine HBi.out.mono ?_
 rintro e w1 ⟨rfl,rfl⟩
 go_wp2_with fail
 refine HBy.out.mono ?_
 rintro e w1 ⟨A1,rfl,hL,hB1⟩
 have HL:=zF hL
 have hn1:=(hB1.block s (by have:=ql Hn.out;omega)).trans Hn.out
 have HB1:=zF (HE.out.trans (hB1.mono (show s≤W0.heap.size by have:=HE.out.size;have:=Hs.out;omega)))
 obtain ⟨z0,z1,z2,f0,f1,f2⟩:=jh hn1
 have Hn1:=zF hn1
 clear hL hB1 hn1 HBi HBy
 go_wp2
 refine yP rfl rfl rfl (wK Hn1.out _ _ _) ⟨⟨A1,k,by rw [HlB.out],?_⟩,?_⟩
 · have hlt:=ql Hn.out
   refine (HL.out.keep fun p hp=>zS ?_).mono fun q hq=>⟨by have:=hq.1;have:=HE.out.size;have:=Hs.out;omega,by have:=hq.2;simpa [World.setCell] using this⟩
   have hq:p.block≠s:=by have:=hp.1;omega
   exact (zO _ _ _ _ hq).trans ((zO _ _ _ _ hq).trans (zO _ _ _ _ hq))
 · exact ((HB1.out.setCell (p:=⟨s,0,none⟩) (by simp) _).setCell (p:=⟨s,1,none⟩) (by simp) _).setCell (p:=⟨s,2,none⟩) (by simp) _
theorem fv (x:Nat) (hx:x<18446744073709551616) (w:World) :
 Calls Tryz.prog 48 #[.int .u64 (x:Int)] w fun e w'=>(∃ A1 c1,e=.returned (.agg #[.int .i64 2,.slice A1 (fC x).length c1,.slice none 0 0])∧RB w' (In w.heap.size w'.heap.size) A1 c1 (fC x))∧Below w.heap.size w w':=by
 obtain ⟨W0,hW0⟩:=eW (w.alloc (.cells #[.int .i64 0,.slice none 0 0,.slice none 0 0] 80))
 have hE:Below w.heap.size w W0:=by rw [hW0];exact (zQ _ w).alloc (zG _) _
 have hn:=zN w (.cells #[.int .i64 0,.slice none 0 0,.slice none 0 0] 80)
 rw [←hW0] at hn
 have hb:qa x≤64:=ww hx
 have HOf:=zF (ge x W0 hx)
 have HIn:=zF (fun (A:Option Addr) (c:Nat) X (hX:Below W0.heap.size W0 X)=>fun h=>tF _ A c (digs 18446744073709551616 x) x X (h:RN X (In W0.heap.size X.heap.size) A c (digs 18446744073709551616 x)) (fun q hq=>hq.2) (by omega) (z7 (by decide) x))
 obtain ⟨s,hs⟩:=eV w.heap.size
 rw [hs] at hn hE ⊢
 obtain ⟨m,hm⟩:=eV (fC x)
 rw [hm] at HIn ⊢
 have HE:=zF hE
 have Hn:=zF hn
 have Hs:=zF hs
 clear hn hE hs hm hb
 go_enter Tryz.func48,Tryz.ntmps48
 go_upto_region 1 with fail
 rw [←hW0,Hs.out]
 clear hW0
 go_wp2_with fail
 refine HOf.out.mono ?_
 rintro e w1 ⟨A1,c1,rfl,hO,hB1⟩
 have HI1:=zF (HIn.out A1 c1 w1 hB1 hO.rn)
 have hB1':Below W0.heap.size W0 w1:=hB1
 have hn1:=(hB1'.block s (by have:=ql Hn.out;omega)).trans Hn.out
 have HB1:=zF hB1'
 clear hO hB1 hB1'
 go_wp2_with fail
 refine HI1.out.mono ?_
 rintro e w2 ⟨⟨A2,c2,rfl,hL⟩,hB2⟩
 have HL:=zF hL
 have hs1:=HB1.out.size
 have hs0:=ql Hn.out
 have hn2:=(hB2.block s (by omega)).trans hn1
 have HB2:=zF (HE.out.trans ((HB1.out.mono (show s≤W0.heap.size by omega)).trans (hB2.mono (show s≤w1.heap.size by omega))))
 obtain ⟨z0,z1,z2,f0,f1,f2⟩:=jh hn2
 have Hn2:=zF hn2
 have Hs1:=zF (show s<w1.heap.size by omega)
 clear hL hB2 hn2 hn1 HI1 HIn HOf hs1 hs0
 go_wp2
 refine yP rfl rfl rfl (wK Hn2.out _ _ _) ⟨⟨A2,c2,rfl,?_⟩,?_⟩
 · refine (HL.out.keep fun p hp=>zS ?_).mono fun q hq=>⟨by have:=hq.1;have:=Hs1.out;omega,by have:=hq.2;simpa [World.setCell] using this⟩
   have hq:p.block≠s:=by have:=hp.1;have:=Hs1.out;omega
   exact (zO _ _ _ _ hq).trans ((zO _ _ _ _ hq).trans (zO _ _ _ _ hq))
 · exact ((HB2.out.setCell (p:=⟨s,0,none⟩) (by simp) _).setCell (p:=⟨s,1,none⟩) (by simp) _).setCell (p:=⟨s,2,none⟩) (by simp) _
theorem fW (x:Nat) (hx:x<18446744073709551616) (w:World) :
 Calls Tryz.prog 54 #[.int .u64 (x:Int)] w fun e w'=>(∃ A1 c1,e=.returned (.agg #[.int .i64 2,.slice A1 (fC x).length c1,.slice none 0 0])∧RB w' (In w.heap.size w'.heap.size) A1 c1 (fC x))∧Below w.heap.size w w':=by
 obtain ⟨W0,hW0⟩:=eW (w.alloc (.cells #[.int .i64 0,.slice none 0 0,.slice none 0 0] 80))
 have hE:Below w.heap.size w W0:=by rw [hW0];exact (zQ _ w).alloc (zG _) _
 have hn:=zN w (.cells #[.int .i64 0,.slice none 0 0,.slice none 0 0] 80)
 rw [←hW0] at hn
 have hb:qa x≤64:=ww hx
 have HOf:=zF (yI x W0 hx)
 have HIn:=zF (fun (A:Option Addr) (c:Nat) X (hX:Below W0.heap.size W0 X)=>fun h=>mO _ A c x X (h:RN X (In W0.heap.size X.heap.size) A c (digs 4294967296 x)) (fun q hq=>hq.2) (by omega))
 obtain ⟨s,hs⟩:=eV w.heap.size
 rw [hs] at hn hE ⊢
 obtain ⟨m,hm⟩:=eV (fC x)
 rw [hm] at HIn ⊢
 have HE:=zF hE
 have Hn:=zF hn
 have Hs:=zF hs
 clear hn hE hs hm hb
 go_enter Tryz.func54,Tryz.ntmps54
 go_upto_region 1 with fail
 rw [←hW0,Hs.out]
 clear hW0
 go_wp2_with fail
 refine HOf.out.mono ?_
 rintro e w1 ⟨A1,c1,rfl,hO,hB1⟩
 have HI1:=zF (HIn.out A1 c1 w1 hB1 hO.rn)
 have hB1':Below W0.heap.size W0 w1:=hB1
 have hn1:=(hB1'.block s (by have:=ql Hn.out;omega)).trans Hn.out
 have HB1:=zF hB1'
 clear hO hB1 hB1'
 go_wp2_with fail
 refine HI1.out.mono ?_
 rintro e w2 ⟨⟨A2,c2,rfl,hL⟩,hB2⟩
 have HL:=zF hL
 have hs1:=HB1.out.size
 have hs0:=ql Hn.out
 have hn2:=(hB2.block s (by omega)).trans hn1
 have HB2:=zF (HE.out.trans ((HB1.out.mono (show s≤W0.heap.size by omega)).trans (hB2.mono (show s≤w1.heap.size by omega))))
 obtain ⟨z0,z1,z2,f0,f1,f2⟩:=jh hn2
 have Hn2:=zF hn2
 have Hs1:=zF (show s<w1.heap.size by omega)
 clear hL hB2 hn2 hn1 HI1 HIn HOf hs1 hs0
 go_wp2
 refine yP rfl rfl rfl (wK Hn2.out _ _ _) ⟨⟨A2,c2,rfl,?_⟩,?_⟩
 · refine (HL.out.keep fun p hp=>zS ?_).mono fun q hq=>⟨by have:=hq.1;have:=Hs1.out;omega,by have:=hq.2;simpa [World.setCell] using this⟩
   have hq:p.block≠s:=by have:=hp.1;have:=Hs1.out;omega
   exact (zO _ _ _ _ hq).trans ((zO _ _ _ _ hq).trans (zO _ _ _ _ hq))
 · exact ((HB2.out.setCell (p:=⟨s,0,none⟩) (by simp) _).setCell (p:=⟨s,1,none⟩) (by simp) _).setCell (p:=⟨s,2,none⟩) (by simp) _
theorem gc (P:Nat→Prop) (g c:Nat) (l:List Int) (w:World) (hv:RZ w P (some ⟨g,0,none⟩) c l) (hP:∀ b,P b→b<w.heap.size) (hl:3≤l.length∧l.length≤12) (h0:l.getD 0 0=1) (h1:0≤l.getD 1 0∧l.getD 1 0≤39) (ha:∀ k,0≤l.getD k 0∧l.getD k 0<268435400) :
 Calls Tryz.prog 107 #[.slice (some ⟨g,0,none⟩) l.length c] w fun e w'=>(∃ A1 c1,e=.returned (.agg #[.int .i64 6,.slice A1 (wU l).length c1,.slice none 0 0])∧RB w' (In w.heap.size w'.heap.size) A1 c1 (wU l))∧Below w.heap.size w w':=by
 have hB:=(zQ w.heap.size w).alloc (zG _) (.cells #[.int .i64 0,.slice none 0 0,.slice none 0 0] 80)
 have hb:=zN w (.cells #[.int .i64 0,.slice none 0 0,.slice none 0 0] 80)
 have hz:(w.alloc (.cells #[.int .i64 0,.slice none 0 0,.slice none 0 0] 80)).heap.size=w.heap.size+1:=by simp
 have hO:=mN P g c l _ (hv.below hB hP) (fun b hb=>by have:=hP b hb;rw [hz];omega) hl h0 h1 ha
 have HB:=zF hB
 have H0:=zF hb
 have Hz:=zF hz
 obtain ⟨bb,hbb⟩:=eV (wU l)
 rw [hbb] at hO ⊢
 have HO:=zF hO
 clear hB hb hz hO hv hP hl h0 h1 ha hbb
 go_enter Tryz.func107,Tryz.ntmps107
 go_wp2_with fail
 obtain ⟨s,hs⟩:=eV w.heap.size
 rw [hs] at HB H0 Hz ⊢
 have Hs:=zF hs
 clear hs
 generalize w.alloc (.cells #[.int .i64 0,.slice none 0 0,.slice none 0 0] 80)=W1 at *
 refine HO.out.mono ?_
 rintro e w2 ⟨⟨A1,c1,rfl,hr1⟩,hB2⟩
 obtain ⟨n,hn⟩:=eV bb.length
 rw [hn]
 have Hn:=zF hn
 have Hr1:=zF hr1
 clear hn hr1
 have h2:=(hB2.block s (by have:=Hz.out;omega)).trans H0.out
 have hlt:s<w2.heap.size:=by have:=Hz.out;have:=hB2.size;omega
 have HB3:=zF (HB.out.trans (hB2.mono (by have:=Hz.out;omega)))
 have H2:=zF h2
 have q0:=zH h2 0
 have q1:=zH h2 1
 have q2:=zH h2 2
 have p0:=zp h2 0
 have p1:=zp h2 1
 have p2:=zp h2 2
 simp only [zI,zJ,zL] at q0 q1 q2
 clear h2 hB2 H0
 go_wp2
 have r:=td H2.out (.int .i64 6) (.slice A1 n c1) (.slice none 0 0) (.cells #[.int .i64 6,.slice A1 n c1,.slice none 0 0] 80)
 have r0:=zH r 0
 have r1:=zH r 1
 have r2:=zH r 2
 simp only [zI,zJ,zL] at r0 r1 r2
 refine qF (v:=.agg #[.int .i64 6,.slice A1 n c1,.slice none 0 0]) (by simp [results,Tryz.results107,go_sem,r0,r1,r2]) rfl ⟨⟨A1,c1,by rw [Hn.out],?_⟩,?_⟩
 · rw [Hs.out]
   refine (Hr1.out.keep fun p hp=>zS ?_).mono fun q hq=>⟨by have:=hq.1;have:=Hz.out;omega,by have:=hq.2;simp [World.setCell];omega⟩
   have hq:p.block≠s:=by have:=hp.1;have:=Hz.out;omega
   have hq2:p.block<w2.heap.size:=hp.2
   exact (zm _ _ _ (by simpa [World.setCell] using hq2)).trans ((zO _ _ _ _ hq).trans ((zO _ _ _ _ hq).trans (zO _ _ _ _ hq)))
 · rw [Hs.out]
   exact (((HB3.out.setCell (p:=⟨s,0,none⟩) (by simp) _).setCell (p:=⟨s,1,none⟩) (by simp) _).setCell (p:=⟨s,2,none⟩) (by simp) _).alloc (by simp;omega) _
theorem ut {l:List Int} (h:∀ x∈l,0≤x∧x<268435400) (k:Nat):0≤l.getD k 0∧l.getD k 0<268435400:=by
 rcases qB k l.length with hk | hk
 · rw [zi,qK hk];exact h _ (jX hk)
 · rw [zi,jD hk];simp
theorem mT (w:World):Calls Tryz.prog 106 #[.int .i64 1] w fun e w'=>(∃ A1 c1,e=.returned (.tuple #[.agg #[.int .i64 6,.slice A1 8 c1,.slice none 0 0],.bool true])∧RB w' (In w.heap.size w'.heap.size) A1 c1 yL)∧Below w.heap.size w w':=by
 have hB:=((zQ w.heap.size w).alloc (zG _) (.cells #[.int .i64 0,.slice none 0 0,.slice none 0 0] 80)).alloc (by simp) (.cells #[.int .i64 1,.int .i64 2,.int .i64 840,.int .i64 10045,.int .i64 3,.int .i64 1,.int .i64 7] 3)
 have hb:=(zm (w.alloc (.cells #[.int .i64 0,.slice none 0 0,.slice none 0 0] 80)) (.cells #[.int .i64 1,.int .i64 2,.int .i64 840,.int .i64 10045,.int .i64 3,.int .i64 1,.int .i64 7] 3) w.heap.size (by simp)).trans (zN w _)
 have hz:((w.alloc (.cells #[.int .i64 0,.slice none 0 0,.slice none 0 0] 80)).alloc (.cells #[.int .i64 1,.int .i64 2,.int .i64 840,.int .i64 10045,.int .i64 3,.int .i64 1,.int .i64 7] 3)).heap.size=w.heap.size+2:=by simp
 have hR:RZ _ (fun b=>b<w.heap.size+2) _ 7 [1,2,840,10045,3,1,7]:=jW (w:=(w.alloc (.cells #[.int .i64 0,.slice none 0 0,.slice none 0 0] 80))) (P:=fun b=>b<w.heap.size+2) #[.int .i64 1,.int .i64 2,.int .i64 840,.int .i64 10045,.int .i64 3,.int .i64 1,.int .i64 7] 3 1 7 rfl (by unfold maxLen;omega) (by simp)
 rw [zu] at hR
 have hO:=gc (fun b=>b<w.heap.size+2) (w.heap.size+1) 7 [1,2,840,10045,3,1,7] _ hR (fun b hb=>by rw [hz];exact hb) (by simp) rfl (by simp) (ut (by simp))
 have HB:=zF hB
 have H0:=zF hb
 have Hz:=zF hz
 rw [nQ] at hO
 have HO:=zF hO
 clear hB hb hz hO hR
 go_enter Tryz.func106,Tryz.ntmps106
 go_wp2_with fail
 obtain ⟨s,hs⟩:=eV w.heap.size
 rw [hs] at HB H0 Hz HO ⊢
 have Hs:=zF hs
 clear hs
 generalize (w.alloc (.cells #[.int .i64 0,.slice none 0 0,.slice none 0 0] 80)).alloc (.cells #[.int .i64 1,.int .i64 2,.int .i64 840,.int .i64 10045,.int .i64 3,.int .i64 1,.int .i64 7] 3)=W1 at *
 refine HO.out.mono ?_
 rintro e w2 ⟨⟨A1,c1,rfl,hr1⟩,hB2⟩
 have Hr1:=zF hr1
 have hn:yL.length=8:=rfl
 rw [hn]
 clear hr1 hn
 have h2:=(hB2.block s (by have:=Hz.out;omega)).trans H0.out
 have hlt:s<w2.heap.size:=by have:=Hz.out;have:=hB2.size;omega
 have HB3:=zF (HB.out.trans (hB2.mono (by have:=Hz.out;omega)))
 have H2:=zF h2
 have q0:=zH h2 0
 have q1:=zH h2 1
 have q2:=zH h2 2
 have p0:=zp h2 0
 have p1:=zp h2 1
 have p2:=zp h2 2
 simp only [zI,zJ,zL] at q0 q1 q2
 clear h2 hB2 H0
 go_wp2
 have r:=wK H2.out (.int .i64 6) (.slice A1 8 c1) (.slice none 0 0)
 have r0:=zH r 0
 have r1:=zH r 1
 have r2:=zH r 2
 simp only [zI,zJ,zL] at r0 r1 r2
 refine qF (v:=.tuple #[.agg #[.int .i64 6,.slice A1 8 c1,.slice none 0 0],.bool true]) (by simp [results,Tryz.results106,go_sem,r0,r1,r2]) rfl ⟨⟨A1,c1,rfl,?_⟩,?_⟩
 · rw [Hs.out]
   refine (Hr1.out.keep fun p hp=>zS ?_).mono fun q hq=>⟨by have:=hq.1;have:=Hz.out;omega,by have:=hq.2;simpa [World.setCell] using this⟩
   have hq:p.block≠s:=by have:=hp.1;have:=Hz.out;omega
   exact (zO _ _ _ _ hq).trans ((zO _ _ _ _ hq).trans (zO _ _ _ _ hq))
 · rw [Hs.out]
   exact ((HB3.out.setCell (p:=⟨s,0,none⟩) (by simp) _).setCell (p:=⟨s,1,none⟩) (by simp) _).setCell (p:=⟨s,2,none⟩) (by simp) _
theorem mS (w:World):Calls Tryz.prog 106 #[.int .i64 2] w fun e w'=>(∃ A1 c1,e=.returned (.tuple #[.agg #[.int .i64 6,.slice A1 5 c1,.slice none 0 0],.bool true])∧RB w' (In w.heap.size w'.heap.size) A1 c1 yK)∧Below w.heap.size w w':=by
 have hB:=((zQ w.heap.size w).alloc (zG _) (.cells #[.int .i64 0,.slice none 0 0,.slice none 0 0] 80)).alloc (by simp) (.cells #[.int .i64 1,.int .i64 3,.int .i64 132,.int .i64 0,.int .i64 34] 3)
 have hb:=(zm (w.alloc (.cells #[.int .i64 0,.slice none 0 0,.slice none 0 0] 80)) (.cells #[.int .i64 1,.int .i64 3,.int .i64 132,.int .i64 0,.int .i64 34] 3) w.heap.size (by simp)).trans (zN w _)
 have hz:((w.alloc (.cells #[.int .i64 0,.slice none 0 0,.slice none 0 0] 80)).alloc (.cells #[.int .i64 1,.int .i64 3,.int .i64 132,.int .i64 0,.int .i64 34] 3)).heap.size=w.heap.size+2:=by simp
 have hR:RZ _ (fun b=>b<w.heap.size+2) _ 5 [1,3,132,0,34]:=jW (w:=(w.alloc (.cells #[.int .i64 0,.slice none 0 0,.slice none 0 0] 80))) (P:=fun b=>b<w.heap.size+2) #[.int .i64 1,.int .i64 3,.int .i64 132,.int .i64 0,.int .i64 34] 3 1 5 rfl (by unfold maxLen;omega) (by simp)
 rw [zu] at hR
 have hO:=gc (fun b=>b<w.heap.size+2) (w.heap.size+1) 5 [1,3,132,0,34] _ hR (fun b hb=>by rw [hz];exact hb) (by simp) rfl (by simp) (ut (by simp))
 have HB:=zF hB
 have H0:=zF hb
 have Hz:=zF hz
 rw [nP] at hO
 have HO:=zF hO
 clear hB hb hz hO hR
 go_enter Tryz.func106,Tryz.ntmps106
 go_wp2_with fail
 obtain ⟨s,hs⟩:=eV w.heap.size
 rw [hs] at HB H0 Hz HO ⊢
 have Hs:=zF hs
 clear hs
 generalize (w.alloc (.cells #[.int .i64 0,.slice none 0 0,.slice none 0 0] 80)).alloc (.cells #[.int .i64 1,.int .i64 3,.int .i64 132,.int .i64 0,.int .i64 34] 3)=W1 at *
 refine HO.out.mono ?_
 rintro e w2 ⟨⟨A1,c1,rfl,hr1⟩,hB2⟩
 have Hr1:=zF hr1
 have hn:yK.length=5:=rfl
 rw [hn]
 clear hr1 hn
 have h2:=(hB2.block s (by have:=Hz.out;omega)).trans H0.out
 have hlt:s<w2.heap.size:=by have:=Hz.out;have:=hB2.size;omega
 have HB3:=zF (HB.out.trans (hB2.mono (by have:=Hz.out;omega)))
 have H2:=zF h2
 have q0:=zH h2 0
 have q1:=zH h2 1
 have q2:=zH h2 2
 have p0:=zp h2 0
 have p1:=zp h2 1
 have p2:=zp h2 2
 simp only [zI,zJ,zL] at q0 q1 q2
 clear h2 hB2 H0
 go_wp2
 have r:=wK H2.out (.int .i64 6) (.slice A1 5 c1) (.slice none 0 0)
 have r0:=zH r 0
 have r1:=zH r 1
 have r2:=zH r 2
 simp only [zI,zJ,zL] at r0 r1 r2
 refine qF (v:=.tuple #[.agg #[.int .i64 6,.slice A1 5 c1,.slice none 0 0],.bool true]) (by simp [results,Tryz.results106,go_sem,r0,r1,r2]) rfl ⟨⟨A1,c1,rfl,?_⟩,?_⟩
 · rw [Hs.out]
   refine (Hr1.out.keep fun p hp=>zS ?_).mono fun q hq=>⟨by have:=hq.1;have:=Hz.out;omega,by have:=hq.2;simpa [World.setCell] using this⟩
   have hq:p.block≠s:=by have:=hp.1;have:=Hz.out;omega
   exact (zO _ _ _ _ hq).trans ((zO _ _ _ _ hq).trans (zO _ _ _ _ hq))
 · rw [Hs.out]
   exact ((HB3.out.setCell (p:=⟨s,0,none⟩) (by simp) _).setCell (p:=⟨s,1,none⟩) (by simp) _).setCell (p:=⟨s,2,none⟩) (by simp) _
def kp1:List Nat:=6 :: 8 :: yL
def kp2:List Nat:=6 :: 5 :: yK
def pO (b:List Nat):Int:=if b=kp1 then 1 else if b=kp2 then 2 else 0
def uC:List Nat:=[42,134,72,206,61,2,1]
theorem nO:wU [1,2,840,10045,2,1]=uC:=by decide
abbrev Al (w:World) (q:Nat):Prop:=q<w.heap.size
theorem RB.al {w w':World} {B:Nat} {P:Nat→Prop} {A:Option Addr} {c:Nat} {bs:List Nat} (h:RB w P A c bs) (hb:Below B w w') (hP:∀ q,P q→q<B) (hs:B≤w'.heap.size):RB w' (Al w') A c bs:=(h.below hb hP).mono fun q hq=>zP (hP q hq) hs
theorem RD.leaf {w:World} {P:Nat→Prop} {A:Option Addr} {c tag:Nat} {bs:List Nat} (h:RB w P A c bs) (ht:tag≠48):RD w P (.mk tag bs []) (.agg #[.int .i64 (tag:Int),.slice A bs.length c,.slice none 0 0]):=by
 unfold RD
 exact ⟨A,c,none,0,[],rfl,h,fun e=>absurd e ht,RS.nil_ _ _ _,by unfold RDs;rfl⟩
theorem RDs.cons {w:World} {P:Nat→Prop} {k:DN} {a b c:Value} (hk:RD w P k (.agg #[a,b,c])) {ks:List DN} {cs:List Value} (h:RDs w P ks cs):RDs w P (k :: ks) (a :: b :: c :: cs):=by
 unfold RDs
 exact ⟨a,b,c,cs,rfl,hk,h⟩
theorem RDs.nil_ {w:World} {P:Nat→Prop} : RDs w P [] []:=by unfold RDs;rfl
theorem RD.seq {w:World} {P:Nat→Prop} {ks:List DN} {A:Option Addr} {n c:Nat} {cs:List Value} (h:RS w P 3 A n c cs) (hd:RDs w P ks cs) (hn:n=ks.length):RD w P (.mk 48 [] ks) (.agg #[.int .i64 48,.slice none 0 0,.slice A n c]):=by
 subst hn
 unfold RD
 exact ⟨none,0,A,c,cs,rfl,vY _ _,fun _=>⟨rfl,rfl⟩,h,hd⟩
theorem RD.al {w w':World} {t:DN} {v:Value} (h:RD w (Al w) t v) (hb:Below w.heap.size w w'):RD w' (Al w') t v:=(h.below hb fun _q hq=>hq).mono fun _q hq=>zP hq hb.size
theorem RS.al {w w':World} {A:Option Addr} {n c:Nat} {cs:List Value} (h:RS w (Al w) 3 A n c cs) (hb:Below w.heap.size w w'):RS w' (Al w') 3 A n c cs:=(h.below hb fun _q hq=>hq).mono fun _q hq=>zP hq hb.size
theorem RZ.al {w w':World} {A:Option Addr} {c:Nat} {l:List Int} (h:RZ w (Al w) A c l) (hb:Below w.heap.size w w'):RZ w' (Al w') A c l:=RS.mono (RS.below h hb fun _q hq=>hq) fun _q hq=>zP hq hb.size
abbrev An (g:Nat) (w:World) (q:Nat):Prop:=q≠g∧q<w.heap.size
theorem RS.an {w w':World} {g:Nat} {A:Option Addr} {n c:Nat} {cs:List Value} (h:RS w (An g w) 3 A n c cs) (hb:Below w.heap.size w w'):RS w' (An g w') 3 A n c cs:=(h.below hb fun _q hq=>hq.2).mono fun _q hq=>⟨hq.1,zP hq.2 hb.size⟩
theorem RB.an {w w':World} {B g:Nat} {P:Nat→Prop} {A:Option Addr} {c:Nat} {bs:List Nat} (h:RB w P A c bs) (hb:Below B w w') (hP:∀ q,P q→q≠g∧q<B) (hs:B≤w'.heap.size):RB w' (An g w') A c bs:=(h.below hb fun q hq=>(hP q hq).2).mono fun q hq=>⟨(hP q hq).1,zP (hP q hq).2 hs⟩
theorem RD.an {w w':World} {g:Nat} {t:DN} {v:Value} (h:RD w (Al w) t v) (hg:w.heap.size≤g) (hb:Below w.heap.size w w'):RD w' (An g w') t v:=(h.below hb fun q hq=>hq).mono fun q hq=>⟨by unfold Al at hq;omega,zP hq hb.size⟩
theorem RD.just {X Y:World} {g:Nat} {t:DN} {v:Value} (h:RD X (An g X) t v) (hj:kD g X Y) (hs:Y.heap.size=X.heap.size):RD Y (Al Y) t v:=(RD.keep (fun p hp=>zS (hj.block _ hp.2 hp.1)) h).mono fun q hq=>by unfold Al;have:=hq.2;omega
theorem rA (x:Int) (A A':Option Addr) (n n' c c':Nat):(#[Value.int .i64 x,.slice A n c,.slice A' n' c']:Array Value).all (·.oneCell')=true:=by simp [Value.oneCell']
theorem bc (w:World) (o1 o2:Obj):((w.alloc o1).alloc o2).heap[w.heap.size]?=some o1∧((w.alloc o1).alloc o2).heap[w.heap.size+1]?=some o2∧((w.alloc o1).alloc o2).heap.size=w.heap.size+2 :=
 ⟨(zm _ _ _ (by simp)).trans (zN w _),by have:=zN (w.alloc o1) o2;rwa [zu] at this,by simp⟩
theorem cU (t:DN) (v:Value) (w:World) (h:RD w (Al w) t v) :
 Calls Tryz.prog 46 #[v] w fun e w'=>(∃ v',e=.returned v'∧RD w' (Al w') (.mk 48 [] [.mk 6 uC [],t]) v')∧Below w.heap.size w w':=by
 obtain ⟨xi,B1,n1,d1,B2,n2,d2,rfl⟩:=h.shape
 obtain ⟨W0,hW0⟩:=eW ((w.alloc (.cells #[.int .i64 xi,.slice B1 n1 d1,.slice B2 n2 d2] 80)).alloc (.cells #[.int .i64 0,.slice none 0 0,.slice none 0 0] 80))
 obtain ⟨s,hs⟩:=eV w.heap.size
 obtain ⟨hq0,hq1,hz⟩:=bc w (.cells #[.int .i64 xi,.slice B1 n1 d1,.slice B2 n2 d2] 80) (.cells #[.int .i64 0,.slice none 0 0,.slice none 0 0] 80)
 have hE:Below s w W0:=by rw [hW0,←hs];exact ((zQ _ w).alloc (zG _) _).alloc (by simp) _
 rw [←hW0,hs] at hq0 hq1 hz
 have HE:=zF hE
 have Hz:=zF hz
 have HD:=zF h
 have Hs:=zF hs
 rw [hs]
 clear h hE hz hs
 go_enter Tryz.func46,Tryz.ntmps46
 go_upto_region 1 with fail
 rw [←hW0,Hs.out]
 clear hW0
 refine zj (by kernel_rfl) 5 [0,1,0,7,15,31] [] (fun j f X=>match j with
  | 0=>∃ b,f 0=.slice (some ⟨b,0,none⟩) 6 6∧RZ X (Al X) (some ⟨b,0,none⟩) 6 [1,2,840,10045,2,1]
  | 1=>∃ A1 c1,f 1=.agg #[.int .i64 6,.slice A1 7 c1,.slice none 0 0]∧RB X (An (s+1) X) A1 c1 uC
  | 2=>f 2=.agg #[.int .i64 xi,.slice B1 n1 d1,.slice B2 n2 d2]
  | 3=>∃ b A1 c1,f 3=.slice (some ⟨b,0,none⟩) 2 2∧RS X (An (s+1) X) 3 (some ⟨b,0,none⟩) 2 2 [.int .i64 6,.slice A1 7 c1,.slice none 0 0,.int .i64 xi,.slice B1 n1 d1,.slice B2 n2 d2]∧RB X (An (s+1) X) A1 c1 uC
  | 4=>∃ b A1 c1,f 4=.agg #[.int .i64 48,.slice none 0 0,.slice (some ⟨b,0,none⟩) 2 2]∧RS X (An (s+1) X) 3 (some ⟨b,0,none⟩) 2 2 [.int .i64 6,.slice A1 7 c1,.slice none 0 0,.int .i64 xi,.slice B1 n1 d1,.slice B2 n2 d2]∧RB X (An (s+1) X) A1 c1 uC
  | _=>True) (by kernel_rfl) [(3,0),(4,1),(5,2),(6,3),(7,4)] (by kernel_rfl) ?_
 refine zt 1 4 [(5,2)] (fun f X hX hR K hK=>?_) ?_
 · simp only [yZ]
   refine ⟨?_⟩
   go_simp
   exact hK.out _ (.slice (some ⟨X.heap.size,0,none⟩) 6 6) _ (by simp only [yZ]) (zR _ _) trivial (fun Y hY=>⟨_,rfl,RZ.al (show RZ _ (Al _) _ 6 [1,2,840,10045,2,1] from jW (w:=X) (P:=Al (X.alloc (.cells #[.int .i64 1,.int .i64 2,.int .i64 840,.int .i64 10045,.int .i64 2,.int .i64 1] 3))) #[.int .i64 1,.int .i64 2,.int .i64 840,.int .i64 10045,.int .i64 2,.int .i64 1] 3 1 6 rfl (by unfold maxLen;omega) (by simp [Al])) hY⟩)
 refine qC 2 3 (fun f=>#[f 0]) (F':=97) (fun f X hX hR=>?_) ?_
 · obtain ⟨b0,(e0:f 0=_),r0⟩:=hR.out 0 rfl
   simp only [e0]
   refine (gh (Al X) b0 6 [1,2,840,10045,2,1] X r0 (fun b hb=>hb) (by simp) rfl (by simp) (gl (by simp))).mono ?_
   rw [nO]
   rintro e w' ⟨⟨A1,c1,rfl,hr⟩,hB⟩
   exact ⟨(.agg #[.int .i64 6,.slice A1 7 c1,.slice none 0 0]),rfl,hB,fun Y hY=>⟨A1,c1,rfl,RB.an hr hY (fun q hq=>⟨by have:=hq.1;have:=hX.bsize;have:=Hz.out;omega,hq.2⟩) hY.bsize⟩⟩
 refine zt 3 2 [(3,0),(4,1)] (fun f X hX hR K hK=>?_) ?_
 · simp only [yZ]
   refine ⟨zc (by kernel_rfl) (jg 80 (.tmp 1) rfl rfl (hX.at_ hq0) Tryz.underlying80 rfl yk rfl ?_)⟩
   exact qe hK (s:=by simp only [yZ])
 refine zt 4 1 [(3,0),(4,1),(5,2)] (fun f X hX hR K hK=>?_) ?_
 · obtain ⟨A1,c1,(e1:f 1=_),r1⟩:=hR.out 1 rfl
   have e2:f 2=_:=hR.out 2 rfl
   simp only [yZ,e1,e2]
   refine ⟨?_⟩
   go_simp
   exact hK.out _ (.slice (some ⟨X.heap.size,0,none⟩) 2 2) _ (by simp only [yZ,e1,e2]) (zR _ _) trivial (fun Y hY=>⟨_,A1,c1,rfl,RS.an (jW (w:=X) (P:=An (s+1) (X.alloc (.cells #[.int .i64 6,.slice A1 7 c1,.slice none 0 0,.int .i64 xi,.slice B1 n1 d1,.slice B2 n2 d2] 80))) #[.int .i64 6,.slice A1 7 c1,.slice none 0 0,.int .i64 xi,.slice B1 n1 d1,.slice B2 n2 d2] 80 3 2 rfl (by unfold maxLen;omega) (by have:=hX.bsize;have:=Hz.out;simp [An];omega)) hY,RB.an r1 ((zR _ _).trans hY) (fun q hq=>hq) ((zR _ _).trans hY).bsize⟩)
 refine qC 5 0 (fun f=>#[f 3]) (F':=47) (fun f X hX hR=>?_) ?_
 · obtain ⟨b3,A3,c3,(e3:f 3=_),s3,r3⟩:=hR.out 3 rfl
   simp only [e3]
   refine (fH (some ⟨b3,0,none⟩) 2 2 X).mono ?_
   rintro e w' ⟨rfl,hB⟩
   exact ⟨(.agg #[.int .i64 48,.slice none 0 0,.slice (some ⟨b3,0,none⟩) 2 2]),rfl,hB,fun Y hY=>⟨b3,A3,c3,rfl,RS.an s3 (za hB hY),RB.an r3 (za hB hY) (fun q hq=>hq) (za hB hY).bsize⟩⟩
 refine yF ⟨fun f X hX hR hal hap=>?_⟩
 obtain ⟨b0,(e0:f 0=_),r0⟩:=hR 0 (by decide)
 obtain ⟨A1,c1,(e1:f 1=_),r1⟩:=hR 1 (by decide)
 obtain ⟨b3,A3,c3,(e3:f 3=_),s3,r3⟩:=hR 3 (by decide)
 obtain ⟨b4,A4,c4,(e4:f 4=_),s4,r4⟩:=hR 4 (by decide)
 simp only [yZ,e0,e1,e3,e4]
 clear hR hal hap e0 e1 e3 e4
 refine zZ (fun K hK=>⟨zc (by kernel_rfl) (qo 80 (.tmp 2) (.tmp 7) rfl rfl rfl rfl (hX.at_ hq1) yk rfl (rA _ _ _ _ _ _ _) (fun Y1 j1 j2 j3=>hK.out _ _ ?_))⟩)
 refine zK ?_
 go_wp2
 have hs:=Hs.out
 have HEX:Ext w X:=by show Below w.heap.size w X;rw [hs];exact HE.out.trans (Below.mono hX (by have:=Hz.out;omega))
 refine yP rfl rfl rfl j1 ⟨⟨_,rfl,RD.just (RD.seq s4 (RDs.cons (RD.leaf r4 (by decide)) (RDs.cons (RD.an HD.out (by omega) HEX) RDs.nil_)) rfl) j2 j3⟩,?_⟩
 have hY:Ext w Y1:=j2.ext HEX (by omega)
 unfold Ext at hY
 rw [hs] at hY
 exact hY
end Go.Proofs.YtmlbicgpehchhaaGreat.Der
namespace Go.Proofs.YtmlbicgpehchhaaGreat
theorem vj:type_of% @Der.RDs.cons:=@Der.RDs.cons
theorem xe:type_of% @Der.RD.leaf:=@Der.RD.leaf
end Go.Proofs.YtmlbicgpehchhaaGreat
namespace Go.Proofs.YtmlbicgpehchhaaGreat.Der
open Go.RowKit Go.Shelf
attribute [local go_sem] Oper.semAt_some
def IsN (c:Int) (oc:List Nat):Prop:=(c=1∧oc=yL)∨(c=2∧oc=yK)
theorem gI {c:Int} {oc:List Nat} (h:IsN c oc) (w:World):Calls Tryz.prog 41 #[.int .i64 c] w fun e w'=>(∃ A1 c1,e=.returned (.tuple #[.agg #[.int .i64 6,.slice A1 oc.length c1,.slice none 0 0],.bool true])∧RB w' (In w.heap.size w'.heap.size) A1 c1 oc)∧Below w.heap.size w w':=by
 rcases h with ⟨rfl,rfl⟩ | ⟨rfl,rfl⟩
 · exact aF w
 · exact aE w
theorem mR {c:Int} {oc:List Nat} (h:IsN c oc) (w:World):Calls Tryz.prog 106 #[.int .i64 c] w fun e w'=>(∃ A1 c1,e=.returned (.tuple #[.agg #[.int .i64 6,.slice A1 oc.length c1,.slice none 0 0],.bool true])∧RB w' (In w.heap.size w'.heap.size) A1 c1 oc)∧Below w.heap.size w w':=by
 rcases h with ⟨rfl,rfl⟩ | ⟨rfl,rfl⟩
 · exact mT w
 · exact mS w
theorem gG {c:Int} {oc:List Nat} (hc:IsN c oc) (w:World) :
 Calls Tryz.prog 56 #[.int .i64 c] w fun e w'=>(∃ v',e=.returned v'∧RD w' (Al w') (.mk 48 [] [.mk 6 uC [],.mk 6 oc []]) v')∧Below w.heap.size w w':=by
 obtain ⟨W0,hW0⟩:=eW (w.alloc (.cells #[.int .i64 0,.slice none 0 0,.slice none 0 0] 80))
 obtain ⟨s,hs⟩:=eV w.heap.size
 have hq:=zN w (.cells #[.int .i64 0,.slice none 0 0,.slice none 0 0] 80)
 have hE:Below s w W0:=by rw [hW0,←hs];exact (zQ _ w).alloc (zG _) _
 have hz:W0.heap.size=s+1:=by rw [hW0,←hs];simp
 rw [←hW0,hs] at hq
 have HPa:=zF (mR hc W0)
 have HE:=zF hE
 have Hz:=zF hz
 have Hs:=zF hs
 have Hq:=zF hq
 rw [hs]
 clear hE hz hs hc hq
 go_enter Tryz.func56,Tryz.ntmps56
 go_upto_region 1 with fail
 rw [←hW0,Hs.out]
 clear hW0
 go_wp2_with fail
 refine HPa.out.mono ?_
 rintro e w1 ⟨⟨Ac,cc,rfl,hr⟩,hB1⟩
 obtain ⟨b,hb⟩:=eV w1.heap.size
 obtain ⟨L,hL⟩:=eV oc.length
 rw [hL]
 have hbs:s+1≤b:=by have:=hB1.size;have:=Hz.out;omega
 have hq1:=(hB1.block s (by have:=Hz.out;omega)).trans Hq.out
 have hq2:(w1.alloc (.cells #[.int .i64 6,.slice Ac L cc,.slice none 0 0] 80)).heap[s]?=some _:=(zm w1 (.cells #[.int .i64 6,.slice Ac L cc,.slice none 0 0] 80) s (by omega)).trans hq1
 have hq3:=zN w1 (.cells #[.int .i64 6,.slice Ac L cc,.slice none 0 0] 80)
 have hE2:Below b w1 (w1.alloc (.cells #[.int .i64 6,.slice Ac L cc,.slice none 0 0] 80)):=(zQ _ w1).alloc (by omega) _
 have HE2:Hid (Below s w (w1.alloc (.cells #[.int .i64 6,.slice Ac L cc,.slice none 0 0] 80))):=zF (HE.out.trans ((hB1.mono (show s≤W0.heap.size by have:=Hz.out;omega)).trans (hE2.mono (by omega))))
 have hz2:(w1.alloc (.cells #[.int .i64 6,.slice Ac L cc,.slice none 0 0] 80)).heap.size=b+1:=by rw [zu,hb]
 have HR:Hid (RB (w1.alloc (.cells #[.int .i64 6,.slice Ac L cc,.slice none 0 0] 80)) (An s (w1.alloc (.cells #[.int .i64 6,.slice Ac L cc,.slice none 0 0] 80))) Ac cc oc):=zF ((hr.below hE2 (fun q hq=>by have:=hq.2;omega)).mono fun q hq=>⟨by have:=hq.1;have:=Hz.out;omega,by have:=hq.2;omega⟩)
 rw [hb] at hq3
 have Hz2:=zF hz2
 have HL:=zF hL
 have Hb:=zF hb
 have Hbs:=zF hbs
 clear hr hB1 hq1 hE2 hz2 hbs Hq HPa hL hb
 go_upto_region 2 with fail
 rw [Hb.out]
 generalize w1.alloc (.cells #[.int .i64 6,.slice Ac L cc,.slice none 0 0] 80)=W2 at *
 refine zj (by kernel_rfl) 5 [0,1,0,7,15,31] [] (fun j f X=>match j with
  | 0=>∃ b,f 0=.slice (some ⟨b,0,none⟩) 6 6∧RZ X (Al X) (some ⟨b,0,none⟩) 6 [1,2,840,10045,2,1]
  | 1=>∃ A1 c1,f 1=.agg #[.int .i64 6,.slice A1 7 c1,.slice none 0 0]∧RB X (An s X) A1 c1 uC
  | 2=>f 2=.agg #[.int .i64 6,.slice Ac L cc,.slice none 0 0]
  | 3=>∃ b A1 c1,f 3=.slice (some ⟨b,0,none⟩) 2 2∧RS X (An s X) 3 (some ⟨b,0,none⟩) 2 2 [.int .i64 6,.slice A1 7 c1,.slice none 0 0,.int .i64 6,.slice Ac L cc,.slice none 0 0]∧RB X (An s X) A1 c1 uC
  | 4=>∃ b A1 c1,f 4=.agg #[.int .i64 48,.slice none 0 0,.slice (some ⟨b,0,none⟩) 2 2]∧RS X (An s X) 3 (some ⟨b,0,none⟩) 2 2 [.int .i64 6,.slice A1 7 c1,.slice none 0 0,.int .i64 6,.slice Ac L cc,.slice none 0 0]∧RB X (An s X) A1 c1 uC
  | _=>True) (by kernel_rfl) [(10,0),(11,1),(12,2),(13,3),(14,4)] (by kernel_rfl) ?_
 refine zt 1 4 [(12,2)] (fun f X hX hR K hK=>?_) ?_
 · simp only [yZ]
   refine ⟨?_⟩
   go_simp
   exact hK.out _ (.slice (some ⟨X.heap.size,0,none⟩) 6 6) _ (by simp only [yZ]) (zR _ _) trivial (fun Y hY=>⟨_,rfl,RZ.al (show RZ _ (Al _) _ 6 [1,2,840,10045,2,1] from jW (w:=X) (P:=Al (X.alloc (.cells #[.int .i64 1,.int .i64 2,.int .i64 840,.int .i64 10045,.int .i64 2,.int .i64 1] 3))) #[.int .i64 1,.int .i64 2,.int .i64 840,.int .i64 10045,.int .i64 2,.int .i64 1] 3 1 6 rfl (by unfold maxLen;omega) (by simp [Al])) hY⟩)
 refine qC 2 3 (fun f=>#[f 0]) (F':=107) (fun f X hX hR=>?_) ?_
 · obtain ⟨b0,(e0:f 0=_),r0⟩:=hR.out 0 rfl
   simp only [e0]
   refine (gc (Al X) b0 6 [1,2,840,10045,2,1] X r0 (fun b hb=>hb) (by simp) rfl (by simp) (ut (by simp))).mono ?_
   rw [nO]
   rintro e w' ⟨⟨A1,c1,rfl,hr⟩,hB⟩
   exact ⟨(.agg #[.int .i64 6,.slice A1 7 c1,.slice none 0 0]),rfl,hB,fun Y hY=>⟨A1,c1,rfl,RB.an hr hY (fun q hq=>⟨by have:=hq.1;have:=hX.bsize;have:=Hz2.out;have:=Hbs.out;omega,hq.2⟩) hY.bsize⟩⟩
 refine zt 3 2 [(10,0),(11,1)] (fun f X hX hR K hK=>?_) ?_
 · simp only [yZ]
   refine ⟨zc (by kernel_rfl) (jg 80 (.tmp 3) rfl rfl (hX.at_ hq3) Tryz.underlying80 rfl yk rfl ?_)⟩
   exact qe hK (s:=by simp only [yZ])
 refine zt 4 1 [(10,0),(11,1),(12,2)] (fun f X hX hR K hK=>?_) ?_
 · obtain ⟨A1,c1,(e1:f 1=_),r1⟩:=hR.out 1 rfl
   have e2:f 2=_:=hR.out 2 rfl
   simp only [yZ,e1,e2]
   refine ⟨?_⟩
   go_simp
   exact hK.out _ (.slice (some ⟨X.heap.size,0,none⟩) 2 2) _ (by simp only [yZ,e1,e2]) (zR _ _) trivial (fun Y hY=>⟨_,A1,c1,rfl,RS.an (jW (w:=X) (P:=An s (X.alloc (.cells #[.int .i64 6,.slice A1 7 c1,.slice none 0 0,.int .i64 6,.slice Ac L cc,.slice none 0 0] 80))) #[.int .i64 6,.slice A1 7 c1,.slice none 0 0,.int .i64 6,.slice Ac L cc,.slice none 0 0] 80 3 2 rfl (by unfold maxLen;omega) (by have:=hX.bsize;have:=Hz2.out;have:=Hbs.out;simp [An];omega)) hY,RB.an r1 ((zR _ _).trans hY) (fun q hq=>hq) ((zR _ _).trans hY).bsize⟩)
 refine qC 5 0 (fun f=>#[f 3]) (F':=53) (fun f X hX hR=>?_) ?_
 · obtain ⟨b3,A3,c3,(e3:f 3=_),s3,r3⟩:=hR.out 3 rfl
   simp only [e3]
   refine (yc (some ⟨b3,0,none⟩) 2 2 X).mono ?_
   rintro e w' ⟨rfl,hB⟩
   exact ⟨(.agg #[.int .i64 48,.slice none 0 0,.slice (some ⟨b3,0,none⟩) 2 2]),rfl,hB,fun Y hY=>⟨b3,A3,c3,rfl,RS.an s3 (za hB hY),RB.an r3 (za hB hY) (fun q hq=>hq) (za hB hY).bsize⟩⟩
 refine yF ⟨fun f X hX hR hal hap=>?_⟩
 obtain ⟨b0,(e0:f 0=_),r0⟩:=hR 0 (by decide)
 obtain ⟨A1,c1,(e1:f 1=_),r1⟩:=hR 1 (by decide)
 obtain ⟨b3,A3,c3,(e3:f 3=_),s3,r3⟩:=hR 3 (by decide)
 obtain ⟨b4,A4,c4,(e4:f 4=_),s4,r4⟩:=hR 4 (by decide)
 simp only [yZ,e0,e1,e3,e4]
 clear hR hal hap e0 e1 e3 e4
 refine zZ (fun K hK=>⟨zc (by kernel_rfl) (qo 80 (.tmp 2) (.tmp 14) rfl rfl rfl rfl (hX.at_ hq2) yk rfl (rA _ _ _ _ _ _ _) (fun Y1 j1 j2 j3=>hK.out _ _ ?_))⟩)
 refine zK ?_
 go_wp2
 have hs:=Hs.out
 have hzz:=Hz2.out
 have hbb:=Hbs.out
 have HEX:Ext w X:=by show Below w.heap.size w X;rw [hs];exact HE2.out.trans (Below.mono hX (by omega))
 have hR2:RB X (An s X) Ac cc oc:=RB.an HR.out hX (fun q hq=>hq) hX.bsize
 have hlf:=xe (tag:=6) hR2 (by decide)
 rw [HL.out] at hlf
 refine yP rfl rfl rfl j1 ⟨⟨_,rfl,RD.just (RD.seq s4 (vj (xe r4 (by decide)) (vj hlf RDs.nil_)) rfl) j2 j3⟩,?_⟩
 have hY:Ext w Y1:=j2.ext HEX (by omega)
 unfold Ext at hY
 rw [hs] at hY
 exact hY
def WrB (R:Option (List Nat)) (e:Ending) (w':World):Prop:=∃ A c,e=.returned (.tuple #[.slice A (R.getD []).length c,.bool R.isSome])∧RB w' (Al w') A c (R.getD [])
theorem pE {t:DN} {b:List Nat} (h:wH t=some b):b.length≤65536:=by
 unfold wH at h
 split at h
 · cases h
 split at h
 · cases h
 · cases h;omega
theorem WrP.b {t:DN} {s:Nat} {e:Ending} {w':World} (h:WrP (wH t) s e w'):WrB (wH t) e w':=by
 cases hR:wH t with
 | none=>rw [hR] at h;exact ⟨none,0,h,vY _ _⟩
 | some b =>
  rw [hR] at h
  obtain ⟨A,c,rfl,hO⟩:=h
  have:=pE hR
  exact ⟨A,c,rfl,(hO.rb (by omega)).mono fun q hq=>hq.2⟩
def gM (ta:DN) (b:List Nat):DN:=.mk 48 [] [.mk 2 [0] [],ta,.mk 4 b []]
def ur (ta tk:DN):Option (List Nat):=(wH tk).bind fun b=>wH (gM ta b)
theorem px (w:World):Calls Tryz.prog 48 #[.int .u64 0] w fun e w'=>(∃ A1 c1,e=.returned (.agg #[.int .i64 2,.slice A1 1 c1,.slice none 0 0])∧RB w' (In w.heap.size w'.heap.size) A1 c1 [0])∧Below w.heap.size w w':=fv 0 (by omega) w
theorem pw (w:World):Calls Tryz.prog 48 #[.int .u64 1] w fun e w'=>(∃ A1 c1,e=.returned (.agg #[.int .i64 2,.slice A1 1 c1,.slice none 0 0])∧RB w' (In w.heap.size w'.heap.size) A1 c1 [1])∧Below w.heap.size w w':=fv 1 (by omega) w
theorem pT (w:World):Calls Tryz.prog 54 #[.int .u64 0] w fun e w'=>(∃ A1 c1,e=.returned (.agg #[.int .i64 2,.slice A1 1 c1,.slice none 0 0])∧RB w' (In w.heap.size w'.heap.size) A1 c1 [0])∧Below w.heap.size w w':=fW 0 (by omega) w
theorem pS (w:World):Calls Tryz.prog 54 #[.int .u64 1] w fun e w'=>(∃ A1 c1,e=.returned (.agg #[.int .i64 2,.slice A1 1 c1,.slice none 0 0])∧RB w' (In w.heap.size w'.heap.size) A1 c1 [1])∧Below w.heap.size w w':=fW 1 (by omega) w
theorem RB.up {w w':World} {A:Option Addr} {c:Nat} {bs:List Nat} (h:RB w (Al w) A c bs) (hb:Below w.heap.size w w'):RB w' (Al w') A c bs:=RB.al h hb (fun _q hq=>hq) hb.size
theorem rH (ta tk:DN) (va vk:Value) (w:World) (ha:RD w (Al w) ta va) (hk:RD w (Al w) tk vk) :
 Calls Tryz.prog 45 #[va,vk] w fun e w'=>WrB (ur ta tk) e w'∧Below w.heap.size w w':=by
 obtain ⟨xi,B1,n1,d1,B2,n2,d2,rfl⟩:=ha.shape
 obtain ⟨yi,D1,m1,k1,D2,m2,k2,rfl⟩:=hk.shape
 obtain ⟨W0,hW0⟩:=eW ((w.alloc (.cells #[.int .i64 xi,.slice B1 n1 d1,.slice B2 n2 d2] 80)).alloc (.cells #[.int .i64 yi,.slice D1 m1 k1,.slice D2 m2 k2] 80))
 obtain ⟨s,hs⟩:=eV w.heap.size
 obtain ⟨hq0,hq1,hz⟩:=bc w (.cells #[.int .i64 xi,.slice B1 n1 d1,.slice B2 n2 d2] 80) (.cells #[.int .i64 yi,.slice D1 m1 k1,.slice D2 m2 k2] 80)
 have hE:Below s w W0:=by rw [hW0,←hs];exact ((zQ _ w).alloc (zG _) _).alloc (by simp) _
 rw [←hW0,hs] at hq0 hq1 hz
 have HWk:=zF ((xQ (Al W0) tk _ W0 (hk.al (hs▸hE)) (fun q hq=>hq)).mono fun e w' h=>(⟨h.1.b,h.2⟩:WrB (wH tk) e w'∧Below W0.heap.size W0 w'))
 have HD:=zF (ha.al (hs▸hE))
 obtain ⟨R,hR⟩:=eV (ur ta tk)
 rw [hR,hs]
 unfold ur at hR
 obtain ⟨Rk,hRk⟩:=eV (wH tk)
 rw [hRk] at HWk hR
 have HE:=zF hE
 have Hz:=zF hz
 have Hs:=zF hs
 have HR:=zF hR
 have q0:=zH hq1 0
 have q1:=zH hq1 1
 have q2:=zH hq1 2
 simp only [zI,zJ,zL] at q0 q1 q2
 clear ha hk hE hz hs hR hRk
 go_enter Tryz.func45,Tryz.ntmps45
 go_upto_region 1 with fail
 rw [←hW0]
 clear hW0
 simp only [Hs.out]
 go_wp2_with fail
 refine HWk.out.mono ?_
 rintro e w1 ⟨⟨Ab,cb,rfl,hr⟩,hB1⟩
 have HB1:=zF (HE.out.trans (hB1.mono (show s≤W0.heap.size by have:=Hz.out;omega)))
 have hqa:=(hB1.block s (by have:=Hz.out;omega)).trans hq0
 have HD1:=zF (HD.out.al hB1)
 clear hB1 hq0 hq1 q0 q1 q2 HWk HD HE
 cases Rk with
 | none =>
  have hR:none=R:=HR.out
  subst hR
  go_wp2
  go_ret2
  exact ⟨⟨_,_,rfl,vY _ _⟩,HB1.out⟩
 | some b =>
  have hg:(some b).getD []=b:=rfl
  rw [hg] at hr ⊢
  have hi:(some b).isSome=true:=rfl
  rw [hi]
  have hr:=hr
  have Hr:=zF hr
  have HRT:Hid (wH (gM ta b)=R):=HR
  obtain ⟨N,hN⟩:=eV b.length
  have HN:=zF hN
  rw [hN]
  clear hr hg hi hN HR
  obtain ⟨bs,hbs⟩:=eV (R.getD [])
  obtain ⟨ok,hok⟩:=eV R.isSome
  obtain ⟨M,hM⟩:=eV bs.length
  have Hbs:=zF hbs
  have Hok:=zF hok
  have HM:=zF hM
  clear hbs hok hM
  go_upto_region 4 with fail
  refine zj (by kernel_rfl) 11 [0,0,0,5,15,31,63,127,127,511,1023] [] (fun j f X=>match j with
   | 0=>∃ A1 c1,f 0=.agg #[.int .i64 2,.slice A1 1 c1,.slice none 0 0]∧RB X (Al X) A1 c1 [0]
   | 1=>f 1=.agg #[.int .i64 xi,.slice B1 n1 d1,.slice B2 n2 d2]
   | 2=>f 2=.slice Ab N cb
   | 3=>f 3=.agg #[.int .i64 4,.slice Ab N cb,.slice none 0 0]
   | 4=>∃ b A1 c1,f 4=.slice (some ⟨b,0,none⟩) 3 3∧RS X (Al X) 3 (some ⟨b,0,none⟩) 3 3 [.int .i64 2,.slice A1 1 c1,.slice none 0 0,.int .i64 xi,.slice B1 n1 d1,.slice B2 n2 d2,.int .i64 4,.slice Ab N cb,.slice none 0 0]∧RB X (Al X) A1 c1 [0]
   | 5=>∃ b A1 c1,f 5=.agg #[.int .i64 48,.slice none 0 0,.slice (some ⟨b,0,none⟩) 3 3]∧RS X (Al X) 3 (some ⟨b,0,none⟩) 3 3 [.int .i64 2,.slice A1 1 c1,.slice none 0 0,.int .i64 xi,.slice B1 n1 d1,.slice B2 n2 d2,.int .i64 4,.slice Ab N cb,.slice none 0 0]∧RB X (Al X) A1 c1 [0]
   | 6=>∃ A1 c1,f 6=.tuple #[.slice A1 M c1,.bool ok]∧RB X (Al X) A1 c1 bs
   | 7=>∃ A1 c1,f 7=.slice A1 M c1∧RB X (Al X) A1 c1 bs
   | 8=>f 8=.bool ok
   | 9=>∃ A1 c1,f 9=.slice A1 M c1∧RB X (Al X) A1 c1 bs
   | 10=>f 10=.bool ok
   | _=>True) (by kernel_rfl) [(15,0),(16,1),(17,2),(18,3),(19,4),(20,5),(21,6),(22,7),(23,8),(4,9),(5,10)] (by kernel_rfl) ?_
  refine qC 1 10 (fun _=>#[Value.int IntKind.u64 0]) (F':=48) (fun f X hX hR=>?_) ?_
  · refine (px X).mono ?_
    rintro e w' ⟨⟨A1,c1,rfl,hr⟩,hB⟩
    exact ⟨(.agg #[.int .i64 2,.slice A1 1 c1,.slice none 0 0]),rfl,hB,fun Y hY=>⟨A1,c1,rfl,RB.al hr hY (fun q hq=>hq.2) hY.bsize⟩⟩
  refine zt 2 9 [(15,0),(17,2),(18,3)] (fun f X hX hR K hK=>?_) ?_
  · simp only [yZ]
    refine ⟨zc (by kernel_rfl) (jg 80 (.tmp 2) rfl rfl (hX.at_ hqa) Tryz.underlying80 rfl yk rfl ?_)⟩
    exact qe hK (s:=by simp only [yZ])
  refine zT 3 8 ?_
  refine qC 4 7 (fun f=>#[f 2]) (F':=49) (fun f X hX hR=>?_) ?_
  · have e2:f 2=_:=hR.out 2 rfl
    simp only [e2]
    refine (fu Ab N cb X).mono ?_
    rintro e w' ⟨rfl,hB⟩
    exact ⟨(.agg #[.int .i64 4,.slice Ab N cb,.slice none 0 0]),rfl,hB,fun _ _=>rfl⟩
  refine zt 5 6 [(15,0),(16,1),(17,2),(18,3)] (fun f X hX hR K hK=>?_) ?_
  · obtain ⟨A0,c0,(e0:f 0=_),r0⟩:=hR.out 0 rfl
    have e1:f 1=_:=hR.out 1 rfl
    have e3:f 3=_:=hR.out 3 rfl
    simp only [yZ,e0,e1,e3]
    refine ⟨?_⟩
    go_simp
    exact hK.out _ (.slice (some ⟨X.heap.size,0,none⟩) 3 3) _ (by simp only [yZ,e0,e1,e3]) (zR _ _) trivial (fun Y hY=>⟨_,A0,c0,rfl,RS.al (jW (w:=X) (P:=Al (X.alloc (.cells #[.int .i64 2,.slice A0 1 c0,.slice none 0 0,.int .i64 xi,.slice B1 n1 d1,.slice B2 n2 d2,.int .i64 4,.slice Ab N cb,.slice none 0 0] 80))) #[.int .i64 2,.slice A0 1 c0,.slice none 0 0,.int .i64 xi,.slice B1 n1 d1,.slice B2 n2 d2,.int .i64 4,.slice Ab N cb,.slice none 0 0] 80 3 3 rfl (by unfold maxLen;omega) (by simp [Al])) hY,RB.up r0 ((zR _ _).trans hY)⟩)
  refine qC 6 5 (fun f=>#[f 4]) (F':=47) (fun f X hX hR=>?_) ?_
  · obtain ⟨b4,A4,c4,(e4:f 4=_),s4,r4⟩:=hR.out 4 rfl
    simp only [e4]
    refine (fH (some ⟨b4,0,none⟩) 3 3 X).mono ?_
    rintro e w' ⟨rfl,hB⟩
    exact ⟨(.agg #[.int .i64 48,.slice none 0 0,.slice (some ⟨b4,0,none⟩) 3 3]),rfl,hB,fun Y hY=>⟨b4,A4,c4,rfl,RS.al s4 (za hB hY),RB.up r4 (za hB hY)⟩⟩
  refine qC 7 4 (fun f=>#[f 5]) (F':=85) (fun f X hX hR=>?_) ?_
  · obtain ⟨b5,A5,c5,(e5:f 5=_),s5,r5⟩:=hR.out 5 rfl
    simp only [e5]
    have hlf:=xe (tag:=4) (RB.up Hr.out hX) (by decide)
    rw [HN.out] at hlf
    have hT:RD X (Al X) (gM ta b) (.agg #[.int .i64 48,.slice none 0 0,.slice (some ⟨b5,0,none⟩) 3 3]):=RD.seq s5 (vj (xe r5 (by decide)) (vj (HD1.out.al hX) (vj hlf RDs.nil_))) rfl
    refine (xQ (Al X) _ _ X hT (fun q hq=>hq)).mono ?_
    rintro e w' ⟨hW,hB⟩
    have hW:=WrP.b hW
    rw [HRT.out] at hW
    obtain ⟨A6,c6,rfl,hr6⟩:=hW
    rw [Hok.out,Hbs.out,HM.out]
    rw [Hbs.out] at hr6
    exact ⟨(.tuple #[.slice A6 M c6,.bool ok]),rfl,hB,fun Y hY=>⟨A6,c6,rfl,RB.up hr6 hY⟩⟩
  refine zt 8 3 [(15,0),(16,1),(17,2),(18,3),(19,4),(20,5),(21,6),(23,8)] (fun f X hX hR K hK=>?_) ?_
  · obtain ⟨A6,c6,(e6:f 6=_),r6⟩:=hR.out 6 rfl
    simp only [yZ,e6]
    refine ⟨?_⟩
    go_simp
    exact hK.out _ (.slice A6 M c6) _ (by simp only [yZ,e6]) (zd _) trivial (fun Y hY=>⟨A6,c6,rfl,RB.up r6 hY⟩)
  refine zt 9 2 [(15,0),(16,1),(17,2),(18,3),(19,4),(20,5),(21,6),(22,7)] (fun f X hX hR K hK=>?_) ?_
  · obtain ⟨A6,c6,(e6:f 6=_),r6⟩:=hR.out 6 rfl
    simp only [yZ,e6]
    refine ⟨?_⟩
    go_simp
    exact qe hK (s:=by simp only [yZ,e6])
  refine zt 10 1 [(15,0),(16,1),(17,2),(18,3),(19,4),(20,5),(21,6),(22,7),(23,8)] (fun f X hX hR K hK=>?_) ?_
  · obtain ⟨A7,c7,(e7:f 7=_),r7⟩:=hR.out 7 rfl
    simp only [yZ,e7]
    refine ⟨?_⟩
    go_simp
    exact hK.out _ (.slice A7 M c7) _ (by simp only [yZ,e7]) (zd _) trivial (fun Y hY=>⟨A7,c7,rfl,RB.up r7 hY⟩)
  refine qL 11 0 8 ?_
  refine yF ⟨fun f X hX hR hal hap=>?_⟩
  obtain ⟨A0,c0,(e0:f 0=_),r0⟩:=hR 0 (by decide)
  obtain ⟨b4,A4,c4,(e4:f 4=_),s4,r4⟩:=hR 4 (by decide)
  obtain ⟨b5,A5,c5,(e5:f 5=_),s5,r5⟩:=hR 5 (by decide)
  obtain ⟨A6,c6,(e6:f 6=_),r6⟩:=hR 6 (by decide)
  obtain ⟨A7,c7,(e7:f 7=_),r7⟩:=hR 7 (by decide)
  obtain ⟨A9,c9,(e9:f 9=_),r9⟩:=hR 9 (by decide)
  have e10:f 10=_:=hR 10 (by decide)
  simp only [yZ,e0,e4,e5,e6,e7,e9,e10]
  clear hR hal hap e0 e4 e5 e6 e7 e9 e10
  refine zK ?_
  have HX:=zF (show Below s w X from HB1.out.trans (Below.mono hX (by have:=HB1.out.size;have:=Hs.out;omega)))
  have Hr9:=zF r9
  clear r9 hX
  go_wp2
  go_ret2
  exact ⟨⟨A9,c9,by rw [Hbs.out,HM.out,Hok.out];rfl,by rw [Hbs.out];exact Hr9.out⟩,HX.out⟩
end Go.Proofs.YtmlbicgpehchhaaGreat.Der
namespace Go.Proofs.YtmlbicgpehchhaaGreat
theorem jr:type_of% @Der.RB.up:=@Der.RB.up
end Go.Proofs.YtmlbicgpehchhaaGreat
namespace Go.Proofs.YtmlbicgpehchhaaGreat
open Go.RowKit
def EV (l:List Nat):Value:=.agg (nts l).toArray
theorem six {l:List Nat} (h:l.length=6):∃ a b c d e f,l=[a,b,c,d,e,f]:=by
 match l,h with
 | [a,b,c,d,e,f],_=>exact ⟨a,b,c,d,e,f,rfl⟩
theorem rN (a b c d e f:Nat) (w:World):(Op.equalIn 10000 147 (.agg #[.int .u64 (a:Int),.int .u64 (b:Int),.int .u64 (c:Int),.int .u64 (d:Int),.int .u64 (e:Int),.int .u64 (f:Int)]) (.agg #[.int .u64 0,.int .u64 0,.int .u64 0,.int .u64 0,.int .u64 0,.int .u64 0])).run Tryz.prog w =
 .ok (decide ([a,b,c,d,e,f]=[0,0,0,0,0,0])) w:=by
 obtain ⟨i0,hi,hz0,hz1,hz2⟩:=info_parts j9
 have hc:Tryz.prog.cellsOf 69=1:=by kernel_rfl
 rw [show (10000:Nat)=9999+1 by rfl,run_equalIn_array _ _ _ _ Tryz.underlying147 hi,hc]
 rw [show List.range 6=[0,1,2,3,4,5] by rfl]
 have he:∀ x y:Int,(Op.equalIn 9999 69 (.int .u64 x) (.int .u64 y)).run Tryz.prog w=.ok (x==y) w:=fun x y=>run_equalIn_int w 9998 _ .u64 .u64 x y Tryz.underlying69
 have hp:∀ (xs:Array Value) (j:Nat) (x:Value),xs[j]?=some x→(part 69 xs j).run Tryz.prog w=.ok x w:=fun xs j x h=>by
  simp [part,h,go_sem]
 have hs:∀ (xs ys:Array Value) (j:Nat) (x y:Int) (is:List Nat),xs[j]?=some (.int .u64 x)→ys[j]?=some (.int .u64 y) →
  (Op.eqItems 9999 69 1 xs ys (j :: is)).run Tryz.prog w=if x=y then (Op.eqItems 9999 69 1 xs ys is).run Tryz.prog w else .ok false w:=by
  intro xs ys j x y is h1 h2
  have p1:=hp xs j _ h1
  have p2:=hp ys j _ h2
  simp only [Op.eqItems,wg,jS,p1,p2,he,qk]
  by_cases hxy:x=y
  · simp [hxy]
  · simp [hxy]
 rw [hs _ _ 0 a 0 _ rfl rfl,hs _ _ 1 b 0 _ rfl rfl,hs _ _ 2 c 0 _ rfl rfl,hs _ _ 3 d 0 _ rfl rfl,hs _ _ 4 e 0 _ rfl rfl,hs _ _ 5 f 0 _ rfl rfl]
 have hn:(Op.eqItems 9999 69 1 #[.int .u64 (a:Int),.int .u64 (b:Int),.int .u64 (c:Int),.int .u64 (d:Int),.int .u64 (e:Int),.int .u64 (f:Int)] #[.int .u64 0,.int .u64 0,.int .u64 0,.int .u64 0,.int .u64 0,.int .u64 0] []).run Tryz.prog w=.ok true w:=by simp [Op.eqItems]
 rw [hn]
 have hd:decide ([a,b,c,d,e,f]=[0,0,0,0,0,0])=decide ((a:Int)=0∧(b:Int)=0∧(c:Int)=0∧(d:Int)=0∧(e:Int)=0∧(f:Int)=0):=by
  rw [decide_eq_decide];simp
 rw [hd]
 by_cases h1:(a:Int)=0 <;> by_cases h2:(b:Int)=0 <;> by_cases h3:(c:Int)=0 <;> by_cases h4:(d:Int)=0 <;> by_cases h5:(e:Int)=0 <;> by_cases h6:(f:Int)=0 <;> simp only [h1,h2,h3,h4,h5,h6,if_true,if_false,and_self,and_true,and_false,decide_true,decide_false]
theorem kd (l:List Nat) (w:World) (hl:l.length=6):Calls Tryz.prog 152 #[EV l] w fun e w'=>e=.returned (.bool (decide (l=[0,0,0,0,0,0])))∧Below w.heap.size w w':=by
 obtain ⟨a,b,c,d,e,f,rfl⟩:=six hl
 simp only [EV,nts,List.map_cons,List.map_nil]
 have heq:=rN a b c d e f
 generalize decide ([a,b,c,d,e,f]=[0,0,0,0,0,0])=r at *
 go_enter Tryz.func152,Tryz.ntmps152
 go_wp2
 go_ret
 exact ⟨rfl,(zQ _ w).alloc (zG _) _⟩
end Go.Proofs.YtmlbicgpehchhaaGreat
namespace Go.Proofs.YtmlbicgpehchhaaGreat
def gy (B M:Nat) (a b:List Nat) (T i:Nat):Prop:=T<M+val B b∧∃ k,T*B ^ i=val B (a.take i)*val B b+k*M
theorem gy.zero {B M:Nat} (a b:List Nat) (hM:0<M):gy B M a b 0 0:=⟨by omega,0,by simp⟩
theorem gy.step {B M inv i q T T2 T4:Nat} {a b:List Nat} (hB:2≤B) (h:gy B M a b T i) (ha:dg a i<B) (hq:q=(T+dg a i*val B b) % B*inv % B) (h2:T2=T+dg a i*val B b+q*M) (h4:T2=B*T4):gy B M a b T4 (i+1):=by
 have hq':q<B:=by rw [hq];exact qS _ (by omega)
 obtain ⟨hb,k,hk⟩:=h
 refine ⟨dC (by omega) h2 hb ha hq' h4,k+q*B ^ i,?_⟩
 rw [zv,show T4*(B ^ i*B)=(B*T4)*B ^ i by rw [zh (B ^ i),←zf,zh T4],←h4]
 exact nV h2 hk (z8 B a i)
def xS (B:Nat) (t b o:List Nat) (f j c:Nat):Prop:=o.length=t.length∧(∀ p,j≤p→dg o p=dg t p)∧val B (o.take j)+B ^ j*c=val B (t.take j)+f*val B (b.take j)
theorem xS.zero (B:Nat) (t b:List Nat) (f:Nat):xS B t b t f 0 0:=⟨rfl,fun _ _=>rfl,by simp⟩
theorem xS.step {B f j c s c':Nat} {t b o:List Nat} (h:xS B t b o f j c) (hj:j<t.length) (he:s+B*c'=dg o j+f*dg b j+c):xS B t b (o.set j s) f (j+1) c':=by
 obtain ⟨h1,h2,h3⟩:=h
 refine ⟨by simpa using h1,fun p hp=>by rw [getD_set_ne (by omega)];exact h2 p (by omega),?_⟩
 rw [jM B (by omega),z8,z8,zv,zf]
 have e:=congrArg (fun z=>B ^ j*z) he
 simp only [zl] at e
 rw [h2 j (zG _)] at e
 have e2:B ^ j*(f*dg b j)=f*(B ^ j*dg b j):=jB _ _ _
 rw [zl f]
 omega
theorem xS.fin {B f n c s c':Nat} {t b o:List Nat} (h:xS B t b o f n c) (hn:n+2≤t.length) (hb:b.take n=b∨val B (b.take n)=val B b) (he:s+B*c'=dg o n+c) :
    ((o.set n s).set (n+1) c').length=t.length∧val B (((o.set n s).set (n+1) c').take (n+2))=val B (t.take (n+1))+f*val B b:=by
  obtain ⟨h1,h2,h3⟩:=h
  have hb' : val B (b.take n) = val B b := by rcases hb with h | h; · rw [h]
                                              · exact h
  refine ⟨by simpa using h1,?_⟩
  rw [jM B (by simp;omega),jM B (by omega),z8 B t n,zv]
  have e:=congrArg (fun z=>B ^ n*z) he
  simp only [zl] at e
  rw [h2 n (zG _),←zf] at e
  rw [hb'] at h3
  omega
def xR (B:Nat) (t m o:List Nat) (u k c:Nat):Prop:=o.length=t.length∧(∀ p,k≤p→dg o p=dg t p)∧B*val B (o.take k)+B ^ (k+1)*c=val B (t.take (k+1))+u*val B (m.take (k+1))
theorem xR.zero {B u c:Nat} {t m:List Nat} (he:B*c=dg t 0+u*dg m 0):xR B t m t u 0 c:=by
 refine ⟨rfl,fun _ _=>rfl,?_⟩
 rw [z8,z8]
 simp
 exact he
theorem xR.step {B u k c s c':Nat} {t m o:List Nat} (h:xR B t m o u k c) (hk:k<t.length) (he:s+B*c'=dg o (k+1)+u*dg m (k+1)+c):xR B t m (o.set k s) u (k+1) c':=by
 obtain ⟨h1,h2,h3⟩:=h
 refine ⟨by simpa using h1,fun p hp=>by rw [getD_set_ne (by omega)];exact h2 p (by omega),?_⟩
 rw [jM B (by omega),z8 B t (k+1),z8 B m (k+1)]
 have e:=congrArg (fun z=>B ^ (k+1)*z) he
 simp only [zl] at e
 rw [h2 (k+1) (by omega)] at e
 have e2:B ^ (k+1)*(u*dg m (k+1))=u*(B ^ (k+1)*dg m (k+1)):=jB _ _ _
 have e3:B ^ (k+1)*(B*c')=B ^ (k+1+1)*c':=by rw [←zf,←zv]
 have e4:B*(B ^ k*s)=B ^ (k+1)*s:=by rw [←zf,zh B,←zv]
 rw [zl B,zl u,e4]
 omega
theorem xR.fin {B u k c s c':Nat} {t m o:List Nat} (h:xR B t m o u k c) (hn:k+3≤t.length) (hm:val B (m.take (k+1))=val B m) (he:s+B*c'=dg o (k+1)+c) :
 ((o.set k s).set (k+1) (dg o (k+2)+c')).length=t.length∧B*val B (((o.set k s).set (k+1) (dg o (k+2)+c')).take (k+2))=val B (t.take (k+3))+u*val B m:=by
 obtain ⟨h1,h2,h3⟩:=h
 refine ⟨by simpa using h1,?_⟩
 rw [jM B (by simp;omega),jM B (by omega),z8 B t (k+2),z8 B t (k+1),h2 (k+2) (by omega)]
 have e:=congrArg (fun z=>B ^ (k+1)*z) he
 simp only [zl] at e
 rw [h2 (k+1) (by omega)] at e
 rw [hm] at h3
 have e3:B ^ (k+1)*(B*c')=B ^ (k+2)*c':=by rw [←zf,←zv]
 have e4:B*(B ^ k*s)=B ^ (k+1)*s:=by rw [←zf,zh B,←zv]
 have e5:B*(B ^ (k+1)*(dg t (k+2)+c'))=B ^ (k+2)*dg t (k+2)+B ^ (k+2)*c':=by rw [←zf,zh B,←zv,zl]
 rw [zl B,zl B,e4,e5]
 omega
end Go.Proofs.YtmlbicgpehchhaaGreat
namespace Go.Proofs.YtmlbicgpehchhaaGreat
open Go.RowKit
def kB (n inv:Nat) (ml ol rl:List Nat):List Value:=.int .i64 (n:Int) :: (nts ml++.int .u64 (inv:Int) :: (nts ol++nts rl))
structure Fld (w:World) (g n inv:Nat) (ml ol rl:List Nat):Prop where
 blk:w.heap[g]?=some (.cells (kB n inv ml ol rl).toArray 224 (0,0))
 m6:ml.length=6
 o6:ol.length=6
 r6:rl.length=6
variable {w w':World} {g n inv:Nat} {ml ol rl:List Nat}
theorem Fld.below {B:Nat} (h:Fld w g n inv ml ol rl) (hb:Below B w w') (hg:g<B):Fld w' g n inv ml ol rl:=⟨(hb.block g hg).trans h.blk,h.m6,h.o6,h.r6⟩
theorem Fld.lt (h:Fld w g n inv ml ol rl):g<w.heap.size:=ql h.blk
theorem Fld.n0 (h:Fld w g n inv ml ol rl):w.cell? ⟨g,0,none⟩=some (.int .i64 (n:Int)):=by
 rw [zH h.blk 0];rfl
theorem Fld.inv_ (h:Fld w g n inv ml ol rl):w.cell? ⟨g,7,none⟩=some (.int .u64 (inv:Int)):=by
 rw [zH h.blk 7]
 obtain ⟨a,b,c,d,e,f,rfl⟩:=six h.m6
 rfl
theorem Fld.m_ (h:Fld w g n inv ml ol rl) {j:Nat} (hj:j<6):w.cell? ⟨g,1+j,none⟩=some (.int .u64 (dg ml j:Int)):=by
 rw [zH h.blk (1+j)]
 obtain ⟨a,b,c,d,e,f,rfl⟩:=six h.m6
 match j,hj with
 | 0,_ | 1,_ | 2,_ | 3,_ | 4,_ | 5,_=>rfl
def vB (w:World) (g:Nat) (ty:TypeId) (l:List Nat):Prop:=w.heap[g]?=some (.cells (nts l).toArray ty (0,0))
theorem vB.cell {ty:TypeId} {l:List Nat} (h:vB w g ty l) {i:Nat} (hi:i<l.length):w.cell? ⟨g,i,none⟩=some (.int .u64 (dg l i:Int)):=by
 rw [zH h i,zI,xk hi]
theorem vB.free {ty:TypeId} {l:List Nat} (h:vB w g ty l) (i:Nat):w.frozen? ⟨g,i,none⟩=false:=zp h i
theorem vB.set {ty:TypeId} {l:List Nat} (h:vB w g ty l) (i x:Nat):vB (w.setCell ⟨g,i,none⟩ (.int .u64 (x:Int))) g ty (l.set i x):=by
 have:=jf h i (.int .u64 (x:Int))
 rw [vB,this]
 simp [nts,List.map_set]
theorem vB.below {ty:TypeId} {l:List Nat} {B:Nat} (h:vB w g ty l) (hb:Below B w w') (hg:g<B):vB w' g ty l:=(hb.block g hg).trans h
theorem vB.lt {ty:TypeId} {l:List Nat} (h:vB w g ty l):g<w.heap.size:=ql h
theorem xJ {w:World} {g:Nat} {ty:TypeId} {a b c d e f:Value} (h:w.heap[g]?=some (.cells #[a,b,c,d,e,f] ty (0,0))) :
 w.cell? ⟨g,0,none⟩=some a∧w.cell? ⟨g,1,none⟩=some b∧w.cell? ⟨g,2,none⟩=some c∧w.cell? ⟨g,3,none⟩=some d∧w.cell? ⟨g,4,none⟩=some e∧w.cell? ⟨g,5,none⟩=some f :=
 ⟨zH h 0,zH h 1,zH h 2,zH h 3,zH h 4,zH h 5⟩
theorem yb {w:World} {g:Nat} {ty:TypeId} {x0 x1 x2 x3 x4 x5:Value} (h:w.heap[g]?=some (.cells #[x0,x1,x2,x3,x4,x5] ty (0,0))) (a b c d e f:Value) :
 ((((((w.setCell ⟨g,0,none⟩ a).setCell ⟨g,1,none⟩ b).setCell ⟨g,2,none⟩ c).setCell ⟨g,3,none⟩ d).setCell ⟨g,4,none⟩ e).setCell ⟨g,5,none⟩ f).heap[g]?=some (.cells #[a,b,c,d,e,f] ty (0,0)):=by
 have h1:=jf (jf (jf (jf (jf (jf h 0 a) 1 b) 2 c) 3 d) 4 e) 5 f
 rw [h1]
 rfl
theorem wc {B g:Nat} {w0 w:World} (h:Below B w0 w) (hg:B≤g) (a b c d e f:Value):Below B w0 ((((((w.setCell ⟨g,0,none⟩ a).setCell ⟨g,1,none⟩ b).setCell ⟨g,2,none⟩ c).setCell ⟨g,3,none⟩ d).setCell ⟨g,4,none⟩ e).setCell ⟨g,5,none⟩ f) :=
 (((((h.setCell (p:=⟨g,0,none⟩) hg a).setCell (p:=⟨g,1,none⟩) hg b).setCell (p:=⟨g,2,none⟩) hg c).setCell (p:=⟨g,3,none⟩) hg d).setCell (p:=⟨g,4,none⟩) hg e).setCell (p:=⟨g,5,none⟩) hg f
theorem mo {fn:Func} {R:Ending→World→Prop} {a:Act} {W:World} {p:Tmp} {g:Nat} {ty:TypeId} {fr:Nat×Nat} {x0 x1 x2 x3 x4 x5:Value} (hr:fn.results=#[.cell p 147]) (hp:a.tmps.getD p undef=.pointer (some ⟨g,0,none⟩)) (hd:a.defers=[])
 (hg:W.heap[g]?=some (.cells #[x0,x1,x2,x3,x4,x5] ty fr)) (hR:R (.returned (.agg #[x0,x1,x2,x3,x4,x5])) W):bodyPost Tryz.prog fn R .ret a W :=
 qF (vi hr a.tmps W g _ _ _ (.array 6 69) hp hg Tryz.underlying147 rfl (by kernel_rfl)) hd hR
theorem om (w:World) (g gt n c c':Nat) (ty ty':TypeId) (u src:List Nat) (hu:vB w g ty u) (hs:vB w gt ty' src) (hn:n≤src.length) (hn':n≤u.length) (_hpos:0<n) :
 (Builtin.copy_ #[22,22] 3 #[.slice (some ⟨g,0,none⟩) n c,.slice (some ⟨gt,0,none⟩) n c']).run Tryz.prog w=.ok (goInt n) (w.setRow g (nts (src.take n++u.drop n)).toArray):=by
 have hl:(nts (src.take n)).length=n:=by rw [qX,zz];omega
 have h:=run_copy_row (P:=Tryz.prog) w 22 22 3 69 g 0 n c ⟨gt,0,none⟩ n c' (nts u).toArray ty (nts (src.take n)) Tryz.underlying22 yo hu
  (by rw [hl]; simp) (fun j v hj => by
   have hj':j<n:=by have:=(List.getElem?_eq_some_iff.1 hj).1;omega
   rw [wl,zH hs j,zI]
   rw [nts,List.getElem?_map,List.getElem?_take,qE hj'] at hj
   rw [nts,List.getElem?_map]
   exact hj) (by rw [hl];simp [nts];omega) (kM _)
 rw [hl] at h
 rw [h]
 simp [nts,List.map_drop]
theorem vl {B:Nat} {l:List Nat} (h:∀ x∈l,x<B) (k:Nat) (hB:0<B:=by omega):val B (l.take k)<B ^ k:=by
 have h1:=ji (B:=B) (l:=l.take k) fun x hx=>h x (qI hx)
 exact zP h1 (zy hB (by rw [zz];omega))
theorem jw {B k:Nat} {l:List Nat} (h:∀ p,k≤p→dg l p=0):val B (l.take k)=val B l:=by
 rcases qB k l.length with h1 | h1
 · rw [qn B l (n:=k) (by omega),vJ (l:=l.drop k) ?_,jK,qt]
   intro x hx
   obtain ⟨j,hj,rfl⟩:=List.mem_iff_getElem.1 hx
   have h2:=h (k+j) (by omega)
   rw [jI] at hj
   rw [xf]
   rwa [dg,q9 (by omega)] at h2
 · rw [zx h1]
theorem fQ (gt over:Nat) (t:List Nat) (w:World) (hF:Fld w g n inv ml ol rl) (hml:∀ x∈ml,x<18446744073709551616) (hT:vB w gt 225 t) (_hgt:gt≠g) (ht8:t.length=8) (ht:∀ x∈t,x<18446744073709551616) (hn:n≤6) (hn1:0<n)
 (hmv:val 18446744073709551616 (ml.take n)=val 18446744073709551616 ml) (ho:over<18446744073709551616) (hv:val 18446744073709551616 (t.take n)+18446744073709551616 ^ n*over<2*val 18446744073709551616 ml) :
 Calls Tryz.prog 182 #[.pointer (some ⟨g,0,none⟩),.pointer (some ⟨gt,0,none⟩),.int .u64 (over:Int)] w fun e w'=>∃ o,e=.returned (EV o)∧o.length=6∧(∀ x∈o,x<18446744073709551616) ∧
  val 18446744073709551616 o=gd (val 18446744073709551616 (t.take n)+18446744073709551616 ^ n*over) (val 18446744073709551616 ml)∧Below w.heap.size w w':=by
 have h0:=hF.n0
 have hg:=hF.lt
 have hgtl:=hT.lt
 have hB0:Below w.heap.size w ((w.alloc (.cells #[.int .u64 0,.int .u64 0,.int .u64 0,.int .u64 0,.int .u64 0,.int .u64 0] 147)).alloc (.cells #[.int .u64 0,.int .u64 0,.int .u64 0,.int .u64 0,.int .u64 0,.int .u64 0] 147)):=((zQ _ w).alloc (zG _) _).alloc (by simp) _
 have hr0:vB ((w.alloc (.cells #[.int .u64 0,.int .u64 0,.int .u64 0,.int .u64 0,.int .u64 0,.int .u64 0] 147)).alloc (.cells #[.int .u64 0,.int .u64 0,.int .u64 0,.int .u64 0,.int .u64 0,.int .u64 0] 147)) (w.heap.size+1) 147 [0,0,0,0,0,0]:=by
  have:=zN (w.alloc (.cells #[.int .u64 0,.int .u64 0,.int .u64 0,.int .u64 0,.int .u64 0,.int .u64 0] 147)) (.cells #[.int .u64 0,.int .u64 0,.int .u64 0,.int .u64 0,.int .u64 0,.int .u64 0] 147)
  rw [zu] at this
  exact this
 have hres:((w.alloc (.cells #[.int .u64 0,.int .u64 0,.int .u64 0,.int .u64 0,.int .u64 0,.int .u64 0] 147)).alloc (.cells #[.int .u64 0,.int .u64 0,.int .u64 0,.int .u64 0,.int .u64 0,.int .u64 0] 147)).heap[w.heap.size]?=some (.cells #[.int .u64 0,.int .u64 0,.int .u64 0,.int .u64 0,.int .u64 0,.int .u64 0] 147 (0,0)):=(zm _ _ _ (by simp)).trans (zN w _)
 go_enter Tryz.func182,Tryz.ntmps182
 go_wp2_with fail
 generalize (w.alloc (.cells #[.int .u64 0,.int .u64 0,.int .u64 0,.int .u64 0,.int .u64 0,.int .u64 0] 147)).alloc (.cells #[.int .u64 0,.int .u64 0,.int .u64 0,.int .u64 0,.int .u64 0,.int .u64 0] 147)=W0 at *
 have hW0:w.heap.size+2≤W0.heap.size:=by have:=hr0.lt;omega
 have Hv:=zF hv
 have Hmv:=zF hmv
 have Hml:=zF hml
 have Ht:=zF ht
 have Ht8:=zF ht8
 have hm6:=zF hF.m6
 clear hv hmv hml ht ht8
 go_loopw [8,14] (fun cv iv wr=>∃ (k cr:Nat) (o:List Nat),iv=.int .i64 (k:Int)∧cv=.int .u64 (cr:Int)∧k≤n∧cr≤1∧wV 18446744073709551616 t ml o k cr∧Hid (o.length=6)∧Hid (∀ x∈o,x<18446744073709551616)∧Hid (∀ p,k≤p→dg o p=0)∧vB wr (w.heap.size+1) 147 o∧Below (w.heap.size+1) W0 wr) (fun _ iv _=>n - (intOf iv).toNat)
 case atStart=>exact ⟨0,0,_,rfl,rfl,by omega,by omega,wV.zero _ _ _ _,zF rfl,zF (by simp),zF (fun p _=>by match p with | 0 | 1 | 2 | 3 | 4 | 5=>rfl | p+6=>rfl),hr0,zQ _ _⟩
 case round =>
  obtain ⟨k,cr,o,rfl,rfl,hk,hcr,hA,Ho,Hlo,Hz,hblk,hB⟩:=hrel
  have hBw:Below w.heap.size w wr:=hB0.trans (hB.mono (by omega))
  have hFr:=hF.below hBw hg
  have hTr:=hT.below hBw hgtl
  have c0:=hFr.n0
  by_cases hlt:k<n
  · have q1:=hTr.cell (i:=k) (by have:=Ht8.out;omega)
    have q2:=hFr.m_ (j:=k) (by omega)
    have dt:dg t k<18446744073709551616:=jE (by omega) Ht.out k
    have dm:dg ml k<18446744073709551616:=jE (by omega) Hml.out k
    obtain ⟨s,cr',hs,hcr',he⟩:=yT (dg t k) (dg ml k) cr dt dm hcr
    have hok:k<o.length:=by have:=Ho.out;omega
    have q3:=hblk.cell hok
    have q4:=hblk.free k
    have hA':=hA.step hok he
    have hblk':=hblk.set k s
    have hB':=hB.setCell (p:=⟨w.heap.size+1,k,none⟩) (zG _) (.int .u64 (s:Int))
    have Ho':Hid ((o.set k s).length=6):=zF (by rw [kO];exact Ho.out)
    have Hlo':Hid (∀ x∈o.set k s,x<18446744073709551616):=zF (wJ Hlo.out hs)
    have Hz':Hid (∀ p,k+1≤p→dg (o.set k s) p=0):=zF fun p hp=>by rw [getD_set_ne (by omega)];exact Hz.out p (by omega)
    have hsub:=fun w=>yH (dg t k) (dg ml k) cr s cr' hcr dt dm hs he hcr' w
    have ki:(k:Int)<8:=by omega
    have ki6:(k:Int)<6:=by omega
    clear he hA hblk hB hok hBw hFr hTr
    go_wp2_with fail
    have hfar:∀ q:Addr,q.block<w.heap.size→(wr.setCell ⟨w.heap.size+1,k,none⟩ (.int .u64 (s:Int))).drew.cell? q=wr.cell? q:=fun q hq=>zS (zO _ _ _ _ (by show q.block≠w.heap.size+1;omega))
    have f1:=(hfar ⟨gt,k,none⟩ hgtl).trans q1
    have f2:=(hfar ⟨g,1+k,none⟩ hg).trans q2
    clear hfar
    go_region_held3 (fun w'=>w'.cell? ⟨gt,k,none⟩=some (.int .u64 (dg t k:Int))∧w'.cell? ⟨g,1+k,none⟩=some (.int .u64 (dg ml k:Int))) (first | exact ⟨q1,q2⟩ | exact ⟨f1,f2⟩ | go_keep) (fail)
    go_wp2
    go_roundw
    case rel=>exact ⟨k+1,cr',o.set k s,by go_num,rfl,by omega,hcr',hA',Ho',Hlo',Hz',hblk',hB'.drew⟩
    case measure=>simp [intOf];omega
  · obtain rfl:k=n:=by omega
    have hfin:val 18446744073709551616 o+val 18446744073709551616 ml=val 18446744073709551616 (t.take k)+18446744073709551616 ^ k*cr:=by
     have h1:val 18446744073709551616 (o.take k)+val 18446744073709551616 (ml.take k)=val 18446744073709551616 (t.take k)+18446744073709551616 ^ k*cr:=hA
     rw [Hmv.out] at h1
     have h2:val 18446744073709551616 (o.take k)=val 18446744073709551616 o:=jw Hz.out
     omega
    have hvo:val 18446744073709551616 o<18446744073709551616 ^ k:=by
     rw [←jw Hz.out]
     exact vl Hlo.out k
    have hvm:val 18446744073709551616 ml<18446744073709551616 ^ k:=by rw [←Hmv.out];exact vl Hml.out k
    have hvt:=vl Ht.out k
    have hv:=Hv.out
    by_cases hcase:over<cr
    · obtain rfl:cr=1:=by omega
      obtain rfl:over=0:=by omega
      rw [jK,qt] at hv
      have hoff:gd (val 18446744073709551616 (t.take k)+18446744073709551616 ^ k*0) (val 18446744073709551616 ml)=val 18446744073709551616 (t.take k):=by rw [jK,qt,gd,qE (by omega)]
      have hcp:=om wr.drew (w.heap.size+1) gt k 6 8 147 225 o t hblk hTr (by have:=Ht8.out;omega) (by have:=Ho.out;omega) hn1
      have hvv:val 18446744073709551616 (t.take k++o.drop k)=val 18446744073709551616 (t.take k):=by
       rw [jp,vJ (l:=o.drop k) ?_,jK,qt]
       intro x hx
       obtain ⟨j,hj,rfl⟩:=List.mem_iff_getElem.1 hx
       have h2:=Hz.out (k+j) (by omega)
       rw [jI] at hj
       rw [xf]
       rwa [dg,q9 (by omega)] at h2
      have hlen:(t.take k++o.drop k).length=6:=by rw [zk,zz,jI,Ho.out,Ht8.out];omega
      have hlim:∀ x∈t.take k++o.drop k,x<18446744073709551616:=fun x hx=>by
       rcases List.mem_append.1 hx with h | h
       · exact Ht.out x (qI h)
       · exact Hlo.out x (List.mem_of_mem_drop h)
      generalize t.take k++o.drop k=o2 at *
      have hb2:vB (wr.drew.setRow (w.heap.size+1) (nts o2).toArray) (w.heap.size+1) 147 o2:=setRow_heap wr.drew _ _ _ _ _ hblk
      have hB2:=gB hB.drew (zG (w.heap.size+1)) (nts o2).toArray
      obtain ⟨a,b,c,d,e,f,hoe⟩:=six hlen
      have hcb:((wr.drew.setRow (w.heap.size+1) (nts o2).toArray).heap[w.heap.size+1]?=some (.cells #[.int .u64 (a:Int),.int .u64 (b:Int),.int .u64 (c:Int),.int .u64 (d:Int),.int .u64 (e:Int),.int .u64 (f:Int)] 147 (0,0))):=by
       have h:=hb2
       rw [vB] at h
       rw [h,hoe]
       rfl
      have hrb:(wr.drew.setRow (w.heap.size+1) (nts o2).toArray).heap[w.heap.size]?=some (.cells #[.int .u64 0,.int .u64 0,.int .u64 0,.int .u64 0,.int .u64 0,.int .u64 0] 147 (0,0)):=(hB2.block w.heap.size (by omega)).trans hres
      obtain ⟨e0,e1,e2,e3,e4,e5⟩:=xJ hcb
      obtain ⟨r0,r1,r2,r3,r4,r5⟩:=xJ hrb
      have z:=fun i=>zp hrb i
      have z0:=z 0
      have z1:=z 1
      have z2:=z 2
      have z3:=z 3
      have z4:=z 4
      have z5:=z 5
      have hrb':=hrb
      have hBf:Below w.heap.size w (wr.drew.setRow (w.heap.size+1) (nts o2).toArray):=hB0.trans (hB2.mono (by omega))
      have Hoff:=zF (hvv.trans hoff.symm)
      have Hoe:=zF hoe
      have Hlen:=zF hlen
      have Hlim:=zF hlim
      have k6:(k:Int)≤6:=by omega
      have k8:(k:Int)≤8:=by omega
      clear hvo hv hfin hvm hvt hoff hA hblk hFr hTr z hcb hrb hvv hoe hlen hlim hb2 hB2
      go_wp2_with fail
      go_region
      generalize wr.drew.setRow (w.heap.size+1) (nts o2).toArray=W9 at *
      go_wp2_with fail
      refine mo rfl rfl rfl (yb hrb' _ _ _ _ _ _) ?_
      exact ⟨o2,by rw [Hoe.out];rfl,Hlen.out,Hlim.out,Hoff.out,wc hBf (zG _) _ _ _ _ _ _⟩
    · have hoff:val 18446744073709551616 o=gd (val 18446744073709551616 (t.take k)+18446744073709551616 ^ k*over) (val 18446744073709551616 ml):=by
       have hcr':cr=0∨cr=1:=by omega
       generalize 18446744073709551616 ^ k=R at *
       rcases zo over with rfl | hpo
       · obtain rfl:cr=0:=by omega
         rw [jK,qt] at hfin hv ⊢
         rw [gd,zr (by omega)]
         omega
       · have h1:R*1≤R*over:=qA _ hpo
         have h2:over=1:=by
          rcases qB over 2 with h | h
          · omega
          · have:R*2≤R*over:=qA _ h
            omega
         subst h2
         rw [gd,zr (by omega)]
         rcases hcr' with rfl | rfl
         · rw [jK,qt] at hfin
           omega
         · omega
      have Hoff:=zF hoff
      obtain ⟨a,b,c,d,e,f,hoe⟩:=six Ho.out
      have hcb:(wr.heap[w.heap.size+1]?=some (.cells #[.int .u64 (a:Int),.int .u64 (b:Int),.int .u64 (c:Int),.int .u64 (d:Int),.int .u64 (e:Int),.int .u64 (f:Int)] 147 (0,0))):=by
       rw [hoe] at hblk;exact hblk
      have hrb:wr.heap[w.heap.size]?=some (.cells #[.int .u64 0,.int .u64 0,.int .u64 0,.int .u64 0,.int .u64 0,.int .u64 0] 147 (0,0)):=(hB.block w.heap.size (by omega)).trans hres
      obtain ⟨e0,e1,e2,e3,e4,e5⟩:=xJ hcb
      obtain ⟨r0,r1,r2,r3,r4,r5⟩:=xJ hrb
      have z:=fun i=>zp hrb i
      have z0:=z 0
      have z1:=z 1
      have z2:=z 2
      have z3:=z 3
      have z4:=z 4
      have z5:=z 5
      have hrb':=hrb
      clear hvo hv hfin hvm hvt hoff hA hblk hFr hTr z hcb hrb
      go_wp2_with fail
      refine mo rfl rfl rfl (yb hrb' _ _ _ _ _ _) ?_
      exact ⟨o,by rw [hoe];rfl,Ho.out,Hlo.out,Hoff.out,wc hBw (zG _) _ _ _ _ _ _⟩
end Go.Proofs.YtmlbicgpehchhaaGreat
namespace Go.Proofs.YtmlbicgpehchhaaGreat
open Go.RowKit
structure FF (w:World) (g n inv M:Nat) (ml ol rl:List Nat):Prop where
 fld:Fld w g n inv ml ol rl
 mlt:∀ x∈ml,x<18446744073709551616
 mval:val 18446744073709551616 ml=M
 mtake:val 18446744073709551616 (ml.take n)=M
 npos:0<n
 nle:n≤6
 big:1<M
 invLt:inv<18446744073709551616
 invV:(inv*M+1) % 18446744073709551616=0
theorem FF.below {w w':World} {g n inv M B:Nat} {ml ol rl:List Nat} (h:FF w g n inv M ml ol rl) (hb:Below B w w') (hg:g<B):FF w' g n inv M ml ol rl :=
 ⟨h.fld.below hb hg,h.mlt,h.mval,h.mtake,h.npos,h.nle,h.big,h.invLt,h.invV⟩
theorem FF.room {w:World} {g n inv M:Nat} {ml ol rl:List Nat} (h:FF w g n inv M ml ol rl):M<18446744073709551616 ^ n:=by rw [←h.mtake];exact vl h.mlt n
structure Elt (M:Nat) (l:List Nat):Prop where
 six:l.length=6
 lim:∀ x∈l,x<18446744073709551616
 lt:val 18446744073709551616 l<M
theorem Elt.take {w:World} {g n inv M:Nat} {ml ol rl l:List Nat} (h:FF w g n inv M ml ol rl) (he:Elt M l):val 18446744073709551616 (l.take n)=val 18446744073709551616 l:=by
 have h1:=qn 18446744073709551616 l (n:=n) (by rw [he.six];exact h.nle)
 have h2:=h.room
 rcases zo (val 18446744073709551616 (l.drop n)) with h3 | h3
 · rw [h3] at h1;omega
 · have h4:18446744073709551616 ^ n*1≤18446744073709551616 ^ n*val 18446744073709551616 (l.drop n):=qA _ h3
   have h5:=he.lt
   omega
theorem zAS (w:World) (o1 o2 o3 o4:Obj):((((w.alloc o1).alloc o2).alloc o3).alloc o4).heap[w.heap.size]?=some o1∧((((w.alloc o1).alloc o2).alloc o3).alloc o4).heap[w.heap.size+1]?=some o2∧((((w.alloc o1).alloc o2).alloc o3).alloc o4).heap[w.heap.size+1+1]?=some o3∧((((w.alloc o1).alloc o2).alloc o3).alloc o4).heap[w.heap.size+1+1+1]?=some o4 ∧
 ((((w.alloc o1).alloc o2).alloc o3).alloc o4).heap.size=w.heap.size+4∧Below w.heap.size w ((((w.alloc o1).alloc o2).alloc o3).alloc o4):=by
 have e1:=zN w o1
 have e2:=zN (w.alloc o1) o2
 have e3:=zN ((w.alloc o1).alloc o2) o3
 have e4:=zN (((w.alloc o1).alloc o2).alloc o3) o4
 simp only [zu] at e2 e3 e4
 refine ⟨?_,?_,?_,e4,by simp,(((((zQ _ w).alloc (zG _) _).alloc (by simp) _).alloc (by simp;omega) _).alloc (by simp;omega) _)⟩
 · exact (zm _ _ _ (by simp <;> omega)).trans ((zm _ _ _ (by simp <;> omega)).trans ((zm _ _ _ (by simp)).trans e1))
 · exact (zm _ _ _ (by simp <;> omega)).trans ((zm _ _ _ (by simp)).trans e2)
 · exact (zm _ _ _ (by simp)).trans e3
theorem pB {g n inv M:Nat} {ml ol rl:List Nat} (a b:List Nat) (w:World) (hF:FF w g n inv M ml ol rl) (ha:Elt M a) (hb:Elt M b) :
 Calls Tryz.prog 149 #[.pointer (some ⟨g,0,none⟩),EV a,EV b] w fun e w'=>∃ o,e=.returned (EV o)∧Elt M o∧val 18446744073709551616 o=gd (val 18446744073709551616 a+val 18446744073709551616 b) M∧Below w.heap.size w w':=by
 have hg:=hF.fld.lt
 have h0:=hF.fld.n0
 have hn:=hF.nle
 have hn1:=hF.npos
 have ta:=ha.take hF
 have tb:=hb.take hF
 obtain ⟨a0,a1,a2,a3,a4,a5,hae⟩:=six ha.six
 obtain ⟨b0,b1,b2,b3,b4,b5,hbe⟩:=six hb.six
 obtain ⟨l1,l2,l3,l4,hz,hB0⟩:=zAS w (.cells #[.int .u64 (a0:Int),.int .u64 (a1:Int),.int .u64 (a2:Int),.int .u64 (a3:Int),.int .u64 (a4:Int),.int .u64 (a5:Int)] 147)
  (.cells #[.int .u64 (b0:Int),.int .u64 (b1:Int),.int .u64 (b2:Int),.int .u64 (b3:Int),.int .u64 (b4:Int),.int .u64 (b5:Int)] 147) (.cells #[.int .u64 0,.int .u64 0,.int .u64 0,.int .u64 0,.int .u64 0,.int .u64 0] 147)
  (.cells #[.int .u64 0,.int .u64 0,.int .u64 0,.int .u64 0,.int .u64 0,.int .u64 0,.int .u64 0,.int .u64 0] 225)
 have hva:EV a=.agg #[.int .u64 (a0:Int),.int .u64 (a1:Int),.int .u64 (a2:Int),.int .u64 (a3:Int),.int .u64 (a4:Int),.int .u64 (a5:Int)]:=by rw [hae];rfl
 have hvb:EV b=.agg #[.int .u64 (b0:Int),.int .u64 (b1:Int),.int .u64 (b2:Int),.int .u64 (b3:Int),.int .u64 (b4:Int),.int .u64 (b5:Int)]:=by rw [hbe];rfl
 rw [hva,hvb]
 have h00:=(hB0.cell (p:=⟨g,0,none⟩) hg).trans h0
 go_enter Tryz.func149,Tryz.ntmps149
 go_wp2_with fail
 generalize (((w.alloc (.cells #[.int .u64 (a0:Int),.int .u64 (a1:Int),.int .u64 (a2:Int),.int .u64 (a3:Int),.int .u64 (a4:Int),.int .u64 (a5:Int)] 147)).alloc
  (.cells #[.int .u64 (b0:Int),.int .u64 (b1:Int),.int .u64 (b2:Int),.int .u64 (b3:Int),.int .u64 (b4:Int),.int .u64 (b5:Int)] 147)).alloc (.cells #[.int .u64 0,.int .u64 0,.int .u64 0,.int .u64 0,.int .u64 0,.int .u64 0] 147)).alloc
  (.cells #[.int .u64 0,.int .u64 0,.int .u64 0,.int .u64 0,.int .u64 0,.int .u64 0,.int .u64 0,.int .u64 0] 225)=W0 at *
 have A0:vB W0 w.heap.size 147 a:=by rw [hae];exact l1
 have B0:vB W0 (w.heap.size+1) 147 b:=by rw [hbe];exact l2
 have T0:vB W0 (w.heap.size+1+1+1) 225 [0,0,0,0,0,0,0,0]:=l4
 have hW0:w.heap.size+4≤W0.heap.size:=by omega
 have Ha:=zF ha
 have Hb:=zF hb
 have Hae:=zF hae
 have Hbe:=zF hbe
 have HF:=zF hF
 clear l1 l2 l4 hz ha hb hae hbe hva hvb hF
 go_loopw [8,14] (fun cv iv wr=>∃ (k cr:Nat) (o:List Nat),iv=.int .i64 (k:Int)∧cv=.int .u64 (cr:Int)∧k≤n∧cr≤1∧wW 18446744073709551616 a b o k cr∧Hid (o.length=8)∧Hid (∀ x∈o,x<18446744073709551616)∧vB wr (w.heap.size+1+1+1) 225 o∧Below (w.heap.size+1+1+1) W0 wr) (fun _ iv _=>n - (intOf iv).toNat)
 case atStart=>exact ⟨0,0,_,rfl,rfl,by omega,by omega,wW.zero _ _ _ _,zF rfl,zF (by simp),T0,zQ _ _⟩
 case round =>
  obtain ⟨k,cr,o,rfl,rfl,hk,hcr,hA,Ho,Hlo,hblk,hB⟩:=hrel
  have hBw:Below w.heap.size w wr:=hB0.trans (hB.mono (by omega))
  have hFr:=HF.out.below hBw hg
  have c0:=hFr.fld.n0
  have hAr:=A0.below hB (by omega)
  have hBr:=B0.below hB (by omega)
  by_cases hlt:k<n
  · have q1:=hAr.cell (i:=k) (by rw [Ha.out.six];omega)
    have q2:=hBr.cell (i:=k) (by rw [Hb.out.six];omega)
    have dt:dg a k<18446744073709551616:=jE (by omega) Ha.out.lim k
    have dm:dg b k<18446744073709551616:=jE (by omega) Hb.out.lim k
    obtain ⟨s,cr',hs,hcr',he⟩:=yR (dg a k) (dg b k) cr dt dm hcr
    have hok:k<o.length:=by have:=Ho.out;omega
    have q3:=hblk.cell hok
    have q4:=hblk.free k
    have hA':=hA.step hok (by omega)
    have hblk':=hblk.set k s
    have hB':=hB.setCell (p:=⟨w.heap.size+1+1+1,k,none⟩) (zG _) (.int .u64 (s:Int))
    have Ho':Hid ((o.set k s).length=8):=zF (by rw [kO];exact Ho.out)
    have Hlo':Hid (∀ x∈o.set k s,x<18446744073709551616):=zF (wJ Hlo.out hs)
    have hadd:=fun w=>kN (dg a k) (dg b k) cr s cr' hcr hs (by omega) w
    have ki:(k:Int)<8:=by omega
    have ki6:(k:Int)<6:=by omega
    clear he hA hblk hB hok hBw hFr hAr hBr
    go_wp2_with fail
    have hfar:∀ q:Addr,q.block<w.heap.size+1+1+1→(wr.setCell ⟨w.heap.size+1+1+1,k,none⟩ (.int .u64 (s:Int))).drew.cell? q=wr.cell? q:=fun q hq=>zS (zO _ _ _ _ (by show q.block≠w.heap.size+1+1+1;omega))
    have f1:=(hfar ⟨w.heap.size,k,none⟩ (by show w.heap.size<_;omega)).trans q1
    have f2:=(hfar ⟨w.heap.size+1,k,none⟩ (by show w.heap.size+1<_;omega)).trans q2
    clear hfar
    go_region_held3 (fun w'=>w'.cell? ⟨w.heap.size,k,none⟩=some (.int .u64 (dg a k:Int))∧w'.cell? ⟨w.heap.size+1,k,none⟩=some (.int .u64 (dg b k:Int))) (first | exact ⟨q1,q2⟩ | exact ⟨f1,f2⟩ | go_keep) (fail)
    go_wp2
    go_roundw
    case rel=>exact ⟨k+1,cr',o.set k s,by go_num,rfl,by omega,hcr',hA',Ho',Hlo',hblk',hB'.drew⟩
    case measure=>simp [intOf];omega
  · obtain rfl:k=n:=by omega
    have hsum:val 18446744073709551616 (o.take k)+18446744073709551616 ^ k*cr=val 18446744073709551616 a+val 18446744073709551616 b:=by
     have h1:val 18446744073709551616 (o.take k)+18446744073709551616 ^ k*cr=val 18446744073709551616 (a.take k)+val 18446744073709551616 (b.take k):=by have:=hA;unfold wW at this;omega
     rw [ta,tb] at h1
     exact h1
    have hbel:=fQ (w.heap.size+1+1+1) cr o wr hFr.fld hFr.mlt hblk (by omega) Ho.out Hlo.out hn hn1 (by rw [hFr.mtake,hFr.mval]) (by omega) (by rw [hsum,hFr.mval];have:=Ha.out.lt;have:=Hb.out.lt;omega)
    rw [hsum,hFr.mval] at hbel
    have Hbel:=zF hbel
    clear hbel hA hblk hFr hAr hBr hsum
    go_wp2_with fail
    refine Hbel.out.mono ?_
    rintro e w2 ⟨o2,rfl,ho6,hlim,hv2,hB2⟩
    obtain ⟨x0,x1,x2,x3,x4,x5,hoe⟩:=six ho6
    have hrb:=(hB2.block (w.heap.size+1+1) (by have:=hB.size;omega)).trans ((hB.block (w.heap.size+1+1) (by omega)).trans l3)
    obtain ⟨r0,r1,r2,r3,r4,r5⟩:=xJ hrb
    have z:=fun i=>zp hrb i
    have z0:=z 0
    have z1:=z 1
    have z2:=z 2
    have z3:=z 3
    have z4:=z 4
    have z5:=z 5
    have hrb':=hrb
    have hBf:Below w.heap.size w w2:=hBw.trans (hB2.mono hBw.size)
    have Hv2:=zF hv2
    have Ho6:=zF ho6
    have Hlim:=zF hlim
    have Hoe:=zF hoe
    have hve:EV o2=.agg #[.int .u64 (x0:Int),.int .u64 (x1:Int),.int .u64 (x2:Int),.int .u64 (x3:Int),.int .u64 (x4:Int),.int .u64 (x5:Int)]:=by rw [hoe];rfl
    rw [hve]
    clear hve hoe hv2 ho6 hlim z hrb hB2 hB Hbel
    go_wp2_with fail
    refine mo rfl rfl rfl (yb hrb' _ _ _ _ _ _) ?_
    exact ⟨o2,by rw [Hoe.out];rfl,⟨Ho6.out,Hlim.out,by rw [Hv2.out];exact nR (by have:=Ha.out.lt;have:=Hb.out.lt;omega)⟩,Hv2.out,wc hBf (by omega) _ _ _ _ _ _⟩
def dX (x y M:Nat):Nat:=if y≤x then x - y else x+M - y
theorem nH {x y M:Nat} (hx:x<M) (hy:y<M):dX x y M<M:=by unfold dX;split <;> omega
theorem pJ {x y M:Nat} (hx:x<M) (hy:y<M):dX x y M=(x+M - y) % M:=by
 unfold dX
 split
 · rw [show x+M - y=x - y+M by omega,Nat.add_mod_right,qJ (by omega)]
 · rw [qJ (by omega)]
theorem ow {g n inv M:Nat} {ml ol rl:List Nat} (a b:List Nat) (w:World) (hF:FF w g n inv M ml ol rl) (ha:Elt M a) (hb:Elt M b) :
 Calls Tryz.prog 151 #[.pointer (some ⟨g,0,none⟩),EV a,EV b] w fun e w'=>∃ o,e=.returned (EV o)∧Elt M o∧val 18446744073709551616 o=dX (val 18446744073709551616 a) (val 18446744073709551616 b) M∧Below w.heap.size w w':=by
 have hg:=hF.fld.lt
 have h0:=hF.fld.n0
 have hn:=hF.nle
 have hn1:=hF.npos
 have ta:=ha.take hF
 have tb:=hb.take hF
 obtain ⟨a0,a1,a2,a3,a4,a5,hae⟩:=six ha.six
 obtain ⟨b0,b1,b2,b3,b4,b5,hbe⟩:=six hb.six
 obtain ⟨l1,l2,l3,l4,hz,hB0⟩:=zAS w (.cells #[.int .u64 (a0:Int),.int .u64 (a1:Int),.int .u64 (a2:Int),.int .u64 (a3:Int),.int .u64 (a4:Int),.int .u64 (a5:Int)] 147)
  (.cells #[.int .u64 (b0:Int),.int .u64 (b1:Int),.int .u64 (b2:Int),.int .u64 (b3:Int),.int .u64 (b4:Int),.int .u64 (b5:Int)] 147) (.cells #[.int .u64 0,.int .u64 0,.int .u64 0,.int .u64 0,.int .u64 0,.int .u64 0] 147)
  (.cells #[.int .u64 0,.int .u64 0,.int .u64 0,.int .u64 0,.int .u64 0,.int .u64 0] 147)
 have hva:EV a=.agg #[.int .u64 (a0:Int),.int .u64 (a1:Int),.int .u64 (a2:Int),.int .u64 (a3:Int),.int .u64 (a4:Int),.int .u64 (a5:Int)]:=by rw [hae];rfl
 have hvb:EV b=.agg #[.int .u64 (b0:Int),.int .u64 (b1:Int),.int .u64 (b2:Int),.int .u64 (b3:Int),.int .u64 (b4:Int),.int .u64 (b5:Int)]:=by rw [hbe];rfl
 rw [hva,hvb]
 have h00:=(hB0.cell (p:=⟨g,0,none⟩) hg).trans h0
 go_enter Tryz.func151,Tryz.ntmps151
 go_wp2_with fail
 generalize (((w.alloc (.cells #[.int .u64 (a0:Int),.int .u64 (a1:Int),.int .u64 (a2:Int),.int .u64 (a3:Int),.int .u64 (a4:Int),.int .u64 (a5:Int)] 147)).alloc
  (.cells #[.int .u64 (b0:Int),.int .u64 (b1:Int),.int .u64 (b2:Int),.int .u64 (b3:Int),.int .u64 (b4:Int),.int .u64 (b5:Int)] 147)).alloc (.cells #[.int .u64 0,.int .u64 0,.int .u64 0,.int .u64 0,.int .u64 0,.int .u64 0] 147)).alloc
  (.cells #[.int .u64 0,.int .u64 0,.int .u64 0,.int .u64 0,.int .u64 0,.int .u64 0] 147)=W0 at *
 have A0:vB W0 w.heap.size 147 a:=by rw [hae];exact l1
 have B0:vB W0 (w.heap.size+1) 147 b:=by rw [hbe];exact l2
 have T0:vB W0 (w.heap.size+1+1+1) 147 [0,0,0,0,0,0]:=l4
 have hW0:w.heap.size+4≤W0.heap.size:=by omega
 have Ha:=zF ha
 have Hb:=zF hb
 have Hae:=zF hae
 have Hbe:=zF hbe
 have HF:=zF hF
 clear l1 l2 l4 hz ha hb hae hbe hva hvb hF
 go_loopw [8,16] (fun cv iv wr=>∃ (k cr:Nat) (o:List Nat),iv=.int .i64 (k:Int)∧cv=.int .u64 (cr:Int)∧k≤n∧cr≤1∧wV 18446744073709551616 a b o k cr∧Hid (o.length=6)∧Hid (∀ x∈o,x<18446744073709551616)∧Hid (∀ p,k≤p→dg o p=0)∧vB wr (w.heap.size+1+1+1) 147 o∧Below (w.heap.size+1+1+1) W0 wr) (fun _ iv _=>n - (intOf iv).toNat)
 case atStart=>exact ⟨0,0,_,rfl,rfl,by omega,by omega,wV.zero _ _ _ _,zF rfl,zF (by simp),zF (fun p _=>by match p with | 0 | 1 | 2 | 3 | 4 | 5=>rfl | p+6=>rfl),T0,zQ _ _⟩
 case round =>
  obtain ⟨k,cr,o,rfl,rfl,hk,hcr,hA,Ho,Hlo,Hz,hblk,hB⟩:=hrel
  have hBw:Below w.heap.size w wr:=hB0.trans (hB.mono (by omega))
  have hFr:=HF.out.below hBw hg
  have c0:=hFr.fld.n0
  have hAr:=A0.below hB (by omega)
  have hBr:=B0.below hB (by omega)
  by_cases hlt:k<n
  · have q1:=hAr.cell (i:=k) (by rw [Ha.out.six];omega)
    have q2:=hBr.cell (i:=k) (by rw [Hb.out.six];omega)
    have dt:dg a k<18446744073709551616:=jE (by omega) Ha.out.lim k
    have dm:dg b k<18446744073709551616:=jE (by omega) Hb.out.lim k
    obtain ⟨s,cr',hs,hcr',he⟩:=yT (dg a k) (dg b k) cr dt dm hcr
    have hok:k<o.length:=by have:=Ho.out;omega
    have q3:=hblk.cell hok
    have q4:=hblk.free k
    have hA':=hA.step hok he
    have hblk':=hblk.set k s
    have hB':=hB.setCell (p:=⟨w.heap.size+1+1+1,k,none⟩) (zG _) (.int .u64 (s:Int))
    have Ho':Hid ((o.set k s).length=6):=zF (by rw [kO];exact Ho.out)
    have Hlo':Hid (∀ x∈o.set k s,x<18446744073709551616):=zF (wJ Hlo.out hs)
    have Hz':Hid (∀ p,k+1≤p→dg (o.set k s) p=0):=zF fun p hp=>by rw [getD_set_ne (by omega)];exact Hz.out p (by omega)
    have hsub:=fun w=>yH (dg a k) (dg b k) cr s cr' hcr dt dm hs he hcr' w
    have ki6:(k:Int)<6:=by omega
    clear he hA hblk hB hok hBw hFr hAr hBr
    go_wp2_with fail
    have hfar:∀ q:Addr,q.block<w.heap.size+1+1+1→(wr.setCell ⟨w.heap.size+1+1+1,k,none⟩ (.int .u64 (s:Int))).drew.cell? q=wr.cell? q:=fun q hq=>zS (zO _ _ _ _ (by show q.block≠w.heap.size+1+1+1;omega))
    have f1:=(hfar ⟨w.heap.size,k,none⟩ (by show w.heap.size<_;omega)).trans q1
    have f2:=(hfar ⟨w.heap.size+1,k,none⟩ (by show w.heap.size+1<_;omega)).trans q2
    clear hfar
    go_region_held3 (fun w'=>w'.cell? ⟨w.heap.size,k,none⟩=some (.int .u64 (dg a k:Int))∧w'.cell? ⟨w.heap.size+1,k,none⟩=some (.int .u64 (dg b k:Int))) (first | exact ⟨q1,q2⟩ | exact ⟨f1,f2⟩ | go_keep) (fail)
    go_wp2
    go_roundw
    case rel=>exact ⟨k+1,cr',o.set k s,by go_num,rfl,by omega,hcr',hA',Ho',Hlo',Hz',hblk',hB'.drew⟩
    case measure=>simp [intOf];omega
  · obtain rfl:k=n:=by omega
    have hdif:val 18446744073709551616 o+val 18446744073709551616 b=val 18446744073709551616 a+18446744073709551616 ^ k*cr:=by
     have h1:val 18446744073709551616 (o.take k)+val 18446744073709551616 (b.take k)=val 18446744073709551616 (a.take k)+18446744073709551616 ^ k*cr:=hA
     rw [ta,tb,jw Hz.out] at h1
     exact h1
    have hvo:val 18446744073709551616 o<18446744073709551616 ^ k:=by rw [←jw Hz.out];exact vl Hlo.out k
    have hroom:=hFr.room
    have hal:=Ha.out.lt
    have hbl:=Hb.out.lt
    have hrb:=(hB.block (w.heap.size+1+1) (by omega)).trans l3
    rcases zo cr with h0c | h0c
    · subst h0c
      have hv2:val 18446744073709551616 o=dX (val 18446744073709551616 a) (val 18446744073709551616 b) M:=by
       rw [jK,qt] at hdif
       rw [dX,qE (by omega)]
       omega
      obtain ⟨x0,x1,x2,x3,x4,x5,hoe⟩:=six Ho.out
      have hcb:wr.heap[w.heap.size+1+1+1]?=some (.cells #[.int .u64 (x0:Int),.int .u64 (x1:Int),.int .u64 (x2:Int),.int .u64 (x3:Int),.int .u64 (x4:Int),.int .u64 (x5:Int)] 147 (0,0)):=by
       rw [hoe] at hblk;exact hblk
      obtain ⟨e0,e1,e2,e3,e4,e5⟩:=xJ hcb
      obtain ⟨r0,r1,r2,r3,r4,r5⟩:=xJ hrb
      have z:=fun i=>zp hrb i
      have z0:=z 0
      have z1:=z 1
      have z2:=z 2
      have z3:=z 3
      have z4:=z 4
      have z5:=z 5
      have hrb':=hrb
      have Hv2:=zF hv2
      have Hoe:=zF hoe
      clear hv2 hoe hcb hrb z hdif hvo hroom hal hbl hA hblk hFr hAr hBr hB
      go_wp2_with fail
      refine mo rfl rfl rfl (yb hrb' _ _ _ _ _ _) ?_
      exact ⟨o,by rw [Hoe.out];rfl,⟨Ho.out,Hlo.out,by rw [Hv2.out];exact nH Ha.out.lt Hb.out.lt⟩,Hv2.out,wc hBw (by omega) _ _ _ _ _ _⟩
    · obtain rfl:cr=1:=by omega
      rw [jS] at hdif
      have Hdif:=zF hdif
      have Hvo:=zF hvo
      have Hroom:=zF hroom
      have hB1:=hB
      have hblk1:=hblk
      have hAs:=wW.zero 18446744073709551616 o ml o
      have HBw:=zF hBw
      clear hA hdif hvo hroom hal hbl hFr hAr hBr hrb hB hblk hBw
      go_wp2_with fail
      have HT:=zF (⟨Ho.out,Hlo.out,Hz.out⟩:o.length=6∧(∀ x∈o,x<18446744073709551616)∧∀ p,k≤p→dg o p=0)
      go_loopw [10,40] (fun cv iv wx=>∃ (j cr:Nat) (o2:List Nat),iv=.int .i64 (j:Int)∧cv=.int .u64 (cr:Int)∧j≤k∧cr≤1∧wW 18446744073709551616 o ml o2 j cr∧Hid (∀ p,j≤p→dg o2 p=dg o p)∧Hid (o2.length=6)∧Hid (∀ x∈o2,x<18446744073709551616)∧Hid (∀ p,k≤p→dg o2 p=0)∧vB wx (w.heap.size+1+1+1) 147 o2∧Below (w.heap.size+1+1+1) W0 wx) (fun _ iv _=>k - (intOf iv).toNat)
      case atStart=>exact ⟨0,0,o,rfl,rfl,by omega,by omega,hAs,zF fun _ _=>rfl,Ho,Hlo,Hz,hblk1,hB1⟩
      case round =>
       clear hAs hblk1 hB1
       obtain ⟨j,cr,o2,rfl,rfl,hj,hcr2,hA,Hsame,Ho2,Hlo2,Hz2,hblk,hB⟩:=hrel
       have hBw:Below w.heap.size w wr:=hB0.trans (hB.mono (by omega))
       have hFr:=HF.out.below hBw hg
       have c0:=hFr.fld.n0
       by_cases hlt2:j<k
       · have q1:=hblk.cell (i:=j) (by have:=Ho2.out;omega)
         rw [Hsame.out j (zG _)] at q1
         have q2:=hFr.fld.m_ (j:=j) (by omega)
         have dt:dg o j<18446744073709551616:=jE (by omega) HT.out.2.1 j
         have dm:dg ml j<18446744073709551616:=jE (by omega) hFr.mlt j
         obtain ⟨s,cr',hs,hcr',he⟩:=yR (dg o j) (dg ml j) cr dt dm hcr2
         have hok:j<o2.length:=by have:=Ho2.out;omega
         have q4:=hblk.free j
         have hA':=hA.step hok (by omega)
         have hblk':=hblk.set j s
         have hB':=hB.setCell (p:=⟨w.heap.size+1+1+1,j,none⟩) (zG _) (.int .u64 (s:Int))
         have Ho':Hid ((o2.set j s).length=6):=zF (by rw [kO];exact Ho2.out)
         have Hlo':Hid (∀ x∈o2.set j s,x<18446744073709551616):=zF (wJ Hlo2.out hs)
         have Hz':Hid (∀ p,k≤p→dg (o2.set j s) p=0):=zF fun p hp=>by rw [getD_set_ne (by omega)];exact Hz2.out p hp
         have Hs':Hid (∀ p,j+1≤p→dg (o2.set j s) p=dg o p):=zF fun p hp=>by rw [getD_set_ne (by omega)];exact Hsame.out p (by omega)
         have hadd:=fun w=>kN (dg o j) (dg ml j) cr s cr' hcr2 hs (by omega) w
         have ki6:(j:Int)<6:=by omega
         clear he hA hblk hB hok hBw hFr
         go_wp2_with fail
         go_region_with (fail)
         all_goals
          go_wp2
          go_roundw
          case rel =>
           refine ⟨_,_,_,_,_,_,_,_,_,_,_,_,_,_,_,_,_,_,_,_,_,_,?_,rfl⟩
           exact ⟨j+1,cr',o2.set j s,by go_num,rfl,by omega,hcr',hA',Hs',Ho',Hlo',Hz',hblk',hB'.drew⟩
          case measure=>simp [intOf];omega
       · obtain rfl:j=k:=by omega
         have hsum:val 18446744073709551616 o2+18446744073709551616 ^ j*cr=val 18446744073709551616 o+M:=by
          have h1:val 18446744073709551616 (o2.take j)+18446744073709551616 ^ j*cr=val 18446744073709551616 (o.take j)+val 18446744073709551616 (ml.take j):=hA
          rwa [jw Hz2.out,jw HT.out.2.2,hFr.mtake] at h1
         have hv2:val 18446744073709551616 o2=dX (val 18446744073709551616 a) (val 18446744073709551616 b) M:=by
          have h1:=Hdif.out
          have h2:=Hroom.out
          have h3:=Ha.out.lt
          have h4:=Hb.out.lt
          have h5:val 18446744073709551616 o2<18446744073709551616 ^ j:=by rw [←jw Hz2.out];exact vl Hlo2.out j
          have h6:=Hvo.out
          generalize 18446744073709551616 ^ j=R at *
          have h7:cr=0∨cr=1:=by omega
          rw [dX,zr (by omega)]
          rcases h7 with rfl | rfl
          · rw [jK] at hsum;omega
          · omega
         have hrb:=(hB.block (w.heap.size+1+1) (by omega)).trans l3
         obtain ⟨x0,x1,x2,x3,x4,x5,hoe⟩:=six Ho2.out
         have hcb:wr.heap[w.heap.size+1+1+1]?=some (.cells #[.int .u64 (x0:Int),.int .u64 (x1:Int),.int .u64 (x2:Int),.int .u64 (x3:Int),.int .u64 (x4:Int),.int .u64 (x5:Int)] 147 (0,0)):=by
          rw [hoe] at hblk;exact hblk
         obtain ⟨e0,e1,e2,e3,e4,e5⟩:=xJ hcb
         obtain ⟨r0,r1,r2,r3,r4,r5⟩:=xJ hrb
         have z:=fun i=>zp hrb i
         have z0:=z 0
         have z1:=z 1
         have z2:=z 2
         have z3:=z 3
         have z4:=z 4
         have z5:=z 5
         have hrb':=hrb
         have Hv2:=zF hv2
         have Hoe:=zF hoe
         clear hv2 hoe hcb hrb z hsum hA hblk hFr hB
         go_wp2_with fail
         refine mo rfl rfl rfl (yb hrb' _ _ _ _ _ _) ?_
         exact ⟨o2,by rw [Hoe.out];rfl,⟨Ho2.out,Hlo2.out,by rw [Hv2.out];exact nH Ha.out.lt Hb.out.lt⟩,Hv2.out,wc hBw (by omega) _ _ _ _ _ _⟩
theorem uu {B:Nat} {l:List Nat} (h:∀ x∈l,x<B) (_hB:0<B) (k:Nat):val B (l.take (k+1)) % B=dg l 0:=by
 cases l with
 | nil=>simp [dg]
 | cons x m=>rw [List.take_succ_cons,jZ,jj,qJ (h x (by simp))];rfl
theorem rD {B M inv V u t0 m0:Nat} (_hB:0<B) (hi:(inv*M+1) % B=0) (hV:V % B=t0) (hm:M % B=m0) (hu:u=t0*inv % B):(t0+u*m0) % B=0:=by
 have h1:=aQ (v:=V) hi hV hu
 rw [←hV,←hm,Nat.add_mod,Nat.mod_mod,Nat.mul_mod_mod,←Nat.add_mod]
 exact h1
theorem oM {u m0 t0:Nat} (hu:u<18446744073709551616) (hm:m0<18446744073709551616) (ht:t0<18446744073709551616) (hz:(t0+u*m0) % 18446744073709551616=0) :
 ∃ hi lo c:Nat,lo<18446744073709551616∧lo+18446744073709551616*hi=u*m0∧c≤1∧0+18446744073709551616*c=lo+t0+0∧hi+c<18446744073709551616∧18446744073709551616*(hi+c)=t0+u*m0:=by
 have hb:=xT hu hm ht (show 0<18446744073709551616 by omega)
 refine ⟨u*m0 / 18446744073709551616,u*m0 % 18446744073709551616,(u*m0 % 18446744073709551616+t0) / 18446744073709551616,qS _ (by omega),Nat.mod_add_div _ _,?_,?_,?_,?_⟩
 all_goals
  generalize u*m0=p at *
  omega
theorem nx {M vb T x R top:Nat} (e1:T=x+R*top) (h2:T<M+vb) (hM:M≤R) (hb:vb<M):top≤1:=by
 rcases qB top 2 with h | h
 · omega
 · have e5:R*2≤R*top:=qA _ h
   omega
theorem fP {g n inv M:Nat} {ml ol rl:List Nat} (a b:List Nat) (w:World) (hF:FF w g n inv M ml ol rl) (ha:Elt M a) (hb:Elt M b) :
 Calls Tryz.prog 150 #[.pointer (some ⟨g,0,none⟩),EV a,EV b] w fun e w'=>∃ o,e=.returned (EV o)∧Elt M o∧val 18446744073709551616 o*18446744073709551616 ^ n % M=val 18446744073709551616 a*val 18446744073709551616 b % M∧Below w.heap.size w w':=by
 have hg:=hF.fld.lt
 have h0:=hF.fld.n0
 have hn:=hF.nle
 have hn1:=hF.npos
 have ta:=ha.take hF
 have tb:=hb.take hF
 obtain ⟨a0,a1,a2,a3,a4,a5,hae⟩:=six ha.six
 obtain ⟨b0,b1,b2,b3,b4,b5,hbe⟩:=six hb.six
 obtain ⟨l1,l2,l3,l4,hz,hB0⟩:=zAS w (.cells #[.int .u64 (a0:Int),.int .u64 (a1:Int),.int .u64 (a2:Int),.int .u64 (a3:Int),.int .u64 (a4:Int),.int .u64 (a5:Int)] 147)
  (.cells #[.int .u64 (b0:Int),.int .u64 (b1:Int),.int .u64 (b2:Int),.int .u64 (b3:Int),.int .u64 (b4:Int),.int .u64 (b5:Int)] 147) (.cells #[.int .u64 0,.int .u64 0,.int .u64 0,.int .u64 0,.int .u64 0,.int .u64 0] 147)
  (.cells #[.int .u64 0,.int .u64 0,.int .u64 0,.int .u64 0,.int .u64 0,.int .u64 0,.int .u64 0,.int .u64 0] 225)
 have hva:EV a=.agg #[.int .u64 (a0:Int),.int .u64 (a1:Int),.int .u64 (a2:Int),.int .u64 (a3:Int),.int .u64 (a4:Int),.int .u64 (a5:Int)]:=by rw [hae];rfl
 have hvb:EV b=.agg #[.int .u64 (b0:Int),.int .u64 (b1:Int),.int .u64 (b2:Int),.int .u64 (b3:Int),.int .u64 (b4:Int),.int .u64 (b5:Int)]:=by rw [hbe];rfl
 rw [hva,hvb]
 have h00:=(hB0.cell (p:=⟨g,0,none⟩) hg).trans h0
 go_enter Tryz.func150,Tryz.ntmps150
 go_wp2_with fail
 generalize (((w.alloc (.cells #[.int .u64 (a0:Int),.int .u64 (a1:Int),.int .u64 (a2:Int),.int .u64 (a3:Int),.int .u64 (a4:Int),.int .u64 (a5:Int)] 147)).alloc
  (.cells #[.int .u64 (b0:Int),.int .u64 (b1:Int),.int .u64 (b2:Int),.int .u64 (b3:Int),.int .u64 (b4:Int),.int .u64 (b5:Int)] 147)).alloc (.cells #[.int .u64 0,.int .u64 0,.int .u64 0,.int .u64 0,.int .u64 0,.int .u64 0] 147)).alloc
  (.cells #[.int .u64 0,.int .u64 0,.int .u64 0,.int .u64 0,.int .u64 0,.int .u64 0,.int .u64 0,.int .u64 0] 225)=W0 at *
 have A0:vB W0 w.heap.size 147 a:=by rw [hae];exact l1
 have B0:vB W0 (w.heap.size+1) 147 b:=by rw [hbe];exact l2
 have T0:vB W0 (w.heap.size+1+1+1) 225 [0,0,0,0,0,0,0,0]:=l4
 have hW0:w.heap.size+4≤W0.heap.size:=by omega
 have Ha:=zF ha
 have Hb:=zF hb
 have Hae:=zF hae
 have Hbe:=zF hbe
 have HF:=zF hF
 clear l1 l2 l4 hz ha hb hae hbe hva hvb hF
 have hmg:Hid (∀ j,j<6→True):=zF fun _ _=>trivial
 go_loopw [24] (fun iv wr=>∃ (i:Nat) (o:List Nat),iv=.int .i64 (i:Int)∧i≤n∧Hid (gy 18446744073709551616 M a b (val 18446744073709551616 (o.take (n+1))) i)∧Hid (o.length=8)∧Hid (∀ x∈o,x<18446744073709551616)∧vB wr (w.heap.size+1+1+1) 225 o∧Below (w.heap.size+1+1+1) W0 wr) (fun iv _=>n - (intOf iv).toNat)
 case atStart=>exact ⟨0,_,rfl,by omega,zF (by
  have h1:val 18446744073709551616 (([0,0,0,0,0,0,0,0]:List Nat).take (n+1))=0:=vJ fun x hx=>by have:=qI hx;simp at this;exact this
  rw [h1];exact gy.zero _ _ (by have:=HF.out.big;omega)),zF rfl,zF (by simp),T0,zQ _ _⟩
 case round =>
  obtain ⟨i,o,rfl,hi,HM,Ho,Hlo,hblk,hB⟩:=hrel
  have hBw:Below w.heap.size w wr:=hB0.trans (hB.mono (by omega))
  have c0:=(HF.out.below hBw hg).fld.n0
  by_cases hlt:i<n
  · have dai:dg a i<18446744073709551616:=jE (by omega) Ha.out.lim i
    obtain ⟨ai,hai⟩:=eV (dg a i)
    rw [hai] at dai
    have Hai:=zF hai
    have ki6:(i:Int)<6:=by omega
    have hstart:=xS.zero 18446744073709551616 o b ai
    have Hstart:=zF hstart
    clear hai hstart hBw
    go_wp2_with fail
    go_loopw [11,28] (fun cv jv wr=>∃ (j cr:Nat) (o1:List Nat),jv=.int .i64 (j:Int)∧cv=.int .u64 (cr:Int)∧j≤n∧cr<18446744073709551616∧Hid (xS 18446744073709551616 o b o1 ai j cr)∧Hid (∀ x∈o1,x<18446744073709551616)∧vB wr (w.heap.size+1+1+1) 225 o1∧Below (w.heap.size+1+1+1) W0 wr) (fun _ jv _=>n - (intOf jv).toNat)
    case atStart=>exact ⟨0,0,o,rfl,rfl,by omega,by omega,Hstart,Hlo,hblk,hB⟩
    case round =>
     clear hblk hB c0
     obtain ⟨j,cr,o1,rfl,rfl,hj,hcr,HA,Hlo1,hblk,hB⟩:=hrel
     have hl1:o1.length=8:=by have:=HA.out.1;have:=Ho.out;omega
     have hBw:Below w.heap.size w wr:=hB0.trans (hB.mono (by omega))
     have hAr:=A0.below hB (by omega)
     have hBr:=B0.below hB (by omega)
     by_cases hjt:j<n
     · have q1:=hAr.cell (i:=i) (by rw [Ha.out.six];omega)
       rw [Hai.out] at q1
       have q2:=hBr.cell (i:=j) (by rw [Hb.out.six];omega)
       have q3:=hblk.cell (i:=j) (by omega)
       have q4:=hblk.free j
       have db:dg b j<18446744073709551616:=jE (by omega) Hb.out.lim j
       have d1:dg o1 j<18446744073709551616:=jE (by omega) Hlo1.out j
       obtain ⟨hi',lo,s1,c1,s2,c2,b1,b2,b3,b4,b5,b6,b7,b8,b9,b10,he⟩:=gg ai (dg b j) (dg o1 j) cr dai db d1 hcr
       have hmul:=zF (fun k=>(yN ai (dg b j) hi' lo dai db b1 b2 (World.drewN wr k)).mono fun e w' (h:e=_∧_=w')=>(⟨h.1,h.2.symm⟩:e=.returned (.tuple #[.int .u64 (hi':Int),.int .u64 (lo:Int)])∧w'=World.drewN wr k))
       have hadd1:=fun w=>kN lo (dg o1 j) 0 s1 c1 (by omega) b3 b4 w
       have hadd2:=fun w=>kN s1 cr 0 s2 c2 (by omega) b5 b6 w
       simp only [qf] at hadd1 hadd2
       have hA':=zF (HA.out.step (s:=s2) (c':=hi'+c1+c2) (by have:=Ho.out;omega) (by rw [he];omega))
       have hblk':=hblk.set j s2
       have hB':=hB.setCell (p:=⟨w.heap.size+1+1+1,j,none⟩) (zG _) (.int .u64 (s2:Int))
       have Hlo':Hid (∀ x∈o1.set j s2,x<18446744073709551616):=zF (wJ Hlo1.out b5)
       have kj8:(j:Int)<8:=by omega
       have kj6:(j:Int)<6:=by omega
       have hl8:(o1.set j s2).length=8:=by simpa using hl1
       clear he b2 b4 b6 HA hB hBw hAr hBr hl1 hblk
       go_wp2_with fail
       go_quiet (first | (go_at_call 154;exact Calls.quiet_of_same (hmul.out _)))
       go_wp2_with fail
       go_roundw
       case rel=>exact ⟨j+1,hi'+c1+c2,o1.set j s2,by go_num,by go_num,by omega,b10,hA',Hlo',hblk',qT hB' _⟩
       case measure=>simp [intOf];omega
     · obtain rfl:j=n:=by omega
       have q3:=hblk.cell (i:=j) (by omega)
       have q4:=hblk.free j
       have d1:dg o1 j<18446744073709551616:=jE (by omega) Hlo1.out j
       obtain ⟨s,c1,hs1,hs2,hs3⟩:=yR (dg o1 j) cr 0 d1 hcr (by omega)
       have hadd:=fun w=>kN (dg o1 j) cr 0 s c1 (by omega) hs1 hs3 w
       simp only [qf] at hadd
       obtain ⟨hl2,hv2⟩:=HA.out.fin (s:=s) (c':=c1) (by have:=Ho.out;omega) (.inr tb) (by omega)
       have hlim2:∀ x∈(o1.set j s).set (j+1) c1,x<18446744073709551616:=wJ (wJ Hlo1.out hs1) (by omega)
       have hblk1:=hblk.set j s
       have q5:=hblk1.cell (i:=j+1) (by simp;omega)
       have q6:=hblk1.free (j+1)
       have hblk2:=hblk1.set (j+1) c1
       have hB2:=(hB.setCell (p:=⟨w.heap.size+1+1+1,j,none⟩) (zG _) (.int .u64 (s:Int))).setCell (p:=⟨w.heap.size+1+1+1,j+1,none⟩) (zG _) (.int .u64 (c1:Int))
       have kj8:(j:Int)<8:=by omega
       have kj9:(j:Int)+1<8:=by omega
       have hl2':((o1.set j s).set (j+1) c1).length=8:=by rw [hl2];exact Ho.out
       generalize ho2:(o1.set j s).set (j+1) c1=o2 at *
       have hW2:=hB2.size
       have m0:dg ml 0<18446744073709551616:=jE (by omega) HF.out.mlt 0
       have t0:dg o2 0<18446744073709551616:=jE (by omega) hlim2 0
       have HV2:=zF hv2
       have Hl2:=zF hl2'
       have Hlim2:=zF hlim2
       clear hs3 HA hv2 hl2 hl2' hlim2 hblk hblk1 hB ho2 hBw hAr hBr
       go_wp2_with fail
       generalize (World.setCell wr ⟨w.heap.size+1+1+1,j,none⟩ (.int .u64 (s:Int))).setCell ⟨w.heap.size+1+1+1,j+1,none⟩ (.int .u64 (c1:Int))=W2 at *
       have hBw2:Below w.heap.size w W2:=hB0.trans (hB2.mono (by omega))
       have hF2:=HF.out.below hBw2 hg
       have i7:=hF2.fld.inv_
       have i1:=hF2.fld.m_ (j:=0) (by omega)
       have e0:=hblk2.cell (i:=0) (by have:=Hl2.out;omega)
       obtain ⟨u,hu⟩:=eV (dg o2 0*inv % 18446744073709551616)
       have hub:u<18446744073709551616:=by rw [←hu];exact qS _ (by omega)
       have hwu:=pD (dg o2 0) inv
       rw [hu] at hwu
       have hV0:(val 18446744073709551616 (o.take (j+1))+ai*val 18446744073709551616 b) % 18446744073709551616=dg o2 0:=by rw [←HV2.out];exact uu Hlim2.out (by omega) _
       have hM0:M % 18446744073709551616=dg ml 0:=by
        obtain ⟨k,hk⟩:∃ k,j=k+1:=⟨j - 1,by omega⟩
        rw [←HF.out.mtake,hk]
        exact uu HF.out.mlt (by omega) _
       have hz:=rD (by omega) HF.out.invV hV0 hM0 hu.symm
       obtain ⟨hi',lo,c2,b1,b2,b3,b4,b5,b6⟩:=oM hub m0 t0 hz
       have hmul:=zF (fun w=>yN u (dg ml 0) hi' lo hub m0 b1 b2 w)
       have hadd3:=fun w=>kN lo (dg o2 0) 0 0 c2 (by omega) (by omega) b4 w
       simp only [qf] at hadd3
       obtain ⟨p0,hp0⟩:∃ p0,p0+1=j:=⟨j - 1,by omega⟩
       have Hs0:=zF (xR.zero (t:=o2) (m:=ml) (u:=u) (c:=hi'+c2) b6)
       have Hu:=zF (show u=(val 18446744073709551616 (o.take (j+1))+dg a i*val 18446744073709551616 b) % 18446744073709551616*inv % 18446744073709551616 by rw [Hai.out,hV0,hu])
       have Hp0:=zF hp0
       clear hu hV0 hM0 hz b2 b4 b6 hp0
       go_quiet (fail)
       go_wp2_with fail
       refine (hmul.out _).mono ?_
       rintro e w3 ⟨rfl,rfl⟩
       go_wp2_with fail
       have hblk3:vB (W2.drewN nq) (w.heap.size+1+1+1) 225 o2:=hblk2
       have hB3:=qT hB2 nq
       clear hblk2 hB2 e0 i7 i1 hF2 hBw2 q3 q4 q5 q6 hmul
       generalize W2.drewN nq=W3 at *
       go_loopw [11,18] (fun cv qv wr=>∃ (k cr:Nat) (o3:List Nat),qv=.int .i64 ((k:Int)+1)∧cv=.int .u64 (cr:Int)∧k+1≤j∧cr<18446744073709551616∧Hid (xR 18446744073709551616 o2 ml o3 u k cr)∧Hid (∀ x∈o3,x<18446744073709551616)∧vB wr (w.heap.size+1+1+1) 225 o3∧Below (w.heap.size+1+1+1) W0 wr) (fun _ qv _=>j - (intOf qv).toNat)
       case atStart=>exact ⟨0,hi'+c2,o2,rfl,by go_num,by omega,b5,Hs0,Hlim2,hblk3,hB3⟩
       case round =>
        clear hblk3 hB3
        obtain ⟨k,cr,o3,rfl,rfl,hk,hcr,HS,Hlo3,hblk,hB⟩:=hrel
        have hl3:o3.length=8:=by have:=HS.out.1;have:=Hl2.out;omega
        have hBw:Below w.heap.size w wr:=hB0.trans (hB.mono (by omega))
        have hFr:=(HF.out.below hBw hg).fld
        by_cases hkt:k+1<j
        · have i1:=hFr.m_ (j:=k+1) (by omega)
          have q3:=hblk.cell (i:=k+1) (by omega)
          have q4:=hblk.free k
          have q5:=hblk.cell (i:=k) (by omega)
          have dm:dg ml (k+1)<18446744073709551616:=jE (by omega) HF.out.mlt (k+1)
          have d1:dg o3 (k+1)<18446744073709551616:=jE (by omega) Hlo3.out (k+1)
          obtain ⟨hi',lo,s1,c1,s2,c2,b1,b2,b3,b4,b5,b6,b7,b8,b9,b10,he⟩:=gg u (dg ml (k+1)) (dg o3 (k+1)) cr hub dm d1 hcr
          have hmul:=zF (fun w=>yN u (dg ml (k+1)) hi' lo hub dm b1 b2 w)
          have hadd1:=fun w=>kN lo (dg o3 (k+1)) 0 s1 c1 (by omega) b3 b4 w
          have hadd2:=fun w=>kN s1 cr 0 s2 c2 (by omega) b5 b6 w
          simp only [qf] at hadd1 hadd2
          have hS':=zF (HS.out.step (s:=s2) (c':=hi'+c1+c2) (by have:=Hl2.out;omega) (by rw [he];omega))
          have hblk':=hblk.set k s2
          have hB':=hB.setCell (p:=⟨w.heap.size+1+1+1,k,none⟩) (zG _) (.int .u64 (s2:Int))
          have Hlo':Hid (∀ x∈o3.set k s2,x<18446744073709551616):=zF (wJ Hlo3.out b5)
          have kj8:(k:Int)+1<8:=by omega
          have kj6:(k:Int)+1<6:=by omega
          have kk8:(k:Int)<8:=by omega
          clear he b2 b4 b6 HS hB hBw hFr hl3 hblk
          go_wp2_with fail
          refine (hmul.out _).mono ?_
          rintro e w3 ⟨rfl,rfl⟩
          go_wp2
          go_roundw
          case rel=>exact ⟨k+1,hi'+c1+c2,o3.set k s2,by go_num,by go_num,by omega,b10,hS',Hlo',hblk',hB'⟩
          case measure=>simp [intOf];omega
        · have hkj:k+1=j:=by omega
          have q3:=hblk.cell (i:=j) (by omega)
          have q4:=hblk.free k
          have q5:=hblk.cell (i:=k) (by omega)
          have d1:dg o3 j<18446744073709551616:=jE (by omega) Hlo3.out j
          obtain ⟨s,c1,hs1,hs2,hs3⟩:=yR (dg o3 j) cr 0 d1 hcr (by omega)
          have hadd:=fun w=>kN (dg o3 j) cr 0 s c1 (by omega) hs1 hs3 w
          simp only [qf] at hadd
          obtain ⟨hl4,hv4⟩:=HS.out.fin (s:=s) (c':=c1) (by have:=Hl2.out;omega) (by rw [hkj,HF.out.mtake,HF.out.mval]) (by rw [hkj];omega)
          rw [HF.out.mval,show k+3=j+2 by omega,HV2.out] at hv4
          have hM4:=gy.step (by omega) HM.out (by rw [Hai.out];exact dai) Hu.out rfl (T4:=val 18446744073709551616 (((o3.set k s).set (k+1) (dg o3 (k+2)+c1)).take (k+2))) (by rw [Hai.out];exact hv4.symm)
          have htop:dg o3 (k+2)+c1≤1:=by
           have e1:=z8 18446744073709551616 ((o3.set k s).set (k+1) (dg o3 (k+2)+c1)) (k+1)
           rw [vH (by simp;omega)] at e1
           have e2:=hM4.1
           have e3:=HF.out.room
           rw [←hkj] at e3
           exact nx e1 e2 (qr e3) Hb.out.lt
          have hlim4:∀ x∈(o3.set k s).set (k+1) (dg o3 (k+2)+c1),x<18446744073709551616:=wJ (wJ Hlo3.out hs1) (by omega)
          rw [show k+2=j+1 by omega,hkj] at hM4 hlim4 hl4
          rw [show k+2=j+1 by omega] at htop
          have hblk1:=hblk.set k s
          have q6:=hblk1.cell (i:=j+1) (by simp;omega)
          rw [getD_set_ne (by omega)] at q6
          have q7:=hblk1.cell (i:=j) (by simp;omega)
          have q8:=hblk1.free j
          have hblk2:=hblk1.set j (dg o3 (j+1)+c1)
          have hB2:=(hB.setCell (p:=⟨w.heap.size+1+1+1,k,none⟩) (zG _) (.int .u64 (s:Int))).setCell (p:=⟨w.heap.size+1+1+1,j,none⟩) (zG _) (.int .u64 ((dg o3 (j+1)+c1:Nat):Int))
          have kj8:(j:Int)<8:=by omega
          have kj9:(j:Int)+1<8:=by omega
          have kk8:(k:Int)<8:=by omega
          have hl5:((o3.set k s).set j (dg o3 (j+1)+c1)).length=8:=by simpa using hl3
          have HM4:=zF hM4
          have Hlim4:=zF hlim4
          have Hl5:=zF hl5
          have hwt:=qg ((dg o3 (j+1):Int)+(c1:Int)) (by omega)
          have Hwt:=zF hwt
          have Hkj:=zF hkj
          clear hs3 HS hv4 hM4 hlim4 hl4 hl5 hblk hblk1 hB hBw hFr htop hkj hwt
          go_upto_region 30 with fail
          have i0:(j:Int) - 1=(k:Int):=by have:=Hkj.out;omega
          go_upto_region 31 with fail
          have hwt:=Hwt.out
          go_wp2_with fail
          refine ⟨⟨i+1,(o3.set k s).set j (dg o3 (j+1)+c1),by go_num,by omega,HM4,Hl5,Hlim4,by simpa using hblk2,by simpa using hB2⟩,by simp [intOf];omega⟩
  · obtain rfl:i=n:=by omega
    obtain ⟨hTb,kk,hTk⟩:=HM.out
    have hFr:=HF.out.below hBw hg
    have hT:val 18446744073709551616 (o.take i)+18446744073709551616 ^ i*dg o i=val 18446744073709551616 (o.take (i+1)):=(z8 _ _ _).symm
    have q1:=hblk.cell (i:=i) (by have:=Ho.out;omega)
    have hbel:=fQ (w.heap.size+1+1+1) (dg o i) o wr hFr.fld hFr.mlt hblk (by omega) Ho.out Hlo.out hn hn1 (by rw [hFr.mtake,hFr.mval]) (jE (by omega) Hlo.out i) (by rw [hT,hFr.mval];have:=Hb.out.lt;omega)
    rw [hT,hFr.mval] at hbel
    have hoff:=pq (v:=val 18446744073709551616 (o.take (i+1))) (M:=M) (R:=18446744073709551616 ^ i) hTk
    rw [ta] at hoff
    have hltm:=nR (v:=val 18446744073709551616 (o.take (i+1))) (M:=M) (by have:=Hb.out.lt;omega)
    have Hoff:=zF hoff
    have Hltm:=zF hltm
    have Hbel:=zF hbel
    have ki8:(i:Int)<8:=by omega
    clear hbel hT hFr hTb hTk hoff hltm hblk
    go_wp2_with fail
    refine Hbel.out.mono ?_
    rintro e w2 ⟨o2,rfl,ho6,hlim,hv2,hB2⟩
    obtain ⟨x0,x1,x2,x3,x4,x5,hoe⟩:=six ho6
    have hrb:=(hB2.block (w.heap.size+1+1) (by have:=hB.size;omega)).trans ((hB.block (w.heap.size+1+1) (by omega)).trans l3)
    obtain ⟨r0,r1,r2,r3,r4,r5⟩:=xJ hrb
    have z:=fun i=>zp hrb i
    have z0:=z 0
    have z1:=z 1
    have z2:=z 2
    have z3:=z 3
    have z4:=z 4
    have z5:=z 5
    have hrb':=hrb
    have hBf:Below w.heap.size w w2:=hBw.trans (hB2.mono hBw.size)
    have Hv2:=zF hv2
    have Ho6:=zF ho6
    have Hlim:=zF hlim
    have Hoe:=zF hoe
    have hve:EV o2=.agg #[.int .u64 (x0:Int),.int .u64 (x1:Int),.int .u64 (x2:Int),.int .u64 (x3:Int),.int .u64 (x4:Int),.int .u64 (x5:Int)]:=by rw [hoe];rfl
    rw [hve]
    clear hve hoe hv2 ho6 hlim z hrb hB2 hB Hbel
    go_wp2_with fail
    refine mo rfl rfl rfl (yb hrb' _ _ _ _ _ _) ?_
    exact ⟨o2,by rw [Hoe.out];rfl,⟨Ho6.out,Hlim.out,by rw [Hv2.out];exact Hltm.out⟩,by rw [Hv2.out];exact Hoff.out,wc hBf (by omega) _ _ _ _ _ _⟩
end Go.Proofs.YtmlbicgpehchhaaGreat
