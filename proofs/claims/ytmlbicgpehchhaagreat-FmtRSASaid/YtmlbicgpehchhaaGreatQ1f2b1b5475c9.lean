/- Laws that the proof rests on. -/
import Derived.Test.YtmlbicgpehchhaaGreatQ8a655cf517a2
set_option maxRecDepth 100000
set_option maxHeartbeats 16000000
namespace Go.Proofs.YtmlbicgpehchhaaGreat.Der
open Go.RowKit Go.Shelf
attribute [local go_sem] Oper.semAt_some
theorem xh {w X:World}{base:Nat}{A:Option Addr}{c:Nat}{bs:List Nat}(h:OW w base A c bs) (hY:Below w.heap.size w X):OW X base A c bs :=
 OW.ext h ⟨hY.os,hY.tape,hY.output,hY.size,fun k hk _=>hY.block k hk⟩
theorem n8 {l:List Int}{k z:Nat}(hk:k+2<l.length) (hz:l.getD (k+2) 0=(z:Int)){bb:List Nat} : bb++((l.drop 2).take k).flatMap (fun z=>uZ z.toNat)++uZ z=bb++((l.drop 2).take (k+1)).flatMap (fun z=>uZ z.toNat):=by
 have hd:k<(l.drop 2).length:=by rw [jC];omega
 rw [wl hd,List.flatMap_append,kT];congr 2;have:(l.drop 2)[k]=(z:Int):=by rw [←hz,gD _ _ hk,yy];congr 1;omega
 rw [this];simp
theorem zBh (P:Nat→Prop) (g c:Nat) (l:List Int) (w:World) (hv:RZ w P (some ⟨g,0,none⟩) c l) (hP:∀ b,P b→b<w.heap.size) (hl:3≤l.length∧l.length≤100) (h0:l.getD 0 0=1) (h1:0≤l.getD 1 0∧l.getD 1 0≤39) (ha:∀ k,0≤l.getD k 0∧l.getD k 0<268435456) :
 Calls Tryz.prog 137 #[.slice (some ⟨g,0,none⟩) l.length c] w fun e w'=>(∃ A1 c1,e=.returned (.tuple #[.agg #[.int .i64 6,.slice A1 (ww l).length c1,.slice none 0 0],.bool true])∧RB w' (In w.heap.size w'.heap.size) A1 c1 (ww l))∧Below w.heap.size w w':=by
 obtain ⟨hlc,hc⟩:=(show l.length≤c∧c≤9223372036854775807 from ⟨hv.1,hv.2.1⟩)
 have hB0:=(zO w.heap.size w).alloc (zH _) (.cells #[.int .i64 0,.slice none 0 0,.slice none 0 0] 80)
 have hb0:=zP w (.cells #[.int .i64 0,.slice none 0 0,.slice none 0 0] 80)
 have hz0:(w.alloc (.cells #[.int .i64 0,.slice none 0 0,.slice none 0 0] 80)).heap.size=w.heap.size+1:=by simp
 obtain ⟨W0,hW0⟩:=eV (w.alloc (.cells #[.int .i64 0,.slice none 0 0,.slice none 0 0] 80))
 rw [hW0] at hB0 hb0 hz0
 have hv0:=hv.below hB0 hP
 obtain ⟨a,ea,hPg,x0⟩:=hv0.at_ (i:=0) (by omega)
 injection ea with ea
 subst ea
 obtain ⟨a',ea,_,x1⟩:=hv0.at_ (i:=1) (by omega)
 injection ea with ea
 subst ea
 have H0':=zF h0
 rw [h0] at x0
 obtain ⟨y,hy⟩:=eV (l.getD 1 0)
 rw [hy] at x1 h1
 simp [Addr.add] at x0 x1
 have y0:=x0
 have y1:=x1
 rw [←hW0] at y0 y1
 have HW:=zF hW0
 have HB0:=zF hB0
 have Hb0:=zF hb0
 have Hz0:=zF hz0
 have HA:=zF ha
 have Hy:=zF hy
 have k0:¬ (l.length:Int)<2:=by omega
 have k1:¬ (39:Int)<y:=by omega
 clear hB0 hb0 hz0 hW0 h0 ha hy
 go_enter Tryz.func137,Tryz.ntmps137
 go_wp2
 rw [HW.out]
 clear y0 y1
 go_loopw [33] (fun i wr=>∃ k:Nat,k≤l.length∧i=.int .i64 k∧∃ d,wr=W0.drewN d) (fun i _=>l.length - (intOf i).toNat)
 case atStart=>exact ⟨0,by omega,rfl,0,rfl⟩
 case round =>
  obtain ⟨k,hk,rfl,d,rfl⟩:=hrel;by_cases hlt:k<l.length
  · obtain ⟨a,ea,_,hx⟩:=(hv0.keep (w':=W0.drewN d) fun _ _=>rfl).at_ hlt;injection ea with ea
    subst ea;have h1:=HA.out k;obtain ⟨z,hz⟩:=eV (l.getD k 0);rw [hz] at hx h1;have hx':(W0.drewN d).cell? ⟨g,k,none⟩=some (.int .i64 z):=by
     have e:Addr.add ⟨g,0,none⟩ k=⟨g,k,none⟩:=by by_cases h:k=0 <;> simp [Addr.add,h]
     rw [←e];exact hx
    clear hx;have Hz:=zF hz;clear hz;have k2:¬ z<0:=by omega
    have k3:¬ 268435456<z:=by omega
    go_wp2;go_roundw;case rel=>exact ⟨k+1,by omega,by go_num,d,rfl⟩
    case measure=>simp [intOf];omega
  · obtain rfl:k=l.length:=by omega
    have X0:(W0.drewN d).cell? ⟨g,0,none⟩=some (.int .i64 1):=x0;have X1:(W0.drewN d).cell? ⟨g,1,none⟩=some (.int .i64 y):=x1;obtain ⟨yn,hyn⟩:∃ yn:Nat,y=(yn:Int):=⟨y.toNat,by omega⟩
    subst hyn;have HD:=fun X=>bX (40+yn) X (by omega);obtain ⟨bb,hbb⟩:=eV (uZ (40+yn));simp only [hbb] at HD;have hbl:bb.length≤10:=hbb▸pE _;have Hbb:=zF hbb;clear hbb;simp only [vK,qe] at HD;have HDD:=zF HD;have hwr:IntKind.i64.wrap (40+(yn:Int))=40+(yn:Int):=by rw [jJ];omega
    clear k0 k1 hk hlt x0 x1 HD;go_wp2_with fail
    refine z8 (by kernel_rfl) 10 [0,1,3,7,0,16,48,127,255,511] [] (fun j f X=>match j with
     | 0=>f 0=.slice (some ⟨g,0,none⟩) l.length c
     | 1=>f 1=.pointer (some ⟨g,0,none⟩)
     | 2=>f 2=.int .i64 1
     | 3=>f 3=.int .i64 40
     | 4=>f 4=.slice (some ⟨g,0,none⟩) l.length c
     | 5=>f 5=.pointer (some ⟨g,1,none⟩)
     | 6=>f 6=.int .i64 (yn:Int)
     | 7=>f 7=.int .i64 (40+(yn:Int))
     | 8=>∃ A8 c8,f 8=.slice A8 bb.length c8∧OW X W0.heap.size A8 c8 bb
     | 9=>∃ A8 c8,f 9=.slice A8 bb.length c8∧OW X W0.heap.size A8 c8 bb
     | _=>True) (by kernel_rfl) [(45,0),(46,1),(47,2),(48,3),(49,4),(50,5),(51,6),(52,7),(53,8),(6,9)] (by kernel_rfl) ?_
    refine zf 1 9 ?_;refine qH 2 8 [(45,0),(49,4),(50,5),(51,6)] (fun f X hX hR K hK=>?_) ?_
    · have e0:f 0=_:=hR.out 0 rfl;have q1:0<l.length:=by omega
      simp only [yZ,e0];refine ⟨?_⟩;go_simp;exact jA hK (s:=by simp only [yZ,e0])
    refine q9 3 7 1 X0 ?_;refine qM 4 6 2 ?_;refine zf 5 5 ?_;refine qH 6 4 [(45,0),(46,1),(47,2),(48,3),(49,4)] (fun f X hX hR K hK=>?_) ?_
    · have e4:f 4=_:=hR.out 4 rfl;have q5:1<l.length:=by omega
      have q6:(1:Int)<(l.length:Int):=by omega
      simp only [yZ,e4];refine ⟨?_⟩;go_simp;exact jA hK (s:=by simp only [yZ,e4])
    refine q9 7 3 5 X1 ?_;refine jj 8 2 3 6 (hR:=fun _ _ h=>h.trans ((congrArg (Value.int .i64) hwr))) ?_;refine qJ 9 1 (fun f=>#[f 7]) (F':=177) (fun f X hX hR=>?_) ?_
    · have e7:f 7=_:=hR.out 7 rfl;simp only [e7];refine (HDD.out X).mono ?_;rintro e w2 ⟨A8,c8,rfl,hO8,hB⟩;exact ⟨(.slice A8 bb.length c8),rfl,hB,fun Y hY=>⟨A8,c8,rfl,xh (kw hO8 hX.bsize) hY⟩⟩
    refine qH 10 0 [(45,0),(46,1),(47,2),(48,3),(49,4),(50,5),(51,6),(52,7),(53,8)] (fun f X hX hR K hK=>?_) ?_
    · obtain ⟨A8,c8,(e8:f 8=_),r8⟩:=hR.out 8 rfl;simp only [yZ,e8];refine ⟨?_⟩;go_simp;exact hK.out _ (.slice A8 bb.length c8) _ (by simp only [yZ,e8]) (zy _) trivial (fun Y hY=>⟨A8,c8,rfl,xh r8 hY⟩)
    refine yF ⟨fun f X hX hR hal hap=>?_⟩;obtain ⟨A8,c8,(e8:f 8=_),r8⟩:=hR 8 (by decide);obtain ⟨A9,c9,(e9:f 9=_),r9⟩:=hR 9 (by decide);simp only [yZ,e8,e9];clear hR hal hap e8 e9;refine zU ?_;have hXB:Below W0.heap.size W0 X:=yL (qR (zO _ W0) d) hX;have e9':=r9;have HO9:=zF r9;have HXB:=zF hXB;clear r9 e9' hXB hX X0 X1 HDD hwr;have m0:(0:Int)≤2:=by omega
    have m1:(2:Int)≤(l.length:Int):=by omega
    have m2:¬ (c:Int)=2:=by omega
    have m3:¬ c=2:=by omega
    have m4:(2:Int)≤(c:Int):=by omega
    go_wp2;go_loopw [6,57] (fun s i wr=>∃ (k:Nat) (A6:Option Addr) (c6:Nat) (bs:List Nat),k+2≤l.length∧i=.int .i64 k∧s=.slice A6 bs.length c6∧OW wr W0.heap.size A6 c6 bs∧bs.length≤10+10*k∧bs=bb++((l.drop 2).take k).flatMap (fun z=>uZ z.toNat)∧Below W0.heap.size W0 wr) (fun _ i _=>l.length - (intOf i).toNat);case atStart=>exact ⟨0,A9,c9,bb,by omega,rfl,rfl,HO9.out,by omega,by simp,HXB.out⟩
    case round =>
     clear HO9 HXB r8;obtain ⟨k,A6,c6,bs,hk,rfl,rfl,hO6,hl6,hbs,hB⟩:=hrel;have HBs:=zF hbs;clear hbs;have hs:=hB.size;by_cases hlt:k+2<l.length
     · obtain ⟨a,ea,_,hx⟩:=(hv0.below hB (fun b hb=>by have:=hP b hb;have:=Hz0.out;omega)).at_ (i:=k+2) hlt;injection ea with ea
       subst ea;have h1:=HA.out (k+2);obtain ⟨z,hz⟩:=eV (l.getD (k+2) 0);rw [hz] at hx h1;obtain ⟨zn,hzn⟩:∃ zn:Nat,z=(zn:Int):=⟨z.toNat,by omega⟩
       subst hzn;have hx':wr.cell? ⟨g,2+k,none⟩=some (.int .i64 (zn:Int)):=by
        have e:Addr.add ⟨g,0,none⟩ (k+2)=⟨g,2+k,none⟩:=by simp [Addr.add];omega
        rw [←e];exact hx
       have HO6:=zF hO6;have k1:k<l.length - 2:=by omega
       have k1':(k:Int)<((l.length - 2:Nat):Int):=by omega
       have HD:=zF (bX zn wr (by omega));have hl7:=pE zn;have HSt:=zF (n8 (bb:=bb) hlt hz);obtain ⟨b7,hb7⟩:=eV (uZ zn);rw [hb7] at HD hl7 HSt;clear hx hO6 hz hb7;go_wp2_with fail;refine HD.out.mono ?_;rintro e w2 ⟨A7,c7,rfl,hO7,hB7⟩;have HO7:=zF (hO7.rb (by omega));have HO8:=zF (xh HO6.out hB7);have HB7:=zF (hB.trans (hB7.mono hs));have hs7:=HB7.out.size;clear hO7 hB7 HO6 HD;go_wp2_with (at_builtin;refine yr rfl (.tmp 61) (.tmp 63) rfl W0.heap.size (bs:=bs) rfl HO8.out rfl HO7.out (by omega) hs7 ?_;intro A2 c2 w3 hw3 hb3);have HB8:=zF (HB7.out.trans hb3);have HW3:=zF hw3;clear hw3 hb3;go_roundw;case rel=>exact ⟨k+1,A2,c2,bs++b7,by omega,by go_num,by rw [zt],HW3.out,by rw [zt];omega,by rw [HBs.out];exact HSt.out,HB8.out⟩
       case measure=>simp [intOf];omega
     · have hk2:k=l.length - 2:=by omega
       have k1:¬ k<l.length - 2:=by omega
       have k1':¬ (k:Int)<((l.length - 2:Nat):Int):=by omega
       have hbo:bs=ww l:=by
        rw [HBs.out,hk2,zk (by simp),←Hbb.out];unfold ww;rw [H0'.out,Hy.out];rfl
       have HBo:=zF hbo;have HOr:=zF (hO6.rb (by omega));have Hs0:=zF (Hz0.out);clear hbo;have hb1:=(hB.block w.heap.size (by have:=Hz0.out;omega)).trans Hb0.out;have HBB:=zF (HB0.out.trans (hB.mono (by have:=Hz0.out;omega)));obtain ⟨s,hs0⟩:=eV w.heap.size;rw [hs0] at hb1 HBB;have q0:=zJ hb1 0;have q1:=zJ hb1 1;have q2:=zJ hb1 2;have p0:=zv hb1 0;have p1:=zv hb1 1;have p2:=zv hb1 2;simp only [zK,zL,zS] at q0 q1 q2;have r:=xM hb1 (.int .i64 6) (.slice A6 bs.length c6) (.slice none 0 0);have r0:=zJ r 0;have r1:=zJ r 1;have r2:=zJ r 2;simp only [zK,zL,zS] at r0 r1 r2;have R0:=zF r0;have R1:=zF r1;have R2:=zF r2;clear r r0 r1 r2 hb1 hO6 hB hk2;go_wp2;have r0:=R0.out;have r1:=R1.out;have r2:=R2.out;refine qS (v:=.tuple #[.agg #[.int .i64 6,.slice A6 bs.length c6,.slice none 0 0],.bool true]) (by simp [results,Tryz.results137,go_sem,r0,r1,r2]) rfl ⟨⟨A6,c6,by rw [←HBo.out],?_⟩,?_⟩
       · rw [←HBo.out];refine (HOr.out.keep fun p hp=>zT ?_).mono fun q hq=>⟨by have:=hq.1;have:=Hs0.out;omega,by have:=hq.2;simpa [World.setCell] using this⟩
         have hq:p.block≠s:=by have:=hp.1;have:=Hs0.out;omega
         exact (zN _ _ _ _ hq).trans ((zN _ _ _ _ hq).trans (zN _ _ _ _ hq))
       · exact ((HBB.out.setCell (p:=⟨s,0,none⟩) (zH _) _).setCell (p:=⟨s,1,none⟩) (zH _) _).setCell (p:=⟨s,2,none⟩) (zH _) _
def gO:List Nat:=[42,134,72,206,61,3,1,7]
def gN:List Nat:=[43,129,4,0,34]
theorem zBm:ww [1,2,840,10045,3,1,7]=gO:=by decide
theorem zBl:ww [1,3,132,0,34]=gN:=by decide
theorem yq (P P':Nat→Prop) (A A':Option Addr) (c c':Nat) (bs bs':List Nat) (w:World) (h:RB w P A c bs) (h':RB w P' A' c' bs') :
 Calls Tryz.prog 66 #[.slice A bs.length c,.slice A' bs'.length c'] w fun e w'=>e=.returned (.bool (decide (bs=bs')))∧w=w':=by
 have s1:=h.str (P:=Tryz.prog) 34 5 9 Tryz.underlying34 Tryz.underlying5 Tryz.underlying9
 have s2:=h'.str (P:=Tryz.prog) 34 5 9 Tryz.underlying34 Tryz.underlying5 Tryz.underlying9
 by_cases e:bs=bs'
 · subst e;go_enter Tryz.func66,Tryz.ntmps66;go_wp2;go_ret;exact ⟨by simp,rfl⟩
 · have hne:((nT bs).toList==(nT bs').toList)=false:=by
    rw [beq_eq_false_iff_ne];exact fun h1=>e (t8 h.2.1 h'.2.1 h1)
   go_enter Tryz.func66,Tryz.ntmps66;go_wp2;go_ret;exact ⟨by simp [e],rfl⟩
theorem gi (P:Nat→Prop) (g c:Nat) (l:List Int) (w:World) (hv:RZ w P (some ⟨g,0,none⟩) c l) (hP:∀ b,P b→b<w.heap.size) (hl:3≤l.length∧l.length≤100) (h0:l.getD 0 0=1) (h1:0≤l.getD 1 0∧l.getD 1 0≤39) (ha:∀ k,0≤l.getD k 0∧l.getD k 0<268435456) :
 Calls Tryz.prog 97 #[.slice (some ⟨g,0,none⟩) l.length c] w fun e w'=>(∃ A1 c1,e=.returned (.agg #[.int .i64 6,.slice A1 (ww l).length c1,.slice none 0 0])∧RB w' (In w.heap.size w'.heap.size) A1 c1 (ww l))∧Below w.heap.size w w':=by
 have hB:=(zO w.heap.size w).alloc (zH _) (.cells #[.int .i64 0,.slice none 0 0,.slice none 0 0] 80)
 have hb:=zP w (.cells #[.int .i64 0,.slice none 0 0,.slice none 0 0] 80)
 have hz:(w.alloc (.cells #[.int .i64 0,.slice none 0 0,.slice none 0 0] 80)).heap.size=w.heap.size+1:=by simp
 have hO:=zBh P g c l _ (hv.below hB hP) (fun b hb=>by have:=hP b hb;rw [hz];omega) hl h0 h1 ha
 have HB:=zF hB
 have H0:=zF hb
 have Hz:=zF hz
 obtain ⟨bb,hbb⟩:=eV (ww l)
 rw [hbb] at hO ⊢
 have HO:=zF hO
 clear hB hb hz hO hv hP hl h0 h1 ha hbb
 go_enter Tryz.func97,Tryz.ntmps97
 go_wp2_with fail
 obtain ⟨s,hs⟩:=eV w.heap.size
 rw [hs] at HB H0 Hz ⊢
 have Hs:=zF hs
 clear hs
 generalize w.alloc (.cells #[.int .i64 0,.slice none 0 0,.slice none 0 0] 80)=W1 at *
 refine HO.out.mono ?_
 rintro e w2 ⟨⟨A1,c1,rfl,hr1⟩,hB2⟩
 obtain ⟨n,hn⟩:=eV bb.length
 rw [hn]
 have Hn:=zF hn
 have Hr1:=zF hr1
 clear hn hr1
 have h2:=(hB2.block s (by have:=Hz.out;omega)).trans H0.out
 have hlt:s<w2.heap.size:=by have:=Hz.out;have:=hB2.size;omega
 have HB3:=zF (HB.out.trans (hB2.mono (by have:=Hz.out;omega)))
 have H2:=zF h2
 have q0:=zJ h2 0
 have q1:=zJ h2 1
 have q2:=zJ h2 2
 have p0:=zv h2 0
 have p1:=zv h2 1
 have p2:=zv h2 2
 simp only [zK,zL,zS] at q0 q1 q2
 clear h2 hB2 H0
 go_wp2
 have r:=zCE H2.out (.int .i64 6) (.slice A1 n c1) (.slice none 0 0) (.cells #[.int .i64 6,.slice A1 n c1,.slice none 0 0] 80)
 have r0:=zJ r 0
 have r1:=zJ r 1
 have r2:=zJ r 2
 simp only [zK,zL,zS] at r0 r1 r2
 refine qS (v:=.agg #[.int .i64 6,.slice A1 n c1,.slice none 0 0]) (by simp [results,Tryz.results97,go_sem,r0,r1,r2]) rfl ⟨⟨A1,c1,by rw [Hn.out],?_⟩,?_⟩
 · rw [Hs.out];refine (Hr1.out.keep fun p hp=>zT ?_).mono fun q hq=>⟨by have:=hq.1;have:=Hz.out;omega,by have:=hq.2;simp [World.setCell];omega⟩
   have hq:p.block≠s:=by have:=hp.1;have:=Hz.out;omega
   have hq2:p.block<w2.heap.size:=hp.2;exact (zx _ _ _ (by simpa [World.setCell] using hq2)).trans ((zN _ _ _ _ hq).trans ((zN _ _ _ _ hq).trans (zN _ _ _ _ hq)))
 · rw [Hs.out];exact (((HB3.out.setCell (p:=⟨s,0,none⟩) (by simp) _).setCell (p:=⟨s,1,none⟩) (by simp) _).setCell (p:=⟨s,2,none⟩) (by simp) _).alloc (by simp;omega) _
theorem gq {l:List Int}(h:∀ x∈l,0≤x∧x<268435456) (k:Nat):0≤l.getD k 0∧l.getD k 0<268435456:=by
 rcases zz k l.length with hk | hk
 · rw [zh,qO hk];exact h _ (kM hk)
 · rw [zh,qx hk];simp
theorem nr (w:World):Calls Tryz.prog 41 #[.int .i64 1] w fun e w'=>(∃ A1 c1,e=.returned (.tuple #[.agg #[.int .i64 6,.slice A1 8 c1,.slice none 0 0],.bool true])∧RB w' (In w.heap.size w'.heap.size) A1 c1 gO)∧Below w.heap.size w w':=by
 have hB:=((zO w.heap.size w).alloc (zH _) (.cells #[.int .i64 0,.slice none 0 0,.slice none 0 0] 80)).alloc (by simp) (.cells #[.int .i64 1,.int .i64 2,.int .i64 840,.int .i64 10045,.int .i64 3,.int .i64 1,.int .i64 7] 3);have hb:=(zx (w.alloc (.cells #[.int .i64 0,.slice none 0 0,.slice none 0 0] 80)) (.cells #[.int .i64 1,.int .i64 2,.int .i64 840,.int .i64 10045,.int .i64 3,.int .i64 1,.int .i64 7] 3) w.heap.size (by simp)).trans (zP w _);have hz:((w.alloc (.cells #[.int .i64 0,.slice none 0 0,.slice none 0 0] 80)).alloc (.cells #[.int .i64 1,.int .i64 2,.int .i64 840,.int .i64 10045,.int .i64 3,.int .i64 1,.int .i64 7] 3)).heap.size=w.heap.size+2:=by simp
 have hR:RZ _ (fun b=>b<w.heap.size+2) _ 7 [1,2,840,10045,3,1,7]:=jM (w:=(w.alloc (.cells #[.int .i64 0,.slice none 0 0,.slice none 0 0] 80))) (P:=fun b=>b<w.heap.size+2) #[.int .i64 1,.int .i64 2,.int .i64 840,.int .i64 10045,.int .i64 3,.int .i64 1,.int .i64 7] 3 1 7 rfl (by unfold maxLen;omega) (by simp);rw [qL] at hR;have hO:=gi (fun b=>b<w.heap.size+2) (w.heap.size+1) 7 [1,2,840,10045,3,1,7] _ hR (fun b hb=>by rw [hz];exact hb) (by simp) rfl (by simp) (gq (by simp));have HB:=zF hB;have H0:=zF hb;have Hz:=zF hz;rw [zBm] at hO;have HO:=zF hO;clear hB hb hz hO hR;go_enter Tryz.func41,Tryz.ntmps41;go_wp2_with fail;obtain ⟨s,hs⟩:=eV w.heap.size;rw [hs] at HB H0 Hz HO ⊢;have Hs:=zF hs;clear hs;generalize (w.alloc (.cells #[.int .i64 0,.slice none 0 0,.slice none 0 0] 80)).alloc (.cells #[.int .i64 1,.int .i64 2,.int .i64 840,.int .i64 10045,.int .i64 3,.int .i64 1,.int .i64 7] 3)=W1 at *;refine HO.out.mono ?_;rintro e w2 ⟨⟨A1,c1,rfl,hr1⟩,hB2⟩;have Hr1:=zF hr1;have hn:gO.length=8:=rfl;rw [hn];clear hr1 hn;have h2:=(hB2.block s (by have:=Hz.out;omega)).trans H0.out;have hlt:s<w2.heap.size:=by have:=Hz.out;have:=hB2.size;omega
 have HB3:=zF (HB.out.trans (hB2.mono (by have:=Hz.out;omega)));have H2:=zF h2;have q0:=zJ h2 0;have q1:=zJ h2 1;have q2:=zJ h2 2;have p0:=zv h2 0;have p1:=zv h2 1;have p2:=zv h2 2;simp only [zK,zL,zS] at q0 q1 q2;clear h2 hB2 H0;go_wp2;have r:=xM H2.out (.int .i64 6) (.slice A1 8 c1) (.slice none 0 0);have r0:=zJ r 0;have r1:=zJ r 1;have r2:=zJ r 2;simp only [zK,zL,zS] at r0 r1 r2;refine qS (v:=.tuple #[.agg #[.int .i64 6,.slice A1 8 c1,.slice none 0 0],.bool true]) (by simp [results,Tryz.results41,go_sem,r0,r1,r2]) rfl ⟨⟨A1,c1,rfl,?_⟩,?_⟩
 · rw [Hs.out];refine (Hr1.out.keep fun p hp=>zT ?_).mono fun q hq=>⟨by have:=hq.1;have:=Hz.out;omega,by have:=hq.2;simpa [World.setCell] using this⟩
   have hq:p.block≠s:=by have:=hp.1;have:=Hz.out;omega
   exact (zN _ _ _ _ hq).trans ((zN _ _ _ _ hq).trans (zN _ _ _ _ hq))
 · rw [Hs.out];exact ((HB3.out.setCell (p:=⟨s,0,none⟩) (by simp) _).setCell (p:=⟨s,1,none⟩) (by simp) _).setCell (p:=⟨s,2,none⟩) (by simp) _
theorem np (w:World):Calls Tryz.prog 41 #[.int .i64 2] w fun e w'=>(∃ A1 c1,e=.returned (.tuple #[.agg #[.int .i64 6,.slice A1 5 c1,.slice none 0 0],.bool true])∧RB w' (In w.heap.size w'.heap.size) A1 c1 gN)∧Below w.heap.size w w':=by
 have hB:=((zO w.heap.size w).alloc (zH _) (.cells #[.int .i64 0,.slice none 0 0,.slice none 0 0] 80)).alloc (by simp) (.cells #[.int .i64 1,.int .i64 3,.int .i64 132,.int .i64 0,.int .i64 34] 3);have hb:=(zx (w.alloc (.cells #[.int .i64 0,.slice none 0 0,.slice none 0 0] 80)) (.cells #[.int .i64 1,.int .i64 3,.int .i64 132,.int .i64 0,.int .i64 34] 3) w.heap.size (by simp)).trans (zP w _);have hz:((w.alloc (.cells #[.int .i64 0,.slice none 0 0,.slice none 0 0] 80)).alloc (.cells #[.int .i64 1,.int .i64 3,.int .i64 132,.int .i64 0,.int .i64 34] 3)).heap.size=w.heap.size+2:=by simp
 have hR:RZ _ (fun b=>b<w.heap.size+2) _ 5 [1,3,132,0,34]:=jM (w:=(w.alloc (.cells #[.int .i64 0,.slice none 0 0,.slice none 0 0] 80))) (P:=fun b=>b<w.heap.size+2) #[.int .i64 1,.int .i64 3,.int .i64 132,.int .i64 0,.int .i64 34] 3 1 5 rfl (by unfold maxLen;omega) (by simp);rw [qL] at hR;have hO:=gi (fun b=>b<w.heap.size+2) (w.heap.size+1) 5 [1,3,132,0,34] _ hR (fun b hb=>by rw [hz];exact hb) (by simp) rfl (by simp) (gq (by simp));have HB:=zF hB;have H0:=zF hb;have Hz:=zF hz;rw [zBl] at hO;have HO:=zF hO;clear hB hb hz hO hR;go_enter Tryz.func41,Tryz.ntmps41;go_wp2_with fail;obtain ⟨s,hs⟩:=eV w.heap.size;rw [hs] at HB H0 Hz HO ⊢;have Hs:=zF hs;clear hs;generalize (w.alloc (.cells #[.int .i64 0,.slice none 0 0,.slice none 0 0] 80)).alloc (.cells #[.int .i64 1,.int .i64 3,.int .i64 132,.int .i64 0,.int .i64 34] 3)=W1 at *;refine HO.out.mono ?_;rintro e w2 ⟨⟨A1,c1,rfl,hr1⟩,hB2⟩;have Hr1:=zF hr1;have hn:gN.length=5:=rfl;rw [hn];clear hr1 hn;have h2:=(hB2.block s (by have:=Hz.out;omega)).trans H0.out;have hlt:s<w2.heap.size:=by have:=Hz.out;have:=hB2.size;omega
 have HB3:=zF (HB.out.trans (hB2.mono (by have:=Hz.out;omega)));have H2:=zF h2;have q0:=zJ h2 0;have q1:=zJ h2 1;have q2:=zJ h2 2;have p0:=zv h2 0;have p1:=zv h2 1;have p2:=zv h2 2;simp only [zK,zL,zS] at q0 q1 q2;clear h2 hB2 H0;go_wp2;have r:=xM H2.out (.int .i64 6) (.slice A1 5 c1) (.slice none 0 0);have r0:=zJ r 0;have r1:=zJ r 1;have r2:=zJ r 2;simp only [zK,zL,zS] at r0 r1 r2;refine qS (v:=.tuple #[.agg #[.int .i64 6,.slice A1 5 c1,.slice none 0 0],.bool true]) (by simp [results,Tryz.results41,go_sem,r0,r1,r2]) rfl ⟨⟨A1,c1,rfl,?_⟩,?_⟩
 · rw [Hs.out];refine (Hr1.out.keep fun p hp=>zT ?_).mono fun q hq=>⟨by have:=hq.1;have:=Hz.out;omega,by have:=hq.2;simpa [World.setCell] using this⟩
   have hq:p.block≠s:=by have:=hp.1;have:=Hz.out;omega
   exact (zN _ _ _ _ hq).trans ((zN _ _ _ _ hq).trans (zN _ _ _ _ hq))
 · rw [Hs.out];exact ((HB3.out.setCell (p:=⟨s,0,none⟩) (by simp) _).setCell (p:=⟨s,1,none⟩) (by simp) _).setCell (p:=⟨s,2,none⟩) (by simp) _
theorem sj (z:Int) (w:World) (h1:z≠1) (h2:z≠2):Calls Tryz.prog 41 #[.int .i64 z] w fun e w'=>e=.returned (.tuple #[.agg #[.int .i64 0,.slice none 0 0,.slice none 0 0],.bool false])∧Below w.heap.size w w':=by
 have h1':(z==1)=false:=by simpa using h1
 have h2':(z==2)=false:=by simpa using h2
 have hb:=zP w (.cells #[.int .i64 0,.slice none 0 0,.slice none 0 0] 80);have HB:=zF ((zO w.heap.size w).alloc (zH _) (.cells #[.int .i64 0,.slice none 0 0,.slice none 0 0] 80));clear h1 h2;go_enter Tryz.func41,Tryz.ntmps41;go_wp2;refine qS (v:=.tuple #[.agg #[.int .i64 0,.slice none 0 0,.slice none 0 0],.bool false]) (by simp [results,Tryz.results41,go_sem]) rfl ⟨rfl,HB.out⟩
def gM (l:List Int) (k:Nat):List Nat:=if k≤1 then [] else uZ (40*(l.getD 0 0).toNat+(l.getD 1 0).toNat)++((l.drop 2).take (k - 2)).flatMap fun z=>uZ z.toNat
theorem zBj {l:List Int}{z N:Nat}(h0:l.getD 0 0=1) (h1:l.getD 1 0=(z:Int)) (hN:z+40=N):gM l 1++uZ N=gM l (1+1):=by
 unfold gM;rw [qK (by omega),qA (by omega),h0,h1,←hN];simp [kL]
theorem zBi {l:List Int}{k z:Nat}(hk:2≤k) (hlt:k<l.length) (hz:l.getD k 0=(z:Int)):gM l k++uZ z=gM l (k+1):=by
 unfold gM;rw [qA (by omega),qA (by omega)];have:=n8 (l:=l) (k:=k - 2) (z:=z) (by omega) (by rw [show k - 2+2=k by omega];exact hz) (bb:=uZ (40*(l.getD 0 0).toNat+(l.getD 1 0).toNat));rw [this,show k - 2+1=k+1 - 2 by omega]
theorem sr {l:List Int}(h:2≤l.length):gM l l.length=ww l:=by
 unfold gM ww;rw [qA (by omega),zk (by simp)]
theorem p9:(128:Nat) ^ 9=9223372036854775808:=by decide
theorem zCH {l x:Nat}(h0:0<l) (h:x<128 ^ (10 - l)):x<9223372036854775808 :=
 zR h (p9▸qF (by omega) (by omega))
theorem pU (P:Nat→Prop) (g c:Nat) (l:List Int) (w:World) (hv:RZ w P (some ⟨g,0,none⟩) c l) (hP:∀ b,P b→b<w.heap.size) (hl:3≤l.length∧l.length≤12) (h0:l.getD 0 0=1) (h1:0≤l.getD 1 0∧l.getD 1 0≤39) (ha:∀ k,0≤l.getD k 0∧l.getD k 0<268435400) :
 Calls Tryz.prog 148 #[.slice (some ⟨g,0,none⟩) l.length c] w fun e w'=>(∃ A1 c1,e=.returned (.tuple #[.agg #[.int .i64 6,.slice A1 (ww l).length c1,.slice none 0 0],.bool true])∧RB w' (In w.heap.size w'.heap.size) A1 c1 (ww l))∧Below w.heap.size w w':=by
 obtain ⟨hlc,hc⟩:=(show l.length≤c∧c≤9223372036854775807 from ⟨hv.1,hv.2.1⟩)
 have hB0:=(zO w.heap.size w).alloc (zH _) (.cells #[.int .i64 0,.slice none 0 0,.slice none 0 0] 80)
 have hb0:=zP w (.cells #[.int .i64 0,.slice none 0 0,.slice none 0 0] 80)
 have hz0:(w.alloc (.cells #[.int .i64 0,.slice none 0 0,.slice none 0 0] 80)).heap.size=w.heap.size+1:=by simp
 have hv0:=hv.below hB0 hP
 obtain ⟨a,ea,hPg,x0⟩:=hv0.at_ (i:=0) (by omega)
 injection ea with ea
 subst ea
 obtain ⟨a',ea,_,x1⟩:=hv0.at_ (i:=1) (by omega)
 injection ea with ea
 subst ea
 rw [h0] at x0
 obtain ⟨y,hy⟩:=eV (l.getD 1 0)
 rw [hy] at x1 h1
 simp only [show Addr.add ⟨g,0,none⟩ 0=⟨g,0,none⟩ by simp [Addr.add],show Addr.add ⟨g,0,none⟩ 1=⟨g,1,none⟩ by simp [Addr.add]] at x0 x1
 have HB0:=zF hB0
 have Hb0:=zF hb0
 have Hz0:=zF hz0
 have HA:=zF ha
 have HV0:=zF hv0
 have Hy:=zF hy
 have H0:=zF h0
 have k0:¬ (l.length:Int)<2:=by omega
 have k1:¬ (39:Int)<y:=by omega
 clear hB0 hb0 hz0 h0 ha hy hv0
 go_enter Tryz.func148,Tryz.ntmps148
 go_wp2
 generalize w.alloc (.cells #[.int .i64 0,.slice none 0 0,.slice none 0 0] 80)=W0 at *
 go_loopw [4,5] (fun s i wr=>∃ (k:Nat) (A6:Option Addr) (c6:Nat) (bs:List Nat),k≤l.length∧i=.int .i64 k∧s=.slice A6 bs.length c6∧OW wr W0.heap.size A6 c6 bs∧bs.length≤10*k∧bs=gM l k∧Below W0.heap.size W0 wr) (fun _ i _=>l.length - (intOf i).toNat)
 case atStart=>exact ⟨0,none,0,[],by omega,rfl,rfl,⟨kr _ _ _ _,by simp⟩,by simp,by simp [gM],zO _ _⟩
 case round =>
  obtain ⟨k,A6,c6,bs,hk,rfl,rfl,hO6,hl6,hbs,hB⟩:=hrel;have HBs:=zF hbs;clear hbs;have hs:=hB.size;by_cases hlt:k<l.length
  · obtain ⟨a,ea,_,hx⟩:=(HV0.out.below hB (fun b hb=>by have:=hP b hb;have:=Hz0.out;omega)).at_ (i:=k) hlt;injection ea with ea
    subst ea;have h1':=HA.out k;have X0:=(hB.cell (p:=⟨g,0,none⟩) (by have:=hP g hPg;have:=Hz0.out;show g<_;omega)).trans x0;obtain ⟨z,hz⟩:=eV (l.getD k 0);rw [hz] at hx h1';have Hz:=zF hz;have hx':wr.cell? ⟨g,k,none⟩=some (.int .i64 z):=by
     have e:Addr.add ⟨g,0,none⟩ k=⟨g,k,none⟩:=by by_cases h:k=0 <;> simp [Addr.add,h]
     rw [←e];exact hx
    have z1:¬ z<0:=by omega
    have z2:¬ 268435456<z:=by omega
    clear hx hz;obtain ⟨zn,hzn⟩:∃ zn:Nat,z=(zn:Int):=⟨z.toNat,by omega⟩
    subst hzn;have HO6:=zF hO6;clear hO6;by_cases hk0:k=0
    · subst hk0;go_wp2;go_roundw;case rel=>exact ⟨1,A6,c6,bs,by omega,by go_num,rfl,HO6.out,by omega,by rw [HBs.out];simp [gM],hB⟩
      case measure=>simp [intOf];omega
    have e0:((k:Int)==0)=false:=by simp;omega
    have q1:k<l.length:=hlt;by_cases hk1:k=1
    · subst hk1;obtain ⟨N,hN⟩:∃ N:Nat,zn+40=N:=⟨_,rfl⟩
      have hN0:=hN;have hN1:(zn:Int)+40=(N:Int):=by omega
      have q2:(0:Int)<(l.length:Int):=by omega
      have q3:0<l.length:=by omega
      have hN2:IntKind.i64.wrap ((zn:Int)+40)=(N:Int):=by rw [jJ];omega
      obtain ⟨wo,rfl⟩:=eW wr;obtain ⟨b0,hb0',he0⟩:∃ b:Nat,b<256∧(N:Int) % 128=(b:Int):=⟨N % 128,by omega,by omega⟩
      have HL:=zF (OW.lit wo b0 hb0');obtain ⟨R2,hR2⟩:=eV (uZ N);have HR2':=zF hR2;have Hb0':=zF (show b0=N % 128 by omega);clear hR2;have hN:N<268435456:=by omega
      go_wp2;go_loopw [6,7] (fun v s wr2=>∃ (x:Nat) (A:Option Addr) (c:Nat) (bs:List Nat),v=.int .i64 (x:Int)∧s=.slice A bs.length c∧OW wr2 wo.heap.size A c bs∧0<bs.length∧bs.length≤10∧x<128 ^ (10 - bs.length)∧up7 (10 - bs.length) x bs=R2∧Below wo.heap.size wo wr2) (fun v _ _=>(intOf v).toNat);case atStart=>exact ⟨N / 128,_,1,[b0],by simp,rfl,HL.out,by simp,by simp,by simp;omega,(by rw [Hb0'.out];exact HR2'.out),(zO _ wo).alloc (zH _) _⟩
      case round =>
       clear HL he0 hb0';obtain ⟨x,A,c3,b2,rfl,rfl,hO,h0,hl2,hx,hup,hB2⟩:=hrel;have HUp:=zF hup;clear hup;have hs2:=hB2.size;by_cases hx0:0<x
       · obtain ⟨b,hb,hbe⟩:∃ b:Nat,b<256∧128+(x:Int) % 128=(b:Int):=⟨128+x % 128,by omega,by omega⟩
         have Hbe:=zF (show b=128+x % 128 by omega);have hl9:b2.length≤9:=by
          rcases zz 9 b2.length with h | h
          · have:b2.length=10:=by omega
            rw [this] at hx;simp at hx;omega
          · exact h
         have hx':x / 128<128 ^ (10 - (b2.length+1)):=by
          rw [show 10 - b2.length=10 - (b2.length+1)+1 by omega,zu] at hx;exact qV (by rw [zj];exact hx)
         have HX:=zF hx';have HUp2:=zF (show up7 (10 - (b2.length+1)) (x / 128) (b :: b2)=R2 by rw [Hbe.out,←HUp.out,show 10 - b2.length=10 - (b2.length+1)+1 by omega,up7,qA (by omega)]);have Hw2:=zF (show wrap64 ((x:Int) / 128)=(x:Int) / 128 by have:=zCH h0 hx;rw [←IntWalk.i64_left,jJ];omega);have HO:=zF (OW.lit wr b hb);have HRb:=zF ((hO.rb (by omega)).below ((zO _ wr).alloc (zH _) (.cells #[.int .u8 (b:Int)] 5)) fun q hq=>hq.2);have hi:(0:Int)<(x:Int):=by omega
         have HB2:=zF hB2;clear hx hx' hO hB2;go_wp2_with (at_builtin;refine yr rfl (.tmp 77) (.tmp 78) rfl wr.heap.size (bs:=[b]) rfl HO.out rfl HRb.out (by simp;omega) (by simp) ?_;intro A2 c2 w2 hw2 hb2);have HB:=zF ((HB2.out.alloc hs2 (.cells #[.int .u8 (b:Int)] 5)).trans (hb2.mono hs2));go_roundw;case rel=>exact ⟨x / 128,A2,c2,b :: b2,by rw [Hw2.out];simp,rfl,kw hw2 hs2,by simp,by simp;omega,by simpa using HX.out,by simpa using HUp2.out,HB.out⟩
         case measure=>rw [Hw2.out];simp [intOf];omega
       · have hx0':x=0:=by omega
         subst hx0';have hRb:b2=R2:=by rw [←HUp.out];cases 10 - b2.length <;> simp [up7]
         have HRb2:=zF hRb;clear hRb;have HR2:=zF (hO.rb (by omega));have HO8:=zF (xh HO6.out hB2);have HB2:=zF (hB.trans (hB2.mono hs));have hsz:=HB2.out.size;clear hO hB2;go_wp2_with (at_builtin;refine yr rfl (.tmp 80) (.tmp 81) rfl W0.heap.size (bs:=bs) rfl HO8.out rfl HR2.out (by omega) hsz ?_;intro A2 c2 w3 hw3 hb3);have HB8:=zF (HB2.out.trans hb3);have HW3:=zF hw3;clear hw3 hb3;go_roundw;case rel=>exact ⟨1+1,A2,c2,bs++b2,by omega,by go_num,by rw [zt],HW3.out,by rw [zt];omega,by rw [HBs.out,HRb2.out,←HR2'.out];exact zBj H0.out Hz.out hN0,HB8.out⟩
         case measure=>simp [intOf];omega
    have e1:((k:Int)==1)=false:=by simp;omega
    obtain ⟨wo,rfl⟩:=eW wr;obtain ⟨b0,hb0',he0⟩:∃ b:Nat,b<256∧(zn:Int) % 128=(b:Int):=⟨zn % 128,by omega,by omega⟩
    have HL:=zF (OW.lit wo b0 hb0');obtain ⟨R2,hR2⟩:=eV (uZ zn);have HR2':=zF hR2;have Hb0':=zF (show b0=zn % 128 by omega);clear hR2;have hN:zn<268435456:=by omega
    go_wp2;go_loopw [6,7] (fun v s wr2=>∃ (x:Nat) (A:Option Addr) (c:Nat) (bs:List Nat),v=.int .i64 (x:Int)∧s=.slice A bs.length c∧OW wr2 wo.heap.size A c bs∧0<bs.length∧bs.length≤10∧x<128 ^ (10 - bs.length)∧up7 (10 - bs.length) x bs=R2∧Below wo.heap.size wo wr2) (fun v _ _=>(intOf v).toNat);case atStart=>exact ⟨zn / 128,_,1,[b0],by simp,rfl,HL.out,by simp,by simp,by simp;omega,(by rw [Hb0'.out];exact HR2'.out),(zO _ wo).alloc (zH _) _⟩
    case round =>
     clear HL he0 hb0';obtain ⟨x,A,c3,b2,rfl,rfl,hO,h0,hl2,hx,hup,hB2⟩:=hrel;have HUp:=zF hup;clear hup;have hs2:=hB2.size;by_cases hx0:0<x
     · obtain ⟨b,hb,hbe⟩:∃ b:Nat,b<256∧128+(x:Int) % 128=(b:Int):=⟨128+x % 128,by omega,by omega⟩
       have Hbe:=zF (show b=128+x % 128 by omega);have hl9:b2.length≤9:=by
        rcases zz 9 b2.length with h | h
        · have:b2.length=10:=by omega
          rw [this] at hx;simp at hx;omega
        · exact h
       have hx':x / 128<128 ^ (10 - (b2.length+1)):=by
        rw [show 10 - b2.length=10 - (b2.length+1)+1 by omega,zu] at hx;exact qV (by rw [zj];exact hx)
       have HX:=zF hx';have HUp2:=zF (show up7 (10 - (b2.length+1)) (x / 128) (b :: b2)=R2 by rw [Hbe.out,←HUp.out,show 10 - b2.length=10 - (b2.length+1)+1 by omega,up7,qA (by omega)]);have Hw2:=zF (show wrap64 ((x:Int) / 128)=(x:Int) / 128 by have:=zCH h0 hx;rw [←IntWalk.i64_left,jJ];omega);have HO:=zF (OW.lit wr b hb);have HRb:=zF ((hO.rb (by omega)).below ((zO _ wr).alloc (zH _) (.cells #[.int .u8 (b:Int)] 5)) fun q hq=>hq.2);have hi:(0:Int)<(x:Int):=by omega
       have HB2:=zF hB2;clear hx hx' hO hB2;go_wp2_with (at_builtin;refine yr rfl (.tmp 77) (.tmp 78) rfl wr.heap.size (bs:=[b]) rfl HO.out rfl HRb.out (by simp;omega) (by simp) ?_;intro A2 c2 w2 hw2 hb2);have HB:=zF ((HB2.out.alloc hs2 (.cells #[.int .u8 (b:Int)] 5)).trans (hb2.mono hs2));go_roundw;case rel=>exact ⟨x / 128,A2,c2,b :: b2,by rw [Hw2.out];simp,rfl,kw hw2 hs2,by simp,by simp;omega,by simpa using HX.out,by simpa using HUp2.out,HB.out⟩
       case measure=>rw [Hw2.out];simp [intOf];omega
     · have hx0':x=0:=by omega
       subst hx0';have hRb:b2=R2:=by rw [←HUp.out];cases 10 - b2.length <;> simp [up7]
       have HRb2:=zF hRb;clear hRb;have HR2:=zF (hO.rb (by omega));have HO8:=zF (xh HO6.out hB2);have HB2:=zF (hB.trans (hB2.mono hs));have hsz:=HB2.out.size;clear hO hB2;go_wp2_with (at_builtin;refine yr rfl (.tmp 80) (.tmp 81) rfl W0.heap.size (bs:=bs) rfl HO8.out rfl HR2.out (by omega) hsz ?_;intro A2 c2 w3 hw3 hb3);have HB8:=zF (HB2.out.trans hb3);have HW3:=zF hw3;clear hw3 hb3;go_roundw;case rel=>exact ⟨k+1,A2,c2,bs++b2,by omega,by go_num,by rw [zt],HW3.out,by rw [zt];omega,by rw [HBs.out,HRb2.out,←HR2'.out];exact zBi (by omega) hlt Hz.out,HB8.out⟩
       case measure=>simp [intOf];omega
  · obtain rfl:k=l.length:=by omega
    have hbo:bs=ww l:=by rw [HBs.out];exact sr (by omega)
    have HBo:=zF hbo;clear hbo;have hb1:=(hB.block w.heap.size (by have:=Hz0.out;omega)).trans Hb0.out;have HBB:=zF (HB0.out.trans (hB.mono (by have:=Hz0.out;omega)));have HRb:=zF ((hO6.rb (by omega)).mono (P':=In W0.heap.size wr.heap.size) fun b hb=>hb);obtain ⟨s,hs0⟩:=eV w.heap.size;have hsW:s<W0.heap.size:=by have:=Hz0.out;omega
    rw [hs0] at hb1 HBB;have q0:=zJ hb1 0;have q1:=zJ hb1 1;have q2:=zJ hb1 2;have p0:=zv hb1 0;have p1:=zv hb1 1;have p2:=zv hb1 2;simp only [zK,zL,zS] at q0 q1 q2;have r:=xM hb1 (.int .i64 6) (.slice A6 bs.length c6) (.slice none 0 0);have r0:=zJ r 0;have r1:=zJ r 1;have r2:=zJ r 2;simp only [zK,zL,zS] at r0 r1 r2;have R0:=zF r0;have R1:=zF r1;have R2:=zF r2;clear r r0 r1 r2 hb1 hO6 hB;go_wp2;have r0:=R0.out;have r1:=R1.out;have r2:=R2.out;refine qS (v:=.tuple #[.agg #[.int .i64 6,.slice A6 bs.length c6,.slice none 0 0],.bool true]) (by simp [results,Tryz.results148,go_sem,hs0,r0,r1,r2]) rfl ⟨⟨A6,c6,by rw [←HBo.out],?_⟩,?_⟩
    · rw [←HBo.out];refine (HRb.out.keep fun p hp=>zT ?_).mono fun q hq=>⟨by have:=hq.1;have:=Hz0.out;omega,by have:=hq.2;simpa [World.setCell] using this⟩
      have hq:p.block≠s:=by have:=hp.1;omega
      exact (zN _ _ _ _ hq).trans ((zN _ _ _ _ hq).trans (zN _ _ _ _ hq))
    · rw [hs0];exact ((HBB.out.setCell (p:=⟨s,0,none⟩) (zH _) _).setCell (p:=⟨s,1,none⟩) (zH _) _).setCell (p:=⟨s,2,none⟩) (zH _) _
theorem bC:∀ {bg:Bool}{b:List Nat},0<b.length→128≤b.getD (b.length - 1) 0→uC bg b=false
 | bg, [x], _, h => by
   simp at h;simp only [uC];split
   · rfl
   · simp;omega
 | bg, x :: y :: r, _, h => by
   rw [uC];split
   · rfl
   · exact bC (b:=y :: r) (by simp) (by simpa using h)
theorem ov (P:Nat→Prop) (A:Option Addr) (c tag:Nat) (b:List Nat) (w:World) (h:RB w P A c b) :
 Calls Tryz.prog 175 #[.int .i64 tag,.slice A b.length c] w fun e w'=>e=.returned (.bool (jh tag b))∧∃ d,w'=w.drewN d:=by
 obtain ⟨hlc,hc,hl⟩:=h.cap
 have H:=zF h
 obtain ⟨R,hR⟩:=eV (jh tag b)
 rw [hR]
 have fin:∀ {v:Bool},v=R→Ending.returned (.bool v)=Ending.returned (.bool R)∧∃ d,w=w.drewN d:=fun h=>⟨by rw [h],0,rfl⟩
 obtain ⟨n,hn⟩:=eV b.length
 rw [hn] at hlc hl ⊢
 have Hn:=zF hn
 clear h hn
 obtain ⟨z,hz⟩:∃ z:Int,(tag:Int)=z:=⟨_,rfl⟩
 rw [hz]
 by_cases t2:tag=2
 · subst t2;obtain rfl:z=2:=hz.symm;clear hz;unfold jh at hR;rw [qK rfl,Hn.out] at hR;by_cases h0:n=0
   · have hR':false=R:=by rw [←hR];simp [h0]
     subst h0;clear hR;subst hR';go_enter Tryz.func175,Tryz.ntmps175;go_wp2;go_ret;exact fin rfl
   have h0':(0:Int)<(n:Int):=by omega
   have h0'':0<n:=by omega
   obtain ⟨ad,rfl,-,x0,y0⟩:=RB.get0 H.out (by rw [Hn.out];omega);obtain ⟨b0,hb0⟩:=eV (b.getD 0 0);rw [hb0] at x0 y0 hR;by_cases h1:b0<128;rotate_left
   · have hR':false=R:=by rw [←hR];simp [h1]
     have h1':¬ (b0:Int)<128:=by omega
     clear hR;subst hR';go_enter Tryz.func175,Tryz.ntmps175;go_wp2;go_ret;exact fin rfl
   have h1':(b0:Int)<128:=by omega
   by_cases h2:0<b0
   · have hR':true=R:=by rw [←hR];simp [h0'',h1,h2]
     have h2':((b0:Int)==0)=false:=beq_eq_false_iff_ne.2 (by omega);have h2'':¬ (b0:Int)=0:=by omega
     clear hR;subst hR';go_enter Tryz.func175,Tryz.ntmps175;go_wp2;go_ret;exact fin rfl
   obtain rfl:b0=0:=by omega
   have x0':w.cell? ad=some (.int .u8 0):=x0;clear x0;by_cases h3:n=1
   · have hR':true=R:=by rw [←hR];simp [h1,h2,h3]
     subst h3;clear hR;subst hR';go_enter Tryz.func175,Tryz.ntmps175;go_wp2;go_ret;exact fin rfl
   have h3':((n:Int)==1)=false:=beq_eq_false_iff_ne.2 (by omega);have h4:1<n:=by omega
   have h4':(1:Int)<(n:Int):=by omega
   obtain ⟨x1,y1⟩:=RB.get1 H.out (by rw [Hn.out];omega);obtain ⟨b1,hb1⟩:=eV (b.getD 1 0);rw [hb1] at x1 y1 hR;have hR':decide (128≤b1)=R:=by rw [←hR];simp [h0'',h1,h2,h3]
   by_cases h5:128≤b1
   · have h5':(128:Int)≤(b1:Int):=by omega
     have hR2:true=R:=by rw [←hR'];simp [h5]
     clear hR hR';subst hR2;go_enter Tryz.func175,Tryz.ntmps175;go_wp2;go_ret;exact fin rfl
   · have h5':¬ (128:Int)≤(b1:Int):=by omega
     have hR2:false=R:=by rw [←hR'];simp [h5]
     clear hR hR';subst hR2;go_enter Tryz.func175,Tryz.ntmps175;go_wp2;go_ret;exact fin rfl
 have t2':(z==2)=false:=beq_eq_false_iff_ne.2 (by omega)
 by_cases t3:tag=3
 · subst t3;obtain rfl:z=3:=hz.symm;clear hz;unfold jh at hR;rw [qA (by omega),qK rfl,Hn.out] at hR;by_cases h0:n=0
   · have hR':false=R:=by rw [←hR];simp [h0]
     subst h0;clear hR t2 t2';subst hR';go_enter Tryz.func175,Tryz.ntmps175;go_wp2;go_ret;exact fin rfl
   have h0':(0:Int)<(n:Int):=by omega
   have h0'':0<n:=by omega
   obtain ⟨ad,rfl,-,x0,y0⟩:=RB.get0 H.out (by rw [Hn.out];omega);obtain ⟨b0,hb0⟩:=eV (b.getD 0 0);rw [hb0] at x0 y0 hR;have hR':(b0==0)=R:=by rw [←hR];simp [h0'']
   by_cases h5:b0=0
   · subst h5;have hR2:true=R:=by rw [←hR'];simp
     clear hR hR' t2 t2';subst hR2;go_enter Tryz.func175,Tryz.ntmps175;go_wp2;go_ret;exact fin rfl
   · have h5':((b0:Int)==0)=false:=by simp;omega
     have hR2:false=R:=by rw [←hR'];simp [h5]
     clear hR hR' t2 t2';subst hR2;go_enter Tryz.func175,Tryz.ntmps175;go_wp2;go_ret;exact fin rfl
 have t3':(z==3)=false:=beq_eq_false_iff_ne.2 (by omega)
 by_cases t4:tag=4
 · subst t4;obtain rfl:z=4:=hz.symm;clear hz;have hR2:true=R:=by rw [←hR];rfl
   clear hR t2 t2' t3 t3';subst hR2;go_enter Tryz.func175,Tryz.ntmps175;go_wp2;go_ret;exact fin rfl
 have t4':(z==4)=false:=beq_eq_false_iff_ne.2 (by omega)
 by_cases t5:tag=5
 · subst t5;obtain rfl:z=5:=hz.symm;clear hz;have hR':(n==0)=R:=by rw [←hR,←Hn.out];rfl
   clear hR t2 t2' t3 t3' t4 t4';by_cases h0:n=0
   · subst h0;have hR2:true=R:=by rw [←hR'];simp
     clear hR';subst hR2;go_enter Tryz.func175,Tryz.ntmps175;go_wp2;go_ret;exact fin rfl
   · have h0':((n:Int)==0)=false:=beq_eq_false_iff_ne.2 (by omega);have hR2:false=R:=by rw [←hR'];simp [h0]
     clear hR';subst hR2;go_enter Tryz.func175,Tryz.ntmps175;go_wp2;go_ret;exact fin rfl
 have t5':(z==5)=false:=beq_eq_false_iff_ne.2 (by omega)
 by_cases t6:tag=6
 · subst t6;obtain rfl:z=6:=hz.symm;clear hz;have hR':xt b=R:=by rw [←hR];rfl
   clear hR t2 t2' t3 t3' t4 t4' t5 t5';have HR:=zF hR';clear hR';by_cases hn0:n=0
   · have hR2:false=R:=by rw [←HR.out];unfold xt;rw [Hn.out,hn0];simp
     subst hn0;subst hR2;go_enter Tryz.func175,Tryz.ntmps175;go_wp2;go_ret;exact fin rfl
   obtain ⟨m,hm⟩:∃ m,n=m+1:=⟨n - 1,by omega⟩
   obtain ⟨ad,rfl,-,ym,-⟩:=RB.getD H.out (i:=m) (by rw [Hn.out];omega);obtain ⟨y,hy⟩:=eV (b.getD m 0);rw [hy] at ym;have Hy:=zF hy;have Hm:=zF hm;have e1:((n:Int)==0)=false:=beq_eq_false_iff_ne.2 (by omega);have e2:(n:Int) - 1=(m:Int):=by omega
   have e3:m<n:=by omega
   have e4:(m:Int)<(n:Int):=by omega
   have e7:IntKind.i64.wrap (m:Int)=(m:Int):=by rw [jJ];omega
   have fin2:∀ {v:Bool} {d:Nat},v=R→Ending.returned (Value.bool v)=Ending.returned (Value.bool R)∧∃ d',w.drewN d=w.drewN d':=fun h=>⟨by rw [h],_,rfl⟩
   clear hn0 hy hm;by_cases hy1:y<128;rotate_left
   · have hR2:false=R:=by
      rw [←HR.out];unfold xt;rw [bC (b:=b) (by rw [Hn.out];omega) (by rw [Hn.out,show n - 1=m by have:=Hm.out;omega,Hy.out];omega)];simp
     have hy2:(128:Int)≤(y:Int):=by omega
     subst hR2;go_enter Tryz.func175,Tryz.ntmps175;go_wp2;go_ret;exact fin rfl
   have hy2:¬ (128:Int)≤(y:Int):=by omega
   go_enter Tryz.func175,Tryz.ntmps175;go_wp2;clear e1 e2 e3 e4 e7 ym;go_loopw [6] (fun i wr=>∃ k:Nat,k≤n∧i=.int .i64 k∧uC true b=uC (k==0 || decide (b.getD (k - 1) 0<128)) (b.drop k)∧∃ d,wr=w.drewN d) (fun i _=>n - (intOf i).toNat);case atStart=>exact ⟨0,by omega,rfl,by simp,0,rfl⟩
   case round =>
    obtain ⟨k,hk,rfl,hN,d,rfl⟩:=hrel;by_cases hlt:k<n
    · obtain ⟨ad',ea,-,x0,x1⟩:=RB.getD (H.out.keep (w':=w.drewN d) fun _ _=>rfl) (i:=k) (by rw [Hn.out];exact hlt);injection ea with ea
      subst ea;have hst:=ab (bg:=(k==0 || decide (b.getD (k - 1) 0<128))) (b:=b) (k:=k) (by rw [Hn.out];exact hlt) (x:=b.getD k 0) (gD _ _ (by rw [Hn.out];exact hlt)).symm;obtain ⟨x,hx⟩:=eV (b.getD k 0);rw [hx] at x0 x1 hst;have HN:=zF (hN.trans hst);have Hnx:=zF (show ((k+1==0) || decide (b.getD (k+1 - 1) 0<128))=decide (x<128) by rw [jU,hx];simp);have q1:(k:Int)<(n:Int):=by omega
      clear hN hst hx;by_cases h1:x=128;rotate_left
      · have hx2:((x:Int)==128)=false:=beq_eq_false_iff_ne.2 (by omega);have HN2:=zF (HN.out.trans (qA (by simp [h1])));clear h1;go_wp2;go_roundw;case rel=>exact ⟨k+1,by omega,by go_num,by rw [Hnx.out];exact HN2.out,d,rfl⟩
        case measure=>simp [intOf];omega
      · subst h1;have x0':(w.drewN d).cell? (ad.add k)=some (.int .u8 128):=x0;clear x0;by_cases hk0:k=0
        · have hR2:false=R:=by rw [←HR.out];unfold xt;rw [HN.out,hk0];simp
          subst hR2;have q2:((k:Int)==0)=true:=by simp;omega
          clear hk0;go_wp2;go_ret;exact fin2 rfl
        obtain ⟨j,hj⟩:=eV (k - 1);obtain ⟨ad',ea,-,z0,z1⟩:=RB.getD (H.out.keep (w':=w.drewN d) fun _ _=>rfl) (i:=j) (by rw [Hn.out];omega);injection ea with ea
        subst ea;obtain ⟨v,hv⟩:=eV (b.getD j 0);rw [hj,hv] at HN;rw [hv] at z0;have q2:((k:Int)==0)=false:=beq_eq_false_iff_ne.2 (by omega);have q3:j<n:=by omega
        have q4:(j:Int)<(n:Int):=by omega
        have q5:(k:Int) - 1=(j:Int):=by omega
        have q6:IntKind.i64.wrap (j:Int)=(j:Int):=by rw [jJ];omega
        have HK0:=zF hk0;clear hk0 hj hv;by_cases hv1:v<128
        · have hR2:false=R:=by rw [←HR.out];unfold xt;rw [HN.out];simp [hv1]
          subst hR2;have hv2:(v:Int)<128:=by omega
          go_wp2;go_ret;exact fin2 rfl
        · have hv2:¬ (v:Int)<128:=by omega
          have HN2:=zF (HN.out.trans (qA (by simp [hv1,HK0.out])));go_wp2;go_roundw;case rel=>exact ⟨k+1,by omega,by go_num,by rw [Hnx.out];exact HN2.out,d,rfl⟩
          case measure=>simp [intOf];omega
    · obtain rfl:k=n:=by omega
      have hR2:true=R:=by
       rw [←HR.out];unfold xt;rw [hN,yG (by rw [Hn.out];omega),show k - 1=m by have:=Hm.out;omega,Hy.out,Hn.out];have:=Hm.out;simp [uC,hy1];omega
      subst hR2;clear hN;have q1:¬ (k:Int)<(k:Int):=by omega
      go_wp2;go_ret;exact fin2 rfl
 have t6':(z==6)=false:=beq_eq_false_iff_ne.2 (by omega)
 have hR2:false=R:=by rw [←hR];unfold jh;rw [qA t2,qA t3,qA t4,qA t5,qA t6]
 clear hR t2 t3 t4 t5 t6 hz
 subst hR2
 go_enter Tryz.func175,Tryz.ntmps175
 go_wp2
 go_ret
 exact fin rfl
mutual
def vI:Nat→DN→Option Nat
 | d,.mk tag bs kids=>if 16<d then none else if tag≠48 then (if kids≠[]∨jh tag bs=false then none else some 1) else if bs≠[] then none else wP (d+1) 1 kids
def wP:Nat→Nat→List DN→Option Nat
  | _,k,[]=>some k
  | d, k, x :: r => match vI d x with
    | none=>none
    | some c=>if 1024<k+c then none else wP d (k+c) r
end
mutual
theorem zBA:∀ {d:Nat}{t:DN}{c:Nat},vI d t=some c→1≤c
 | d, .mk tag bs kids, c, h => by
   rw [vI] at h;split at h
   · cases h
   split at h
   · split at h
     · cases h
     · cases h;exact zH _
   split at h
   · cases h
   exact gm h
theorem gm:∀ {d k:Nat}{l:List DN}{c:Nat},wP d k l=some c→k≤c
 | d,k,[],c,h=>by rw [wP] at h;cases h;exact zH _
 | d, k, x :: r, c, h => by
   rw [wP] at h;split at h
   · cases h
   split at h
   · cases h
   have:=gm h;omega
end
mutual
theorem sG:∀ {d:Nat}{t:DN}{c:Nat},vI d t=some c→c≤1024
 | d, .mk tag bs kids, c, h => by
   rw [vI] at h;split at h
   · cases h
   split at h
   · split at h
     · cases h
     · cases h;omega
   split at h
   · cases h
   exact pB (by omega) h
theorem pB:∀ {d k:Nat}{l:List DN}{c:Nat},k≤1024→wP d k l=some c→c≤1024
 | d,k,[],c,hk,h=>by rw [wP] at h;cases h;exact hk
 | d, k, x :: r, c, hk, h => by
   rw [wP] at h;split at h
   · cases h
   split at h
   · cases h
   exact pB (by omega) h
end
def zA9:Option Nat→Int
 | none=>-1
 | some c=>(c:Int)
theorem RDs.get {w:World}{P:Nat→Prop} : ∀ {ks:List DN}{cs:List Value}{i:Nat}(hi:i<ks.length),RDs w P ks cs→∃ a b c,cs[i*3]?=some a∧cs[i*3+1]?=some b∧cs[i*3+2]?=some c∧RD w P ks[i] (.agg #[a,b,c])
 | [],_,i,hi,_=>absurd hi (by simp)
 | k :: ks, cs, 0, hi, h => by
   unfold RDs at h;obtain ⟨a,b,c,rest,rfl,h2,h3⟩:=h;exact ⟨a,b,c,rfl,rfl,rfl,h2⟩
 | k :: ks, cs, i + 1, hi, h => by
   unfold RDs at h;obtain ⟨a,b,c,rest,rfl,h2,h3⟩:=h;obtain ⟨a',b',c',e1,e2,e3,h4⟩:=RDs.get (i:=i) (by simpa using hi) h3;refine ⟨a',b',c',?_,?_,?_,h4⟩
   · rw [show (i+1)*3=i*3+3 by omega];exact e1
   · rw [show (i+1)*3+1=i*3+1+3 by omega];exact e2
   · rw [show (i+1)*3+2=i*3+2+3 by omega];exact e3
theorem bI {w:World}{P:Nat→Prop}{A:Option Addr}{c:Nat}{ks:List DN}{cs:List Value}(h:RS w P 3 A ks.length c cs) (hd:RDs w P ks cs){i:Nat}(hi:i<ks.length) :
 ∃ ad x B1 n1 d1 B2 n2 d2,A=some ad∧w.cell? (ad.add (i*3))=some (.int .i64 x)∧w.cell? ⟨(ad.add (i*3)).block,(ad.add (i*3)).off+1,none⟩=some (.slice B1 n1 d1)∧w.cell? ⟨(ad.add (i*3)).block,(ad.add (i*3)).off+2,none⟩=some (.slice B2 n2 d2)∧RD w P ks[i] (.agg #[.int .i64 x,.slice B1 n1 d1,.slice B2 n2 d2]):=by
 obtain ⟨h1,h2,h3,h4⟩:=h
 obtain ⟨ad,rfl,hb,hc⟩:=h4 (by omega)
 obtain ⟨a,b,c',e1,e2,e3,hr⟩:=RDs.get hi hd
 obtain ⟨x,B1,n1,d1,B2,n2,d2,he⟩:=hr.shape
 injection he with he
 simp only [Array.mk.injEq,List.cons.injEq,and_true] at he
 obtain ⟨rfl,rfl,rfl⟩:=he
 refine ⟨ad,x,B1,n1,d1,B2,n2,d2,rfl,hc _ _ e1,?_,?_,hr⟩
 · have:=hc _ _ e2;rwa [←gA] at this
 · have:=hc _ _ e3;rwa [←gA] at this
theorem RD.open_ {w:World}{P:Nat→Prop}{tag:Nat}{bs:List Nat}{kids:List DN}{v:Value}(h:RD w P (.mk tag bs kids) v):∃ A c Ak ck cs,v=.agg #[.int .i64 (tag:Int),.slice A bs.length c,.slice Ak kids.length ck]∧RB w P A c bs∧(tag=48→A=none∧c=0)∧RS w P 3 Ak kids.length ck cs∧RDs w P kids cs:=by
 unfold RD at h;exact h
def addR (d k:Nat) (r:List DN):Option Nat→Option Nat
 | none=>none
 | some c=>if 1024<k+c then none else wP d (k+c) r
theorem rI {d k:Nat}{l:List DN}{i:Nat}(hi:i<l.length){o:Option Nat}(ho:vI d l[i]=o):wP d k (l.drop i)=addR d k (l.drop (i+1)) o:=by
 subst ho;rw [qa hi,wP];cases vI d l[i] <;> rfl
theorem tW (n:Nat):∀ (d:Nat) (P:Nat→Prop) (t:DN) (v:Value) (w:World),d+n=17→RD w P t v→(∀ q,P q→q<w.heap.size) →
   Calls Tryz.prog 176 #[v,.int .i64 (d:Int)] w fun e w'=>e=.returned (.int .i64 (zA9 (vI d t)))∧Below w.heap.size w w':=by
 induction n with
 | zero =>
   intro d P t v w hd h hP;obtain rfl:d=17:=by omega
   obtain ⟨tag,bs,kids⟩:=t;obtain ⟨A,c,Ak,ck,cs,rfl,-⟩:=h.open_;have HR:=zF (show vI 17 (.mk tag bs kids)=none by rw [vI,qK (by omega)]);have HB:=zF ((zO w.heap.size w).alloc (zH _) (.cells #[.int .i64 (tag:Int),.slice A bs.length c,.slice Ak kids.length ck] 80));have h17:((17:Nat):Int)=17:=rfl;rw [h17];clear h17 hP hd;go_enter Tryz.func176,Tryz.ntmps176;go_wp2;go_ret;exact ⟨by rw [HR.out];rfl,HB.out⟩
 | succ n ih =>
   intro d P t v w hd h hP;obtain ⟨tag,bs,kids⟩:=t;obtain ⟨A,c,Ak,ck,cs,rfl,hb,h48,hk,hds⟩:=h.open_;obtain ⟨R,hR⟩:=eV (vI d (.mk tag bs kids));rw [hR];rw [vI,qA (show ¬ 16<d by omega)] at hR;have hE:=(zO w.heap.size w).alloc (zH _) (.cells #[.int .i64 (tag:Int),.slice A bs.length c,.slice Ak kids.length ck] 80);have hn:=zP w (.cells #[.int .i64 (tag:Int),.slice A bs.length c,.slice Ak kids.length ck] 80);have hz:(w.alloc (.cells #[.int .i64 (tag:Int),.slice A bs.length c,.slice Ak kids.length ck] 80)).heap.size=w.heap.size+1:=by simp
   have Hb:=zF (hb.below hE hP);have Hk:=zF (hk.below hE hP);have Hds:=zF (wZ (fun p hp=>hE.cell (hP _ hp)) hds);have HE:=zF hE;have Hn:=zF hn;have Hz:=zF hz;have HP:=zF hP;obtain ⟨s,hs⟩:=eV w.heap.size;have Hs:=zF hs;rw [hs] at HE Hn Hz HP;have hd16:¬ (16:Int)<(d:Int):=by omega
   have H48:=zF h48;have Hd:=zF (show d+1+n=17 by omega);obtain ⟨hlc,hlc2,hlb⟩:=hb.cap;have hkl:=hk.1;have hkc:ck≤9223372036854775807:=hk.2.1;clear hE hn hz hb hk hds hP h h48 hs hd;by_cases ht:tag=48;rotate_left
   · rw [qK ht] at hR;have ht':((tag:Int)==48)=false:=beq_eq_false_iff_ne.2 (by omega);by_cases hk0:kids=[]
     rotate_left
     · have hR2:R=none:=by rw [←hR,qK (.inl hk0)]
       subst hR2;have hk1':=List.length_pos_iff.2 hk0;obtain ⟨m,hm⟩:=eV kids.length;rw [hm] at hk1' Hn HE;rw [hm];have hk1:(0:Int)<(m:Int):=by omega
       clear hk0 hR Hk Hds Hb Hz hkl hm ih;go_enter Tryz.func176,Tryz.ntmps176;go_wp2;go_ret;exact ⟨rfl,by rw [Hs.out];exact HE.out⟩
     · subst hk0;have HC:=ov P A c tag bs _ Hb.out;obtain ⟨pb,hpb⟩:=eV (jh tag bs);rw [hpb] at HC hR;have HCo:=zF HC;have HRR:=zF hR;clear HC hpb hR;go_enter Tryz.func176,Tryz.ntmps176;go_wp2_with fail;refine HCo.out.mono ?_;rintro e w1 ⟨rfl,d1,rfl⟩;have HE2:=zF (qR HE.out d1);cases pb
       · have hR2:R=none:=by rw [←HRR.out,qK (.inr rfl)]
         subst hR2;go_wp2;go_ret;exact ⟨rfl,by rw [Hs.out];exact HE2.out⟩
       · have hR2:R=some 1:=by rw [←HRR.out,qA (by simp)]
         subst hR2;go_wp2;go_ret;exact ⟨rfl,by rw [Hs.out];exact HE2.out⟩
   subst ht;rw [qA (by omega)] at hR;obtain ⟨rfl,rfl⟩:=H48.out rfl;by_cases hb0:bs=[]
   rotate_left
   · have hR2:R=none:=by rw [←hR,qK hb0]
     subst hR2;have hb1':=List.length_pos_iff.2 hb0;obtain ⟨m,hm⟩:=eV bs.length;rw [hm] at hb1' Hn HE;rw [hm];have hb1:(0:Int)<(m:Int):=by omega
     clear Hk Hds Hb Hz hm ih hlc hlb hlc2 H48;have c48:((48:Nat):Int)=48:=rfl;rw [c48] at Hn HE ⊢;clear hb0 hR c48;go_enter Tryz.func176,Tryz.ntmps176;go_wp2;go_ret;refine ⟨rfl,?_⟩;rw [Hs.out];exact HE.out
   subst hb0;rw [qA (by simp)] at hR;have HRR:=zF hR;have c48:((48:Nat):Int)=48:=rfl;have l0:([]:List Nat).length=0:=rfl;rw [c48,l0] at Hn HE Hb Hk Hds Hz;rw [c48,l0];clear hR c48 l0 hlc hlc2 hlb H48 Hb;go_enter Tryz.func176,Tryz.ntmps176;go_wp2;rw [Hs.out];generalize w.alloc (.cells #[.int .i64 48,.slice none 0 0,.slice Ak kids.length ck] 80)=W0 at *;go_loopw [5,6] (fun v i wr=>∃ (k j:Nat),j≤kids.length∧i=.int .i64 (j:Int)∧v=.int .i64 (k:Int)∧k≤1024∧wP (d+1) k (kids.drop j)=R∧Below (s+1) W0 wr) (fun _ i _=>kids.length - (intOf i).toNat);case atStart=>exact ⟨1,0,by omega,rfl,rfl,by omega,HRR.out,zO _ _⟩
   case round =>
     obtain ⟨k,j,hj,rfl,rfl,hk1,hR,hB⟩:=hrel;have HB:=zF hB;have hbx:=(hB.block s (by omega)).trans Hn.out;have hsz:=zQ (x9 Hz.out.symm) hB.size;have Hsz:=zF hsz;have m2:=zJ hbx 2;simp only [zK,zL,zS] at m2;clear hbx hB hsz;by_cases hlt:j<kids.length
     · obtain ⟨ad,x,B1,n1,d1,B2,n2,d2,rfl,x0,x1,x2,hrd⟩:=bI (RS.below Hk.out HB.out (fun q hq=>by have:=HP.out q hq;omega)) (wZ (fun p hp=>HB.out.cell (by have:=HP.out _ hp;omega)) Hds.out) hlt;have q1:(j:Int)<(kids.length:Int):=by omega
       obtain ⟨o,ho⟩:=eV (vI (d+1) kids[j]);have hst:=rI (k:=k) hlt ho;rw [hst] at hR;have HRR:=zF hR;have IH:=ih (d+1) P kids[j] _ wr Hd.out hrd (fun q hq=>by have:=HP.out q hq;have:=Hsz.out;omega);rw [ho] at IH;have Ho:=zF ho;have hd1:((d+1:Nat):Int)=(d:Int)+1:=by omega
       rw [hd1] at IH;have HIH:=zF IH;have hw1:IntKind.i64.wrap ((d:Int)+1)=(d:Int)+1:=by have:=Hd.out;rw [jJ];omega
       clear hR hst ho IH hrd hd1;go_wp2_with fail;refine HIH.out.mono ?_;rintro e w1 ⟨rfl,hB1⟩;have HB1:=zF (HB.out.trans (hB1.mono Hsz.out));have hbx:=(HB1.out.block s (by omega)).trans Hn.out;have m2':=zJ hbx 2;simp only [zK,zL,zS] at m2';clear hB1 x0 x1 x2 m2 hbx HIH;cases o with
       | none =>
         have hR2:R=none:=HRR.out.symm;subst hR2;have hm1:zA9 none=-1:=rfl;rw [hm1];clear hm1;go_wp2;go_ret;exact ⟨rfl,by rw [Hs.out];exact HE.out.trans (HB1.out.mono (by omega))⟩
       | some cc =>
         have hm1:zA9 (some cc)=(cc:Int):=rfl;rw [hm1];have hc1:¬ (cc:Int)<0:=by omega
         have hw2:IntKind.i64.wrap ((k:Int)+(cc:Int))=((k+cc:Nat):Int):=by have:=sG Ho.out;rw [jJ];omega
         have hRR:(if 1024<k+cc then none else wP (d+1) (k+cc) (kids.drop (j+1)))=R:=HRR.out;obtain ⟨kc,hkc'⟩:=eV (k+cc);rw [hkc'] at hw2 hRR;clear hm1 hkc' HRR;by_cases hb:1024<kc
         · rw [qK hb] at hRR;subst hRR;have hb':(1024:Int)<(kc:Int):=by omega
           go_wp2;go_ret;exact ⟨rfl,by rw [Hs.out];exact HE.out.trans (HB1.out.mono (by omega))⟩
         · rw [qA hb] at hRR;have HRR2:=zF hRR;have hb':¬ (1024:Int)<(kc:Int):=by omega
           clear hRR;go_wp2;go_roundw;case rel=>exact ⟨kc,j+1,by omega,by go_num,rfl,by omega,HRR2.out,HB1.out⟩
           case measure=>simp [intOf];omega
     · obtain rfl:j=kids.length:=by omega
       rw [yG (zH _),wP] at hR;subst hR;have q1:¬ (kids.length:Int)<(kids.length:Int):=by omega
       go_wp2;go_ret;exact ⟨rfl,by rw [Hs.out];exact HE.out.trans (HB.out.mono (by omega))⟩
def up8:Nat→Nat→List Nat→List Nat
 | 0,_,out=>out
 | f+1,n,out=>if n=0 then out else up8 f (n / 256) (n % 256 :: out)
def beB (n:Nat):List Nat:=up8 9 n []
def aC (n:Nat):List Nat:=if n<128 then [n] else (128+(beB n).length) :: beB n
def hdB (tag:Nat) (b:List Nat):List Nat:=tag % 256 :: (aC b.length++b)
mutual
def enc:DN→List Nat
 | .mk tag bs kids=>hdB tag (if tag=48 then ke kids else bs)
def ke:List DN→List Nat
 | []=>[]
 | k :: ks=>enc k++ke ks
end
theorem gV:∀ (a b:List DN),ke (a++b)=ke a++ke b
 | [],b=>by rw [kI,ke];rfl
 | k :: a,b=>by rw [kN,ke,ke,gV a b,kT]
theorem dI {l:List DN}{i:Nat}(h:i<l.length):ke (l.take (i+1))=ke (l.take i)++enc l[i]:=by
 rw [wl h,gV,ke,ke,List.append_nil]
theorem mj {l:List DN}(i:Nat):(ke (l.take i)).length≤(ke l).length:=by
 conv=>rhs;rw [←List.take_append_drop i l,gV,zt]
 omega
theorem oR {tag:Nat}{bs:List Nat}{kids:List DN}{x:DN}(h:x∈kids):SizeOf.sizeOf x<SizeOf.sizeOf (DN.mk tag bs kids):=by
 have:=List.sizeOf_lt_of_mem h;simp only [DN.mk.sizeOf_spec];omega
theorem mv {w:World}{g b:Nat}{c:Nat}{base:Nat}(h:OW w base (some ⟨g,0,none⟩) c [b]):g<w.heap.size:=(pc h.1 (q:=g) rfl).2
theorem fo (tag:Nat) (b:List Nat):b.length≤(hdB tag b).length:=by simp [hdB];omega
section
variable {w:World} {ops:Array Oper} {rest:List Oper} {o:Oper} {a:Act} {Q:Exit→Act→World→Prop}
theorem zBF (hgd:o.guard=none) (s x:Operand) (ho:o.op=.call { callee:=.builtin .append,args:=#[s,x],argTypes:=#[34,34] }) (base:Nat){A Au:Option Addr}{c cu:Nat}{bs cs:List Nat}{B:Nat→Prop}
 (hs:a.eval s=.slice A bs.length c) (hown:OW w base A c bs) (hx:a.eval x=.slice Au cs.length cu) (hr:RB w B Au cu cs) (hl:bs.length+cs.length≤100000000) (hbase:base≤w.heap.size)
 (h:∀ A' c' w',OW w' base A' c' (bs++cs)→w.grownBy w' (Value.slice A bs.length c).ownBlock→wpList Tryz.prog ops Q rest (a.put o.dst (.slice A' (bs++cs).length c')) w'):wpList Tryz.prog ops Q (o :: rest) a w:=by
 obtain ⟨i0,hi,hz0,hz1,hz2⟩:=wM au
 refine jG w hgd s x 34 ho base 5 i0 (.int .u8 0) 1 1 Tryz.underlying34 hi hz0 hz1 hz2 rfl (by decide) _ bs.length (bys bs) hs hown.1 B Au cs.length cu (bys cs) hx hr.1 (by intro u hu;obtain ⟨b,_,rfl⟩:=List.mem_map.1 hu;rfl) (bs.length+cs.length) rfl (by unfold maxLen;omega) (by omega) hbase ?_
 intro A' c' w' h1 h2 h3
 have hlen:(bs++cs).length=bs.length+cs.length:=zt
 refine (hlen▸h A' c' w' ⟨?_,?_⟩ h2:_)
 · rw [hlen,show bys (bs++cs)=bys bs++bys cs by simp [bys]];exact h1
 · intro b hb;rcases List.mem_append.1 hb with hb | hb
   · exact hown.2 b hb
   · exact hr.2.1 b hb
end
theorem zBa (n:Nat):∀ (P:Nat→Prop) (t:DN) (v:Value) (w:World),SizeOf.sizeOf t≤n→(enc t).length≤10000000→RD w P t v→(∀ q,P q→q<w.heap.size) →
   Calls Tryz.prog 147 #[v] w fun e w'=>(∃ A1 c1,e=.returned (.slice A1 (enc t).length c1)∧OW w' w.heap.size A1 c1 (enc t))∧Below w.heap.size w w':=by
 induction n with
 | zero =>
   intro P t v w hd h hP;obtain ⟨tag,bs,kids⟩:=t;simp at hd
 | succ n ih =>
   intro P t v w hd hl h hP;obtain ⟨tag,bs,kids⟩:=t;obtain ⟨A,c,Ak,ck,cs,rfl,hb,h48,hk,hds⟩:=h.open_;obtain ⟨T,hT⟩:=eV (enc (.mk tag bs kids));rw [hT] at hl ⊢;rw [enc] at hT;have hE:=(zO w.heap.size w).alloc (zH _) (.cells #[.int .i64 (tag:Int),.slice A bs.length c,.slice Ak kids.length ck] 80);have hn:=zP w (.cells #[.int .i64 (tag:Int),.slice A bs.length c,.slice Ak kids.length ck] 80);have hz:(w.alloc (.cells #[.int .i64 (tag:Int),.slice A bs.length c,.slice Ak kids.length ck] 80)).heap.size=w.heap.size+1:=by simp
   have Hb:=zF (hb.below hE hP);have Hk:=zF (hk.below hE hP);have Hds:=zF (wZ (fun p hp=>hE.cell (hP _ hp)) hds);have HE:=zF hE;have Hn:=zF hn;have Hz:=zF hz;have HP:=zF hP;obtain ⟨s,hs⟩:=eV w.heap.size;have Hs:=zF hs;rw [hs] at HE Hn Hz HP;have H48:=zF h48;have Hd:=zF hd;obtain ⟨hlc,hlc2,hlb⟩:=hb.cap;have hkl:=hk.1;have hkc:ck≤9223372036854775807:=hk.2.1;clear hE hn hz hb hk hds hP h h48 hs hd;by_cases ht:tag=48;rotate_left
   · rw [qA ht] at hT;have ht':((tag:Int)==48)=false:=beq_eq_false_iff_ne.2 (by omega);obtain ⟨b0,hb0,he0⟩:∃ b0:Nat,b0<256∧(tag:Int) % 256=(b0:Int):=⟨tag % 256,by omega,by omega⟩
     have Hb0:=zF (show tag % 256=b0 by omega);have HT:=zF hT.symm;have HBl:Hid (bs.length≤10000000):=zF (by have:=fo tag bs;rw [hT] at this;omega);clear hT ht H48 hl;go_enter Tryz.func147,Tryz.ntmps147;go_upto_region 9 with fail;rw [Hs.out];generalize w.alloc (.cells #[.int .i64 (tag:Int),.slice A bs.length c,.slice Ak kids.length ck] 80)=W at *;have m0:=zJ Hn.out 0;simp only [zK,zL,zS] at m0;have HPb:Hid (∀ q,P q→q<W.heap.size):=zF (fun q hq=>by have:=HP.out q hq;have:=Hz.out;omega);have HsW:=zF (show s≤W.heap.size by have:=Hz.out;omega);have HEW:=HE;have HRB:=Hb;obtain ⟨B,hB⟩:=eV bs;rw [hB] at HRB HBl HT;rw [hB];clear hB;clear ih hlb;obtain ⟨N,hN⟩:=eV B.length;have HNl:=zF hN;have HN7:=zF (show N≤10000000 by rw [←hN];exact HBl.out);rw [hN];clear hN;have hO1:OW (W.alloc (.cells #[.int .u8 (b0:Int)] 5)) W.heap.size (some ⟨W.heap.size,0,none⟩) 1 [b0]:=OW.lit W b0 hb0;have HO1:=zF hO1;obtain ⟨W1,hW1⟩:=eV (W.alloc (.cells #[.int .u8 (b0:Int)] 5));rw [hW1] at HO1;have HB1:Hid (Below W.heap.size W W1):=zF (by rw [←hW1];exact (zO _ W).alloc (zH _) _);have HW1:=zF hW1;clear hO1 hW1;by_cases h128:N<128
     · have h128':(N:Int)<128:=by omega
       have hN2:(N:Int) % 256=(N:Int):=by omega
       have hO2:=OW.lit W1 N (by omega);have HO2:=zF ((hO2.rb (by simp)).below (zO _ _) (fun q hq=>hq.2));have HO3:=zF (xh HO1.out ((zO W1.heap.size W1).alloc (zH _) (.cells #[.int .u8 (N:Int)] 5)));have HB2:=zF (HB1.out.trans ((zO W.heap.size W1).alloc HB1.out.size (.cells #[.int .u8 (N:Int)] 5)));have HT2:=zF (show T=([b0]++[N])++B by rw [HT.out];unfold hdB aC;rw [HNl.out,qK h128,Hb0.out];rfl);clear hO2 h128;go_upto_region 11 with fail;rw [HW1.out];clear HW1;go_wp2_with (at_builtin;refine yr rfl (.tmp 37) (.tmp 41) rfl W.heap.size (bs:=[b0]) (cs:=[N]) rfl HO3.out rfl HO2.out (by simp) HB2.out.size ?_);intro A2 c2 w3 hw3 hb3;have HW3:=zF hw3;have HB3:=zF (HB2.out.trans hb3);clear hw3 hb3;go_wp2_with (at_builtin;refine yr rfl (.tmp 65) (.tmp 66) rfl W.heap.size (bs:=[b0]++[N]) (cs:=B) rfl HW3.out (by rw [HNl.out];rfl) (HRB.out.below HB3.out HPb.out) (by rw [HNl.out];have:=HN7.out;simp;omega) HB3.out.size ?_);intro A4 c4 w4 hw4 hb4;have HW4:=zF hw4;have HB4:=zF (HEW.out.trans ((HB3.out.trans hb4).mono HsW.out));clear hw4 hb4;go_wp2;go_ret;exact ⟨⟨A4,c4,(by rw [HT2.out];first | rfl | simp),by rw [HT2.out];exact kw HW4.out (by have:=HsW.out;have:=Hs.out;omega)⟩,by rw [Hs.out];exact HB4.out⟩
     have h128':¬ (N:Int)<128:=by omega
     go_upto_region 12 with fail;rw [HW1.out];clear HW1;have hgo:=HB1.out.size;go_wp2;go_loopw [7,8] (fun v i wr=>∃ (x:Nat) (A:Option Addr) (c:Nat) (bs:List Nat),i=.int .i64 (x:Int)∧v=.slice A bs.length c∧OW wr W1.heap.size A c bs∧bs.length≤9∧x<256 ^ (9 - bs.length)∧x≤N∧up8 (9 - bs.length) x bs=up8 9 N []∧Below W1.heap.size W1 wr) (fun _ i _=>(intOf i).toNat);case atStart=>exact ⟨N,none,0,[],rfl,rfl,⟨kr _ _ _ _,by simp⟩,by simp,by have:=HN7.out;simp;omega,zH _,rfl,zO _ _⟩
     case round =>
       obtain ⟨x,A,c,bs,rfl,rfl,hO,hl9,hx,hxN,hup,hB⟩:=hrel;have HUp:=zF hup;have HO:=zF hO;have HB:=zF hB;have hs:=hB.size;clear hup hO hB;by_cases hx0:0<x
       · have hl8:bs.length≤8:=by
           rcases zz 8 bs.length with h | h
           · have:bs.length=9:=by omega
             rw [this] at hx;simp at hx;omega
           · exact h
         have HX:=zF (show x / 256<256 ^ (9 - (bs.length+1)) by
           rw [show 9 - bs.length=9 - (bs.length+1)+1 by omega,zu] at hx
           exact qV (by rw [zj];exact hx))
         obtain ⟨y,hy,hye⟩:∃ y:Nat,y<256∧(x:Int) % 256=(y:Int):=⟨x % 256,by omega,by omega⟩
         have HUp2:=zF (show up8 (9 - (bs.length+1)) (x / 256) (y :: bs)=up8 9 N [] by rw [show y=x % 256 by omega,←HUp.out,show 9 - bs.length=9 - (bs.length+1)+1 by omega,up8,qA (by omega)]);have HL:=zF (OW.lit wr y hy);have HR:=zF ((HO.out.rb (by omega)).below ((zO _ wr).alloc (zH _) (.cells #[.int .u8 (y:Int)] 5)) fun q hq=>hq.2);have hi:(0:Int)<(x:Int):=by omega
         have HN8:=zF (show x / 256≤N by omega);have Hw2:=zF (show wrap64 ((x:Int) / 256)=(x:Int) / 256 by have:=HN7.out;rw [←IntWalk.i64_left,jJ];omega);clear hx hxN;go_wp2_with (at_builtin;refine yr rfl (.tmp 52) (.tmp 53) rfl wr.heap.size (bs:=[y]) (cs:=bs) rfl HL.out rfl HR.out (by simp;omega) (by simp) ?_);intro A2 c2 w2 hw2 hb2;have HB2:=zF ((HB.out.alloc hs (.cells #[.int .u8 (y:Int)] 5)).trans (hb2.mono hs));have HW2:=zF hw2;clear hw2 hb2;go_wp2;go_roundw;case rel=>exact ⟨x / 256,A2,c2,y :: bs,by first | (rw [Hw2.out];simp) | simp,rfl,kw HW2.out hs,by simp;omega,by simpa using HX.out,HN8.out,by simpa using HUp2.out,HB2.out⟩
         case measure=>first | (rw [Hw2.out];simp [intOf];omega) | (simp [intOf];omega)
       · obtain rfl:x=0:=by omega
         have hlb:bs=beB N:=by rw [beB,←HUp.out];cases 9 - bs.length <;> simp [up8]
         have HT2:=zF (show T=(([b0]++[128+bs.length])++bs)++B by rw [HT.out];unfold hdB aC;rw [HNl.out,qA h128,Hb0.out,hlb];simp);obtain ⟨L,hL⟩:=eV bs.length;have HL:=zF hL;rw [hL];rw [hL] at hl9 HT2;have hL2:(128+(L:Int)) % 256=((128+L:Nat):Int):=by omega
         have hL3:IntKind.i64.wrap (128+(L:Int))=128+(L:Int):=by rw [jJ];omega
         have hO4:=OW.lit wr (128+L) (by omega);have HO4:=zF ((hO4.rb (by simp)).below (zO _ _) (fun q hq=>hq.2));have HO5:=zF (xh (xh HO1.out HB.out) ((zO wr.heap.size wr).alloc (zH _) (.cells #[.int .u8 ((128+L:Nat):Int)] 5)));have HB5:=zF ((HB1.out.trans (HB.out.mono hgo)).alloc (zQ hgo hs) (.cells #[.int .u8 ((128+L:Nat):Int)] 5));have HRl:=zF ((HO.out.rb (by omega)).below ((zO _ wr).alloc (zH _) (.cells #[.int .u8 ((128+L:Nat):Int)] 5)) fun q hq=>hq.2);clear hlb hL hO4 hx hxN h128;have hW1s:=HB1.out.size;have HW1s:=zF (show W.heap.size<W1.heap.size from mv HO1.out);go_wp2_with (at_builtin;refine zBF rfl (.tmp 55) (.tmp 60) rfl W.heap.size (bs:=[b0]) (cs:=[128+L]) rfl HO5.out rfl HO4.out (by simp) HB5.out.size ?_);intro A2 c2 w3 hw3 hg3;have HW3:=zF hw3;have HB3:=zF (HB5.out.grown hg3 HB5.out.size (by intro k hk;simp [Value.ownBlock] at hk;omega));have HRl3:=zF (HRl.out.keep (w':=w3) fun p hp=>zT (hg3.block _ (by have:=hp.2;simp;omega) (by have:=hp.1;have:=HW1s.out;simp [Value.ownBlock];omega)));clear hw3 hg3;go_wp2_with (at_builtin;refine yr rfl (.tmp 62) (.tmp 63) rfl W.heap.size (bs:=[b0]++[128+L]) (cs:=bs) rfl HW3.out (by rw [HL.out];rfl) HRl3.out (by rw [HL.out];simp;omega) HB3.out.size ?_);intro A5 c5 w5 hw5 hb5;have HW5:=zF hw5;have HB5':=zF (HB3.out.trans hb5);clear hw5 hb5;go_wp2_with (at_builtin;refine yr rfl (.tmp 65) (.tmp 66) rfl W.heap.size (bs:=([b0]++[128+L])++bs) (cs:=B) rfl HW5.out (by rw [HNl.out];rfl) (HRB.out.below HB5'.out HPb.out) (by rw [HNl.out];have:=HN7.out;simp;rw [HL.out];omega) HB5'.out.size ?_);intro A4 c4 w4 hw4 hb4;have HW4:=zF hw4;have HB4:=zF (HEW.out.trans ((HB5'.out.trans hb4).mono HsW.out));clear hw4 hb4;go_wp2;go_ret;exact ⟨⟨A4,c4,(by rw [HT2.out];first | rfl | simp),by rw [HT2.out];exact kw HW4.out (by have:=HsW.out;have:=Hs.out;omega)⟩,by rw [Hs.out];exact HB4.out⟩
   subst ht;rw [qK rfl] at hT;obtain ⟨rfl,rfl⟩:=H48.out rfl;have hbs0:bs=[]:=qC (by omega);subst hbs0;have HT0:=zF hT.symm;have hkl7:(ke kids).length≤10000000:=by have:=fo 48 (ke kids);rw [hT] at this;omega
   have HKl:=zF hkl7;have c48:((48:Nat):Int)=48:=rfl;have l0:([]:List Nat).length=0:=rfl;rw [c48,l0] at Hn HE Hb Hk Hds Hz;rw [c48,l0];clear hT c48 l0 hlc hlc2 hlb H48 Hb hl hkl7;go_enter Tryz.func147,Tryz.ntmps147;go_wp2;rw [Hs.out];generalize w.alloc (.cells #[.int .i64 48,.slice none 0 0,.slice Ak kids.length ck] 80)=W0 at *;go_loopw [3,4] (fun v i wr=>∃ (j:Nat) (A':Option Addr) (c':Nat) (acc:List Nat),j≤kids.length∧i=.int .i64 (j:Int)∧v=.slice A' acc.length c'∧OW wr W0.heap.size A' c' acc∧acc=ke (kids.take j)∧Below (s+1) W0 wr) (fun _ i _=>kids.length - (intOf i).toNat);case atStart=>exact ⟨0,none,0,[],by omega,rfl,rfl,⟨kr _ _ _ _,by simp⟩,by simp [ke],zO _ _⟩
   case round =>
     obtain ⟨j,A',c',acc,hj,rfl,rfl,hO,hacc,hB⟩:=hrel;have HB:=zF hB;have HO:=zF hO;have HAcc:=zF hacc;have hbx:=(hB.block s (by omega)).trans Hn.out;have Hsz:=zF (zQ (x9 Hz.out.symm) hB.size);have m2:=zJ hbx 2;have m0:=zJ hbx 0;simp only [zK,zL,zS] at m2 m0;clear hB hO hacc;by_cases hlt:j<kids.length
     · obtain ⟨ad,x,B1,n1,d1,B2,n2,d2,rfl,x0,x1,x2,hrd⟩:=bI (RS.below Hk.out HB.out (fun q hq=>by have:=HP.out q hq;omega)) (wZ (fun p hp=>HB.out.cell (by have:=HP.out _ hp;omega)) Hds.out) hlt;have q1:(j:Int)<(kids.length:Int):=by omega
       have htk:=dI hlt;have hle:(ke (kids.take (j+1))).length≤(ke kids).length:=mj _;have IH:=ih P kids[j] _ wr (by have:=oR (tag:=48) (bs:=[]) (kM hlt);have:=Hd.out;omega) (by rw [htk,zt] at hle;have:=HKl.out;omega) hrd (fun q hq=>by have:=HP.out q hq;have:=Hsz.out;omega);rw [htk,←HAcc.out] at hle;rw [←HAcc.out] at htk;obtain ⟨wk,hwk⟩:=eV (enc kids[j]);rw [hwk] at IH htk hle;have HIH:=zF IH;have HTk:=zF htk;have HLe:=zF hle;clear IH hrd htk hle hwk hbx m0;go_wp2_with fail;refine HIH.out.mono ?_;rintro e w1 ⟨⟨A5,c5,rfl,hO5⟩,hB1⟩;have HO5:=zF (hO5.rb (by have:=HLe.out;have:=HKl.out;rw [zt] at *;omega));have HO6:=zF (xh HO.out hB1);have HB1:=zF (HB.out.trans (hB1.mono Hsz.out));have HW0:=zF (show W0.heap.size≤w1.heap.size from HB1.out.size);clear hO5 hB1 x0 x1 x2 m2 HIH;go_wp2_with (at_builtin;refine yr rfl (.tmp 27) (.tmp 28) rfl W0.heap.size (bs:=acc) (cs:=wk) rfl HO6.out rfl HO5.out (by have:=HLe.out;have:=HKl.out;rw [zt] at *;omega) HW0.out ?_);intro A6 c6 w6 hw6 hb6;have HW6:=zF hw6;have HB6:=zF (HB1.out.trans (hb6.mono (by have:=Hz.out;omega)));have HT6:=zF (show acc++wk=ke (kids.take (j+1)) by rw [HTk.out]);clear hw6 hb6;go_wp2;go_roundw;case rel=>exact ⟨j+1,A6,c6,acc++wk,by omega,by go_num,by first | rfl | simp,HW6.out,HT6.out,HB6.out⟩
       case measure=>simp [intOf];omega
     · obtain rfl:j=kids.length:=by omega
       have hwk:acc=ke kids:=by rw [HAcc.out,zk (zH _)]
       rw [←hwk] at HT0 HKl;have HT:=HT0;have HBl:=HKl;have HRB:=zF (HO.out.rb (by have:=HKl.out;omega));have HPb:Hid (∀ q,In W0.heap.size wr.heap.size q→q<wr.heap.size):=zF (fun q hq=>hq.2);have HEW:=zF (HE.out.trans (HB.out.mono (by omega)));have HsW:=zF (show s≤wr.heap.size by have:=Hsz.out;omega);clear ih hbx hwk HT0 HKl;obtain ⟨B,hBB⟩:=eV acc;rw [hBB] at HRB HBl HT;rw [hBB];clear hBB HAcc HO;generalize wr=W at *;go_upto_region 9 with fail;obtain ⟨N,hN⟩:=eV B.length;have HNl:=zF hN;have HN7:=zF (show N≤10000000 by rw [←hN];exact HBl.out);rw [hN];clear hN;have hO1:OW (W.alloc (.cells #[.int .u8 48] 5)) W.heap.size (some ⟨W.heap.size,0,none⟩) 1 [48]:=OW.lit W 48 (by omega);have HO1:=zF hO1;obtain ⟨W1,hW1⟩:=eV (W.alloc (.cells #[.int .u8 48] 5));rw [hW1] at HO1;have HB1:Hid (Below W.heap.size W W1):=zF (by rw [←hW1];exact (zO _ W).alloc (zH _) _);have HW1:=zF hW1;clear hO1 hW1;by_cases h128:N<128
       · have h128':(N:Int)<128:=by omega
         have hN2:(N:Int) % 256=(N:Int):=by omega
         have hO2:=OW.lit W1 N (by omega);have HO2:=zF ((hO2.rb (by simp)).below (zO _ _) (fun q hq=>hq.2));have HO3:=zF (xh HO1.out ((zO W1.heap.size W1).alloc (zH _) (.cells #[.int .u8 (N:Int)] 5)));have HB2:=zF (HB1.out.trans ((zO W.heap.size W1).alloc HB1.out.size (.cells #[.int .u8 (N:Int)] 5)));have HT2:=zF (show T=([48]++[N])++B by rw [HT.out];unfold hdB aC;rw [HNl.out,qK h128];rfl);clear hO2 h128;go_upto_region 11 with fail;rw [HW1.out];clear HW1;go_wp2_with (at_builtin;refine yr rfl (.tmp 37) (.tmp 41) rfl W.heap.size (bs:=[48]) (cs:=[N]) rfl HO3.out rfl HO2.out (by simp) HB2.out.size ?_);intro A2 c2 w3 hw3 hb3;have HW3:=zF hw3;have HB3:=zF (HB2.out.trans hb3);clear hw3 hb3;go_wp2_with (at_builtin;refine yr rfl (.tmp 65) (.tmp 66) rfl W.heap.size (bs:=[48]++[N]) (cs:=B) rfl HW3.out (by rw [HNl.out];rfl) (HRB.out.below HB3.out HPb.out) (by rw [HNl.out];have:=HN7.out;simp;omega) HB3.out.size ?_);intro A4 c4 w4 hw4 hb4;have HW4:=zF hw4;have HB4:=zF (HEW.out.trans ((HB3.out.trans hb4).mono HsW.out));clear hw4 hb4;go_wp2;go_ret;exact ⟨⟨A4,c4,(by rw [HT2.out];first | rfl | simp),by rw [HT2.out];exact kw HW4.out (by have:=HsW.out;have:=Hs.out;omega)⟩,by rw [Hs.out];exact HB4.out⟩
       have h128':¬ (N:Int)<128:=by omega
       go_upto_region 12 with fail;rw [HW1.out];clear HW1;have hgo:=HB1.out.size;go_wp2;go_loopw [7,8] (fun v i wr=>∃ (x:Nat) (A:Option Addr) (c:Nat) (bs:List Nat),i=.int .i64 (x:Int)∧v=.slice A bs.length c∧OW wr W1.heap.size A c bs∧bs.length≤9∧x<256 ^ (9 - bs.length)∧x≤N∧up8 (9 - bs.length) x bs=up8 9 N []∧Below W1.heap.size W1 wr) (fun _ i _=>(intOf i).toNat);case atStart=>exact ⟨N,none,0,[],rfl,rfl,⟨kr _ _ _ _,by simp⟩,by simp,by have:=HN7.out;simp;omega,zH _,rfl,zO _ _⟩
       case round =>
         obtain ⟨x,A,c,bs,rfl,rfl,hO,hl9,hx,hxN,hup,hB⟩:=hrel;have HUp:=zF hup;have HO:=zF hO;have HB:=zF hB;have hs:=hB.size;clear hup hO hB;by_cases hx0:0<x
         · have hl8:bs.length≤8:=by
             rcases zz 8 bs.length with h | h
             · have:bs.length=9:=by omega
               rw [this] at hx;simp at hx;omega
             · exact h
           have HX:=zF (show x / 256<256 ^ (9 - (bs.length+1)) by
             rw [show 9 - bs.length=9 - (bs.length+1)+1 by omega,zu] at hx
             exact qV (by rw [zj];exact hx))
           obtain ⟨y,hy,hye⟩:∃ y:Nat,y<256∧(x:Int) % 256=(y:Int):=⟨x % 256,by omega,by omega⟩
           have HUp2:=zF (show up8 (9 - (bs.length+1)) (x / 256) (y :: bs)=up8 9 N [] by rw [show y=x % 256 by omega,←HUp.out,show 9 - bs.length=9 - (bs.length+1)+1 by omega,up8,qA (by omega)]);have HL:=zF (OW.lit wr y hy);have HR:=zF ((HO.out.rb (by omega)).below ((zO _ wr).alloc (zH _) (.cells #[.int .u8 (y:Int)] 5)) fun q hq=>hq.2);have hi:(0:Int)<(x:Int):=by omega
           have HN8:=zF (show x / 256≤N by omega);have Hw2:=zF (show wrap64 ((x:Int) / 256)=(x:Int) / 256 by have:=HN7.out;rw [←IntWalk.i64_left,jJ];omega);clear hx hxN;go_wp2_with (at_builtin;refine yr rfl (.tmp 52) (.tmp 53) rfl wr.heap.size (bs:=[y]) (cs:=bs) rfl HL.out rfl HR.out (by simp;omega) (by simp) ?_);intro A2 c2 w2 hw2 hb2;have HB2:=zF ((HB.out.alloc hs (.cells #[.int .u8 (y:Int)] 5)).trans (hb2.mono hs));have HW2:=zF hw2;clear hw2 hb2;go_wp2;go_roundw;case rel=>exact ⟨x / 256,A2,c2,y :: bs,by first | (rw [Hw2.out];simp) | simp,rfl,kw HW2.out hs,by simp;omega,by simpa using HX.out,HN8.out,by simpa using HUp2.out,HB2.out⟩
           case measure=>first | (rw [Hw2.out];simp [intOf];omega) | (simp [intOf];omega)
         · obtain rfl:x=0:=by omega
           have hlb:bs=beB N:=by rw [beB,←HUp.out];cases 9 - bs.length <;> simp [up8]
           have HT2:=zF (show T=(([48]++[128+bs.length])++bs)++B by rw [HT.out];unfold hdB aC;rw [HNl.out,qA h128,hlb];simp);obtain ⟨L,hL⟩:=eV bs.length;have HL:=zF hL;rw [hL];rw [hL] at hl9 HT2;have hL2:(128+(L:Int)) % 256=((128+L:Nat):Int):=by omega
           have hL3:IntKind.i64.wrap (128+(L:Int))=128+(L:Int):=by rw [jJ];omega
           have hO4:=OW.lit wr (128+L) (by omega);have HO4:=zF ((hO4.rb (by simp)).below (zO _ _) (fun q hq=>hq.2));have HO5:=zF (xh (xh HO1.out HB.out) ((zO wr.heap.size wr).alloc (zH _) (.cells #[.int .u8 ((128+L:Nat):Int)] 5)));have HB5:=zF ((HB1.out.trans (HB.out.mono hgo)).alloc (zQ hgo hs) (.cells #[.int .u8 ((128+L:Nat):Int)] 5));have HRl:=zF ((HO.out.rb (by omega)).below ((zO _ wr).alloc (zH _) (.cells #[.int .u8 ((128+L:Nat):Int)] 5)) fun q hq=>hq.2);clear hlb hL hO4 hx hxN h128;have hW1s:=HB1.out.size;have HW1s:=zF (show W.heap.size<W1.heap.size from mv HO1.out);go_wp2_with (at_builtin;refine zBF rfl (.tmp 55) (.tmp 60) rfl W.heap.size (bs:=[48]) (cs:=[128+L]) rfl HO5.out rfl HO4.out (by simp) HB5.out.size ?_);intro A2 c2 w3 hw3 hg3;have HW3:=zF hw3;have HB3:=zF (HB5.out.grown hg3 HB5.out.size (by intro k hk;simp [Value.ownBlock] at hk;omega));have HRl3:=zF (HRl.out.keep (w':=w3) fun p hp=>zT (hg3.block _ (by have:=hp.2;simp;omega) (by have:=hp.1;have:=HW1s.out;simp [Value.ownBlock];omega)));clear hw3 hg3;go_wp2_with (at_builtin;refine yr rfl (.tmp 62) (.tmp 63) rfl W.heap.size (bs:=[48]++[128+L]) (cs:=bs) rfl HW3.out (by rw [HL.out];rfl) HRl3.out (by rw [HL.out];simp;omega) HB3.out.size ?_);intro A5 c5 w5 hw5 hb5;have HW5:=zF hw5;have HB5':=zF (HB3.out.trans hb5);clear hw5 hb5;go_wp2_with (at_builtin;refine yr rfl (.tmp 65) (.tmp 66) rfl W.heap.size (bs:=([48]++[128+L])++bs) (cs:=B) rfl HW5.out (by rw [HNl.out];rfl) (HRB.out.below HB5'.out HPb.out) (by rw [HNl.out];have:=HN7.out;simp;rw [HL.out];omega) HB5'.out.size ?_);intro A4 c4 w4 hw4 hb4;have HW4:=zF hw4;have HB4:=zF (HEW.out.trans ((HB5'.out.trans hb4).mono HsW.out));clear hw4 hb4;go_wp2;go_ret;exact ⟨⟨A4,c4,(by rw [HT2.out];first | rfl | simp),by rw [HT2.out];exact kw HW4.out (by have:=HsW.out;have:=Hs.out;omega)⟩,by rw [Hs.out];exact HB4.out⟩
def vR (t:DN):Option (List Nat):=if (vI 1 t).isSome=false then none else if 65536<(enc t).length then none else some (enc t)
def WrP (R:Option (List Nat)) (s:Nat) (e:Ending) (w':World):Prop :=
 match R with
 | none=>e=.returned (.tuple #[.slice none 0 0,.bool false])
 | some b=>∃ A c,e=.returned (.tuple #[.slice A b.length c,.bool true])∧OW w' s A c b
theorem tC (P:Nat→Prop) (t:DN) (v:Value) (w:World) (h:RD w P t v) (hP:∀ q,P q→q<w.heap.size) :
   Calls Tryz.prog 135 #[v] w fun e w'=>e=.returned (.bool (vI 1 t).isSome)∧Below w.heap.size w w':=by
 obtain ⟨xi,B1,n1,d1,B2,n2,d2,rfl⟩:=h.shape;have hE:=(zO w.heap.size w).alloc (zH _) (.cells #[.int .i64 xi,.slice B1 n1 d1,.slice B2 n2 d2] 80);have hc:=tW 16 1 P t _ _ (by omega) (h.below hE hP) (fun q hq=>by have:=hP q hq;simp;omega);obtain ⟨R,hR⟩:=eV (vI 1 t);rw [hR] at hc ⊢;have hpos:∀ c,R=some c→1≤c:=fun c h=>zBA (hR.trans h);have HC:=zF hc;have HE:=zF hE;have HPos:=zF hpos;clear hE hc h hR hpos;go_enter Tryz.func135,Tryz.ntmps135;go_wp2_with fail;refine HC.out.mono ?_;rintro e w1 ⟨rfl,hB1⟩;have HB:=zF (HE.out.trans (hB1.mono (by simp)));clear hB1;cases R with
 | none =>
   have hm:zA9 none=-1:=rfl;rw [hm];clear hm;go_wp2;go_ret;exact ⟨rfl,HB.out⟩
 | some c =>
   have hm:zA9 (some c)=(c:Int):=rfl;rw [hm];have h1:(0:Int)<(c:Int):=by have:=HPos.out c rfl;omega
   have h1':0<c:=by have:=HPos.out c rfl;omega
   clear hm;go_wp2;go_ret;exact ⟨rfl,HB.out⟩
theorem nF (P:Nat→Prop) (t:DN) (v:Value) (w:World) (h:RD w P t v) (hP:∀ q,P q→q<w.heap.size) (hl:(enc t).length≤10000000) :
 Calls Tryz.prog 105 #[v] w fun e w'=>WrP (vR t) w.heap.size e w'∧Below w.heap.size w w':=by
 obtain ⟨xi,B1,n1,d1,B2,n2,d2,rfl⟩:=h.shape
 have hE:=(zO w.heap.size w).alloc (zH _) (.cells #[.int .i64 xi,.slice B1 n1 d1,.slice B2 n2 d2] 80)
 have hb:=h.below hE hP
 have hm:=tC P t _ _ hb (fun q hq=>by have:=hP q hq;simp;omega)
 have m0:(w.alloc (.cells #[.int .i64 xi,.slice B1 n1 d1,.slice B2 n2 d2] 80)).cell? ⟨w.heap.size,0,none⟩=some (.int .i64 xi):=by simp [go_sem]
 have m1:(w.alloc (.cells #[.int .i64 xi,.slice B1 n1 d1,.slice B2 n2 d2] 80)).cell? ⟨w.heap.size,1,none⟩=some (.slice B1 n1 d1):=by simp [go_sem]
 have m2:(w.alloc (.cells #[.int .i64 xi,.slice B1 n1 d1,.slice B2 n2 d2] 80)).cell? ⟨w.heap.size,2,none⟩=some (.slice B2 n2 d2):=by simp [go_sem]
 have HM:=zF hm
 have HE:=zF hE
 have HB:=zF hb
 have HP:=zF hP
 have Hz:=zF (show w.heap.size<(w.alloc (.cells #[.int .i64 xi,.slice B1 n1 d1,.slice B2 n2 d2] 80)).heap.size by simp)
 obtain ⟨R,hR⟩:=eV (vR t)
 rw [hR]
 unfold vR at hR
 obtain ⟨p,hp⟩:=eV ((vI 1 t).isSome)
 rw [hp] at hR HM
 have HR:=zF hR.symm
 clear hE hb hm h hP hR hp
 go_enter Tryz.func105,Tryz.ntmps105
 go_wp2_with fail
 generalize w.alloc (.cells #[.int .i64 xi,.slice B1 n1 d1,.slice B2 n2 d2] 80)=W0 at *
 refine HM.out.mono ?_
 rintro e w1 ⟨rfl,hB1⟩
 have n0':=(hB1.cell (p:=⟨w.heap.size,0,none⟩) Hz.out).trans m0
 have n1':=(hB1.cell (p:=⟨w.heap.size,1,none⟩) Hz.out).trans m1
 have n2':=(hB1.cell (p:=⟨w.heap.size,2,none⟩) Hz.out).trans m2
 have hs1:=hB1.size
 have hsE:=HE.out.size
 have HB1:=zF (HE.out.trans (hB1.mono hsE))
 have hp:=zBa (SizeOf.sizeOf t) P t _ w1 (zH _) hl (RD.below HB.out hB1 (fun b hb=>zR (HP.out b hb) hsE)) (fun b hb=>zR (HP.out b hb) (zQ hsE hs1))
 obtain ⟨E,hE⟩:=eV (enc t)
 rw [hE] at hp hl HR
 have HPut:=zF hp
 clear hB1 m0 m1 m2 hp hE
 cases p
 · have hR:R=none:=HR.out.trans (qK rfl);subst hR;go_wp2;go_ret2;exact ⟨rfl,HB1.out⟩
 go_wp2_with fail
 refine HPut.out.mono ?_
 rintro e w2 ⟨⟨A1,c1,rfl,hr1⟩,hB2⟩
 have HR1:=zF hr1
 have HB2:=zF (HB1.out.trans (hB2.mono (zQ hsE hs1)))
 obtain ⟨L,hL⟩:=eV E.length
 have HL:=zF hL
 rw [hL] at hl ⊢
 clear hr1 hB2 hL
 by_cases h6:65536<L
 · have hR:R=none:=HR.out.trans ((qA (by simp)).trans (qK (by rw [HL.out];exact h6)));subst hR;have h6':(65536:Int)<(L:Int):=by omega
   go_wp2;go_ret2;exact ⟨rfl,HB2.out⟩
 · have hR:R=some E:=HR.out.trans ((qA (by simp)).trans (qA (by rw [HL.out];exact h6)));subst hR;have h6':¬ (65536:Int)<(L:Int):=by omega
   go_wp2;go_ret2;exact ⟨⟨A1,c1,(by rw [HL.out];rfl),kw HR1.out (zQ hsE hs1)⟩,HB2.out⟩
theorem uA (P:Nat→Prop) (t:DN) (v:Value) (w:World) (h:RD w P t v) (hP:∀ q,P q→q<w.heap.size) (hl:(enc t).length≤10000000) :
   Calls Tryz.prog 52 #[v] w fun e w'=>WrP (vR t) w.heap.size e w'∧Below w.heap.size w w':=by
 obtain ⟨xi,B1,n1,d1,B2,n2,d2,rfl⟩:=h.shape;have hE:=(zO w.heap.size w).alloc (zH _) (.cells #[.int .i64 xi,.slice B1 n1 d1,.slice B2 n2 d2] 80);have hm:=nF P t _ _ (h.below hE hP) (fun b hb=>by have:=hP b hb;simp;omega) hl;obtain ⟨R,hR⟩:=eV (vR t);rw [hR] at hm ⊢;have HM:=zF hm;have HE:=zF hE;clear hE hm h hP hR;go_enter Tryz.func52,Tryz.ntmps52;go_wp2_with fail;refine HM.out.mono ?_;rintro e w1 ⟨hW,hB1⟩;have HB1:=zF (HE.out.trans (hB1.mono (by simp)));clear hB1;cases R with
 | none =>
   unfold WrP at hW;subst hW;go_wp2;go_ret2;exact ⟨rfl,HB1.out⟩
 | some b =>
   obtain ⟨A1,c1,rfl,hr1⟩:=hW;have HR1:=zF hr1;clear hr1;go_wp2;go_ret2;exact ⟨⟨A1,c1,rfl,kw HR1.out (by simp)⟩,HB1.out⟩
end Go.Proofs.YtmlbicgpehchhaaGreat.Der
namespace Go.Proofs.YtmlbicgpehchhaaGreat.Der
mutual
def uL:Nat→Nat→DN→Option Nat
 | d,left,.mk tag bs kids=>if left=0∨d=0 then none else if tag≠48 then (if kids≠[]∨jh tag bs=false then none else some (left - 1)) else if bs≠[] then none else xk (d - 1) (left - 1) kids
def xk:Nat→Nat→List DN→Option Nat
  | _,left,[]=>some left
  | d, left, x :: r => match uL d left x with
    | none=>none
    | some l=>xk d l r
end
def bF (left:Nat):Option Nat→Option Nat
 | none=>none
 | some c=>if c≤left then some (left - c) else none
mutual
theorem sA:∀ {d d' left:Nat}{t:DN},d'+d=17→left≤1024→uL d left t=bF left (vI d' t)
 | d, d', left, .mk tag bs kids, hd, hl => by
   rw [uL,vI];by_cases h0:d=0
   · rw [qK (.inr h0),qK (by omega)];rfl
   rw [qA (show ¬ 16<d' by omega)];by_cases h1:left=0
   · rw [qK (.inl h1)];subst h1;split
     · split
       · rfl
       · rfl
     split
     · rfl
     cases hc:wP (d'+1) 1 kids with
     | none=>rfl
     | some c=>have:=gm hc;simp only [bF];rw [qA (by omega)]
   rw [qA (by omega)];split
   · split
     · rfl
     · simp only [bF];rw [qK (by omega)]
   split
   · rfl
   exact oJ (by omega) hl (by omega)
theorem oJ:∀ {d d' left k L:Nat}{l:List DN},d'+d=17→L≤1024→left+k=L→xk d left l=bF L (wP d' k l)
 | d, d', left, k, L, [], hd, hL, hk => by
   rw [xk,wP];simp only [bF];rw [qK (by omega)];congr 1;omega
 | d, d', left, k, L, x :: r, hd, hL, hk => by
   rw [xk,wP,sA hd (by omega)];cases hc:vI d' x with
   | none=>rfl
   | some c =>
     simp only [bF];by_cases h:c≤left
     · rw [qK h,qA (show ¬ 1024<k+c by omega)];exact oJ hd hL (by omega)
     · rw [qA h];by_cases h2:1024<k+c
       · rw [qK h2]
       · rw [qA h2];cases hc2:wP d' (k+c) r with
         | none=>rfl
         | some c2=>have:=gm hc2;simp only [];rw [qA (by omega)]
end
mutual
theorem oK:∀ {d left l:Nat}{t:DN},uL d left t=some l→left≤1024→l≤1024
 | d, left, l, .mk tag bs kids, h, hl => by
   rw [uL] at h;split at h
   · cases h
   split at h
   · split at h
     · cases h
     · cases h;omega
   split at h
   · cases h
   exact ac h (by omega)
theorem ac:∀ {d left l:Nat}{r:List DN},xk d left r=some l→left≤1024→l≤1024
 | d,left,l,[],h,hl=>by rw [xk] at h;cases h;exact hl
 | d, left, l, x :: r, h, hl => by
   rw [xk] at h;cases hx:uL d left x with
   | none=>rw [hx] at h;cases h
   | some l1=>rw [hx] at h;exact ac h (oK hx hl)
end
theorem zAh (t:DN):(uL 16 1024 t).isSome=(vI 1 t).isSome:=by
 rw [sA (d':=1) (by omega) (by omega)];cases h:vI 1 t with
 | none=>rfl
 | some c=>have:=sG h;simp only [bF];rw [qK this];rfl
theorem tA {n:Nat}(h:256≤n):zo n=zo (n / 256)+8:=by
 obtain ⟨h1,h2,h3⟩:=kC (x:=n) (by omega);have h9:9≤zo n:=by
  rcases zz (zo n) 9 with hh | hh
  · have:n<2 ^ 8:=jw (by omega);omega
  · exact hh
 obtain ⟨k,hk⟩:∃ k,zo n=k+9:=⟨zo n - 9,by omega⟩
 rw [hk] at h1 h2 ⊢;have e:zo (n / 256)=k+1:=by
  refine oH ?_ ?_
  · rw [Nat.le_div_iff_mul_le (by omega),show (256:Nat)=2 ^ 8 from rfl,←qI];exact h1
  · rw [Nat.div_lt_iff_lt_mul (by omega),show (256:Nat)=2 ^ 8 from rfl,←qI];exact h2
 omega
theorem mu (n k:Nat):bytesOf n (k+1)=bytesOf (n / 256) k++[n % 256]:=by
 unfold bytesOf;rw [List.range_succ,List.map_append,wI,wm];congr 1
 · refine List.map_congr_left fun i hi=>?_;have:=List.mem_range.1 hi;rw [show k+1 - 1 - i=k - 1 - i+1 by omega,zr,kL,qI,←jd]
 · simp
theorem aI:∀ {f n:Nat}{out:List Nat},n<256 ^ f→up8 f n out=bytesOf n ((zo n+7) / 8)++out
 | 0, n, out, h => by
   obtain rfl:n=0:=by simpa using h
   rfl
 | f + 1, n, out, h => by
   rw [up8];by_cases h0:n=0
   · subst h0;rfl
   rw [qA h0,aI (by rw [zu] at h;exact qV (by rw [zj];exact h))];have e:(zo n+7) / 8=(zo (n / 256)+7) / 8+1:=by
     by_cases h1:256≤n
     · rw [tA h1];omega
     · have:zo n≤8:=kh (by omega);have:=(kC h0).2.2;rw [show n / 256=0 by omega,ka];omega
   rw [e,mu,kT];rfl
theorem tY {n:Nat}(h:n<4294967296):beB n=bytesOf n ((zo n+7) / 8):=by
 rw [beB,aI (by omega),List.append_nil]
end Go.Proofs.YtmlbicgpehchhaaGreat.Der
namespace Go.Proofs.YtmlbicgpehchhaaGreat.Der
open Go.RowKit Go.Shelf
attribute [local go_sem] Oper.semAt_some
theorem tJ {tag N b0:Nat}{B:List Nat}(hN:B.length=N) (h:N<128) (hb:tag % 256=b0):hdB tag B=([b0]++[N])++B:=by unfold hdB aC;rw [hN,qK h,hb];rfl
theorem tK {tag N b0 k:Nat}{B:List Nat}(hN:B.length=N) (h:¬ N<128) (h2:N<4294967296) (hb:tag % 256=b0) (hk:(zo N+7) / 8=k):hdB tag B=(([b0]++[128+k])++bytesOf N k)++B:=by
 unfold hdB aC;rw [hN,qA h,hb,tY h2,hk,jp];simp
theorem bL (tag:Nat) (P:Nat→Prop) (A:Option Addr) (c:Nat) (B:List Nat) (w:World) (h:RB w P A c B) (hP:∀ q,P q→q<w.heap.size) (hl:B.length≤1000000) :
 Calls Tryz.prog 174 #[.int .i64 (tag:Int),.slice A B.length c] w fun e w'=>(∃ A1 c1,e=.returned (.slice A1 (hdB tag B).length c1)∧OW w' w.heap.size A1 c1 (hdB tag B))∧Below w.heap.size w w':=by
 obtain ⟨T,hT⟩:=eV (hdB tag B)
 rw [hT]
 obtain ⟨hlc,hlc2,hlb⟩:=h.cap
 obtain ⟨b0,hb0,he0⟩:∃ b0:Nat,b0<256∧(tag:Int) % 256=(b0:Int):=⟨tag % 256,by omega,by omega⟩
 have hb1:tag % 256=b0:=by omega
 have HRB:=zF (fun X (hX:Below w.heap.size w X)=>(show RB X P A c B from h.below hX hP))
 have HP:=zF hP
 obtain ⟨N,hN⟩:=eV B.length
 rw [hN] at hl hlc
 have HN:=zF hN
 have HNl:=zF hl
 have hO1:OW (w.alloc (.cells #[.int .u8 (b0:Int)] 5)) w.heap.size (some ⟨w.heap.size,0,none⟩) 1 [b0]:=OW.lit w b0 hb0
 obtain ⟨W1,hW1⟩:=eV (w.alloc (.cells #[.int .u8 (b0:Int)] 5))
 rw [hW1] at hO1
 have HO1:=zF hO1
 have HB1:Hid (Below w.heap.size w W1):=zF (by rw [←hW1];exact (zO _ w).alloc (zH _) _)
 have HW1:=zF hW1
 rw [hN]
 by_cases h128:N<128
 · have HT2:=zF (show T=([b0]++[N])++B from hT.symm.trans (tJ hN h128 hb1));have h128':(N:Int)<128:=by omega
   have hN2:(N:Int) % 256=(N:Int):=by omega
   have hO2:=OW.lit W1 N (by omega);have HO2:=zF ((hO2.rb (by simp)).below (zO _ _) (fun q hq=>hq.2));have HO3:=zF (xh HO1.out ((zO W1.heap.size W1).alloc (zH _) (.cells #[.int .u8 (N:Int)] 5)));have HB2:=zF (HB1.out.trans ((zO w.heap.size W1).alloc HB1.out.size (.cells #[.int .u8 (N:Int)] 5)));clear hO2 h128 hO1 hW1 hT hN hb1 h hP hl hlb hlc2 hlc;go_enter Tryz.func174,Tryz.ntmps174;go_upto_region 4 with fail;rw [HW1.out];clear HW1;go_wp2_with (at_builtin;refine yr rfl (.tmp 16) (.tmp 19) rfl w.heap.size (bs:=[b0]) (cs:=[N]) rfl HO3.out rfl HO2.out (by simp) HB2.out.size ?_);intro A2 c2 w3 hw3 hb3;have HW3:=zF hw3;have HB3:=zF (HB2.out.trans hb3);clear hw3 hb3;go_wp2_with (at_builtin;refine yr rfl (.tmp 43) (.tmp 44) rfl w.heap.size (bs:=[b0]++[N]) (cs:=B) rfl HW3.out (by rw [HN.out];rfl) ((HRB.out _ HB3.out).below (zO _ _) (fun q hq=>zR (HP.out q hq) HB3.out.size)) (by rw [HN.out];have:=HNl.out;simp;omega) HB3.out.size ?_);intro A4 c4 w4 hw4 hb4;have HW4:=zF hw4;have HB4:=zF (HB3.out.trans hb4);clear hw4 hb4;go_wp2;go_ret;exact ⟨⟨A4,c4,(by rw [HT2.out];first | rfl | simp),by rw [HT2.out];exact HW4.out⟩,HB4.out⟩
 · obtain ⟨k,hk⟩:=eV ((zo N+7) / 8);obtain ⟨n,hn⟩:=eV (zo N);have hn20:n≤20:=by rw [←hn];exact kh (by omega)
   have HT2:=zF (show T=(([b0]++[128+k])++bytesOf N k)++B from hT.symm.trans (tK hN h128 (by omega) hb1 hk));rw [hn] at hk;have hk4:k≤4:=by omega
   have h128':¬ (N:Int)<128:=by omega
   have hN3:(N:Int) % 18446744073709551616=(N:Int):=by omega
   have hq1:Int.tdiv ((n:Int)+7) 8=(k:Int):=by rw [kH (by omega)];omega
   have hq2:((n:Int)+7) / 8=(k:Int):=by omega
   have hk2:(128+(k:Int)) % 256=((128+k:Nat):Int):=by omega
   have HOf:=zF (fun X=>xN N X (by omega));have hvN:val 18446744073709551616 (digs 18446744073709551616 N)=N:=zc (by decide) N;have HBi:=zF (fun (P:Nat→Prop) (A:Option Addr) (c:Nat) X (h:RN X P A c (digs 18446744073709551616 N))=>vJ P A c (digs 18446744073709551616 N) X h);have HBy:=zF (fun (P:Nat→Prop) (A:Option Addr) (c:Nat) X (h:RN X P A c (digs 18446744073709551616 N)) (hP:∀ b,P b→b<X.heap.size)=>dK P A c (digs 18446744073709551616 N) k X h hP (by omega) (by rw [hvN,hn];omega));rw [hvN,hn] at HBi;rw [hvN] at HBy;have HK4:=zF hk4;clear hO1 hW1 hT hN hb1 h hP hl hlb hlc2 hlc h128 hvN hn hk;go_enter Tryz.func174,Tryz.ntmps174;go_upto_region 5 with fail;rw [HW1.out];clear HW1;go_wp2_with fail;refine (HOf.out _).mono ?_;rintro e w2 ⟨A2,c2,rfl,hO2,hB2⟩;have HE2:=zF (show Ext W1 w2 from hB2);have HO2:=zF hO2;clear hB2 hO2;go_wp2_with fail;refine (HOf.out _).mono ?_;rintro e w3 ⟨A3,c3,rfl,hO3,hB3⟩;have HE3:=zF (show Ext W1 w3 from HE2.out.trans hB3);have HBi3:=zF (HBi.out _ A3 c3 w3 hO3.rn);have HO3:=zF (HO2.out.below hB3 (zH _));clear hO3 hB3 HO2 HE2;go_wp2_with fail;refine HBi3.out.mono ?_;rintro e w4 ⟨rfl,rfl⟩;have HBy3:=zF (HBy.out _ A2 c2 w3 HO3.out.rn (fun q hq=>hq.2));go_wp2_with fail;refine HBy3.out.mono ?_;rintro e w5 ⟨Al,rfl,hL,hB5⟩;have HL:=zF hL;have HE5:=zF (show Ext W1 w5 from HE3.out.trans hB5);have hlL:(bytesOf N k).length=k:=jp N k;have HlL:=zF hlL;have HsW1:=zF (show w3.heap.size≤w5.heap.size from hB5.size);clear hL hB5 HBy3 HBi3 hlL;have hO4:=OW.lit w5 (128+k) (by omega);have HO4:=zF ((hO4.rb (by simp)).below (zO _ _) (fun q hq=>hq.2));have hsz1:w.heap.size≤w5.heap.size:=zQ HB1.out.size HE5.out.bsize;have HB5:=zF ((HB1.out.trans (HE5.out.mono HB1.out.size)).alloc hsz1 (.cells #[.int .u8 ((128+k:Nat):Int)] 5));have HO5:=zF (xh (xh HO1.out HE5.out) ((zO w5.heap.size w5).alloc (zH _) (.cells #[.int .u8 ((128+k:Nat):Int)] 5)));have HRl:=zF (HL.out.below ((zO _ w5).alloc (zH _) (.cells #[.int .u8 ((128+k:Nat):Int)] 5)) fun q hq=>hq.2);have HW1s:=zF (show w.heap.size<W1.heap.size from mv HO1.out);have HE3s:=zF HE3.out.bsize;clear hO4 hsz1;go_wp2_with (at_builtin;refine zBF rfl (.tmp 34) (.tmp 39) rfl w.heap.size (bs:=[b0]) (cs:=[128+k]) rfl HO5.out rfl HO4.out (by simp) HB5.out.size ?_);intro A6 c6 w6 hw6 hg6;have HW6:=zF hw6;have HB6:=zF (HB5.out.grown hg6 HB5.out.size (by intro k hk;simp [Value.ownBlock] at hk;omega));have HRl6:=zF (HRl.out.keep (w':=w6) fun p hp=>zT (hg6.block _ (by have:=hp.2;simp;omega) (by have:=hp.1;have:=HW1s.out;have:=HE3s.out;simp [Value.ownBlock];omega)));clear hw6 hg6;go_wp2_with (at_builtin;refine yr rfl (.tmp 40) (.tmp 41) rfl w.heap.size (bs:=[b0]++[128+k]) (cs:=bytesOf N k) rfl HW6.out (by rw [HlL.out];rfl) HRl6.out (by rw [HlL.out];have:=HK4.out;simp;omega) HB6.out.size ?_);intro A7 c7 w7 hw7 hb7;have HW7:=zF hw7;have HB7:=zF (HB6.out.trans hb7);clear hw7 hb7
   go_wp2_with (at_builtin;refine yr rfl (.tmp 43) (.tmp 44) rfl w.heap.size (bs:=([b0]++[128+k])++bytesOf N k) (cs:=B) rfl HW7.out (by rw [HN.out];rfl) ((HRB.out _ HB7.out).below (zO _ _) (fun q hq=>zR (HP.out q hq) HB7.out.size)) (by rw [HN.out];have:=HNl.out;simp;rw [HlL.out];have:=HK4.out;omega) HB7.out.size ?_);intro A8 c8 w8 hw8 hb8;have HW8:=zF hw8;have HB8:=zF (HB7.out.trans hb8);clear hw8 hb8;go_wp2;go_ret;exact ⟨⟨A8,c8,(by rw [HT2.out];first | rfl | simp),by rw [HT2.out];exact HW8.out⟩,HB8.out⟩
def zCB (R:Option Nat) (g:Nat) (e:Ending) (w':World):Prop :=
 ∃ lf:Int,e=.returned (.bool R.isSome)∧w'.heap[g]?=some (.cells #[.int .i64 lf] 3 (0,0))∧∀ l,R=some l→lf=(l:Int)
theorem gh {g:Nat}{w':World}{lf:Int}(h:w'.heap[g]?=some (.cells #[.int .i64 lf] 3 (0,0))):zCB none g (.returned (.bool false)) w':=⟨lf,rfl,h,fun l h=>by cases h⟩
theorem oM {g l:Nat}{w':World}(h:w'.heap[g]?=some (.cells #[.int .i64 (l:Int)] 3 (0,0))):zCB (some l) g (.returned (.bool true)) w':=⟨_,rfl,h,fun l' h=>by cases h;rfl⟩
def addM (d:Nat) (r:List DN):Option Nat→Option Nat
 | none=>none
 | some l=>xk d l r
theorem pn {d lf:Nat}{l:List DN}{i:Nat}(hi:i<l.length){o:Option Nat}(ho:uL d lf l[i]=o):xk d lf (l.drop i)=addM d (l.drop (i+1)) o:=by
 subst ho;rw [qa hi,xk];cases uL d lf l[i] <;> rfl
theorem cA (d:Nat):∀ (z:Int) (left g:Nat) (P:Nat→Prop) (t:DN) (v:Value) (w:World),0≤z→z+d=16→left≤1024→w.heap[g]?=some (.cells #[.int .i64 left] 3 (0,0))→RD w P t v→(∀ q,P q→q<w.heap.size∧q≠g) →
   Calls Tryz.prog 173 #[v,.int .i64 z,.pointer (some ⟨g,0,none⟩)] w fun e w'=>zCB (uL d left t) g e w'∧Bb w.heap.size g w w':=by
 induction d with
 | zero =>
   intro z left g P t v w hz0 hz hl h hd hP;obtain ⟨tag,bs,kids⟩:=t;obtain ⟨A,c,Ak,ck,cs,rfl,-⟩:=hd.open_;rw [show uL 0 left (.mk tag bs kids)=none by rw [uL,qK (.inr rfl)]];obtain rfl:z=16:=by omega
   obtain ⟨n,hn⟩:∃ n:Int,(left:Int)=n:=⟨_,rfl⟩
   rw [hn] at h;have hn0:0≤n:=by omega
   have hn1:n≤1024:=by omega
   have hg:=qw h;have x0:=(zx w (.cells #[.int .i64 (tag:Int),.slice A bs.length c,.slice Ak kids.length ck] 80) g hg).trans h;have y0:=zJ x0 0;have f0:=zv x0 0;simp at y0;have x1:=ft x0 0 (.int .i64 (n - 1));have HB0:=zF (show Bb w.heap.size g w ((w.alloc (.cells #[.int .i64 (tag:Int),.slice A bs.length c,.slice Ak kids.length ck] 80)).setCell ⟨g,0,none⟩ (.int .i64 (n - 1))) from ((Bb.refl w.heap.size g w).alloc (zH _) _).set 0 _);have Hx1:Hid (((w.alloc (.cells #[.int .i64 (tag:Int),.slice A bs.length c,.slice Ak kids.length ck] 80)).setCell ⟨g,0,none⟩ (.int .i64 (n - 1))).heap[g]?=some (.cells #[.int .i64 (n - 1)] 3 (0,0))):=zF (by simpa using x1);have z0:=zJ Hx1.out 0;simp at z0;clear x0 x1 h hn hl hz hz0 hd hP hg;by_cases hk1:n - 1<0
   · go_enter Tryz.func173,Tryz.ntmps173;go_upto_region 3 with fail;generalize (w.alloc (.cells #[.int .i64 (tag:Int),.slice A bs.length c,.slice Ak kids.length ck] 80)).setCell ⟨g,0,none⟩ (.int .i64 (n - 1))=W0 at *;clear y0 f0;go_wp2;go_ret;exact ⟨gh Hx1.out,HB0.out⟩
   · go_enter Tryz.func173,Tryz.ntmps173;go_upto_region 3 with fail;generalize (w.alloc (.cells #[.int .i64 (tag:Int),.slice A bs.length c,.slice Ak kids.length ck] 80)).setCell ⟨g,0,none⟩ (.int .i64 (n - 1))=W0 at *;clear y0 f0;go_wp2;go_ret;exact ⟨gh Hx1.out,HB0.out⟩
 | succ d ih =>
   intro z left g P t v w hz0 hz hl h hd hP;obtain ⟨tag,bs,kids⟩:=t;obtain ⟨A,c,Ak,ck,cs,rfl,hb,h48,hk,hds⟩:=hd.open_;obtain ⟨n,hn⟩:∃ n:Int,(left:Int)=n:=⟨_,rfl⟩
   rw [hn] at h;have hn0:0≤n:=by omega
   have hn1:n≤1024:=by omega
   have hg:=qw h;have x0:=(zx w (.cells #[.int .i64 (tag:Int),.slice A bs.length c,.slice Ak kids.length ck] 80) g hg).trans h;have y0:=zJ x0 0;have f0:=zv x0 0;simp at y0;have x1:=ft x0 0 (.int .i64 (n - 1));have hr:=zP w (.cells #[.int .i64 (tag:Int),.slice A bs.length c,.slice Ak kids.length ck] 80);have hr1:=(zN (w.alloc (.cells #[.int .i64 (tag:Int),.slice A bs.length c,.slice Ak kids.length ck] 80)) ⟨g,0,none⟩ (.int .i64 (n - 1)) w.heap.size (Nat.ne_of_gt hg)).trans hr;have hB0:Bb w.heap.size g w ((w.alloc (.cells #[.int .i64 (tag:Int),.slice A bs.length c,.slice Ak kids.length ck] 80)).setCell ⟨g,0,none⟩ (.int .i64 (n - 1))):=((Bb.refl w.heap.size g w).alloc (zH _) _).set 0 _;have HB0:=zF hB0;have Hr:=zF hr1;have Hx1:Hid (((w.alloc (.cells #[.int .i64 (tag:Int),.slice A bs.length c,.slice Ak kids.length ck] 80)).setCell ⟨g,0,none⟩ (.int .i64 (n - 1))).heap[g]?=some (.cells #[.int .i64 (n - 1)] 3 (0,0))):=zF (by simpa using x1);have Hsz:Hid (((w.alloc (.cells #[.int .i64 (tag:Int),.slice A bs.length c,.slice Ak kids.length ck] 80)).setCell ⟨g,0,none⟩ (.int .i64 (n - 1))).heap.size=w.heap.size+1):=zF (by simp [World.setCell]);obtain ⟨s,hs⟩:=eV w.heap.size;rw [hs] at Hr HB0 Hsz hg hP ⊢;have Hs:=zF hs;have HP:=zF hP;have Hb:=zF (Bb.rb hb HB0.out hP);have Hk:=zF (hk.keep (w':=(w.alloc (.cells #[.int .i64 (tag:Int),.slice A bs.length c,.slice Ak kids.length ck] 80)).setCell ⟨g,0,none⟩ (.int .i64 (n - 1))) fun p hp=>HB0.out.cell (hP _ hp).1 (hP _ hp).2);have Hds:=zF (wZ (w':=(w.alloc (.cells #[.int .i64 (tag:Int),.slice A bs.length c,.slice Ak kids.length ck] 80)).setCell ⟨g,0,none⟩ (.int .i64 (n - 1))) (fun p hp=>HB0.out.cell (hP _ hp).1 (hP _ hp).2) hds);have H48:=zF h48;obtain ⟨hlc,hlc2,hlb⟩:=hb.cap;have hkl:=hk.1;have hkc:ck≤9223372036854775807:=hk.2.1;have z0:=zJ Hx1.out 0;simp at z0;obtain ⟨R,hR⟩:=eV (uL (d+1) left (.mk tag bs kids));rw [hR];rw [uL] at hR;clear x0 x1 h hr hr1 hB0 hs hb hk hds hd h48 hP;by_cases hk1:n - 1<0
   · rw [qK (.inl (by omega))] at hR;subst hR;clear ih hn hl hz;go_enter Tryz.func173,Tryz.ntmps173;go_upto_region 3 with fail;rw [Hs.out];generalize (w.alloc (.cells #[.int .i64 (tag:Int),.slice A bs.length c,.slice Ak kids.length ck] 80)).setCell ⟨g,0,none⟩ (.int .i64 (n - 1))=W0 at *;clear y0 f0;go_wp2;go_ret;exact ⟨gh Hx1.out,HB0.out⟩
   rw [qA (by omega)] at hR;obtain ⟨m,hm⟩:∃ m:Nat,left - 1=m:=⟨_,rfl⟩
   have hnm:n - 1=(m:Int):=by omega
   rw [hm] at hR;have Hm:=zF (show m≤1024 by omega);have HZ:=zF (show z+1+(d:Int)=16 by push_cast at hz;omega);have hk2:¬ 16≤z:=by push_cast at hz;omega
   have hw1:IntKind.i64.wrap (z+1)=z+1:=by push_cast at hz;rw [jJ];omega
   have m0:=zJ Hr.out 0;have m1:=zJ Hr.out 1;have m2:=zJ Hr.out 2;simp only [zK,zL,zS] at m0 m1 m2;have Hnm:=zF hnm;clear hm hnm hn hl hz;by_cases ht:tag=48;rotate_left
   · rw [qK ht] at hR;have ht':((tag:Int)==48)=false:=beq_eq_false_iff_ne.2 (by omega);by_cases hk0:kids=[]
     rotate_left
     · have hR2:R=none:=by rw [←hR,qK (.inl hk0)]
       subst hR2;have hk1':=List.length_pos_iff.2 hk0;obtain ⟨mk,hmk⟩:=eV kids.length;rw [hmk] at hk1' Hr HB0 Hx1 m0 m1 m2 y0 f0 z0 hkl;rw [hmk];have hk1z:((mk:Int)==0)=false:=beq_eq_false_iff_ne.2 (by omega);clear hk0 hR Hk Hds Hb Hsz hkl hmk ih;go_enter Tryz.func173,Tryz.ntmps173;go_upto_region 4 with fail;rw [Hs.out];generalize (w.alloc (.cells #[.int .i64 (tag:Int),.slice A bs.length c,.slice Ak mk ck] 80)).setCell ⟨g,0,none⟩ (.int .i64 (n - 1))=W0 at *;clear y0 f0;go_wp2;go_ret;exact ⟨gh Hx1.out,HB0.out⟩
     · subst hk0;have l0:([]:List DN).length=0:=rfl;rw [l0] at Hr HB0 Hx1 m0 m1 m2 y0 f0 z0 Hb Hsz Hk Hds;rw [l0];have HC:=zF (aS P A c tag bs _ Hb.out);obtain ⟨pb,hpb⟩:=eV (jh tag bs);rw [hpb] at HC hR;have HRR:=zF hR;clear hpb hR ih l0 Hk Hds;go_enter Tryz.func173,Tryz.ntmps173;go_upto_region 4 with fail;rw [Hs.out];generalize (w.alloc (.cells #[.int .i64 (tag:Int),.slice A bs.length c,.slice Ak 0 ck] 80)).setCell ⟨g,0,none⟩ (.int .i64 (n - 1))=W0 at *;clear y0 f0;go_wp2_with fail;refine HC.out.mono ?_;rintro e w1 ⟨rfl,d1,rfl⟩;cases pb
       · have hR2:R=none:=by rw [←HRR.out,qK (.inr rfl)]
         subst hR2;go_wp2;go_ret;exact ⟨gh (show _=_ from Hx1.out),HB0.out.trans (vw (qR (zO s _) d1) g)⟩
       · have hR2:R=some m:=by rw [←HRR.out,qA (by simp)]
         subst hR2;go_wp2;go_ret;exact ⟨oM (show _=_ by rw [←Hnm.out];exact Hx1.out),HB0.out.trans (vw (qR (zO s _) d1) g)⟩
   subst ht;rw [qA (by omega)] at hR;obtain ⟨rfl,rfl⟩:=H48.out rfl;have hbs0:bs=[]:=qC (by omega);subst hbs0;rw [qA (by simp),jU] at hR;have HRR:=zF hR;have c48:((48:Nat):Int)=48:=rfl;have l0:([]:List Nat).length=0:=rfl;rw [c48,l0] at Hr HB0 Hx1 m0 m1 m2 y0 f0 z0 Hk Hds Hsz;rw [c48,l0];clear hR c48 l0 hlc hlc2 hlb H48 Hb;go_enter Tryz.func173,Tryz.ntmps173;go_upto_region 4 with fail;rw [Hs.out];generalize (w.alloc (.cells #[.int .i64 48,.slice none 0 0,.slice Ak kids.length ck] 80)).setCell ⟨g,0,none⟩ (.int .i64 (n - 1))=W0 at *;rw [Hnm.out] at Hx1;clear y0 f0 z0;go_wp2;go_loopw [43] (fun i wr=>∃ (lf j:Nat),j≤kids.length∧i=.int .i64 (j:Int)∧lf≤1024∧xk d lf (kids.drop j)=R∧wr.heap[g]?=some (.cells #[.int .i64 (lf:Int)] 3 (0,0))∧Bb (s+1) g W0 wr) (fun i _=>kids.length - (intOf i).toNat);case atStart=>exact ⟨m,0,by omega,rfl,Hm.out,HRR.out,Hx1.out,Bb.refl _ _ _⟩
   case round =>
     obtain ⟨lf,j,hj,rfl,hlf,hR,hgx,hB⟩:=hrel;have HB:=zF hB;have Hgx:=zF hgx;have Hsz2:=zF (show s+1≤wr.heap.size from zQ (x9 Hsz.out.symm) hB.size);clear hB hgx;by_cases hlt:j<kids.length
     · obtain ⟨ad,x,B1,n1,d1,B2,n2,d2,rfl,x0,x1,x2,hrd⟩:=bI (RS.keep Hk.out fun p hp=>HB.out.cell (by have:=(HP.out _ hp).1;omega) (HP.out _ hp).2) (wZ (fun p hp=>HB.out.cell (by have:=(HP.out _ hp).1;omega) (HP.out _ hp).2) Hds.out) hlt;have q1:(j:Int)<(kids.length:Int):=by omega
       obtain ⟨o,ho⟩:=eV (uL d lf kids[j]);have hst:=pn hlt ho;rw [hst] at hR;have HRR:=zF hR;have hB5:Below wr.heap.size wr (wr.alloc (.cells #[.int .i64 x,.slice B1 n1 d1,.slice B2 n2 d2] 80)):=(zO _ wr).alloc (zH _) _;have hgw:=qw Hgx.out;have hz5:(wr.alloc (.cells #[.int .i64 x,.slice B1 n1 d1,.slice B2 n2 d2] 80)).heap.size=wr.heap.size+1:=by simp
       have IH:=ih (z+1) lf g P kids[j] _ (wr.alloc (.cells #[.int .i64 x,.slice B1 n1 d1,.slice B2 n2 d2] 80)) (by omega) HZ.out hlf ((hB5.block g hgw).trans Hgx.out) (hrd.below hB5 (fun q hq=>by have:=(HP.out q hq).1;have:=Hsz2.out;omega)) (fun q hq=>⟨by have:=(HP.out q hq).1;have:=Hsz2.out;omega,(HP.out q hq).2⟩);rw [ho] at IH;have Ho:=zF ho;have HIH:=zF IH;have HB5:=zF (HB.out.trans (vw (hB5.mono Hsz2.out) g));have Hz5:=zF hz5;clear hR hst ho IH hrd hB5 hz5 hgw;go_wp2_with fail;refine HIH.out.mono ?_;rintro e w1 ⟨⟨lf1,rfl,hg1,hl1⟩,hB1⟩;have HB1:=zF (HB5.out.trans (hB1.mono (by have:=Hz5.out;have:=Hsz2.out;omega)));have Hg1:=zF hg1;clear hB1 x0 x1 x2 HIH hg1;cases o with
       | none =>
         have hR2:R=none:=HRR.out.symm;subst hR2;have hm1:(none:Option Nat).isSome=false:=rfl;rw [hm1];clear hm1;go_wp2;go_ret;exact ⟨gh Hg1.out,HB0.out.trans (HB1.out.mono (by omega))⟩
       | some l1 =>
         have hm1:(some l1).isSome=true:=rfl;rw [hm1];obtain rfl:=hl1 l1 rfl;have HRR2:=zF (show xk d l1 (kids.drop (j+1))=R from HRR.out);have Hl1:=zF (show l1≤1024 from oK Ho.out hlf);clear hm1 hl1;go_wp2;go_roundw;case rel=>exact ⟨l1,j+1,by omega,by go_num,Hl1.out,HRR2.out,Hg1.out,HB1.out⟩
         case measure=>simp [intOf];omega
     · obtain rfl:j=kids.length:=by omega
       rw [yG (zH _),xk] at hR;subst hR;have q1:¬ (kids.length:Int)<(kids.length:Int):=by omega
       go_wp2;go_ret;exact ⟨oM Hgx.out,HB0.out.trans (HB.out.mono (by omega))⟩
theorem Bb.below {s g:Nat}{w w':World}(h:Bb s g w w') (hg:s≤g):Below s w w':=⟨h.os,h.tape,h.output,h.size,fun i hi=>h.block i hi (by omega)⟩
theorem bY (P:Nat→Prop) (t:DN) (v:Value) (w:World) (h:RD w P t v) (hP:∀ q,P q→q<w.heap.size) :
 Calls Tryz.prog 131 #[v] w fun e w'=>e=.returned (.bool (vI 1 t).isSome)∧Below w.heap.size w w':=by
 obtain ⟨xi,B1,n1,d1,B2,n2,d2,rfl⟩:=h.shape
 obtain ⟨W0,hW0⟩:=eW ((w.alloc (.cells #[.int .i64 xi,.slice B1 n1 d1,.slice B2 n2 d2] 80)).alloc (.cells #[.int .i64 1024] 3))
 have hE:Below w.heap.size w W0:=by rw [hW0];exact ((zO w.heap.size w).alloc (zH _) _).alloc (by simp) _
 have hz:W0.heap.size=w.heap.size+2:=by rw [hW0];simp
 have hn:W0.heap[w.heap.size+1]?=some (.cells #[.int .i64 1024] 3 (0,0)):=by rw [hW0];have:=zP (w.alloc (.cells #[.int .i64 xi,.slice B1 n1 d1,.slice B2 n2 d2] 80)) (.cells #[.int .i64 1024] 3);rwa [qL] at this
 have hn0:W0.heap[w.heap.size]?=some (.cells #[.int .i64 xi,.slice B1 n1 d1,.slice B2 n2 d2] 80 (0,0)):=by rw [hW0];exact (zx _ _ _ (by simp)).trans (zP w _)
 have hc:=cA 16 0 1024 (w.heap.size+1) P t _ W0 (by omega) (by omega) (by omega) hn (h.below hE hP) (fun q hq=>⟨by have:=hP q hq;omega,by have:=hP q hq;omega⟩)
 have hm:∀ e w',(zCB (uL 16 1024 t) (w.heap.size+1) e w'∧Bb W0.heap.size (w.heap.size+1) W0 w')→e=.returned (.bool (vI 1 t).isSome)∧Below w.heap.size w w':=fun e w' ⟨⟨lf,h1,_,_⟩,h2⟩=>⟨by rw [h1,zAh],hE.trans (Bb.below (h2.mono (show w.heap.size≤W0.heap.size by omega)) (by omega))⟩
 have hc2:=zF (Calls.mono hc hm)
 obtain ⟨s,hs⟩:=eV w.heap.size
 rw [hs] at hn0 hc2 ⊢
 have Hs:=zF hs
 have m0:=zJ hn0 0
 have m1:=zJ hn0 1
 have m2:=zJ hn0 2
 simp only [zK,zL,zS] at m0 m1 m2
 clear hc hm hn hn0 hz hE h hP hs
 go_enter Tryz.func131,Tryz.ntmps131
 go_upto_region 2 with fail
 rw [←hW0]
 clear hW0
 simp only [qL,Hs.out]
 go_wp2_with fail
 refine hc2.out.mono ?_
 rintro e w1 ⟨rfl,hB1⟩
 have HB1:=zF hB1
 clear hB1
 go_wp2
 go_ret
 exact ⟨rfl,HB1.out⟩
def wrQ (t:DN):Option (List Nat):=if (enc t).length≤65536 then some (enc t) else none
def WrQ (R:Option (List Nat)) (s:Nat) (e:Ending) (w':World):Prop :=
 match R with
 | none=>∃ A n c,e=.returned (.tuple #[.slice A n c,.bool false])
 | some b=>∃ A c,e=.returned (.tuple #[.slice A b.length c,.bool true])∧OW w' s A c b
theorem zA8 {d tag:Nat}{bs:List Nat}{kids:List DN}(h:(vI d (.mk tag bs kids)).isSome=true) (ht:tag≠48):kids=[]:=by
 rw [vI] at h;split at h
 · cases h
 split at h
 · cases h
 · rename_i h2;exact uc fun h3=>h2 (.inl h3)
theorem zB2 {d tag:Nat}{bs:List Nat}{kids:List DN}(h:(vI d (.mk tag bs kids)).isSome=true){x:DN}(hx:x∈kids):(vI (d+1) x).isSome=true:=by
 rw [vI] at h;split at h
 · cases h
 split at h
 · split at h
   · cases h
   · rename_i h2;exact absurd hx (by rw [uc fun h3=>h2 (.inl h3)];simp)
 split at h
 · cases h
 have key:∀ {l:List DN} {k:Nat},(wP (d+1) k l).isSome=true→x∈l→(vI (d+1) x).isSome=true:=by
   intro l;induction l with
   | nil=>intro k _ hx;cases hx
   | cons y r ih =>
     intro k h hx;rw [wP] at h;cases hy:vI (d+1) y with
     | none=>rw [hy] at h;cases h
     | some c =>
       rw [hy] at h;simp only [] at h;split at h
       · cases h
       · rcases List.mem_cons.1 hx with rfl | hx
         · rw [hy];rfl
         · exact ih h hx
 exact key h hx
theorem zAz {l:List DN}{i:Nat}(h:i<l.length):(enc l[i]).length≤(ke l).length:=by
 have h1:=mj (l:=l) (i+1);rw [dI h,zt] at h1;omega
theorem mr (n:Nat):∀ (d:Nat) (P:Nat→Prop) (t:DN) (v:Value) (w:World),SizeOf.sizeOf t≤n→(vI d t).isSome=true→RD w P t v→(∀ q,P q→q<w.heap.size) →
   Calls Tryz.prog 132 #[v] w fun e w'=>WrQ (wrQ t) w.heap.size e w'∧Below w.heap.size w w':=by
 induction n with
 | zero =>
   intro d P t v w hd hc h hP;obtain ⟨tag,bs,kids⟩:=t;simp at hd
 | succ n ih =>
   intro d P t v w hd hc h hP;obtain ⟨tag,bs,kids⟩:=t;obtain ⟨A,c,Ak,ck,cs,rfl,hb,h48,hk,hds⟩:=h.open_;obtain ⟨R,hR⟩:=eV (wrQ (.mk tag bs kids));rw [hR];rw [wrQ,enc] at hR;have hE:=(zO w.heap.size w).alloc (zH _) (.cells #[.int .i64 (tag:Int),.slice A bs.length c,.slice Ak kids.length ck] 80);have hn:=zP w (.cells #[.int .i64 (tag:Int),.slice A bs.length c,.slice Ak kids.length ck] 80);have hz:(w.alloc (.cells #[.int .i64 (tag:Int),.slice A bs.length c,.slice Ak kids.length ck] 80)).heap.size=w.heap.size+1:=by simp
   have Hb:=zF (hb.below hE hP);have Hk:=zF (hk.below hE hP);have Hds:=zF (wZ (fun p hp=>hE.cell (hP _ hp)) hds);have HE:=zF hE;have Hn:=zF hn;have Hz:=zF hz;have HP:=zF hP;obtain ⟨s,hs⟩:=eV w.heap.size;have Hs:=zF hs;rw [hs] at HE Hn Hz HP ⊢;have H48:=zF h48;have Hd:=zF hd;have Hcn:=zF hc;obtain ⟨hlc,hlc2,hlb⟩:=hb.cap;have hkl:=hk.1;have hkc:ck≤9223372036854775807:=hk.2.1;clear hE hn hz hb hk hds hP h h48 hs hd hc;by_cases ht:tag=48;rotate_left
   · rw [qA ht] at hR;have hk0:=zA8 Hcn.out ht;subst hk0;have l0:([]:List DN).length=0:=rfl;rw [l0] at Hn HE Hb Hk Hds Hz;rw [l0];have HRR:=zF hR;clear hR ih Hk Hds H48 hkl hkc Hcn Hd ht l0;go_enter Tryz.func132,Tryz.ntmps132;go_upto_region 1 with fail;rw [Hs.out];generalize w.alloc (.cells #[.int .i64 (tag:Int),.slice A bs.length c,.slice Ak 0 ck] 80)=W0 at *;have m0:=zJ Hn.out 0;have m1:=zJ Hn.out 1;have m2:=zJ Hn.out 2;simp only [zK,zL,zS] at m0 m1 m2;go_wp2;go_loopw [4,15] (fun v i wr=>v=.slice A bs.length c∧i=.int .i64 0∧wr=W0) (fun _ _ _=>0);case atStart=>exact ⟨rfl,rfl,rfl⟩
     case round =>
       obtain ⟨rfl,rfl,rfl⟩:=hrel;by_cases hl:65536<bs.length
       · have hR2:R=none:=by rw [←HRR.out,qA (by have:=fo tag bs;omega)]
         subst hR2;have hl':(65536:Int)<(bs.length:Int):=by omega
         go_wp2;go_ret2;exact ⟨⟨_,_,_,rfl⟩,HE.out⟩
       · have hl':¬ (65536:Int)<(bs.length:Int):=by omega
         have HHd:=zF (bL tag P A c bs wr Hb.out (fun q hq=>by have:=HP.out q hq;have:=Hz.out;omega) (by omega));go_wp2_with fail;refine HHd.out.mono ?_;rintro e w1 ⟨⟨A1,c1,rfl,hO1⟩,hB1⟩;have HO1:=zF hO1;have HB1:=zF (HE.out.trans (hB1.mono (show s≤wr.heap.size by have:=Hz.out;omega)));obtain ⟨T,hT⟩:=eV (hdB tag bs);rw [hT] at HO1 HRR;rw [hT];clear hT hO1 hB1 HHd;by_cases h2:T.length≤65536
         · have hR2:R=some T:=by rw [←HRR.out,qK h2]
           subst hR2;have h2':(T.length:Int)≤(65536:Int):=by omega
           go_wp2;go_ret2;exact ⟨⟨A1,c1,rfl,kw HO1.out (by have:=Hz.out;omega)⟩,HB1.out⟩
         · have hR2:R=none:=by rw [←HRR.out,qA h2]
           subst hR2;have h2':decide ((T.length:Int)≤(65536:Int))=false:=qb (by omega);go_wp2;go_ret2;exact ⟨⟨_,_,_,rfl⟩,HB1.out⟩
   subst ht;rw [qK rfl] at hR;obtain ⟨rfl,rfl⟩:=H48.out rfl;have hbs0:bs=[]:=qC (by omega);subst hbs0;have HRR:=zF hR;have c48:((48:Nat):Int)=48:=rfl;have l0:([]:List Nat).length=0:=rfl;rw [c48,l0] at Hn HE Hb Hk Hds Hz;rw [c48,l0];clear hR l0 hlc hlc2 hlb H48 Hb;go_enter Tryz.func132,Tryz.ntmps132;go_upto_region 1 with fail;rw [Hs.out];generalize w.alloc (.cells #[.int .i64 48,.slice none 0 0,.slice Ak kids.length ck] 80)=W0 at *;have m0:=zJ Hn.out 0;have m1:=zJ Hn.out 1;have m2:=zJ Hn.out 2;simp only [zK,zL,zS] at m0 m1 m2;go_wp2;go_loopw [4,15] (fun v i wr=>∃ (j:Nat) (A':Option Addr) (c':Nat) (acc:List Nat),j≤kids.length∧i=.int .i64 (j:Int)∧v=.slice A' acc.length c'∧OW wr W0.heap.size A' c' acc∧acc=ke (kids.take j)∧acc.length≤65536∧Below (s+1) W0 wr) (fun _ i _=>kids.length - (intOf i).toNat);case atStart=>exact ⟨0,none,0,[],by omega,rfl,rfl,⟨kr _ _ _ _,by simp⟩,by simp [ke],by simp,zO _ _⟩
   case round =>
     obtain ⟨j,A',c',acc,hj,rfl,rfl,hO,hacc,hal,hB⟩:=hrel;have HB:=zF hB;have HO:=zF hO;have HAcc:=zF hacc;have HAl:=zF hal;have hbx:=(hB.block s (by omega)).trans Hn.out;have Hsz:=zF (zQ (x9 Hz.out.symm) hB.size);clear m0 m1 m2;have m0:=zJ hbx 0;simp only [zK,zL,zS] at m0;clear hB hO hacc hal hbx;by_cases hlt:j<kids.length
     · obtain ⟨ad,x,B1,n1,d1,B2,n2,d2,rfl,x0,x1,x2,hrd⟩:=bI (RS.below Hk.out HB.out (fun q hq=>by have:=HP.out q hq;omega)) (wZ (fun p hp=>HB.out.cell (by have:=HP.out _ hp;omega)) Hds.out) hlt;have q1:(j:Int)<(kids.length:Int):=by omega
       have htk:=dI hlt;have hle:(ke (kids.take (j+1))).length≤(ke kids).length:=mj _;have hke:=zAz hlt;have hhd:=fo 48 (ke kids);have hB5:Below wr.heap.size wr (wr.alloc (.cells #[.int .i64 x,.slice B1 n1 d1,.slice B2 n2 d2] 80)):=(zO _ wr).alloc (zH _) _;have hz5:(wr.alloc (.cells #[.int .i64 x,.slice B1 n1 d1,.slice B2 n2 d2] 80)).heap.size=wr.heap.size+1:=by simp
       have IH:=ih (d+1) P kids[j] _ (wr.alloc (.cells #[.int .i64 x,.slice B1 n1 d1,.slice B2 n2 d2] 80)) (by have:=oR (tag:=48) (bs:=[]) (kM hlt);have:=Hd.out;omega) (zB2 Hcn.out (kM hlt)) (hrd.below hB5 (fun q hq=>by have:=HP.out q hq;have:=Hsz.out;omega)) (fun q hq=>by have:=HP.out q hq;have:=Hsz.out;omega);rw [htk,←HAcc.out] at hle;rw [←HAcc.out] at htk;rw [wrQ] at IH;obtain ⟨wk,hwk⟩:=eV (enc kids[j]);rw [hwk] at IH htk hle hke;have HIH:=zF IH;have HTk:=zF htk;have HLe:=zF hle;have HNo:=zF (show 65536<wk.length∨65536<(acc++wk).length→R=none from fun h=>by rw [←HRR.out,qA (by omega)]);have HB5:=zF (HB.out.trans (hB5.mono Hsz.out));have HO5:=zF (xh HO.out hB5);have Hz5:=zF hz5;clear IH hrd htk hle hwk hke hhd hB5 hz5 HO;go_wp2_with fail;refine HIH.out.mono ?_;rintro e w1 ⟨hW,hB1⟩;have HB1:=zF (HB5.out.trans (hB1.mono (by have:=Hz5.out;have:=Hsz.out;omega)));have HO6:=zF (xh HO5.out hB1);clear hB1 x0 x1 x2 HIH HO5;by_cases hk6:wk.length≤65536;rotate_left
       · rw [qA hk6] at hW;obtain ⟨A6,n6,c6,rfl⟩:=hW;have hR2:=HNo.out (.inl (by omega));subst hR2;go_wp2;go_ret2;exact ⟨⟨_,_,_,rfl⟩,HE.out.trans (HB1.out.mono (by omega))⟩
       rw [qK hk6] at hW;obtain ⟨A6,c6,rfl,hO6⟩:=hW;have HR6:=zF (hO6.rb (by omega));have HW0:=zF (show W0.heap.size≤w1.heap.size from HB1.out.size);clear hO6;go_wp2_with (at_builtin;refine yr rfl (.tmp 26) (.tmp 27) rfl W0.heap.size (bs:=acc) (cs:=wk) rfl HO6.out rfl HR6.out (by have:=HAl.out;omega) HW0.out ?_);intro A7 c7 w7 hw7 hb7;have HW7:=zF hw7;have HB7:=zF (HB1.out.trans (hb7.mono (by have:=Hz.out;omega)));have HT7:=zF (show acc++wk=ke (kids.take (j+1)) by rw [HTk.out]);clear hw7 hb7;have hal:(acc++wk).length=acc.length+wk.length:=zt;by_cases h7:65536<(acc++wk).length
       · have hR2:=HNo.out (.inr h7);subst hR2;have h7':(65536:Int)<((acc++wk).length:Int):=by omega
         have h7'':(65536:Int)<(acc.length:Int)+(wk.length:Int):=by omega
         clear hal;go_wp2;go_ret2;exact ⟨⟨_,_,_,rfl⟩,HE.out.trans (HB7.out.mono (by omega))⟩
       · have h7':¬ (65536:Int)<((acc++wk).length:Int):=by omega
         have h7'':¬ (65536:Int)<(acc.length:Int)+(wk.length:Int):=by omega
         clear hal;go_wp2;go_roundw;case rel=>exact ⟨j+1,A7,c7,acc++wk,by omega,by go_num,by first | rfl | simp,HW7.out,HT7.out,by omega,HB7.out⟩
         case measure=>simp [intOf];omega
     · obtain rfl:j=kids.length:=by omega
       have hwk:acc=ke kids:=by rw [HAcc.out,zk (zH _)]
       rw [←hwk] at HRR;have q1:¬ (kids.length:Int)<(kids.length:Int):=by omega
       have hl':¬ (65536:Int)<(acc.length:Int):=by have:=HAl.out;omega
       have HHd:=bL 48 _ A' c' acc wr (HO.out.rb (by have:=HAl.out;omega)) (fun q hq=>hq.2) (by have:=HAl.out;omega);rw [c48] at HHd;have HHd:=zF HHd;clear hwk;go_wp2_with fail;refine HHd.out.mono ?_;rintro e w1 ⟨⟨A1,c1,rfl,hO1⟩,hB1⟩;have HO1:=zF hO1;have HB1:=zF (HE.out.trans ((HB.out.mono (show s≤s+1 by omega)).trans (hB1.mono (show s≤wr.heap.size by have:=Hsz.out;omega))));obtain ⟨T,hT⟩:=eV (hdB 48 acc);rw [hT] at HO1 HRR;rw [hT];clear hT hO1 hB1 HHd;by_cases h2:T.length≤65536
       · have hR2:R=some T:=by rw [←HRR.out,qK h2]
         subst hR2;have h2':(T.length:Int)≤(65536:Int):=by omega
         go_wp2;go_ret2;exact ⟨⟨A1,c1,rfl,kw HO1.out (by have:=Hsz.out;omega)⟩,HB1.out⟩
       · have hR2:R=none:=by rw [←HRR.out,qA h2]
         subst hR2;have h2':decide ((T.length:Int)≤(65536:Int))=false:=qb (by omega);go_wp2;go_ret2;exact ⟨⟨_,_,_,rfl⟩,HB1.out⟩
theorem xB (P:Nat→Prop) (t:DN) (v:Value) (w:World) (h:RD w P t v) (hP:∀ q,P q→q<w.heap.size) :
   Calls Tryz.prog 85 #[v] w fun e w'=>WrP (vR t) w.heap.size e w'∧Below w.heap.size w w':=by
 obtain ⟨xi,B1,n1,d1,B2,n2,d2,rfl⟩:=h.shape;obtain ⟨s,hs⟩:=eV w.heap.size;obtain ⟨W0,hW0⟩:=eW (w.alloc (.cells #[.int .i64 xi,.slice B1 n1 d1,.slice B2 n2 d2] 80));have hE:Below s w W0:=by rw [hW0];exact (zO s w).alloc (by omega) _
 have hz:W0.heap.size=s+1:=by rw [hW0];simp [hs]
 have hn:W0.heap[s]?=some (.cells #[.int .i64 xi,.slice B1 n1 d1,.slice B2 n2 d2] 80 (0,0)):=by rw [hW0,←hs];exact zP w _
 have hb:=h.below hE (fun q hq=>by have:=hP q hq;omega);have HM:=bY P t _ W0 hb (fun q hq=>by have:=hP q hq;omega);have HWr:=zF (fun X (hX:Below W0.heap.size W0 X) (hc:(vI 1 t).isSome=true)=>mr (SizeOf.sizeOf t) 1 P t _ X (zH _) hc (hb.below hX (fun q hq=>by have:=hP q hq;omega)) (fun q hq=>by have:=hP q hq;have:=hX.size;omega));obtain ⟨R,hR⟩:=eV (vR t);rw [hR,hs];have h1:(vI 1 t).isSome=false→R=none:=fun h=>hR.symm.trans (qK h);have h2:(vI 1 t).isSome=true→R=wrQ t:=fun h=>by
   rw [←hR];unfold vR wrQ;rw [qA (by rw [h];decide)];by_cases hh:65536<(enc t).length
   · rw [qK hh,qA (by omega)]
   · rw [qA hh,qK (by omega)]
 obtain ⟨p,hp⟩:=eV ((vI 1 t).isSome);simp only [hp] at HM HWr h1 h2;obtain ⟨RQ,hRQ⟩:=eV (wrQ t);simp only [hRQ] at HWr h2;have Hs:=zF hs;have HE:=zF hE;have Hz:=zF hz;have HMa:=zF HM;have H1:=zF h1;have H2:=zF h2;have Hn:=zF hn;have m0:=zJ hn 0;have m1:=zJ hn 1;have m2:=zJ hn 2;simp only [zK,zL,zS] at m0 m1 m2;clear h hP hs hE hz hn hb HM hR hp hRQ h1 h2;go_enter Tryz.func85,Tryz.ntmps85;go_upto_region 1 with fail;rw [←hW0,Hs.out];clear hW0;go_wp2_with fail;refine HMa.out.mono ?_;rintro e w1 ⟨rfl,hB1⟩;have HB1:=zF hB1;have HF1:=zF (HE.out.trans (hB1.mono (show s≤W0.heap.size by have:=Hz.out;omega)));have hn1:=(hB1.block s (by have:=Hz.out;omega)).trans Hn.out;clear hB1 m0 m1 m2 HMa;have m0:=zJ hn1 0;have m1:=zJ hn1 1;have m2:=zJ hn1 2;simp only [zK,zL,zS] at m0 m1 m2;clear hn1;cases p
 · have hR:=H1.out rfl;subst hR;go_wp2;go_ret2;exact ⟨rfl,HF1.out⟩
 have hR:=H2.out rfl;subst hR;have HW2:=zF (HWr.out w1 HB1.out rfl);go_wp2_with fail;refine HW2.out.mono ?_;rintro e w2 ⟨hW,hB2⟩;have HF2:=zF (HF1.out.trans (hB2.mono (show s≤w1.heap.size by have:=HB1.out.size;have:=Hz.out;omega)));have Hsz:=zF (show s≤w1.heap.size by have:=HB1.out.size;have:=Hz.out;omega);clear hB2 HW2 HWr H1 H2;cases R with
 | none =>
   obtain ⟨A2,n2',c2,rfl⟩:=hW;go_wp2;go_ret2;exact ⟨rfl,HF2.out⟩
 | some b =>
   obtain ⟨A2,c2,rfl,hO⟩:=hW;have HO:=zF hO;clear hO;go_wp2;go_ret2;exact ⟨⟨A2,c2,rfl,kw HO.out Hsz.out⟩,HF2.out⟩
theorem yo:(Tryz.prog.info? 80).map (·.size)=some 3:=by kernel_rfl
theorem uE {fn:Func}{R:Ending→World→Prop}{a:Act}{W:World}{p:Tmp}{g:Nat}{ty:TypeId}{fr:Nat×Nat}{x0 x1 x2:Value}(hr:fn.results=#[.cell p 80]) (hp:a.tmps.getD p undef=.pointer (some ⟨g,0,none⟩)) (hd:a.defers=[])
 (hg:W.heap[g]?=some (.cells #[x0,x1,x2] ty fr)) (hR:R (.returned (.agg #[x0,x1,x2])) W):bodyPost Tryz.prog fn R .ret a W :=
 qS (yV hr a.tmps W g _ _ _ _ hp hg Tryz.underlying80 rfl yo) hd hR
theorem jn {W:World}{g:Nat}{ty:TypeId}{x0 x1 x2:Value}(h:W.heap[g]?=some (.cells #[x0,x1,x2] ty (0,0))) :
 W.cell? ⟨g,0,none⟩=some x0∧W.cell? ⟨g,1,none⟩=some x1∧W.cell? ⟨g,2,none⟩=some x2∧W.frozen? ⟨g,0,none⟩=false∧W.frozen? ⟨g,1,none⟩=false∧W.frozen? ⟨g,2,none⟩=false :=
 ⟨zJ h 0,zJ h 1,zJ h 2,zv h 0,zv h 1,zv h 2⟩
def ja (x:Nat):List Nat:=bytesOf x (zo x / 8+1)
theorem ug (A:Option Addr) (n c:Nat) (w:World):Calls Tryz.prog 47 #[.slice A n c] w fun e w'=>e=.returned (.agg #[.int .i64 48,.slice none 0 0,.slice A n c])∧Below w.heap.size w w':=by
 go_enter Tryz.func47,Tryz.ntmps47;go_wp2;exact uE rfl rfl rfl (zP w _) ⟨rfl,(zO _ w).alloc (zH _) _⟩
theorem yg (A:Option Addr) (n c:Nat) (w:World):Calls Tryz.prog 53 #[.slice A n c] w fun e w'=>e=.returned (.agg #[.int .i64 48,.slice none 0 0,.slice A n c])∧Below w.heap.size w w':=by
 go_enter Tryz.func53,Tryz.ntmps53;go_wp2;exact uE rfl rfl rfl (zP w _) ⟨rfl,(zO _ w).alloc (zH _) _⟩
theorem cj (A:Option Addr) (n c:Nat) (w:World):Calls Tryz.prog 49 #[.slice A n c] w fun e w'=>e=.returned (.agg #[.int .i64 4,.slice A n c,.slice none 0 0])∧Below w.heap.size w w':=by
 go_enter Tryz.func49,Tryz.ntmps49;go_wp2;exact uE rfl rfl rfl (zP w _) ⟨rfl,(zO _ w).alloc (zH _) _⟩
theorem aA (A:Option Addr) (n c:Nat) (w:World):Calls Tryz.prog 55 #[.slice A n c] w fun e w'=>e=.returned (.agg #[.int .i64 4,.slice A n c,.slice none 0 0])∧Below w.heap.size w w':=by
 go_enter Tryz.func55,Tryz.ntmps55;go_wp2;exact uE rfl rfl rfl (zP w _) ⟨rfl,(zO _ w).alloc (zH _) _⟩
theorem mh (P:Nat→Prop) (A:Option Addr) (c:Nat) (a:List Nat) (x:Nat) (w:World) (h:RN w P A c (a)) (hP:∀ b,P b→b<w.heap.size) (hb:zo x≤524287) (hx:val 18446744073709551616 a=x) :
 Calls Tryz.prog 73 #[.slice A (a).length c] w fun e w'=>(∃ A1 c1,e=.returned (.agg #[.int .i64 2,.slice A1 (ja x).length c1,.slice none 0 0])∧RB w' (In w.heap.size w'.heap.size) A1 c1 (ja x))∧Below w.heap.size w w':=by
 obtain ⟨W0,hW0⟩:=eW (w.alloc (.cells #[.int .i64 0,.slice none 0 0,.slice none 0 0] 80))
 have hE:Below w.heap.size w W0:=by rw [hW0];exact (zO _ w).alloc (zH _) _
 have hn:=zP w (.cells #[.int .i64 0,.slice none 0 0,.slice none 0 0] 80)
 rw [←hW0] at hn
 have h0:=h.below hE hP
 have hP0:∀ b,P b→b<W0.heap.size:=fun b hb=>zR (hP b hb) hE.size
 have HBi:=hx▸vJ P A c a W0 h0
 have HBy:=hx▸dK P A c a (zo (val 18446744073709551616 a) / 8+1) W0 h0 hP0 (by rw [hx];omega) (by omega)
 obtain ⟨s,hs⟩:=eV w.heap.size
 rw [hs] at hn hE ⊢
 unfold ja
 obtain ⟨n,hnn⟩:=eV (zo x)
 obtain ⟨m,hm⟩:=eV ((a).length)
 rw [hnn] at HBi HBy hb ⊢
 obtain ⟨k,hk⟩:=eV (n / 8+1)
 rw [hk] at HBy ⊢
 have hq1:Int.tdiv (n:Int) 8=((n / 8:Nat):Int):=by rw [kH (by omega)];omega
 have hq2:(n:Int) / 8+1=(k:Int):=by omega
 have hq3:IntKind.i64.wrap ((n:Int) / 8+1)=(k:Int):=by rw [jJ];omega
 have HBi:=zF HBi
 have HBy:=zF HBy
 have HE:=zF hE
 have Hn:=zF hn
 have Hs:=zF hs
 have HlB:=zF (jp x k)
 clear hn hE hP h hs h0 hP0 hnn hk hm
 go_enter Tryz.func73,Tryz.ntmps73
 go_upto_region 1 with fail
 rw [←hW0,Hs.out]
 clear hW0
 go_wp2_with fail
 refine HBi.out.mono ?_
 rintro e w1 ⟨rfl,rfl⟩
 go_wp2_with fail
 refine HBy.out.mono ?_
 rintro e w1 ⟨A1,rfl,hL,hB1⟩
 have HL:=zF hL
 have hn1:=(hB1.block s (by have:=qw Hn.out;omega)).trans Hn.out
 have HB1:=zF (HE.out.trans (hB1.mono (show s≤W0.heap.size by have:=HE.out.size;have:=Hs.out;omega)))
 obtain ⟨z0,z1,z2,f0,f1,f2⟩:=jn hn1
 have Hn1:=zF hn1
 clear hL hB1 hn1 HBi HBy
 go_wp2
 refine uE rfl rfl rfl (xM Hn1.out _ _ _) ⟨⟨A1,k,by rw [HlB.out],?_⟩,?_⟩
 · have hlt:=qw Hn.out;refine (HL.out.keep fun p hp=>zT ?_).mono fun q hq=>⟨by have:=hq.1;have:=HE.out.size;have:=Hs.out;omega,by have:=hq.2;simpa [World.setCell] using this⟩
   have hq:p.block≠s:=by have:=hp.1;omega
   exact (zN _ _ _ _ hq).trans ((zN _ _ _ _ hq).trans (zN _ _ _ _ hq))
 · exact ((HB1.out.setCell (p:=⟨s,0,none⟩) (by simp) _).setCell (p:=⟨s,1,none⟩) (by simp) _).setCell (p:=⟨s,2,none⟩) (by simp) _
theorem fG (P:Nat→Prop) (A:Option Addr) (c:Nat) (x:Nat) (w:World) (h:RN w P A c (digs 4294967296 x)) (hP:∀ b,P b→b<w.heap.size) (hb:zo x≤524287) :
 Calls Tryz.prog 82 #[.slice A (digs 4294967296 x).length c] w fun e w'=>(∃ A1 c1,e=.returned (.agg #[.int .i64 2,.slice A1 (ja x).length c1,.slice none 0 0])∧RB w' (In w.heap.size w'.heap.size) A1 c1 (ja x))∧Below w.heap.size w w':=by
 obtain ⟨W0,hW0⟩:=eW (w.alloc (.cells #[.int .i64 0,.slice none 0 0,.slice none 0 0] 80))
 have hE:Below w.heap.size w W0:=by rw [hW0];exact (zO _ w).alloc (zH _) _
 have hn:=zP w (.cells #[.int .i64 0,.slice none 0 0,.slice none 0 0] 80)
 rw [←hW0] at hn
 have h0:=h.below hE hP
 have hP0:∀ b,P b→b<W0.heap.size:=fun b hb=>zR (hP b hb) hE.size
 have HBi:=we P A c x W0 h0
 have HBy:=mT P A c x (zo x / 8+1) W0 h0 hP0 (by omega) (by omega)
 obtain ⟨s,hs⟩:=eV w.heap.size
 rw [hs] at hn hE ⊢
 unfold ja
 obtain ⟨n,hnn⟩:=eV (zo x)
 obtain ⟨m,hm⟩:=eV ((digs 4294967296 x).length)
 rw [hnn] at HBi HBy hb ⊢
 obtain ⟨k,hk⟩:=eV (n / 8+1)
 rw [hk] at HBy ⊢
 have hq1:Int.tdiv (n:Int) 8=((n / 8:Nat):Int):=by rw [kH (by omega)];omega
 have hq2:(n:Int) / 8+1=(k:Int):=by omega
 have hq3:IntKind.i64.wrap ((n:Int) / 8+1)=(k:Int):=by rw [jJ];omega
 have HBi:=zF HBi
 have HBy:=zF HBy
 have HE:=zF hE
 have Hn:=zF hn
 have Hs:=zF hs
 have HlB:=zF (jp x k)
 clear hn hE hP h hs h0 hP0 hnn hk hm
 go_enter Tryz.func82,Tryz.ntmps82
 go_upto_region 1 with fail
 rw [←hW0,Hs.out]
 clear hW0
 go_wp2_with fail
 refine HBi.out.mono ?_
 rintro e w1 ⟨rfl,rfl⟩
 go_wp2_with fail
 refine HBy.out.mono ?_
 rintro e w1 ⟨A1,rfl,hL,hB1⟩
 have HL:=zF hL
 have hn1:=(hB1.block s (by have:=qw Hn.out;omega)).trans Hn.out
 have HB1:=zF (HE.out.trans (hB1.mono (show s≤W0.heap.size by have:=HE.out.size;have:=Hs.out;omega)))
 obtain ⟨z0,z1,z2,f0,f1,f2⟩:=jn hn1
 have Hn1:=zF hn1
 clear hL hB1 hn1 HBi HBy
 go_wp2
 refine uE rfl rfl rfl (xM Hn1.out _ _ _) ⟨⟨A1,k,by rw [HlB.out],?_⟩,?_⟩
 · have hlt:=qw Hn.out;refine (HL.out.keep fun p hp=>zT ?_).mono fun q hq=>⟨by have:=hq.1;have:=HE.out.size;have:=Hs.out;omega,by have:=hq.2;simpa [World.setCell] using this⟩
   have hq:p.block≠s:=by have:=hp.1;omega
   exact (zN _ _ _ _ hq).trans ((zN _ _ _ _ hq).trans (zN _ _ _ _ hq))
 · exact ((HB1.out.setCell (p:=⟨s,0,none⟩) (by simp) _).setCell (p:=⟨s,1,none⟩) (by simp) _).setCell (p:=⟨s,2,none⟩) (by simp) _
theorem cl (x:Nat) (hx:x<18446744073709551616) (w:World) :
 Calls Tryz.prog 48 #[.int .u64 (x:Int)] w fun e w'=>(∃ A1 c1,e=.returned (.agg #[.int .i64 2,.slice A1 (ja x).length c1,.slice none 0 0])∧RB w' (In w.heap.size w'.heap.size) A1 c1 (ja x))∧Below w.heap.size w w':=by
 obtain ⟨W0,hW0⟩:=eW (w.alloc (.cells #[.int .i64 0,.slice none 0 0,.slice none 0 0] 80))
 have hE:Below w.heap.size w W0:=by rw [hW0];exact (zO _ w).alloc (zH _) _
 have hn:=zP w (.cells #[.int .i64 0,.slice none 0 0,.slice none 0 0] 80)
 rw [←hW0] at hn
 have hb:zo x≤64:=kh hx
 have HOf:=zF (xN x W0 hx)
 have HIn:=zF (fun (A:Option Addr) (c:Nat) X (hX:Below W0.heap.size W0 X)=>fun h=>mh _ A c (digs 18446744073709551616 x) x X (h:RN X (In W0.heap.size X.heap.size) A c (digs 18446744073709551616 x)) (fun q hq=>hq.2) (by omega) (zc (by decide) x))
 obtain ⟨s,hs⟩:=eV w.heap.size
 rw [hs] at hn hE ⊢
 obtain ⟨m,hm⟩:=eV (ja x)
 rw [hm] at HIn ⊢
 have HE:=zF hE
 have Hn:=zF hn
 have Hs:=zF hs
 clear hn hE hs hm hb
 go_enter Tryz.func48,Tryz.ntmps48
 go_upto_region 1 with fail
 rw [←hW0,Hs.out]
 clear hW0
 go_wp2_with fail
 refine HOf.out.mono ?_
 rintro e w1 ⟨A1,c1,rfl,hO,hB1⟩
 have HI1:=zF (HIn.out A1 c1 w1 hB1 hO.rn)
 have hB1':Below W0.heap.size W0 w1:=hB1
 have hn1:=(hB1'.block s (by have:=qw Hn.out;omega)).trans Hn.out
 have HB1:=zF hB1'
 clear hO hB1 hB1'
 go_wp2_with fail
 refine HI1.out.mono ?_
 rintro e w2 ⟨⟨A2,c2,rfl,hL⟩,hB2⟩
 have HL:=zF hL
 have hs1:=HB1.out.size
 have hs0:=qw Hn.out
 have hn2:=(hB2.block s (by omega)).trans hn1
 have HB2:=zF (HE.out.trans ((HB1.out.mono (show s≤W0.heap.size by omega)).trans (hB2.mono (show s≤w1.heap.size by omega))))
 obtain ⟨z0,z1,z2,f0,f1,f2⟩:=jn hn2
 have Hn2:=zF hn2
 have Hs1:=zF (show s<w1.heap.size by omega)
 clear hL hB2 hn2 hn1 HI1 HIn HOf hs1 hs0
 go_wp2
 refine uE rfl rfl rfl (xM Hn2.out _ _ _) ⟨⟨A2,c2,rfl,?_⟩,?_⟩
 · refine (HL.out.keep fun p hp=>zT ?_).mono fun q hq=>⟨by have:=hq.1;have:=Hs1.out;omega,by have:=hq.2;simpa [World.setCell] using this⟩
   have hq:p.block≠s:=by have:=hp.1;have:=Hs1.out;omega
   exact (zN _ _ _ _ hq).trans ((zN _ _ _ _ hq).trans (zN _ _ _ _ hq))
 · exact ((HB2.out.setCell (p:=⟨s,0,none⟩) (by simp) _).setCell (p:=⟨s,1,none⟩) (by simp) _).setCell (p:=⟨s,2,none⟩) (by simp) _
theorem pV (x:Nat) (hx:x<18446744073709551616) (w:World) :
 Calls Tryz.prog 54 #[.int .u64 (x:Int)] w fun e w'=>(∃ A1 c1,e=.returned (.agg #[.int .i64 2,.slice A1 (ja x).length c1,.slice none 0 0])∧RB w' (In w.heap.size w'.heap.size) A1 c1 (ja x))∧Below w.heap.size w w':=by
 obtain ⟨W0,hW0⟩:=eW (w.alloc (.cells #[.int .i64 0,.slice none 0 0,.slice none 0 0] 80))
 have hE:Below w.heap.size w W0:=by rw [hW0];exact (zO _ w).alloc (zH _) _
 have hn:=zP w (.cells #[.int .i64 0,.slice none 0 0,.slice none 0 0] 80)
 rw [←hW0] at hn
 have hb:zo x≤64:=kh hx
 have HOf:=zF (kW x W0 hx)
 have HIn:=zF (fun (A:Option Addr) (c:Nat) X (hX:Below W0.heap.size W0 X)=>fun h=>fG _ A c x X (h:RN X (In W0.heap.size X.heap.size) A c (digs 4294967296 x)) (fun q hq=>hq.2) (by omega))
 obtain ⟨s,hs⟩:=eV w.heap.size
 rw [hs] at hn hE ⊢
 obtain ⟨m,hm⟩:=eV (ja x)
 rw [hm] at HIn ⊢
 have HE:=zF hE
 have Hn:=zF hn
 have Hs:=zF hs
 clear hn hE hs hm hb
 go_enter Tryz.func54,Tryz.ntmps54
 go_upto_region 1 with fail
 rw [←hW0,Hs.out]
 clear hW0
 go_wp2_with fail
 refine HOf.out.mono ?_
 rintro e w1 ⟨A1,c1,rfl,hO,hB1⟩
 have HI1:=zF (HIn.out A1 c1 w1 hB1 hO.rn)
 have hB1':Below W0.heap.size W0 w1:=hB1
 have hn1:=(hB1'.block s (by have:=qw Hn.out;omega)).trans Hn.out
 have HB1:=zF hB1'
 clear hO hB1 hB1'
 go_wp2_with fail
 refine HI1.out.mono ?_
 rintro e w2 ⟨⟨A2,c2,rfl,hL⟩,hB2⟩
 have HL:=zF hL
 have hs1:=HB1.out.size
 have hs0:=qw Hn.out
 have hn2:=(hB2.block s (by omega)).trans hn1
 have HB2:=zF (HE.out.trans ((HB1.out.mono (show s≤W0.heap.size by omega)).trans (hB2.mono (show s≤w1.heap.size by omega))))
 obtain ⟨z0,z1,z2,f0,f1,f2⟩:=jn hn2
 have Hn2:=zF hn2
 have Hs1:=zF (show s<w1.heap.size by omega)
 clear hL hB2 hn2 hn1 HI1 HIn HOf hs1 hs0
 go_wp2
 refine uE rfl rfl rfl (xM Hn2.out _ _ _) ⟨⟨A2,c2,rfl,?_⟩,?_⟩
 · refine (HL.out.keep fun p hp=>zT ?_).mono fun q hq=>⟨by have:=hq.1;have:=Hs1.out;omega,by have:=hq.2;simpa [World.setCell] using this⟩
   have hq:p.block≠s:=by have:=hp.1;have:=Hs1.out;omega
   exact (zN _ _ _ _ hq).trans ((zN _ _ _ _ hq).trans (zN _ _ _ _ hq))
 · exact ((HB2.out.setCell (p:=⟨s,0,none⟩) (by simp) _).setCell (p:=⟨s,1,none⟩) (by simp) _).setCell (p:=⟨s,2,none⟩) (by simp) _
theorem su (P:Nat→Prop) (g c:Nat) (l:List Int) (w:World) (hv:RZ w P (some ⟨g,0,none⟩) c l) (hP:∀ b,P b→b<w.heap.size) (hl:3≤l.length∧l.length≤12) (h0:l.getD 0 0=1) (h1:0≤l.getD 1 0∧l.getD 1 0≤39) (ha:∀ k,0≤l.getD k 0∧l.getD k 0<268435400) :
 Calls Tryz.prog 107 #[.slice (some ⟨g,0,none⟩) l.length c] w fun e w'=>(∃ A1 c1,e=.returned (.agg #[.int .i64 6,.slice A1 (ww l).length c1,.slice none 0 0])∧RB w' (In w.heap.size w'.heap.size) A1 c1 (ww l))∧Below w.heap.size w w':=by
 have hB:=(zO w.heap.size w).alloc (zH _) (.cells #[.int .i64 0,.slice none 0 0,.slice none 0 0] 80)
 have hb:=zP w (.cells #[.int .i64 0,.slice none 0 0,.slice none 0 0] 80)
 have hz:(w.alloc (.cells #[.int .i64 0,.slice none 0 0,.slice none 0 0] 80)).heap.size=w.heap.size+1:=by simp
 have hO:=pU P g c l _ (hv.below hB hP) (fun b hb=>by have:=hP b hb;rw [hz];omega) hl h0 h1 ha
 have HB:=zF hB
 have H0:=zF hb
 have Hz:=zF hz
 obtain ⟨bb,hbb⟩:=eV (ww l)
 rw [hbb] at hO ⊢
 have HO:=zF hO
 clear hB hb hz hO hv hP hl h0 h1 ha hbb
 go_enter Tryz.func107,Tryz.ntmps107
 go_wp2_with fail
 obtain ⟨s,hs⟩:=eV w.heap.size
 rw [hs] at HB H0 Hz ⊢
 have Hs:=zF hs
 clear hs
 generalize w.alloc (.cells #[.int .i64 0,.slice none 0 0,.slice none 0 0] 80)=W1 at *
 refine HO.out.mono ?_
 rintro e w2 ⟨⟨A1,c1,rfl,hr1⟩,hB2⟩
 obtain ⟨n,hn⟩:=eV bb.length
 rw [hn]
 have Hn:=zF hn
 have Hr1:=zF hr1
 clear hn hr1
 have h2:=(hB2.block s (by have:=Hz.out;omega)).trans H0.out
 have hlt:s<w2.heap.size:=by have:=Hz.out;have:=hB2.size;omega
 have HB3:=zF (HB.out.trans (hB2.mono (by have:=Hz.out;omega)))
 have H2:=zF h2
 have q0:=zJ h2 0
 have q1:=zJ h2 1
 have q2:=zJ h2 2
 have p0:=zv h2 0
 have p1:=zv h2 1
 have p2:=zv h2 2
 simp only [zK,zL,zS] at q0 q1 q2
 clear h2 hB2 H0
 go_wp2
 have r:=zCE H2.out (.int .i64 6) (.slice A1 n c1) (.slice none 0 0) (.cells #[.int .i64 6,.slice A1 n c1,.slice none 0 0] 80)
 have r0:=zJ r 0
 have r1:=zJ r 1
 have r2:=zJ r 2
 simp only [zK,zL,zS] at r0 r1 r2
 refine qS (v:=.agg #[.int .i64 6,.slice A1 n c1,.slice none 0 0]) (by simp [results,Tryz.results107,go_sem,r0,r1,r2]) rfl ⟨⟨A1,c1,by rw [Hn.out],?_⟩,?_⟩
 · rw [Hs.out];refine (Hr1.out.keep fun p hp=>zT ?_).mono fun q hq=>⟨by have:=hq.1;have:=Hz.out;omega,by have:=hq.2;simp [World.setCell];omega⟩
   have hq:p.block≠s:=by have:=hp.1;have:=Hz.out;omega
   have hq2:p.block<w2.heap.size:=hp.2;exact (zx _ _ _ (by simpa [World.setCell] using hq2)).trans ((zN _ _ _ _ hq).trans ((zN _ _ _ _ hq).trans (zN _ _ _ _ hq)))
 · rw [Hs.out];exact (((HB3.out.setCell (p:=⟨s,0,none⟩) (by simp) _).setCell (p:=⟨s,1,none⟩) (by simp) _).setCell (p:=⟨s,2,none⟩) (by simp) _).alloc (by simp;omega) _
theorem rM {l:List Int}(h:∀ x∈l,0≤x∧x<268435400) (k:Nat):0≤l.getD k 0∧l.getD k 0<268435400:=by
 rcases zz k l.length with hk | hk
 · rw [zh,qO hk];exact h _ (kM hk)
 · rw [zh,qx hk];simp
def kp1:List Nat:=6 :: 8 :: gO
def kp2:List Nat:=6 :: 5 :: gN
def zAC (b:List Nat):Int:=if b=kp1 then 1 else if b=kp2 then 2 else 0
def ss:List Nat:=[42,134,72,206,61,2,1]
theorem zBk:ww [1,2,840,10045,2,1]=ss:=by decide
abbrev Al (w:World) (q:Nat):Prop:=q<w.heap.size
theorem RB.al {w w':World}{B:Nat}{P:Nat→Prop}{A:Option Addr}{c:Nat}{bs:List Nat}(h:RB w P A c bs) (hb:Below B w w') (hP:∀ q,P q→q<B) (hs:B≤w'.heap.size):RB w' (Al w') A c bs:=(h.below hb hP).mono fun q hq=>zR (hP q hq) hs
theorem RD.leaf {w:World}{P:Nat→Prop}{A:Option Addr}{c tag:Nat}{bs:List Nat}(h:RB w P A c bs) (ht:tag≠48):RD w P (.mk tag bs []) (.agg #[.int .i64 (tag:Int),.slice A bs.length c,.slice none 0 0]):=by
 unfold RD;exact ⟨A,c,none,0,[],rfl,h,fun e=>absurd e ht,RS.nil_ _ _ _,by unfold RDs;rfl⟩
theorem RDs.cons {w:World}{P:Nat→Prop}{k:DN}{a b c:Value}(hk:RD w P k (.agg #[a,b,c])){ks:List DN}{cs:List Value}(h:RDs w P ks cs):RDs w P (k :: ks) (a :: b :: c :: cs):=by
 unfold RDs;exact ⟨a,b,c,cs,rfl,hk,h⟩
theorem RDs.nil_ {w:World}{P:Nat→Prop} : RDs w P [] []:=by unfold RDs;rfl
theorem RD.seq {w:World}{P:Nat→Prop}{ks:List DN}{A:Option Addr}{n c:Nat}{cs:List Value}(h:RS w P 3 A n c cs) (hd:RDs w P ks cs) (hn:n=ks.length):RD w P (.mk 48 [] ks) (.agg #[.int .i64 48,.slice none 0 0,.slice A n c]):=by
 subst hn;unfold RD;exact ⟨none,0,A,c,cs,rfl,vn _ _,fun _=>⟨rfl,rfl⟩,h,hd⟩
theorem RD.al {w w':World}{t:DN}{v:Value}(h:RD w (Al w) t v) (hb:Below w.heap.size w w'):RD w' (Al w') t v:=(h.below hb fun q hq=>hq).mono fun q hq=>zR hq hb.size
theorem RS.al {w w':World}{A:Option Addr}{n c:Nat}{cs:List Value}(h:RS w (Al w) 3 A n c cs) (hb:Below w.heap.size w w'):RS w' (Al w') 3 A n c cs:=(h.below hb fun q hq=>hq).mono fun q hq=>zR hq hb.size
theorem RZ.al {w w':World}{A:Option Addr}{c:Nat}{l:List Int}(h:RZ w (Al w) A c l) (hb:Below w.heap.size w w'):RZ w' (Al w') A c l:=RS.mono (RS.below h hb fun q hq=>hq) fun q hq=>zR hq hb.size
abbrev An (g:Nat) (w:World) (q:Nat):Prop:=q≠g∧q<w.heap.size
theorem RS.an {w w':World}{g:Nat}{A:Option Addr}{n c:Nat}{cs:List Value}(h:RS w (An g w) 3 A n c cs) (hb:Below w.heap.size w w'):RS w' (An g w') 3 A n c cs:=(h.below hb fun q hq=>hq.2).mono fun q hq=>⟨hq.1,zR hq.2 hb.size⟩
theorem RB.an {w w':World}{B g:Nat}{P:Nat→Prop}{A:Option Addr}{c:Nat}{bs:List Nat}(h:RB w P A c bs) (hb:Below B w w') (hP:∀ q,P q→q≠g∧q<B) (hs:B≤w'.heap.size):RB w' (An g w') A c bs:=(h.below hb fun q hq=>(hP q hq).2).mono fun q hq=>⟨(hP q hq).1,zR (hP q hq).2 hs⟩
theorem RD.an {w w':World}{g:Nat}{t:DN}{v:Value}(h:RD w (Al w) t v) (hg:w.heap.size≤g) (hb:Below w.heap.size w w'):RD w' (An g w') t v:=(h.below hb fun q hq=>hq).mono fun q hq=>⟨by unfold Al at hq;omega,zR hq hb.size⟩
theorem RD.just {X Y:World}{g:Nat}{t:DN}{v:Value}(h:RD X (An g X) t v) (hj:kj g X Y) (hs:Y.heap.size=X.heap.size):RD Y (Al Y) t v:=(RD.keep (fun p hp=>zT (hj.block _ hp.2 hp.1)) h).mono fun q hq=>by unfold Al;have:=hq.2;omega
theorem mf (x:Int) (A A':Option Addr) (n n' c c':Nat):(#[Value.int .i64 x,.slice A n c,.slice A' n' c']:Array Value).all (·.oneCell')=true:=by simp [Value.oneCell']
theorem aL (w:World) (o1 o2:Obj):((w.alloc o1).alloc o2).heap[w.heap.size]?=some o1∧((w.alloc o1).alloc o2).heap[w.heap.size+1]?=some o2∧((w.alloc o1).alloc o2).heap.size=w.heap.size+2 :=
 ⟨(zx _ _ _ (by simp)).trans (zP w _),by have:=zP (w.alloc o1) o2;rwa [qL] at this,by simp⟩
theorem tT (t:DN) (v:Value) (w:World) (h:RD w (Al w) t v) :
 Calls Tryz.prog 46 #[v] w fun e w'=>(∃ v',e=.returned v'∧RD w' (Al w') (.mk 48 [] [.mk 6 ss [],t]) v')∧Below w.heap.size w w':=by
 obtain ⟨xi,B1,n1,d1,B2,n2,d2,rfl⟩:=h.shape
 obtain ⟨W0,hW0⟩:=eW ((w.alloc (.cells #[.int .i64 xi,.slice B1 n1 d1,.slice B2 n2 d2] 80)).alloc (.cells #[.int .i64 0,.slice none 0 0,.slice none 0 0] 80))
 obtain ⟨s,hs⟩:=eV w.heap.size
 obtain ⟨hq0,hq1,hz⟩:=aL w (.cells #[.int .i64 xi,.slice B1 n1 d1,.slice B2 n2 d2] 80) (.cells #[.int .i64 0,.slice none 0 0,.slice none 0 0] 80)
 have hE:Below s w W0:=by rw [hW0,←hs];exact ((zO _ w).alloc (zH _) _).alloc (by simp) _
 rw [←hW0,hs] at hq0 hq1 hz
 have HE:=zF hE
 have Hz:=zF hz
 have HD:=zF h
 have Hs:=zF hs
 rw [hs]
 clear h hE hz hs
 go_enter Tryz.func46,Tryz.ntmps46
 go_upto_region 1 with fail
 rw [←hW0,Hs.out]
 clear hW0
 refine z8 (by kernel_rfl) 5 [0,1,0,7,15,31] [] (fun j f X=>match j with
  | 0=>∃ b,f 0=.slice (some ⟨b,0,none⟩) 6 6∧RZ X (Al X) (some ⟨b,0,none⟩) 6 [1,2,840,10045,2,1]
  | 1=>∃ A1 c1,f 1=.agg #[.int .i64 6,.slice A1 7 c1,.slice none 0 0]∧RB X (An (s+1) X) A1 c1 ss
  | 2=>f 2=.agg #[.int .i64 xi,.slice B1 n1 d1,.slice B2 n2 d2]
  | 3=>∃ b A1 c1,f 3=.slice (some ⟨b,0,none⟩) 2 2∧RS X (An (s+1) X) 3 (some ⟨b,0,none⟩) 2 2 [.int .i64 6,.slice A1 7 c1,.slice none 0 0,.int .i64 xi,.slice B1 n1 d1,.slice B2 n2 d2]∧RB X (An (s+1) X) A1 c1 ss
  | 4=>∃ b A1 c1,f 4=.agg #[.int .i64 48,.slice none 0 0,.slice (some ⟨b,0,none⟩) 2 2]∧RS X (An (s+1) X) 3 (some ⟨b,0,none⟩) 2 2 [.int .i64 6,.slice A1 7 c1,.slice none 0 0,.int .i64 xi,.slice B1 n1 d1,.slice B2 n2 d2]∧RB X (An (s+1) X) A1 c1 ss
  | _=>True) (by kernel_rfl) [(3,0),(4,1),(5,2),(6,3),(7,4)] (by kernel_rfl) ?_
 refine qH 1 4 [(5,2)] (fun f X hX hR K hK=>?_) ?_
 · simp only [yZ];refine ⟨?_⟩;go_simp;exact hK.out _ (.slice (some ⟨X.heap.size,0,none⟩) 6 6) _ (by simp only [yZ]) (zb _ _) trivial (fun Y hY=>⟨_,rfl,RZ.al (show RZ _ (Al _) _ 6 [1,2,840,10045,2,1] from jM (w:=X) (P:=Al (X.alloc (.cells #[.int .i64 1,.int .i64 2,.int .i64 840,.int .i64 10045,.int .i64 2,.int .i64 1] 3))) #[.int .i64 1,.int .i64 2,.int .i64 840,.int .i64 10045,.int .i64 2,.int .i64 1] 3 1 6 rfl (by unfold maxLen;omega) (by simp [Al])) hY⟩)
 refine qJ 2 3 (fun f=>#[f 0]) (F':=97) (fun f X hX hR=>?_) ?_
 · obtain ⟨b0,(e0:f 0=_),r0⟩:=hR.out 0 rfl;simp only [e0];refine (gi (Al X) b0 6 [1,2,840,10045,2,1] X r0 (fun b hb=>hb) (by simp) rfl (by simp) (gq (by simp))).mono ?_;rw [zBk];rintro e w' ⟨⟨A1,c1,rfl,hr⟩,hB⟩;exact ⟨(.agg #[.int .i64 6,.slice A1 7 c1,.slice none 0 0]),rfl,hB,fun Y hY=>⟨A1,c1,rfl,RB.an hr hY (fun q hq=>⟨by have:=hq.1;have:=hX.bsize;have:=Hz.out;omega,hq.2⟩) hY.bsize⟩⟩
 refine qH 3 2 [(3,0),(4,1)] (fun f X hX hR K hK=>?_) ?_
 · simp only [yZ];refine ⟨zZ (by kernel_rfl) (vf 80 (.tmp 1) rfl rfl (hX.at_ hq0) Tryz.underlying80 rfl yo rfl ?_)⟩;exact jA hK (s:=by simp only [yZ])
 refine qH 4 1 [(3,0),(4,1),(5,2)] (fun f X hX hR K hK=>?_) ?_
 · obtain ⟨A1,c1,(e1:f 1=_),r1⟩:=hR.out 1 rfl;have e2:f 2=_:=hR.out 2 rfl;simp only [yZ,e1,e2];refine ⟨?_⟩;go_simp;exact hK.out _ (.slice (some ⟨X.heap.size,0,none⟩) 2 2) _ (by simp only [yZ,e1,e2]) (zb _ _) trivial (fun Y hY=>⟨_,A1,c1,rfl,RS.an (jM (w:=X) (P:=An (s+1) (X.alloc (.cells #[.int .i64 6,.slice A1 7 c1,.slice none 0 0,.int .i64 xi,.slice B1 n1 d1,.slice B2 n2 d2] 80))) #[.int .i64 6,.slice A1 7 c1,.slice none 0 0,.int .i64 xi,.slice B1 n1 d1,.slice B2 n2 d2] 80 3 2 rfl (by unfold maxLen;omega) (by have:=hX.bsize;have:=Hz.out;simp [An];omega)) hY,RB.an r1 ((zb _ _).trans hY) (fun q hq=>hq) ((zb _ _).trans hY).bsize⟩)
 refine qJ 5 0 (fun f=>#[f 3]) (F':=47) (fun f X hX hR=>?_) ?_
 · obtain ⟨b3,A3,c3,(e3:f 3=_),s3,r3⟩:=hR.out 3 rfl;simp only [e3];refine (ug (some ⟨b3,0,none⟩) 2 2 X).mono ?_;rintro e w' ⟨rfl,hB⟩;exact ⟨(.agg #[.int .i64 48,.slice none 0 0,.slice (some ⟨b3,0,none⟩) 2 2]),rfl,hB,fun Y hY=>⟨b3,A3,c3,rfl,RS.an s3 (zI hB hY),RB.an r3 (zI hB hY) (fun q hq=>hq) (zI hB hY).bsize⟩⟩
 refine yF ⟨fun f X hX hR hal hap=>?_⟩
 obtain ⟨b0,(e0:f 0=_),r0⟩:=hR 0 (by decide)
 obtain ⟨A1,c1,(e1:f 1=_),r1⟩:=hR 1 (by decide)
 obtain ⟨b3,A3,c3,(e3:f 3=_),s3,r3⟩:=hR 3 (by decide)
 obtain ⟨b4,A4,c4,(e4:f 4=_),s4,r4⟩:=hR 4 (by decide)
 simp only [yZ,e0,e1,e3,e4]
 clear hR hal hap e0 e1 e3 e4
 refine zg (fun K hK=>⟨zZ (by kernel_rfl) (vD 80 (.tmp 2) (.tmp 7) rfl rfl rfl rfl (hX.at_ hq1) yo rfl (mf _ _ _ _ _ _ _) (fun Y1 j1 j2 j3=>hK.out _ _ ?_))⟩)
 refine zU ?_
 go_wp2
 have hs:=Hs.out
 have HEX:Ext w X:=by show Below w.heap.size w X;rw [hs];exact HE.out.trans (Below.mono hX (by have:=Hz.out;omega))
 refine uE rfl rfl rfl j1 ⟨⟨_,rfl,RD.just (RD.seq s4 (RDs.cons (RD.leaf r4 (by decide)) (RDs.cons (RD.an HD.out (by omega) HEX) RDs.nil_)) rfl) j2 j3⟩,?_⟩
 have hY:Ext w Y1:=j2.ext HEX (by omega)
 unfold Ext at hY
 rw [hs] at hY
 exact hY
end Go.Proofs.YtmlbicgpehchhaaGreat.Der
namespace Go.Proofs.YtmlbicgpehchhaaGreat
theorem jg:type_of% @Der.RDs.cons:=@Der.RDs.cons
theorem wi:type_of% @Der.RD.leaf:=@Der.RD.leaf
end Go.Proofs.YtmlbicgpehchhaaGreat
namespace Go.Proofs.YtmlbicgpehchhaaGreat.Der
open Go.RowKit Go.Shelf
attribute [local go_sem] Oper.semAt_some
def IsN (c:Int) (oc:List Nat):Prop:=(c=1∧oc=gO)∨(c=2∧oc=gN)
theorem nm {c:Int}{oc:List Nat}(h:IsN c oc) (w:World):Calls Tryz.prog 41 #[.int .i64 c] w fun e w'=>(∃ A1 c1,e=.returned (.tuple #[.agg #[.int .i64 6,.slice A1 oc.length c1,.slice none 0 0],.bool true])∧RB w' (In w.heap.size w'.heap.size) A1 c1 oc)∧Below w.heap.size w w':=by
 rcases h with ⟨rfl,rfl⟩ | ⟨rfl,rfl⟩
 · exact nr w
 · exact np w
end Go.Proofs.YtmlbicgpehchhaaGreat.Der
