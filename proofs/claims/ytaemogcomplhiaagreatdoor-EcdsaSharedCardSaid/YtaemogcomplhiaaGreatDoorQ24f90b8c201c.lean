/- Laws that the proof rests on. -/
import Derived.Test.YtaemogcomplhiaaGreatDoorQd4556e36cfed
set_option maxRecDepth 100000
set_option maxHeartbeats 16000000
namespace Go.Proofs.YtaemogcomplhiaaGreatDoor
open Go.RowKit Go.Shelf
attribute [local go_sem] Oper.semAt_some
def kM (E k:Nat):Nat:=E/2 ^(zu E-k)
theorem ur (E:Nat):kM E 0=0:=by rw[kM,Nat.sub_zero];exact qh (yr (zG _))
theorem go (E:Nat):kM E (zu E)=E:=by rw[kM,Nat.sub_self,Nat.pow_zero,Nat.div_one]
theorem ym {E k:Nat}(hk:k<zu E):kM E (k+1)=2*kM E k+(jn E k).2:=by
 rw[kM,kM,jn,show zu E-k=(zu E-(k+1))+1 by omega,show zu E-1-k=zu E-(k+1) by omega,zp,←Nat.div_div_eq_div_mul];have:=jY (E/2 ^(zu E-(k+1))) 2;omega
theorem te {x E k:Nat}(hk:k<zu E)(hb:(jn E k).2=0):x^kM E (k+1)=x^kM E k*x^kM E k:=by
 rw[ym hk,hb,q9,Nat.two_mul,qP]
theorem sR {x E k:Nat}(hk:k<zu E)(hb:(jn E k).2=1):x^kM E (k+1)=x^kM E k*x^kM E k*x:=by
 rw[ym hk,hb,zp,Nat.two_mul,qP]
theorem jN.just {B C g:Nat}{X Y:World}{cs:Array Value}{t:TypeId}{fr:Nat×Nat}(h:jQ g X Y)(hg:X.heap[g]?=some (.cells cs t fr)):jN B C 0 X Y :=
 ⟨h.size, fun k o _ hk ho => by
  by_cases hkg:k=g
  · subst hkg
    rw[hg]at hk
    cases hk
    cases ho
  · exact(h.block k (qr hk) hkg).trans hk,fun k h1 h2=>absurd h2 (by omega)⟩
theorem jQ.stay {g lo hi:Nat}{X Y:World}(h:jQ g X Y)(hg:g<lo)(hi':hi≤X.heap.size):yk lo hi X Y:=⟨h.size,fun k h1 h2=>h.block k (by omega) (by omega)⟩
theorem Ext.stay {lo hi:Nat}{X Y:World}(h:Ext X Y)(hi':hi≤X.heap.size):yk lo hi X Y:=⟨h.bsize,fun k _ h2=>Below.block h k (by omega)⟩
theorem zBn (w:World)(o1 o2 o3:Obj):(((w.alloc o1).alloc o2).alloc o3).heap[w.heap.size]?=some o1∧(((w.alloc o1).alloc o2).alloc o3).heap[w.heap.size+1]?=some o2∧(((w.alloc o1).alloc o2).alloc o3).heap[w.heap.size+2]?=some o3∧(((w.alloc o1).alloc o2).alloc o3).heap.size=w.heap.size+3:=by
 have h1:=zS (w.alloc o1) o2;have h2:=zS ((w.alloc o1).alloc o2) o3;rw[qB]at h1 h2;rw[qB]at h2;exact⟨(zO _ _).at_ ((zO _ _).at_ (zS w o1)),(zO _ _).at_ h1,h2,by simp⟩
theorem tf {g n inv M:Nat}{ml ol rl la:List Nat}(w:World)(hF:FR w g n inv M ml ol rl)(hone:FE M n ol 1)(x E:Nat)(ha:FE M n la x)(Pe:Nat→Prop)(Ae:Option Addr)(ce:Nat)(e:List Nat)(he:RN w Pe Ae ce e)(hPe:∀ b,Pe b→b<w.heap.size)(hE:val 18446744073709551616 e=E) :
 Calls Tryz.prog 108 #[.pointer (some ⟨g,0,none⟩),EV la,.slice Ae e.length ce] w fun e w'=>∃ o,e=.returned (EV o)∧FE M n o (x^E)∧Ext w w':=by
 obtain⟨W0,hW0⟩:=eW (((w.alloc (.cells #[.pointer (some ⟨g,0,none⟩)] 107)).alloc (.cells (nts la).toArray 109)).alloc (.cells #[.int .u64 0,.int .u64 0,.int .u64 0,.int .u64 0,.int .u64 0,.int .u64 0] 109))
 obtain⟨s,hs⟩:=eV w.heap.size
 have hE0:Ext w W0:=by rw[hW0];exact((zO _ _).trans (zO _ _)).trans (zO _ _)
 obtain⟨m0,m1,m2,hz0⟩:=zBn w (.cells #[.pointer (some ⟨g,0,none⟩)] 107) (.cells (nts la).toArray 109) (.cells #[.int .u64 0,.int .u64 0,.int .u64 0,.int .u64 0,.int .u64 0,.int .u64 0] 109)
 rw[←hW0,hs]at m0 m1 m2 hz0
 have hg:=hF.ff.fld.lt
 have c0:W0.cell? ⟨s,0,none⟩=some (.pointer (some ⟨g,0,none⟩)):=zQ m0 0
 have hFR:=zF (fun X (h:Ext w X)=>hF.below h hg)
 have HE0:=zF hE0
 have Hz0:=zF hz0
 have Hs:=zF hs
 obtain⟨cs,hcs⟩:=eV ((nts la).toArray)
 have hA:xJ W0 (s+1) la:=m1
 rw[show EV la=.agg cs by rw[EV,hcs]]
 rw[hcs]at hW0
 have Hcs:=zF hcs
 clear hcs m0 m1 hE0 hz0
 refine(callsIn_wide (n:=6)).1 ?_
 refine callsIn_of_wp_marks Tryz.func108 rfl trivial ?_ rfl
 simp only[Tryz.ntmps108,qX,jZ,kA,Nat.reduceAdd,Nat.reduceSub,Array.replicate_succ,Array.replicate_zero,List.push_toArray,List.append_toArray,wm,uS]
 refine wpIn_wide.2 ?_
 go_upto_region 1 with fail
 rw[←hW0]
 have HW0:=zF hW0
 clear hW0 hs
 refine zN 5 [0,1,3,7,0,31] [4] (fun j f X=>match j with
  | 0=>f 0=.pointer (some ⟨g,0,none⟩)
  | 1=>f 1=.pointer (some ⟨g,0,none⟩)
  | 2=>f 2=.pointer (some ⟨g,8,none⟩)
  | 3=>f 3=EV ol
  | 4=>∃ b,f 4=.pointer (some ⟨b,0,none⟩)∧W0.heap.size≤b∧X.heap[b]?=some (.cells #[.int .u64 0,.int .u64 0,.int .u64 0,.int .u64 0,.int .u64 0,.int .u64 0] 109 (0,0))
  | _=>True) (by kernel_rfl) [(10,0),(11,1),(12,2),(13,3),(7,4)] (by kernel_rfl) ?_
 refine Par.ld0 1 4 c0 ?_
 refine qN 2 3 0 ?_
 refine qN 3 2 1 ?_
 refine zt 4 1 [(10,0),(11,1),(12,2),(7,4)] (fun f X hX hR K hK=>?_) ?_
 · have e2:f 2=_:=hR.out 2 rfl;simp only[yZ,e2];refine⟨zU (by kernel_rfl) (kg (.tmp 12) rfl rfl (hFR.out X (HE0.out.trans hX)).r_one hone.elt.six ?_)⟩;exact hK.out _ (EV ol) _ (by simp only[yZ,e2]) (zX _) trivial (fun _ _=>rfl)
 refine kK 5 0 ?_
 refine yF ⟨fun f X hX hR hal hap=>?_⟩
 have e3:f 3=_:=hR 3 (by decide)
 obtain⟨b4,(e4:f 4=_),l4,h4⟩:=hR 4 (by decide)
 simp only[yZ,e3,e4]
 clear hR hal hap e3 e4
 refine zP (fun K hK=>⟨zU (by kernel_rfl) (qe (.tmp 7) (.tmp 13) rfl rfl rfl rfl h4 ke hone.elt.six (fun Y1 hl1=>hK.out _ _ ?_))⟩)
 refine zH ?_
 have hEq:Ext W0 Y1:=hl1.ext hX (by have:=l4;omega)
 have zq:s+3≤b4:=by have:=Hz0.out;omega
 have zq2:b4<Y1.heap.size:=hl1.blk.lt
 have c1:=hEq.cell c0
 have hA1:xJ Y1 (s+1) la:=hEq.at_ hA
 have hq0:xJ Y1 b4 ol:=hl1.blk
 have m3:=hEq.at_ m2
 have hEw:=HE0.out.trans hEq
 have heach:=oL Pe Ae ce e Y1 (he.below hEw hPe) (fun b hb=>zI (hPe b hb) hEw.bsize)
 rw[hE]at heach
 have Heach:=zF heach
 clear heach hl1 l4 h4 hX m2 hA c0
 go_wp2_with (go_at_call 76;refine Heach.out.mono ?_;rintro e' w3 ⟨Ae',ce',rfl,be,hOe,hB3⟩)
 obtain⟨t,ht⟩:=eV Y1.heap.size
 rw[ht]at be hOe hB3 zq2
 have zn:t<w3.heap.size:=qr be
 have hbe:=zQ be 0
 simp only[zR,zi]at hbe
 have hseq:=oK t t w3.heap.size (In t w3.heap.size) Ae' ce' (digs 18446744073709551616 E) w3 (fun b hb=>hb) (zG _) zn (zG _) hbe hOe.rn
 rw[zd (by omega)]at hseq
 have Hseq:=zF hseq
 have hE3:Ext Y1 w3:=by rw[←ht]at hB3;exact hB3
 have hEw3:=hEw.trans hE3
 have c3:=hE3.cell c1
 have hA3:xJ w3 (s+1) la:=hE3.at_ hA1
 have hq3:xJ w3 b4 ol:=hE3.at_ hq0
 have m4:=hE3.at_ m3
 have hI0:VE w3 M n b4 (x^kM E 0):=⟨ol,hq3,by rw[ur,Nat.pow_zero];exact hone⟩
 have hFR3:=zF (fun X (h:Below b4 w3 X)=>(hFR.out w3 hEw3).below h (by have:=Hs.out;omega))
 clear hseq Heach hbe be hOe hB3 hE3 c1 hA1 hq0 m3 hEq
 have hInv:OwnFrom w3.heap.size (fun(k:Nat) X=>VE X M n b4 (x^kM E k)∧Below b4 w3 X):=by
  rintro k X X' row ⟨⟨l,h1,h2⟩,h5⟩ hg' hr;have hr':=fun r e=>(hr r e).2;exact⟨⟨l,(x9 hg' hr' h1 rfl).trans h1,h2⟩,ownFrom_below (by omega) (by omega) k X X' row h5 hg' hr⟩
 refine(wpIn_wide (n:=6)).1 ?_
 refine' aC (by omega) (gf:=106) (lb:=#[.pointer (some ⟨t,0,none⟩)]) (by rw[←ht];rfl) (enters_of Tryz.func106 (by kernel_rfl) rfl)
  Hseq.out (fun h k=>yk.trans h k) (fun X l o o' hl ho _ _=>⟨by simp,fun i _ hi=>qJ (by omega)⟩) fB (zl _ _) (fun _=>rfl)
  (fun k X=>VE X M n b4 (x^kM E k)∧Below b4 w3 X) (fun k X=>VE X M n b4 (x^kM E k)∧Below b4 w3 X) (fun _ _ _=>False)
  hInv hInv (fun _ _ _ _ _ h=>h.elim) (fun _ _ _ _=>trivial) (fun B k A C _ _ hi ht=>?hIT) (fun h=>by cases h) ⟨hI0,zl _ _⟩ _ ?assign ?body ?done ?stop
 case hIT=>exact gm (I:=fun k X=>VE X M n b4 (x^kM E k)∧Below b4 w3 X) (B:=w3.heap.size) hInv hi ht
 case assign =>
  intro l k X K hK;gi_wp2;exact hK
 case body =>
  rintro l k V ⟨⟨lo,hl,hf⟩,h5⟩ hlt _;have zV:=h5.size;have hq:b4<V.heap.size:=hl.lt;have cV:V.cell? ⟨s,0,none⟩=some (.pointer (some ⟨g,0,none⟩)):=(h5.cell (p:=⟨s,0,none⟩) (by show s<b4;omega)).trans c3;have hAV:xJ V (s+1) la:=(h5.block (s+1) (by omega)).trans hA3;have hH:=zF hf;have hbit:(jn E k).2=0∨(jn E k).2=1:=by
   have:(jn E k).2<2:=qL _ (by omega);omega
  obtain⟨bt,hbt⟩:=eV ((jn E k).2);rw[hbt]at hbit ⊢;have Hbt:=zF hbt;have Hbit:=zF hbit;have H5:=zF h5;obtain⟨v,hv⟩:=eV (x^kM E k);rw[hv]at hH hf;have Hv:=zF hv;have HlV:=zF hl;clear hv hbt hbit hf h5;gi_upto_region 4 with fail
  refine Par.wH 4 [0,0,0,7,15] [] (fun j f X=>match j with
   | 0=>f 0=.pointer (some ⟨g,0,none⟩)
   | 1=>f 1=EV lo
   | 2=>f 2=EV lo
   | 3=>∃ o,f 3=EV o∧FE M n o (v*v)
   | _=>True) (by kernel_rfl) [(18,0),(19,1),(20,2),(21,3)] (by kernel_rfl) (by kernel_rfl) ?_
  refine zt 1 3 [(19,1),(20,2)] (fun f X hX hR K hK=>?_) ?_
  · have x0:=hX.cell cV;simp only[yZ];refine⟨?_⟩;go_simp;exact qd hK (s:=by simp only[yZ])
  refine zt 2 2 [(18,0),(20,2)] (fun f X hX hR K hK=>?_) ?_
  · simp only[yZ];refine⟨zU (by kernel_rfl) (kg (.tmp 7) rfl rfl (xJ.range (hX.at_ hl)) hH.out.elt.six ?_)⟩;exact hK.out _ (EV lo) _ (by simp only[yZ]) (zX _) trivial (fun _ _=>rfl)
  refine zt 3 1 [(18,0),(19,1)] (fun f X hX hR K hK=>?_) ?_
  · simp only[yZ];refine⟨zU (by kernel_rfl) (kg (.tmp 7) rfl rfl (xJ.range (hX.at_ hl)) hH.out.elt.six ?_)⟩;exact hK.out _ (EV lo) _ (by simp only[yZ]) (zX _) trivial (fun _ _=>rfl)
  refine zt 4 0 [(18,0),(19,1),(20,2)] (fun f X hX hR K hK=>?_) ?_
  · have e0:f 0=_:=hR.out 0 rfl;have e1:f 1=_:=hR.out 1 rfl;have e2:f 2=_:=hR.out 2 rfl;simp only[yZ,e0,e1,e2];refine⟨?_⟩;go_simp;refine(uM X (hFR3.out X (H5.out.trans (Below.mono hX (by omega)))).ff hH.out hH.out).mono ?_;rintro e w2 ⟨o,rfl,ho,hB⟩;exact hK.out _ (EV o) _ (by simp only[yZ,e0,e1,e2]) hB trivial (fun Y hY=>⟨o,rfl,ho⟩)
  refine yF ⟨fun f X hX hR hal hap=>?_⟩;have e0:f 0=_:=hR 0 (by decide);have e1:f 1=_:=hR 1 (by decide);have e2:f 2=_:=hR 2 (by decide);obtain⟨o3,(e3:f 3=_),h3⟩:=hR 3 (by decide);simp only[yZ,e0,e1,e2,e3];clear hR hal hap e0 e1 e2 e3;refine zP (fun K hK=>⟨zU (by kernel_rfl) (qe (.tmp 7) (.tmp 21) rfl rfl rfl rfl (hX.at_ hl) (by rw[qf];exact hH.out.elt.six) h3.elt.six (fun Y1 hl1=>hK.out _ _ ?_))⟩);refine zH ?_;refine⟨nofun,?_⟩;have hK1:jN w3.heap.size (w3.heap.size+2) 0 V Y1:=(jN.below hX (zG _)).trans (jN.just hl1.just (hX.at_ hl));have hS1:yk t w3.heap.size V Y1:=yk.trans (hX.stay zV) (hl1.just.stay zq2 (zK zV hX.bsize));have hB1:Below b4 w3 Y1:=(H5.out.trans (Below.mono hX (by omega))).trans (hl1.just.below (zG _) (by have:=hX.bsize;omega));have hy1:xJ Y1 b4 o3:=hl1.blk;have zY:=hB1.size;have hq1:b4<Y1.heap.size:=hy1.lt;have HK1:=zF hK1;have HS1:=zF hS1;have HB1:=zF hB1;have Hy1:=zF hy1;have H3:=zF h3;have cY:Y1.cell? ⟨s,0,none⟩=some (.pointer (some ⟨g,0,none⟩)):=(hB1.cell (p:=⟨s,0,none⟩) (by show s<b4;omega)).trans c3;have hAY:xJ Y1 (s+1) la:=(hB1.block (s+1) (by omega)).trans hA3;clear hK1 hS1 hB1 hy1 hl1 hX h3 hl cV hAV hH;rcases Hbit.out with hb0|hb1
  · have hp:=zF (te (x:=x) hlt (Hbt.out.trans hb0));subst hb0;gi_wp2;exact⟨HK1.out,HS1.out,⟨o3,Hy1.out,by rw[hp.out,Hv.out];exact H3.out⟩,HB1.out⟩
  · have hp:=zF (sR (x:=x) hlt (Hbt.out.trans hb1));rw[hb1,show((1:Nat):Int)=1 from rfl];gi_upto_region 6 with fail
    rename World=>V1;have hl:=Hy1.out;have zV1:=HB1.out.size
    refine Par.wH 4 [0,0,0,7,15] [] (fun j f X=>match j with
     | 0=>f 0=.pointer (some ⟨g,0,none⟩)
     | 1=>f 1=EV o3
     | 2=>f 2=EV la
     | 3=>∃ o,f 3=EV o∧FE M n o (v*v*x)
     | _=>True) (by kernel_rfl) [(24,0),(25,1),(26,2),(27,3)] (by kernel_rfl) (by kernel_rfl) ?_
    refine zt 1 3 [(25,1),(26,2)] (fun f X hX hR K hK=>?_) ?_
    · have x0:=hX.cell cY;simp only[yZ];refine⟨?_⟩;go_simp;exact qd hK (s:=by simp only[yZ])
    refine zt 2 2 [(24,0),(26,2)] (fun f X hX hR K hK=>?_) ?_
    · simp only[yZ];refine⟨zU (by kernel_rfl) (kg (.tmp 7) rfl rfl (xJ.range (hX.at_ hl)) H3.out.elt.six ?_)⟩;exact hK.out _ (EV o3) _ (by simp only[yZ]) (zX _) trivial (fun _ _=>rfl)
    refine zt 3 1 [(24,0),(25,1)] (fun f X hX hR K hK=>?_) ?_
    · simp only[yZ];refine⟨zU (by kernel_rfl) (kg (.tmp 4) rfl rfl (xJ.range (hX.at_ hAY)) ha.elt.six ?_)⟩;exact hK.out _ (EV la) _ (by simp only[yZ]) (zX _) trivial (fun _ _=>rfl)
    refine zt 4 0 [(24,0),(25,1),(26,2)] (fun f X hX hR K hK=>?_) ?_
    · have e0:f 0=_:=hR.out 0 rfl;have e1:f 1=_:=hR.out 1 rfl;have e2:f 2=_:=hR.out 2 rfl;simp only[yZ,e0,e1,e2];refine⟨?_⟩;go_simp;refine(uM X (hFR3.out X (HB1.out.trans (Below.mono hX (by omega)))).ff H3.out ha).mono ?_;rintro e w2 ⟨o,rfl,ho,hB⟩;exact hK.out _ (EV o) _ (by simp only[yZ,e0,e1,e2]) hB trivial (fun Y hY=>⟨o,rfl,ho⟩)
    refine yF ⟨fun f X hX hR hal hap=>?_⟩;have e0:f 0=_:=hR 0 (by decide);have e1:f 1=_:=hR 1 (by decide);have e2:f 2=_:=hR 2 (by decide);obtain⟨o5,(e3:f 3=_),h3⟩:=hR 3 (by decide);simp only[yZ,e0,e1,e2,e3];clear hR hal hap e0 e1 e2 e3;refine zP (fun K hK=>⟨zU (by kernel_rfl) (qe (.tmp 7) (.tmp 27) rfl rfl rfl rfl (hX.at_ hl) (by rw[qf];exact H3.out.elt.six) h3.elt.six (fun Y2 hl1=>hK.out _ _ ?_))⟩);refine zH ?_;refine⟨nofun,?_⟩;have hK2:jN w3.heap.size (w3.heap.size+2) 0 V1 Y2:=(jN.below hX (zG _)).trans (jN.just hl1.just (hX.at_ hl));have hS2:yk t w3.heap.size V1 Y2:=yk.trans (hX.stay zV1) (hl1.just.stay zq2 (zK zV1 hX.bsize));have hB2:Below b4 w3 Y2:=(HB1.out.trans (Below.mono hX (by omega))).trans (hl1.just.below (zG _) (by have:=hX.bsize;omega));have HK2:=zF (HK1.out.trans hK2);have HS2:=zF (yk.trans HS1.out hS2);have HB2:=zF hB2;have Hy2:=zF hl1.blk;have H4:=zF h3;clear hK2 hS2 hB2 hl1 h3;gi_wp2;exact⟨HK2.out,HS2.out,⟨o5,Hy2.out,by rw[hp.out,Hv.out];exact H4.out⟩,HB2.out⟩
 case done =>
  rintro D V hD ⟨⟨lo,hl,hf⟩,h5⟩ hKD;rw[go]at hf;have hmV:=(h5.block (s+2) (by omega)).trans m4;go_upto_region 7 with fail
  refine zN 1 [0,1] [] (fun j f X=>match j with
   | 0=>f 0=EV lo
   | _=>True) (by kernel_rfl) [(28,0)] (by kernel_rfl) ?_
  refine zt 1 0 [] (fun f X hX hR K hK=>?_) ?_
  · simp only[yZ];refine⟨zU (by kernel_rfl) (kg (.tmp 7) rfl rfl (xJ.range (hX.at_ hl)) hf.elt.six ?_)⟩;exact hK.out _ (EV lo) _ (by simp only[yZ]) (zX _) trivial (fun _ _=>rfl)
  refine yF ⟨fun f X hX hR hal hap=>?_⟩;have e0:f 0=_:=hR 0 (by decide);simp only[yZ,e0];clear hR hal hap e0;refine zP (fun K hK=>⟨zU (by kernel_rfl) (qe (.tmp 6) (.tmp 28) rfl rfl rfl rfl (hX.at_ hmV) ke hf.elt.six (fun Y2 hl1=>hK.out _ _ ?_))⟩);refine zH ?_;go_wp2;have hKY:Y2.heap[D]?=some (.deferred (some [])):=hl1.other (by omega) (hX.at_ hKD);have hrY:(Y2.putObj D (.deferred none)).heap[s+1+1]?=some (.cells (nts lo).toArray 109 (0,0)):=(qJ (by omega)).trans hl1.blk;have hEY:Ext w Y2:=hl1.ext (kG hEw3 (Below.mono (h5.trans (Below.mono hX (by have:=h5.size;omega))) (by have:=Hs.out;omega))) (by have:=Hs.out;omega);refine⟨by simp,.inl ⟨_,_,rfl,run_takeDeferred hKY,_,wY rfl _ _ (s+1+1) _ _ _ (.array 6 65) rfl hrY Tryz.underlying109 rfl (by rw[qX,qf,hf.elt.six];exact bM),⟨lo,rfl,hf,kG hEY (belowK_b (w:=w) (zG _) Y2 D _ _ (by have:=Hs.out;omega) hKY rfl rfl)⟩⟩⟩
 case stop=>exact fun _ _ _ _ _ _ _ h _=>h.elim
end Go.Proofs.YtaemogcomplhiaaGreatDoor
namespace Go.Proofs.YtaemogcomplhiaaGreatDoor
open Go.RowKit
def PtV (w:World) (base:Nat) (v:Value):Option (Nat×Nat)→Prop
 | none=>v=gL
 | some p=>∃ A c A' c',v=.agg #[.bool false,.slice A (digs 18446744073709551616 p.1).length c,.slice A' (digs 18446744073709551616 p.2).length c']∧OB w base A c (digs 18446744073709551616 p.1)∧OB w base A' c' (digs 18446744073709551616 p.2)
def bQ (M x y z:Nat):Option (Nat×Nat):=if z%M=0 then none else let u1:=z ^(M-2);let u2:=mm M u1 u1;let u3:=mm M x u2;let u4:=mm M u2 u1;let u5:=mm M y u4;some (u3%M,u5%M)
theorem zBE {P0:Nat→Prop}{k g size n inv M bb:Nat}{pl nl bl xl yl ml ol rl tl fl lx ly lz:List Nat}{Ap An Ab Ax Ay:Option Addr}{cp cn cb cx cy x y z:Nat}(w:World)
 (hk:Num w P0 k g size n inv M bb pl nl bl xl yl ml ol rl tl fl Ap An Ab Ax Ay cp cn cb cx cy) (hP0:∀ b,P0 b→b<w.heap.size) (hpl:pl.length<100000) (hj:FJ M n lx ly lz x y z) :
 Calls Tryz.prog 78 #[.pointer (some ⟨k,0,none⟩),JV lx ly lz] w fun e w'=>∃ v,e=.returned v∧PtV w' w.heap.size v (bQ M x y z)∧Ext w w':=by
 obtain⟨cs,hcs⟩:=eV ((nts (lx++ly++lz)).toArray)
 obtain⟨W0,hW0⟩:=eW ((w.alloc (.cells cs 123)).alloc (.cells #[.bool false,.slice none 0 0,.slice none 0 0] 33))
 obtain⟨q,hq⟩:=eV w.heap.size
 have hE0:Ext w W0:=by rw[hW0];exact(zO _ _).trans (zO _ _)
 obtain⟨hpj,hrb,hz0⟩:=wL w (.cells cs 123) (.cells #[.bool false,.slice none 0 0,.slice none 0 0] 33)
 rw[←hW0,hq]at hpj hrb hz0
 have hpj:kD W0 q lx ly lz:=by rw[kD,hcs];exact hpj
 have hn:=zF (hk.ext hP0 hE0)
 have hP0':∀ b,P0 b→b<W0.heap.size:=fun b hb=>zI (hP0 b hb) hE0.bsize
 have k6:=hn.out.c_f
 have k1:=hn.out.c_p
 have hJ:=zF hj
 have HE0:=zF hE0
 have Hz0:=zF hz0
 have Hpv:=zF hk.pv
 have Hpl:=zF hpl
 have hM1:=hk.fr.ff.big
 have Hqs:=zF (show q≤W0.heap.size by omega)
 rw[show JV lx ly lz=.agg cs by rw[JV,hcs],hq]
 clear hE0 hz0 hk hP0 hj hcs hpl
 by_cases hz:z%M=0
 · have hzn:=zF hz;rw[bQ,qg hz];clear hz k6 k1;go_enter Tryz.func78,Tryz.ntmps78;go_upto_region 1 with fail;rw[←hW0];have Hq:=zF hq;have HW0:=zF hW0;have hE:=zX W0;clear hq hW0
   refine zN 3 [0,1,3] [] (fun j f X=>match j with
    | 0=>f 0=.pointer (some ⟨q,12,none⟩)
    | 1=>∃ o,f 1=EV o∧FE M n o z
    | 2=>f 2=.bool true
    | _=>True) (by kernel_rfl) [(10,0),(11,1),(12,2)] (by kernel_rfl) ?_
   refine zJ 1 2 ?_;refine lE 2 1 0 (fun _ hX=>xK ((hE.trans hX).at_ hpj) hJ.out.x.elt.six hJ.out.y.elt.six) hJ.out.z ?_;refine qI 3 0 (fun f=>#[f 1]) (F':=104) (fun f X hX hR=>?_) ?_
   · obtain⟨o1,(e1:f 1=_),h1⟩:=hR.out 1 rfl;simp only[e1];refine(vF o1 X h1.elt.six).mono ?_;rintro e w2 ⟨rfl,hB⟩;rw[show decide (o1=[0,0,0,0,0,0])=true by rw[decide_eq_decide.2 (h1.zero_iff (hn.out.ext hP0' (hE.trans hX)).fr.ff)];exact qZ hzn.out];exact⟨(.bool true),rfl,hB,fun _ _=>rfl⟩
   refine yF ⟨fun f X hX hR hal hap=>?_⟩;obtain⟨o1,(e1:f 1=_),h1⟩:=hR 1 (by decide);have e2:f 2=_:=hR 2 (by decide);simp only[yZ,e1,e2];clear hR hal hap e1 e2;refine zH ?_;replace hE:=hE.trans hX;clear hX;rename World=>X1_;go_upto_region 2 with fail;have hb1:=hE.at_ hrb
   refine zN 1 [0,1] [] (fun j f X=>match j with
    | 0=>f 0=gL
    | _=>True) (by kernel_rfl) [(13,0)] (by kernel_rfl) ?_
   refine qI 1 0 (fun _=>#[]) (F':=73) (fun f X hX hR=>?_) ?_
   · refine(yX X).mono ?_;rintro e w2 ⟨rfl,hB⟩;exact⟨gL,rfl,hB,fun _ _=>rfl⟩
   refine yF ⟨fun f X hX hR hal hap=>?_⟩;have e0:f 0=_:=hR 0 (by decide);simp only[yZ,e0];clear hR hal hap e0;refine zP (fun K hK=>⟨zU (by kernel_rfl) (jJ (cs':=#[.bool true,.slice none 0 0,.slice none 0 0]) (t:=33) 33 (.tmp 4) (.tmp 13) rfl rfl rfl rfl (hX.at_ hb1) va rfl (yT _ _ _ _ _ _ _) (fun Y hY1 hY2 hY3=>hK.out _ _ ?_))⟩);refine zH ?_;go_wp2;exact aW rfl rfl rfl hY1 ⟨_,rfl,rfl,hY2.ext (HE0.out.trans (hE.trans hX)) (by have:=Hq.out;omega)⟩
 · have hzn:=zF hz;obtain⟨u1,E_u1⟩:=eG (z ^(M-2));obtain⟨u2,E_u2⟩:=eG (mm M u1 u1);obtain⟨u3,E_u3⟩:=eG (mm M x u2);obtain⟨u4,E_u4⟩:=eG (mm M u2 u1);obtain⟨u5,E_u5⟩:=eG (mm M y u4);have hres:bQ M x y z=some (u3%M,u5%M):=by rw[bQ,ql hz];simp only[E_u1.out,E_u2.out,E_u3.out,E_u4.out,E_u5.out]
   rw[hres];clear hres hz;go_enter Tryz.func78,Tryz.ntmps78;go_upto_region 1 with fail;rw[←hW0];have Hq:=zF hq;have HW0:=zF hW0;have hE:=zX W0;clear hq hW0
   refine zN 3 [0,1,3] [] (fun j f X=>match j with
    | 0=>f 0=.pointer (some ⟨q,12,none⟩)
    | 1=>∃ o,f 1=EV o∧FE M n o z
    | 2=>f 2=.bool false
    | _=>True) (by kernel_rfl) [(10,0),(11,1),(12,2)] (by kernel_rfl) ?_
   refine zJ 1 2 ?_;refine lE 2 1 0 (fun _ hX=>xK ((hE.trans hX).at_ hpj) hJ.out.x.elt.six hJ.out.y.elt.six) hJ.out.z ?_;refine qI 3 0 (fun f=>#[f 1]) (F':=104) (fun f X hX hR=>?_) ?_
   · obtain⟨o1,(e1:f 1=_),h1⟩:=hR.out 1 rfl;simp only[e1];refine(vF o1 X h1.elt.six).mono ?_;rintro e w2 ⟨rfl,hB⟩;rw[show decide (o1=[0,0,0,0,0,0])=false by rw[decide_eq_decide.2 (h1.zero_iff (hn.out.ext hP0' (hE.trans hX)).fr.ff)];exact jF hzn.out];exact⟨(.bool false),rfl,hB,fun _ _=>rfl⟩
   refine yF ⟨fun f X hX hR hal hap=>?_⟩;obtain⟨o1,(e1:f 1=_),h1⟩:=hR 1 (by decide);have e2:f 2=_:=hR 2 (by decide);simp only[yZ,e1,e2];clear hR hal hap e1 e2;refine zH ?_;replace hE:=hE.trans hX;clear hX;rename World=>X1_;have k6':=hE.cell k6;have k1':=hE.cell k1;go_upto_region 4 with fail;clear k6'
   refine zh (by kernel_rfl) 11 [0,1,3,7,0,31,63,127,127,255,1023] [] (fun j f X=>match j with
    | 0=>f 0=.pointer (some ⟨k,0,none⟩)
    | 1=>f 1=.pointer (some ⟨k,0,none⟩)
    | 2=>f 2=.pointer (some ⟨k,1,none⟩)
    | 3=>f 3=.slice Ap pl.length cp
    | 4=>∃ A1 c1,f 4=.slice A1 (digs 18446744073709551616 2).length c1∧OB X q A1 c1 (digs 18446744073709551616 2)
    | 5=>∃ A1 c1,f 5=.tuple #[.slice A1 (digs 18446744073709551616 (M-2)).length c1,.bool true]∧OB X q A1 c1 (digs 18446744073709551616 (M-2))
    | 6=>∃ A1 c1,f 6=.tuple #[.slice A1 (digs 18446744073709551616 (M-2)).length c1,.bool true]∧OB X q A1 c1 (digs 18446744073709551616 (M-2))
    | 7=>∃ A1 c1,f 7=.slice A1 (digs 18446744073709551616 (M-2)).length c1∧OB X q A1 c1 (digs 18446744073709551616 (M-2))
    | 8=>f 8=.bool true
    | 9=>∃ A1 c1,f 9=.slice A1 (digs 18446744073709551616 (M-2)).length c1∧OB X q A1 c1 (digs 18446744073709551616 (M-2))
    | 10=>f 10=.bool true
    | _=>True) (by kernel_rfl) [(19,0),(20,1),(21,2),(22,3),(23,4),(24,5),(18,6),(25,7),(26,8),(6,9),(7,10)] (by kernel_rfl) ?_
   refine zJ 1 10 ?_;refine qN 2 9 0 ?_;refine qN 3 8 1 ?_;refine qK 4 7 2 k1' ?_;refine qI 5 6 (fun _=>#[Value.int IntKind.u64 2]) (F':=67) (fun f X hX hR=>?_) ?_
   · refine(gq 2 X (by omega)).mono ?_;rintro e w2 ⟨A1,c1,rfl,hO,hB⟩;exact⟨_,rfl,hB,fun Y hY=>⟨A1,c1,rfl,(hO.mono (zK Hqs.out (hE.trans hX).bsize)).below hY (zG _)⟩⟩
   refine qI 6 5 (fun f=>#[f 3,f 4]) (F':=65) (fun f X hX hR=>?_) ?_
   · have e3:f 3=_:=hR.out 3 rfl;obtain⟨A4,c4,(e4:f 4=_),o4⟩:=hR.out 4 rfl;simp only[e3,e4];refine(az P0 _ Ap A4 cp c4 pl _ X (hn.out.ext hP0' (hE.trans hX)).p o4.rn (fun b hb=>zI (hP0' b hb) (hE.trans hX).bsize) (fun b hb=>hb.2) Hpl.out (by rw[Hpv.out,zd (by omega)];omega)).mono ?_;rw[Hpv.out,zd (by omega)];rintro e w2 ⟨A1,c1,rfl,hO,hB⟩;exact⟨_,rfl,hB,fun Y hY=>⟨A1,c1,rfl,(hO.mono (zK Hqs.out (hE.trans hX).bsize)).below hY (zG _)⟩⟩
   refine zt 7 4 [(19,0),(20,1),(21,2),(22,3),(23,4),(24,5)] (fun f X hX hR K hK=>?_) ?_
   · obtain⟨A5,c5,(e5:f 5=_),o5⟩:=hR.out 5 rfl;simp only[yZ,e5];refine⟨?_⟩;go_simp;exact hK.out _ _ _ (by simp only[yZ,e5]) (zX _) trivial (fun Y hY=>⟨A5,c5,rfl,o5.below (hY) (zG _)⟩)
   refine zt 8 3 [(19,0),(20,1),(21,2),(22,3),(23,4),(24,5),(18,6),(26,8)] (fun f X hX hR K hK=>?_) ?_
   · obtain⟨A6,c6,(e6:f 6=_),o6⟩:=hR.out 6 rfl;simp only[yZ,e6];refine⟨?_⟩;go_simp;exact hK.out _ _ _ (by simp only[yZ,e6]) (zX _) trivial (fun Y hY=>⟨A6,c6,rfl,o6.below (hY) (zG _)⟩)
   refine zt 9 2 [(19,0),(20,1),(21,2),(22,3),(23,4),(24,5),(18,6),(25,7),(6,9)] (fun f X hX hR K hK=>?_) ?_
   · obtain⟨A6,c6,(e6:f 6=_),o6⟩:=hR.out 6 rfl;simp only[yZ,e6];refine⟨?_⟩;go_simp;exact qd hK (s:=by simp only[yZ,e6])
   refine zt 10 1 [(19,0),(20,1),(21,2),(22,3),(23,4),(24,5),(18,6),(25,7),(26,8)] (fun f X hX hR K hK=>?_) ?_
   · obtain⟨A7,c7,(e7:f 7=_),o7⟩:=hR.out 7 rfl;simp only[yZ,e7];refine⟨?_⟩;go_simp;exact hK.out _ _ _ (by simp only[yZ,e7]) (zX _) trivial (fun Y hY=>⟨A7,c7,rfl,o7.below (hY) (zG _)⟩)
   refine qN 11 0 8 ?_;refine yF ⟨fun f X hX hR hal hap=>?_⟩;obtain⟨A4,c4,(e4:f 4=_),o4⟩:=hR 4 (by decide);obtain⟨A5,c5,(e5:f 5=_),o5⟩:=hR 5 (by decide);obtain⟨A6,c6,(e6:f 6=_),o6⟩:=hR 6 (by decide);obtain⟨A7,c7,(e7:f 7=_),o7⟩:=hR 7 (by decide);obtain⟨A9,c9,(e9:f 9=_),o9⟩:=hR 9 (by decide);simp only[yZ,e4,e5,e6,e7,e9];clear hR hal hap e4 e5 e6 e7 e9;refine zH ?_;replace hE:=hE.trans hX;have hL:=o9;rename World=>X4_;clear hX k1' o4 o5 o6 o7 o9;go_upto_region 5 with fail
   refine zN 6 [0,0,2,0,15,0,63] [5] (fun j f X=>match j with
    | 0=>f 0=.pointer (some ⟨g,0,none⟩)
    | 1=>f 1=.pointer (some ⟨q,12,none⟩)
    | 2=>∃ o,f 2=EV o∧FE M n o z
    | 3=>f 3=.slice A9 (digs 18446744073709551616 (M-2)).length c9
    | 4=>∃ o,f 4=EV o∧FE M n o u1
    | 5=>∃ b,f 5=.pointer (some ⟨b,0,none⟩)∧X4_.heap.size≤b∧X.heap[b]?=some (.cells #[.int .u64 0,.int .u64 0,.int .u64 0,.int .u64 0,.int .u64 0,.int .u64 0] 109 (0,0))
    | _=>True) (by kernel_rfl) [(27,0),(28,1),(29,2),(30,3),(31,4),(8,5)] (by kernel_rfl) ?_
   refine zJ 1 5 ?_;refine zJ 2 4 ?_;refine lE 3 3 1 (fun _ hX=>xK ((hE.trans hX).at_ hpj) hJ.out.x.elt.six hJ.out.y.elt.six) hJ.out.z ?_;refine zJ 4 2 ?_;refine qI 5 1 (fun f=>#[f 0,f 2,f 3]) (F':=108) (fun f X hX hR=>?_) ?_
   · have e0:f 0=_:=hR.out 0 rfl;obtain⟨o2,(e2:f 2=_),h2⟩:=hR.out 2 rfl;have e3:f 3=_:=hR.out 3 rfl;simp only[e0,e2,e3];refine(tf X (hn.out.ext hP0' (hE.trans hX)).fr hn.out.fr.fone z (M-2) h2 _ A9 c9 _ (hL.below hX (zG _)).rn (fun b hb=>hb.2) (zd (by omega) _)).mono ?_;rw[E_u1.out];rintro e w2 ⟨o,rfl,ho,hB⟩;exact⟨(EV o),rfl,hB,fun Y hY=>⟨o,rfl,ho⟩⟩
   refine kK 6 0 ?_;refine yF ⟨fun f X hX hR hal hap=>?_⟩;obtain⟨o2,(e2:f 2=_),h2⟩:=hR 2 (by decide);obtain⟨o4,(e4:f 4=_),h4⟩:=hR 4 (by decide);obtain⟨br5_5,(e5:f 5=_),lr5_5,hr5_5⟩:=hR 5 (by decide);simp only[yZ,e2,e4,e5];clear hR hal hap e2 e4 e5;refine zP (fun K hK=>⟨zU (by kernel_rfl) (qe (.tmp 8) (.tmp 31) rfl rfl rfl rfl (hr5_5) ke h4.elt.six (fun Y2_6 hl2_6=>hK.out _ _ ?_))⟩);refine zH ?_;have vbr5_5:VE Y2_6 M n br5_5 u1:=(hl2_6.mk' h4)
   have lb_vbr5_5:=zK hE.bsize lr5_5;have hE':Ext W0 Y2_6:=(hl2_6.ext (hE.trans hX) (zK hE.bsize lr5_5))
   clear hE hX hl2_6 h2 h4 ;have hE:=hE';clear hE';go_upto_region 6 with fail
   refine zN 5 [0,0,0,7,0,31] [4] (fun j f X=>match j with
    | 0=>f 0=.pointer (some ⟨g,0,none⟩)
    | 1=>∃ o,f 1=EV o∧FE M n o u1
    | 2=>∃ o,f 2=EV o∧FE M n o u1
    | 3=>∃ o,f 3=EV o∧FE M n o u2
    | 4=>∃ b,f 4=.pointer (some ⟨b,0,none⟩)∧Y2_6.heap.size≤b∧X.heap[b]?=some (.cells #[.int .u64 0,.int .u64 0,.int .u64 0,.int .u64 0,.int .u64 0,.int .u64 0] 109 (0,0))
    | _=>True) (by kernel_rfl) [(32,0),(33,1),(34,2),(35,3),(9,4)] (by kernel_rfl) ?_
   refine zJ 1 4 ?_;refine lX 2 3 (fun X hX=>let ⟨o,hbl,ho⟩:=vbr5_5.ext hX;⟨o,hbl.range,ho⟩) ?_;refine lX 3 2 (fun X hX=>let ⟨o,hbl,ho⟩:=vbr5_5.ext hX;⟨o,hbl.range,ho⟩) ?_;refine fc 4 1 0 1 2 (fun X hX _ _ h h'=>js X (hn.out.ext hP0' (hE.trans hX)).fr.ff h h') E_u2.out ?_;refine kK 5 0 ?_;refine yF ⟨fun f X hX hR hal hap=>?_⟩;obtain⟨o1,(e1:f 1=_),h1⟩:=hR 1 (by decide);obtain⟨o2,(e2:f 2=_),h2⟩:=hR 2 (by decide);obtain⟨o3,(e3:f 3=_),h3⟩:=hR 3 (by decide);obtain⟨br6_4,(e4:f 4=_),lr6_4,hr6_4⟩:=hR 4 (by decide);simp only[yZ,e1,e2,e3,e4];clear hR hal hap e1 e2 e3 e4;refine zP (fun K hK=>⟨zU (by kernel_rfl) (qe (.tmp 9) (.tmp 35) rfl rfl rfl rfl (hr6_4) ke h3.elt.six (fun Y3_5 hl3_5=>hK.out _ _ ?_))⟩);refine zH ?_;have d_br5_5_br6_4:br5_5≠br6_4:=by have:=(let ⟨_,h,_⟩:=vbr5_5;h.lt:br5_5<Y2_6.heap.size);omega
   replace vbr5_5:=(hl3_5.ve d_br5_5_br6_4 (vbr5_5.ext hX))
   have vbr6_4:VE Y3_5 M n br6_4 u2:=(hl3_5.mk' h3)
   have lb_vbr6_4:=zK hE.bsize lr6_4;have hE':Ext W0 Y3_5:=(hl3_5.ext (hE.trans hX) (zK hE.bsize lr6_4))
   clear hE hX hl3_5 h1 h2 h3;have hE:=hE';clear hE';have hb1:=hE.at_ hrb;go_upto_region 7 with fail
   refine zh (by kernel_rfl) 18 [0,0,0,4,0,30,63,0,0,0,512,0,0,0,14463,32639,65535,131071,262143] [] (fun j f X=>match j with
    | 0=>f 0=.pointer (some ⟨g,0,none⟩)
    | 1=>f 1=.pointer (some ⟨g,0,none⟩)
    | 2=>f 2=.pointer (some ⟨q,0,none⟩)
    | 3=>∃ o,f 3=EV o∧FE M n o x
    | 4=>∃ o,f 4=EV o∧FE M n o u2
    | 5=>∃ o,f 5=EV o∧FE M n o u3
    | 6=>∃ A1 c1,f 6=.slice A1 (digs 18446744073709551616 (u3%M)).length c1∧OB X q A1 c1 (digs 18446744073709551616 (u3%M))
    | 7=>f 7=.pointer (some ⟨g,0,none⟩)
    | 8=>f 8=.pointer (some ⟨g,0,none⟩)
    | 9=>f 9=.pointer (some ⟨q,6,none⟩)
    | 10=>∃ o,f 10=EV o∧FE M n o y
    | 11=>f 11=.pointer (some ⟨g,0,none⟩)
    | 12=>∃ o,f 12=EV o∧FE M n o u2
    | 13=>∃ o,f 13=EV o∧FE M n o u1
    | 14=>∃ o,f 14=EV o∧FE M n o u4
    | 15=>∃ o,f 15=EV o∧FE M n o u5
    | 16=>∃ A1 c1,f 16=.slice A1 (digs 18446744073709551616 (u5%M)).length c1∧OB X q A1 c1 (digs 18446744073709551616 (u5%M))
    | 17=>∃ A1 c1 A2 c2,f 17=.agg #[.bool false,.slice A1 (digs 18446744073709551616 (u3%M)).length c1,.slice A2 (digs 18446744073709551616 (u5%M)).length c2]∧OB X q A1 c1 (digs 18446744073709551616 (u3%M))∧OB X q A2 c2 (digs 18446744073709551616 (u5%M))
    | _=>True) (by kernel_rfl) [(36,0),(37,1),(38,2),(39,3),(40,4),(41,5),(42,6),(43,7),(44,8),(45,9),(46,10),(47,11),(48,12),(49,13),(50,14),(51,15),(52,16),(53,17)] (by kernel_rfl) ?_
   refine zJ 1 17 ?_;refine zJ 2 16 ?_;refine zJ 3 15 ?_;refine lE 4 14 2 (fun _ hX=>kD.rx ((hE.trans hX).at_ hpj)) hJ.out.x ?_;refine lX 5 13 (fun X hX=>let ⟨o,hbl,ho⟩:=vbr6_4.ext hX;⟨o,hbl.range,ho⟩) ?_;refine fc 6 12 1 3 4 (fun X hX _ _ h h'=>js X (hn.out.ext hP0' (hE.trans hX)).fr.ff h h') E_u3.out ?_;refine qI 7 11 (fun f=>#[f 0,f 5]) (F':=109) (fun f X hX hR=>?_) ?_
   · have e0:f 0=_:=hR.out 0 rfl;obtain⟨o5,(e5:f 5=_),h5⟩:=hR.out 5 rfl;simp only[e0,e5];refine(zA6 X (hn.out.ext hP0' (hE.trans hX)).fr h5).mono ?_;rintro e w2 ⟨A1,c1,rfl,hO,hB⟩;exact⟨_,rfl,hB,fun Y hY=>⟨A1,c1,rfl,(hO.mono (zK Hqs.out (hE.trans hX).bsize)).below hY (zG _)⟩⟩
   refine zJ 8 10 ?_;refine zJ 9 9 ?_;refine zJ 10 8 ?_;refine lE 11 7 9 (fun _ hX=>kD.ry ((hE.trans hX).at_ hpj) hJ.out.x.elt.six) hJ.out.y ?_;refine zJ 12 6 ?_;refine lX 13 5 (fun X hX=>let ⟨o,hbl,ho⟩:=vbr6_4.ext hX;⟨o,hbl.range,ho⟩) ?_;refine lX 14 4 (fun X hX=>let ⟨o,hbl,ho⟩:=vbr5_5.ext hX;⟨o,hbl.range,ho⟩) ?_;refine fc 15 3 11 12 13 (fun X hX _ _ h h'=>js X (hn.out.ext hP0' (hE.trans hX)).fr.ff h h') E_u4.out ?_;refine fc 16 2 8 10 14 (fun X hX _ _ h h'=>js X (hn.out.ext hP0' (hE.trans hX)).fr.ff h h') E_u5.out ?_;refine qI 17 1 (fun f=>#[f 7,f 15]) (F':=109) (fun f X hX hR=>?_) ?_
   · have e7:f 7=_:=hR.out 7 rfl;obtain⟨o15,(e15:f 15=_),h15⟩:=hR.out 15 rfl;simp only[e7,e15];refine(zA6 X (hn.out.ext hP0' (hE.trans hX)).fr h15).mono ?_;rintro e w2 ⟨A1,c1,rfl,hO,hB⟩;exact⟨_,rfl,hB,fun Y hY=>⟨A1,c1,rfl,(hO.mono (zK Hqs.out (hE.trans hX).bsize)).below hY (zG _)⟩⟩
   refine zt 18 0 [(36,0),(37,1),(38,2),(39,3),(40,4),(41,5),(42,6),(43,7),(44,8),(45,9),(46,10),(47,11),(48,12),(49,13),(50,14),(51,15),(52,16)] (fun f X hX hR K hK=>?_) ?_
   · obtain⟨A6,c6,(e6:f 6=_),o6⟩:=hR.out 6 rfl;obtain⟨A16,c16,(e16:f 16=_),o16⟩:=hR.out 16 rfl;simp only[yZ,e6,e16];refine⟨?_⟩;go_simp;exact hK.out _ _ _ (by simp only[yZ,e6,e16]) (zX _) trivial (fun Y hY=>⟨A6,c6,A16,c16,rfl,o6.below hY (zG _),o16.below hY (zG _)⟩)
   refine yF ⟨fun f X hX hR hal hap=>?_⟩;obtain⟨o3,(e3:f 3=_),h3⟩:=hR 3 (by decide);obtain⟨o4,(e4:f 4=_),h4⟩:=hR 4 (by decide);obtain⟨o5,(e5:f 5=_),h5⟩:=hR 5 (by decide);obtain⟨A6,c6,(e6:f 6=_),o6⟩:=hR 6 (by decide);obtain⟨o10,(e10:f 10=_),h10⟩:=hR 10 (by decide);obtain⟨o12,(e12:f 12=_),h12⟩:=hR 12 (by decide);obtain⟨o13,(e13:f 13=_),h13⟩:=hR 13 (by decide);obtain⟨o14,(e14:f 14=_),h14⟩:=hR 14 (by decide);obtain⟨o15,(e15:f 15=_),h15⟩:=hR 15 (by decide);obtain⟨A16,c16,(e16:f 16=_),o16⟩:=hR 16 (by decide);obtain⟨A17,c17,B17,d17,(e17:f 17=_),o17,p17⟩:=hR 17 (by decide);simp only[yZ,e3,e4,e5,e6,e10,e12,e13,e14,e15,e16,e17];clear hR hal hap e3 e4 e5 e6 e10 e12 e13 e14 e15 e16 e17;refine zP (fun K hK=>⟨zU (by kernel_rfl) (jJ (cs':=#[.bool false,.slice A17 (digs 18446744073709551616 (u3%M)).length c17,.slice B17 (digs 18446744073709551616 (u5%M)).length d17]) (t:=33) 33 (.tmp 4) (.tmp 53) rfl rfl rfl rfl (hX.at_ hb1) va rfl (yT _ _ _ _ _ _ _) (fun Y hY1 hY2 hY3=>hK.out _ _ ?_))⟩);refine zH ?_;go_wp2;exact aW rfl rfl rfl hY1 ⟨_,rfl,⟨A17,c17,B17,d17,rfl,o17.just hY2 (hX.at_ hb1) (by decide),p17.just hY2 (hX.at_ hb1) (by decide)⟩,hY2.ext (HE0.out.trans (hE.trans hX)) (by have:=Hq.out;omega)⟩
def APt (w:World) (v:Value) (inf:Bool) (x y:Nat):Prop:=∃(A A':Option Addr) (c c':Nat) (a b:List Nat),v=.agg #[.bool inf,.slice A a.length c,.slice A' b.length c']∧RU w A c a∧RU w A' c' b∧val 18446744073709551616 a=x∧val 18446744073709551616 b=y
theorem APt.ext {w X:World}{v:Value}{inf:Bool}{x y:Nat}(h:APt w v inf x y)(hE:Ext w X):APt X v inf x y:=by
 obtain⟨A,A',c,c',a,b,rfl,ha,hb,hx,hy⟩:=h;exact⟨A,A',c,c',a,b,rfl,zL ha hE,zL hb hE,hx,hy⟩
theorem APt.inf_ (w:World):APt w gL true 0 0:=⟨none,none,0,0,[],[],rfl,RN.nil_ _ _,RN.nil_ _ _,rfl,rfl⟩
theorem PtV.pt {w:World}{base:Nat}{v:Value}{o:Option (Nat×Nat)}(h:PtV w base v o):APt w v o.isNone (o.elim 0 (·.1)) (o.elim 0 (·.2)):=by
 cases o with
 | none=>cases h;exact APt.inf_ w
 | some p =>
   obtain⟨A,c,A',c',rfl,h1,h2⟩:=h;exact⟨A,A',c,c',_,_,rfl,h1.ru,h2.ru,zd (by omega) _,zd (by omega) _⟩
theorem PtV.ext {w X:World}{base:Nat}{v:Value}{o:Option (Nat×Nat)}(h:PtV w base v o)(hE:Ext w X):PtV X base v o:=by
 cases o with
 | none=>exact h
 | some p =>
   obtain⟨A,c,A',c',rfl,h1,h2⟩:=h;exact⟨A,c,A',c',rfl,h1.below hE (zG _),h2.below hE (zG _)⟩
theorem PtV.mono {w:World}{base base':Nat}{v:Value}{o:Option (Nat×Nat)}(h:PtV w base v o)(hb:base'≤base):PtV w base' v o:=by
 cases o with
 | none=>exact h
 | some p =>
   obtain⟨A,c,A',c',rfl,h1,h2⟩:=h;exact⟨A,c,A',c',rfl,h1.mono hb,h2.mono hb⟩
def JAt (C:Crv) (v:Value) (p:Nat×Nat×Nat):Prop:=∃ lx ly lz,v=JV lx ly lz∧FJ C.M C.n lx ly lz p.1 p.2.1 p.2.2
def upP (inf:Bool) (x y:Nat):Nat×Nat×Nat:=if inf then(1,1,0)else(x,y,1)
def uo (M:Nat) (p q:Nat×Nat×Nat):Nat×Nat×Nat:=bV M p.1 p.2.1 p.2.2 q.1 q.2.1 q.2.2
def gh (M:Nat) (p:Nat×Nat×Nat):Nat×Nat×Nat:=gO M p.1 p.2.1 p.2.2
def yu (M:Nat) (p:Nat×Nat×Nat):Option (Nat×Nat):=bQ M p.1 p.2.1 p.2.2
def onQ (C:Crv) (inf:Bool) (x y:Nat):Bool:=inf||onB C.M C.bb x y
theorem bF {M bb x y:Nat}(h:onB M bb x y=true):x<M∧y<M:=by
 simp only[onB,ji,decide_eq_true_eq]at h;exact h.1
theorem mN {C:Crv}{inf:Bool}{x y:Nat}(h:onQ C inf x y=true)(hi:inf=false):x<C.M∧y<C.M:=by
 subst hi;exact bF h
section
variable {C:Crv} {w:World} {k:Nat} {v u:Value}
theorem mL (h:OfC C w k)(hC:C.Fine){inf:Bool}{x y:Nat}(hv:APt w v inf x y):Calls Tryz.prog 72 #[.pointer (some ⟨k,0,none⟩),v] w fun e w'=>e=.returned (.bool (onQ C inf x y))∧Ext w w':=by
 obtain⟨A,A',c,c',a,b,rfl,ha,hb,rfl,rfl⟩:=hv;exact on_c h hC _ _ A A' c c' a b inf ha hb (fun _ h=>h) (fun _ h=>h)
theorem zBl (h:OfC C w k){inf:Bool}{x y:Nat}(hv:APt w v inf x y)(ho:onQ C inf x y=true):Calls Tryz.prog 74 #[.pointer (some ⟨k,0,none⟩),v] w fun e w'=>∃ o,e=.returned o∧JAt C o (upP inf x y)∧Ext w w':=by
 obtain⟨A,A',c,c',a,b,rfl,ha,hb,rfl,rfl⟩:=hv;obtain⟨P0,g,inv,ml,ol,rl,tl,fl,Ap,An,Ab,Ax,Ay,cp,cn,cb,cx,cy,hn,hP⟩:=h;refine(tp _ _ A A' c c' a b inf w hn hP ha hb (fun _ h=>h) (fun _ h=>h) (fun hi=>(mN ho hi).1) (fun hi=>(mN ho hi).2)).mono ?_;rintro e w' ⟨ox,oy,oz,rfl,hf,hE⟩;refine⟨_,rfl,⟨ox,oy,oz,rfl,?_⟩,hE⟩;cases inf<;>exact hf
theorem zBG (h:OfC C w k){p:Nat×Nat×Nat}(hv:JAt C v p):Calls Tryz.prog 77 #[.pointer (some ⟨k,0,none⟩),v] w fun e w'=>∃ o,e=.returned o∧JAt C o (gh C.M p)∧Ext w w':=by
 obtain⟨lx,ly,lz,rfl,hf⟩:=hv;obtain⟨P0,g,inv,ml,ol,rl,tl,fl,Ap,An,Ab,Ax,Ay,cp,cn,cb,cx,cy,hn,hP⟩:=h;refine(bR w hn hP hf).mono ?_;rintro e w' ⟨ox,oy,oz,rfl,hf',hE⟩;exact⟨_,rfl,⟨ox,oy,oz,rfl,hf'⟩,hE⟩
theorem zBW (h:OfC C w k){p q:Nat×Nat×Nat}(hv:JAt C v p)(hu:JAt C u q):Calls Tryz.prog 75 #[.pointer (some ⟨k,0,none⟩),v,u] w fun e w'=>∃ o,e=.returned o∧JAt C o (uo C.M p q)∧Ext w w':=by
 obtain⟨lx,ly,lz,rfl,hf⟩:=hv;obtain⟨mx,my,mz,rfl,hg⟩:=hu;obtain⟨P0,g,inv,ml,ol,rl,tl,fl,Ap,An,Ab,Ax,Ay,cp,cn,cb,cx,cy,hn,hP⟩:=h;refine(zA1 w hn hP hf hg).mono ?_;rintro e w' ⟨ox,oy,oz,rfl,hf',hE⟩;exact⟨_,rfl,⟨ox,oy,oz,rfl,hf'⟩,hE⟩
theorem zBD (h:OfC C w k){p:Nat×Nat×Nat}(hpl:C.pl.length<100000)(hv:JAt C v p):Calls Tryz.prog 78 #[.pointer (some ⟨k,0,none⟩),v] w fun e w'=>∃ o,e=.returned o∧PtV w' w.heap.size o (yu C.M p)∧Ext w w':=by
 obtain⟨lx,ly,lz,rfl,hf⟩:=hv;obtain⟨P0,g,inv,ml,ol,rl,tl,fl,Ap,An,Ab,Ax,Ay,cp,cn,cb,cx,cy,hn,hP⟩:=h;exact zBE w hn hP hpl hf
end
theorem IsC.plen {c:Int}{C:Crv}(h:IsC c C):C.pl.length<100000:=by
 rcases h with⟨_,rfl⟩|⟨_,rfl⟩<;>decide
def RPv (w:World) (v:Value) (bi:Bool) (x y:Nat):Prop:=∃(A A':Option Addr) (c c':Nat),v=.agg #[.bool bi,.slice A (digs 4294967296 x).length c,.slice A' (digs 4294967296 y).length c']∧RU w A c (digs 4294967296 x)∧RU w A' c' (digs 4294967296 y)
theorem RPv.ext {w X:World}{v:Value}{bi:Bool}{x y:Nat}(h:RPv w v bi x y)(hE:Ext w X):RPv X v bi x y:=by
 obtain⟨A,A',c,c',rfl,h1,h2⟩:=h;exact⟨A,A',c,c',rfl,zL h1 hE,zL h2 hE⟩
theorem RPv.inf_ (w:World):RPv w gL true 0 0:=⟨none,none,0,0,by rw[qV];rfl,RN.nil0 _,RN.nil0 _⟩
theorem RPU.pv {w:World}{v:Value}{o:Option (Nat×Nat)}(h:RPU w v o):RPv w v o.isNone (o.elim 0 (·.1)) (o.elim 0 (·.2)):=by
 cases o with
 | none=>cases h;exact RPv.inf_ w
 | some p =>
  obtain⟨A,c,A',c',rfl,h1,h2⟩:=h;exact⟨A,A',c,c',rfl,h1,h2⟩
def APn (w:World) (v:Value) (bi:Bool) (a b:List Nat):Prop:=∃(A A':Option Addr) (c c':Nat),v=.agg #[.bool bi,.slice A a.length c,.slice A' b.length c']∧RU w A c a∧RU w A' c' b
theorem APn.ext {w X:World}{v:Value}{bi:Bool}{a b:List Nat}(h:APn w v bi a b)(hE:Ext w X):APn X v bi a b:=by
 obtain⟨A,A',c,c',rfl,h1,h2⟩:=h;exact⟨A,A',c,c',rfl,zL h1 hE,zL h2 hE⟩
theorem APn.pt {w:World}{v:Value}{bi:Bool}{a b:List Nat}(h:APn w v bi a b):APt w v bi (val 18446744073709551616 a) (val 18446744073709551616 b):=by
 obtain⟨A,A',c,c',rfl,h1,h2⟩:=h;exact⟨A,A',c,c',a,b,rfl,h1,h2,rfl,rfl⟩
theorem APt.pn {w:World}{v:Value}{bi:Bool}{x y:Nat}(h:APt w v bi x y):∃ a b,APn w v bi a b∧val 18446744073709551616 a=x∧val 18446744073709551616 b=y:=by
 obtain⟨A,A',c,c',a,b,rfl,h1,h2,h3,h4⟩:=h;exact⟨a,b,⟨A,A',c,c',rfl,h1,h2⟩,h3,h4⟩
theorem PtV.pn {w:World}{base:Nat}{v:Value}{o:Option (Nat×Nat)}(h:PtV w base v o):APn w v o.isNone (digs 18446744073709551616 (o.elim 0 (·.1))) (digs 18446744073709551616 (o.elim 0 (·.2))):=by
 cases o with
 | none =>
  cases h;exact⟨none,none,0,0,by show gL=.agg #[.bool true,.slice none (digs 18446744073709551616 0).length 0,.slice none (digs 18446744073709551616 0).length 0];rw[qV];rfl,by show RU w none 0 (digs 18446744073709551616 0);rw[qV];exact RN.nil_ _ _,by show RU w none 0 (digs 18446744073709551616 0);rw[qV];exact RN.nil_ _ _⟩
 | some p =>
  obtain⟨A,c,A',c',rfl,h1,h2⟩:=h;exact⟨A,A',c,c',rfl,h1.ru,h2.ru⟩
theorem zBw {C:Crv}{v:Value}(w:World)(hc:RC w C v):Calls Tryz.prog 17 #[v] w fun e w'=>∃ o,e=.returned o∧RPv w' o false (val 18446744073709551616 C.xl) (val 18446744073709551616 C.yl)∧Ext w w':=by
 obtain⟨Ap,An,Ab,Ax,Ay,cp,cn,cb,cx,cy,rfl,hP,hN,hB,hX1,hY1⟩:=hc;obtain⟨W0,hW0⟩:=eW ((w.alloc (.cells #[.slice Ap (digs 4294967296 C.M).length cp,.slice An (digs 4294967296 (val 18446744073709551616 C.nl)).length cn,.slice Ab (digs 4294967296 C.bb).length cb,.slice Ax (digs 4294967296 (val 18446744073709551616 C.xl)).length cx,.slice Ay (digs 4294967296 (val 18446744073709551616 C.yl)).length cy,.int .i64 (C.size:Int)] 30)).alloc (.cells #[.bool false,.slice none 0 0,.slice none 0 0] 45));obtain⟨q,hq⟩:=eV w.heap.size;have hE0:Ext w W0:=by rw[hW0];exact(zO _ _).trans (zO _ _)
 obtain⟨hcb,hrb,hz0⟩:=wL w (.cells #[.slice Ap (digs 4294967296 C.M).length cp,.slice An (digs 4294967296 (val 18446744073709551616 C.nl)).length cn,.slice Ab (digs 4294967296 C.bb).length cb,.slice Ax (digs 4294967296 (val 18446744073709551616 C.xl)).length cx,.slice Ay (digs 4294967296 (val 18446744073709551616 C.yl)).length cy,.int .i64 (C.size:Int)] 30) (.cells #[.bool false,.slice none 0 0,.slice none 0 0] 45);rw[←hW0,hq]at hcb hrb hz0;have c3:=zQ hcb 3;have c4:=zQ hcb 4;simp only[zR,zi,qo]at c3 c4;have HX:=zF (zL hX1 hE0);have HY:=zF (zL hY1 hE0);have HE0:=zF hE0;clear hP hN hB hX1 hY1 hE0 hz0 hcb;go_enter Tryz.func17,Tryz.ntmps17;go_upto_region 1 with fail;rw[←hW0];have Hq:=zF hq;clear hW0 hq
 refine zN 5 [0,1,0,4,15,31] [] (fun j f X=>match j with
  | 0=>f 0=.pointer (some ⟨q,3,none⟩)
  | 1=>f 1=.slice Ax (digs 4294967296 (val 18446744073709551616 C.xl)).length cx
  | 2=>f 2=.pointer (some ⟨q,4,none⟩)
  | 3=>f 3=.slice Ay (digs 4294967296 (val 18446744073709551616 C.yl)).length cy
  | 4=>f 4=.agg #[.bool false,.slice Ax (digs 4294967296 (val 18446744073709551616 C.xl)).length cx,.slice Ay (digs 4294967296 (val 18446744073709551616 C.yl)).length cy]
  | _=>True) (by kernel_rfl) [(3,0),(4,1),(5,2),(6,3),(7,4)] (by kernel_rfl) ?_
 refine zJ 1 4 ?_;refine qK 2 3 0 c3 ?_;refine zJ 3 2 ?_;refine qK 4 1 2 c4 ?_;refine jm 5 0 1 3 ?_;refine yF ⟨fun f X hX hR hal hap=>?_⟩;have e4:f 4=_:=hR 4 (by decide);simp only[yZ,e4];clear hR hal hap e4;refine zP (fun K hK=>⟨zU (by kernel_rfl) (jJ (cs':=#[.bool false,.slice Ax (digs 4294967296 (val 18446744073709551616 C.xl)).length cx,.slice Ay (digs 4294967296 (val 18446744073709551616 C.yl)).length cy]) (t:=45) 45 (.tmp 2) (.tmp 7) rfl rfl rfl rfl (hX.at_ hrb) dI rfl (yT _ _ _ _ _ _ _) (fun Y hY1 hY2 hY3=>hK.out _ _ ?_))⟩);refine zH ?_;go_wp2;exact cD rfl rfl rfl hY1 ⟨_,rfl,⟨_,_,_,_,rfl,(zL HX.out hX).offJ hY2 (hX.at_ hrb) (by kernel_rfl),(zL HY.out hX).offJ hY2 (hX.at_ hrb) (by kernel_rfl)⟩,hY2.ext (HE0.out.trans hX) (by have:=Hq.out;omega)⟩
def IsU (c:Int) (C:Crv):Prop:=IsC c C∨(c≠1∧c≠2∧C=c0)
theorem isU (c:Int):∃ C,IsU c C:=by
 by_cases h1:c=1
 · exact⟨kU,Or.inl (Or.inl ⟨h1,rfl⟩)⟩
 · by_cases h2:c=2
   · exact⟨bT,Or.inl (Or.inr ⟨h2,rfl⟩)⟩
   · exact⟨c0,Or.inr ⟨h1,h2,rfl⟩⟩
structure Crv.Norm (C:Crv):Prop where
 p:digs 18446744073709551616 C.M=C.pl
 n:digs 18446744073709551616 (val 18446744073709551616 C.nl)=C.nl
 x:digs 18446744073709551616 (val 18446744073709551616 C.xl)=C.xl
 y:digs 18446744073709551616 (val 18446744073709551616 C.yl)=C.yl
def Crv.inf (C:Crv):Bool:=C.size==0
theorem IsC.inf {c:Int}{C:Crv}(h:IsC c C):C.inf=false:=by
 rcases h with⟨_,rfl⟩|⟨_,rfl⟩<;>rfl
theorem rN {c:Int}{C:Crv}(h:IsU c C)(w:World):Calls Tryz.prog 9 #[.int .i64 c] w fun e w'=>∃ v,e=.returned v∧RC w' C v∧Ext w w':=by
 rcases h with h|⟨h1,h2,rfl⟩
 · exact rO h w
 · exact ou h1 h2 w
theorem zB6 {c:Int}{C:Crv}(h:IsU c C)(w:World):Calls Tryz.prog 66 #[.int .i64 c] w fun e w'=>∃ A cc,e=.returned (.slice A C.nl.length cc)∧RU w' A cc C.nl∧Ext w w':=by
 rcases h with h|⟨h1,h2,rfl⟩
 · exact fQ h w
 · exact(ss h1 h2 w).mono fun e w' ⟨h,hE⟩=>⟨none,0,h,RN.nil_ _ _,hE⟩
def z85:Array Value:=Array.replicate 288 (.int .u64 0)
theorem zCR:(Tryz.prog.info? 125).map (·.size)=some 288:=by kernel_rfl
theorem th:z85.size=288:=by kernel_rfl
def JRow (C:Crv) (X:World) (b i:Nat) (p:Nat×Nat×Nat):Prop:=∃ x y z,X.rangeAt b (18*i) (nts (x++y++z))∧FJ C.M C.n x y z p.1 p.2.1 p.2.2
structure wD (C:Crv) (X:World) (b:Nat) (t:Nat→Nat×Nat×Nat) (n:Nat):Prop where
 blk:∃ cs:Array Value,X.heap[b]?=some (.cells cs 125 (0,0))∧cs.size=288
 row:∀ i,i<n→JRow C X b i (t i)
section
variable {C:Crv} {X Y:World} {b n:Nat} {t:Nat→Nat×Nat×Nat}
theorem wD.lt (h:wD C X b t n):b<X.heap.size:=by
 obtain⟨cs,hb,_⟩:=h.blk;exact qr hb
theorem wD.same (h:wD C X b t n)(hb:Y.heap[b]?=X.heap[b]?):wD C Y b t n:=by
 obtain⟨cs,h1,h2⟩:=h.blk;refine⟨⟨cs,hb.trans h1,h2⟩,fun i hi=>?_⟩;obtain⟨x,y,z,hr,hf⟩:=h.row i hi;exact⟨x,y,z,fun j v hv=>(qH hb).trans (hr j v hv),hf⟩
theorem wD.ext (h:wD C X b t n)(hE:Ext X Y):wD C Y b t n:=h.same (Below.block hE b h.lt)
theorem wD.just {g:Nat}(h:wD C X b t n)(hj:jQ g X Y)(hg:b≠g):wD C Y b t n:=h.same (hj.block b h.lt hg)
theorem oC {x y z:List Nat}{M m:Nat}{p:Nat×Nat×Nat}(h:FJ M m x y z p.1 p.2.1 p.2.2):(nts (x++y++z)).length=18:=by
 rw[qf,zz,zz,h.x.elt.six,h.y.elt.six,h.z.elt.six]
theorem cK {op:Oper}{a:Act}{K:Act→World→Prop}{Q:Exit→Act→World→Prop}(x:Operand)(ho:op.op=.load 123 x){i:Nat}(h:wD C X b t n)(hi:i<n){o:Nat}(hoi:18*i=o)(hx:a.eval x=.pointer (some ⟨b,o,none⟩))(hK:∀ v,JAt C v (t i)→K (a.put op.dst v) X):op.wp Tryz.prog a X K Q:=by
 obtain⟨lx,ly,lz,hr,hf⟩:=h.row i hi;subst hoi;exact wp_load_mid 123 x ho b (18*i) hx _ _ hr Tryz.underlying123 rfl (by rw[oC hf];exact gJ) (hK _ ⟨lx,ly,lz,rfl,hf⟩)
theorem rL {T:TypeId}(b:Nat):∀(vs:List Value) (o:Nat) (X:World) (cs:Array Value),X.heap[b]?=some (.cells cs T (0,0))→∃ ds:Array Value,(X.setCells b o vs).heap[b]?=some (.cells ds T (0,0))∧ds.size=cs.size
 | [],_,X,cs,h=>⟨cs,h,rfl⟩
 | v :: vs, o, X, cs, h => by
   obtain⟨ds,h1,h2⟩:=rL b vs (o+1) (X.setCell ⟨b,o,none⟩ v) _ (jM h o v);exact⟨ds,h1,by rw[h2];simp⟩
theorem gl (b:Nat):∀(vs:List Value) (o:Nat) (X:World),jQ b X (X.setCells b o vs)∧(X.setCells b o vs).heap.size=X.heap.size
 | [],_,X=>⟨jk b X,rfl⟩
 | v :: vs, o, X => by
   obtain⟨h1,h2⟩:=gl b vs (o+1) (X.setCell ⟨b,o,none⟩ v);exact⟨((jk b X).set o v).trans h1,h2.trans (by simp[World.setCell])⟩
theorem sS {op:Oper}{a:Act}{K:Act→World→Prop}{Q:Exit→Act→World→Prop}(x y:Operand)(ho:op.op=.store 123 x y)(hd:op.dst=none)(h:wD C X b t n)(hn:n<16){v:Value}(hv:JAt C v (t n)){o:Nat}(hoi:18*n=o)(hx:a.eval x=.pointer (some ⟨b,o,none⟩))(hy:a.eval y=v)
 (hK:∀ Y,wD C Y b t (n+1)→jQ b X Y→Y.heap.size=X.heap.size→K a Y):op.wp Tryz.prog a X K Q:=by
 obtain⟨lx,ly,lz,rfl,hf⟩:=hv
 obtain⟨cs,hb,hs⟩:=h.blk
 subst hoi
 have hl:=oC hf
 have ht:X.there b (18*n) (nts (lx++ly++lz)).toArray.size:=fun j hj=>by
  rw[qX,hl]at hj;refine⟨?_,qu hb _⟩;rw[zQ hb];simp[hs];omega
 refine wp_store_mid 123 x y ho b (18*n) _ hx hy ht (by rw[qX,hl];exact gJ) (mf _) ?_
 rw[hd]
 obtain⟨h1,h2⟩:=gl b (nts (lx++ly++lz)) (18*n) X
 refine hK _ ⟨?_,fun i hi=>?_⟩ h1 h2
 · obtain⟨ds,h3,h4⟩:=rL b (nts (lx++ly++lz)) (18*n) X cs hb;exact⟨ds,h3,h4.trans hs⟩
 · rcases qF i n with hlt|hge
   · obtain⟨mx,my,mz,hr,hg⟩:=h.row i hlt;exact⟨mx,my,mz,World.rangeAt_setCells_apart hr _ _ _ (.inr (.inl (by rw[oC hg];omega))),hg⟩
   · obtain rfl:i=n:=by omega
     exact⟨lx,ly,lz,World.rangeAt_setCells_same _ _ _ _ (by rwa [qX]at ht),hf⟩
end
theorem six3 {l:List Nat}(h:l.length=18):∃ a0 a1 a2 a3 a4 a5 a6 a7 a8 a9 b0 b1 b2 b3 b4 b5 b6 b7,l=[a0,a1,a2,a3,a4,a5,a6,a7,a8,a9,b0,b1,b2,b3,b4,b5,b6,b7]:=by
 match l,h with
 | [a0,a1,a2,a3,a4,a5,a6,a7,a8,a9,b0,b1,b2,b3,b4,b5,b6,b7],_=>exact⟨_,_,_,_,_,_,_,_,_,_,_,_,_,_,_,_,_,_,rfl⟩
theorem sN {x y:List Nat}(hx:x.length=18)(hy:y.length=18):Tryz.prog.built 125 [(0,.agg (nts x).toArray),(1,.agg (nts y).toArray)]=some (nts (x++y++List.replicate 252 0)).toArray:=by
 obtain⟨a0,a1,a2,a3,a4,a5,a6,a7,a8,a9,b0,b1,b2,b3,b4,b5,b6,b7,rfl⟩:=six3 hx;obtain⟨c0,c1,c2,c3,c4,c5,c6,c7,c8,c9,d0,d1,d2,d3,d4,d5,d6,d7,rfl⟩:=six3 hy;kernel_rfl
theorem oU {C:Crv}{op:Oper}{a:Act}{X:World}{K:Act→World→Prop}{Q:Exit→Act→World→Prop}(p q:Operand)(ho:op.op=.build 125 #[(0,p),(1,q)]){v u:Value}{x y:Nat×Nat×Nat}(hp:a.eval p=v)(hq:a.eval q=u)(hv:JAt C v x)(hu:JAt C u y)
 (hK:∀ cs:Array Value,cs.size=288→cs.all (·.oneCell')=true→(∀ W b,W.heap[b]?=some (.cells cs 125 (0,0))→∀ t:Nat→Nat×Nat×Nat,t 0=x→t 1=y→wD C W b t 2)→K (a.put op.dst (.agg cs)) X):op.wp Tryz.prog a X K Q:=by
 obtain⟨x1,x2,x3,rfl,hf⟩:=hv
 obtain⟨y1,y2,y3,rfl,hg⟩:=hu
 have hlx:(x1++x2++x3).length=18:=by have:=oC hf;rwa [qf]at this
 have hly:(y1++y2++y3).length=18:=by have:=oC hg;rwa [qf]at this
 have hb:(#[(0,p),(1,q)].map fun(i,x)=>(i,a.eval x)).toList=[(0,.agg (nts (x1++x2++x3)).toArray),(1,.agg (nts (y1++y2++y3)).toArray)]:=by simp[hp,hq,JV]
 have hs:(x1++x2++x3++(y1++y2++y3)++List.replicate 252 0).length=288:=by rw[zz,zz,hlx,hly,List.length_replicate]
 refine wp_build 125 #[(0,p),(1,q)] ho (by rw[hb,sN hlx hly];rfl) ?_
 rw[hb,sN hlx hly,vL]
 refine hK _ (by rw[qX,qf,hs]) (mf _) fun W b h t h0 h1=>⟨⟨_,h,by rw[qX,qf,hs]⟩,fun i hi=>?_⟩
 have key:∀ pre l post:List Nat,x1++x2++x3++(y1++y2++y3)++List.replicate 252 0=pre++l++post→W.rangeAt b pre.length (nts l):=fun pre l post e j v hv=>by
  rw[zQ h,e,zR,uc,uc,List.append_assoc,uF (by rw[qf];omega),qf,Nat.add_sub_cancel_left,wZ,hv];exact(List.getElem?_eq_some_iff.1 hv).1
 rcases(show i=0∨i=1 by omega)with rfl|rfl
 · rw[h0];exact⟨x1,x2,x3,by have:=key [] (x1++x2++x3) _ (by rw[wm,List.append_assoc]);simpa using this,hf⟩
 · rw[h1];exact⟨y1,y2,y3,by have:=key (x1++x2++x3) (y1++y2++y3) _ rfl;rwa [hlx]at this,hg⟩
def aA (C:Crv) (bi:Bool) (x y:Nat) (bj:Bool) (u v:Nat):Option (Option (Nat×Nat)) :=
 if onQ C bi x y=true then(if onQ C bj u v=true then some (yu C.M (uo C.M (upP bi x y) (upP bj u v)))else none)else none
theorem aI {X:World}{base b:Nat}{v:Value}{o:Option (Nat×Nat)}(h:PtV X base v o):∃ x0 x1 x2,v=.agg #[x0,x1,x2]∧(#[x0,x1,x2]:Array Value).all (·.oneCell')=true∧∀ Y,jQ b X Y→(∃ cs,X.heap[b]?=some (.cells cs 33 (0,0)))→PtV Y base v o:=by
 cases o with
 | none=>cases h;exact⟨_,_,_,rfl,yT _ _ _ _ _ _ _,fun _ _ _=>rfl⟩
 | some p =>
  obtain⟨A,c,A',c',rfl,h1,h2⟩:=h;exact⟨_,_,_,rfl,yT _ _ _ _ _ _ _,fun Y hj ⟨cs,hb⟩=>⟨A,c,A',c',rfl,h1.just hj hb (by decide),h2.just hj hb (by decide)⟩⟩
theorem fm {w:World}{v:Value}{i:Bool}{x y:Nat}(h:APt w v i x y):∃ x1 x2,v=.agg #[.bool i,x1,x2]:=by
 obtain⟨A,A',c,c',a,b,rfl,_⟩:=h;exact⟨_,_,rfl⟩
theorem zBo (w:World)(o1 o2 o3:Obj):(((w.alloc o1).alloc o2).alloc o3).heap[w.heap.size]?=some o1∧(((w.alloc o1).alloc o2).alloc o3).heap[w.heap.size+1]?=some o2∧(((w.alloc o1).alloc o2).alloc o3).heap[w.heap.size+2]?=some o3∧(((w.alloc o1).alloc o2).alloc o3).heap.size=w.heap.size+3:=mv w o1 o2 o3
theorem add_c {c:Int}{C:Crv}(hC:IsC c C){p r:Value}{bi bj:Bool}{x y u v:Nat}(w:World)(hp:APt w p bi x y)(hr:APt w r bj u v) :
 Calls Tryz.prog 57 #[.int .i64 c,p,r] w fun e w'=>∃ o,e=.returned (.tuple #[o,.bool (aA C bi x y bj u v).isSome])∧PtV w' w.heap.size o (aA C bi x y bj u v).join∧Ext w w':=by
 obtain⟨p1,p2,rfl⟩:=fm hp
 obtain⟨r1,r2,rfl⟩:=fm hr
 obtain⟨W0,hW0⟩:=eW (((w.alloc (.cells #[.bool bi,p1,p2] 33)).alloc (.cells #[.bool bj,r1,r2] 33)).alloc (.cells #[.bool false,.slice none 0 0,.slice none 0 0] 33))
 obtain⟨q,hq⟩:=eV w.heap.size
 have hE0:Ext w W0:=by rw[hW0];exact((zO _ _).trans (zO _ _)).trans (zO _ _)
 obtain⟨h1,h2,h3,hz0⟩:=zBo w (.cells #[.bool bi,p1,p2] 33) (.cells #[.bool bj,r1,r2] 33) (.cells #[.bool false,.slice none 0 0,.slice none 0 0] 33)
 rw[←hW0,hq]at h1 h2 h3 hz0
 have hp0:=zF (hp.ext hE0)
 have hr0:=zF (hr.ext hE0)
 have HE0:=zF hE0
 have Hz0:=zF hz0
 have HC:=zF hC
 rw[hq]
 obtain⟨res,hres⟩:=eV (aA C bi x y bj u v)
 rw[hres]
 have Hres:=zF hres
 clear hp hr hE0 hz0 hC hres
 go_enter Tryz.func57,Tryz.ntmps57
 go_upto_region 1 with fail
 rw[←hW0]
 have Hq:=zF hq
 clear hW0 hq
 obtain⟨o1,ho1⟩:=eV (onQ C bi x y)
 obtain⟨o2,ho2⟩:=eV (onQ C bj u v)
 have Ho1:=zF ho1
 have Ho2:=zF ho2
 clear ho1 ho2
 go_upto_region 2 with(go_at_call 64;refine(pH HC.out _).mono ?_;rintro e wa ⟨k,rfl,hk,hE1⟩)
 have HE1:=zF hE1
 replace h1:=hE1.at_ h1
 replace h2:=hE1.at_ h2
 replace h3:=hE1.at_ h3
 clear hE1
 cases o1
 case false =>
  obtain rfl:res=none:=by rw[←Hres.out,aA,ql (by rw[Ho1.out];decide)]
  refine zN 10 [0,0,3,7,15,31,31,127,255,511] [] (fun j f X=>match j with
   | 0=>f 0=.pointer (some ⟨k,0,none⟩)
   | 1=>f 1=.agg #[.bool bi,p1,p2]
   | 2=>f 2=.bool false
   | 3=>f 3=.bool true
   | 4=>f 4=.bool true
   | 5=>f 5=undef
   | 6=>f 6=undef
   | 7=>f 7=undef
   | 8=>f 8=undef
   | 9=>f 9=.bool true
   | _=>True) (by kernel_rfl) [(11,0),(12,1),(13,2),(14,3),(15,4),(16,5),(17,6),(18,7),(19,8),(20,9)] (by kernel_rfl) ?_
  refine zJ 1 9 ?_;refine lV0 2 8 h1 va ?_;refine qI 3 7 (fun f=>#[f 0,f 1]) (F':=72) (fun f X hX hR=>?_) ?_
  · have e0:f 0=_:=hR.out 0 rfl;have e1:f 1=_:=hR.out 1 rfl;simp only[e0,e1];refine(mL (hk.ext hX) HC.out.fine (hp0.out.ext (HE1.out.trans hX))).mono ?_;rw[Ho1.out];rintro e w2 ⟨rfl,hB⟩;exact⟨_,rfl,hB,fun _ _=>rfl⟩
  refine qN 4 6 2 ?_;refine qN 5 5 3 ?_;refine wu 6 4 4 ?_;refine wu 7 3 4 ?_;refine wu 8 2 4 ?_;refine wu 9 1 4 ?_;refine jm 10 0 4 8 ?_;refine yF ⟨fun f X hX hR hal hap=>?_⟩;have e9:f 9=_:=hR 9 (by decide);simp only[yZ,e9];clear hR hal hap e9;refine zH ?_;have hb1:=hX.at_ h3;go_wp2_with (go_at_call 73;refine(yX _).mono ?_;rintro e wb ⟨rfl,hE2⟩;have hrb2:=hE2.at_ hb1;obtain⟨z0,z1,z2,f0,f1,f2⟩:=jG hrb2);exact gM rfl rfl rfl rfl (xW hrb2 _ _ _) ⟨_,by rfl,by rfl,xq (((HE0.out.trans HE1.out).trans hX).trans hE2) (by have:=Hq.out;omega) _ _ _⟩
 case true =>
  cases o2;case false =>
   obtain rfl:res=none:=by rw[←Hres.out,aA,qg Ho1.out,ql (by rw[Ho2.out];decide)]
   refine zN 10 [0,0,3,7,15,31,31,127,255,511] [] (fun j f X=>match j with
    | 0=>f 0=.pointer (some ⟨k,0,none⟩)
    | 1=>f 1=.agg #[.bool bi,p1,p2]
    | 2=>f 2=.bool true
    | 3=>f 3=.bool false
    | 4=>f 4=.bool false
    | 5=>f 5=.pointer (some ⟨k,0,none⟩)
    | 6=>f 6=.agg #[.bool bj,r1,r2]
    | 7=>f 7=.bool false
    | 8=>f 8=.bool true
    | 9=>f 9=.bool true
    | _=>True) (by kernel_rfl) [(11,0),(12,1),(13,2),(14,3),(15,4),(16,5),(17,6),(18,7),(19,8),(20,9)] (by kernel_rfl) ?_
   refine zJ 1 9 ?_;refine lV0 2 8 h1 va ?_;refine qI 3 7 (fun f=>#[f 0,f 1]) (F':=72) (fun f X hX hR=>?_) ?_
   · have e0:f 0=_:=hR.out 0 rfl;have e1:f 1=_:=hR.out 1 rfl;simp only[e0,e1];refine(mL (hk.ext hX) HC.out.fine (hp0.out.ext (HE1.out.trans hX))).mono ?_;rw[Ho1.out];rintro e w2 ⟨rfl,hB⟩;exact⟨_,rfl,hB,fun _ _=>rfl⟩
   refine qN 4 6 2 ?_;refine qN 5 5 3 ?_;refine qN 6 4 4 ?_;refine lV1 7 3 4 h2 va ?_;refine Par.c1 8 2 4 (fun f=>#[f 5,f 6]) (F':=72) (fun f X hX hR=>?_) ?_
   · have e5:f 5=_:=hR.out 5 rfl;have e6:f 6=_:=hR.out 6 rfl;simp only[e5,e6];refine(mL (hk.ext hX) HC.out.fine (hr0.out.ext (HE1.out.trans hX))).mono ?_;rw[Ho2.out];rintro e w2 ⟨rfl,hB⟩;exact⟨_,rfl,hB,fun _ _=>rfl⟩
   refine jm 9 1 4 7 ?_;refine jm 10 0 4 8 ?_;refine yF ⟨fun f X hX hR hal hap=>?_⟩;have e9:f 9=_:=hR 9 (by decide);simp only[yZ,e9];clear hR hal hap e9;refine zH ?_;have hb1:=hX.at_ h3;go_wp2_with (go_at_call 73;refine(yX _).mono ?_;rintro e wb ⟨rfl,hE2⟩;have hrb2:=hE2.at_ hb1;obtain⟨z0,z1,z2,f0,f1,f2⟩:=jG hrb2);exact gM rfl rfl rfl rfl (xW hrb2 _ _ _) ⟨_,by rfl,by rfl,xq (((HE0.out.trans HE1.out).trans hX).trans hE2) (by have:=Hq.out;omega) _ _ _⟩
  case true =>
   obtain rfl:res=some (yu C.M (uo C.M (upP bi x y) (upP bj u v))):=by rw[←Hres.out,aA,qg Ho1.out,qg Ho2.out]
   refine zN 10 [0,0,3,7,15,31,31,127,255,511] [] (fun j f X=>match j with
    | 0=>f 0=.pointer (some ⟨k,0,none⟩)
    | 1=>f 1=.agg #[.bool bi,p1,p2]
    | 2=>f 2=.bool true
    | 3=>f 3=.bool false
    | 4=>f 4=.bool false
    | 5=>f 5=.pointer (some ⟨k,0,none⟩)
    | 6=>f 6=.agg #[.bool bj,r1,r2]
    | 7=>f 7=.bool true
    | 8=>f 8=.bool false
    | 9=>f 9=.bool false
    | _=>True) (by kernel_rfl) [(11,0),(12,1),(13,2),(14,3),(15,4),(16,5),(17,6),(18,7),(19,8),(20,9)] (by kernel_rfl) ?_
   refine zJ 1 9 ?_;refine lV0 2 8 h1 va ?_;refine qI 3 7 (fun f=>#[f 0,f 1]) (F':=72) (fun f X hX hR=>?_) ?_
   · have e0:f 0=_:=hR.out 0 rfl;have e1:f 1=_:=hR.out 1 rfl;simp only[e0,e1];refine(mL (hk.ext hX) HC.out.fine (hp0.out.ext (HE1.out.trans hX))).mono ?_;rw[Ho1.out];rintro e w2 ⟨rfl,hB⟩;exact⟨_,rfl,hB,fun _ _=>rfl⟩
   refine qN 4 6 2 ?_;refine qN 5 5 3 ?_;refine qN 6 4 4 ?_;refine lV1 7 3 4 h2 va ?_;refine Par.c1 8 2 4 (fun f=>#[f 5,f 6]) (F':=72) (fun f X hX hR=>?_) ?_
   · have e5:f 5=_:=hR.out 5 rfl;have e6:f 6=_:=hR.out 6 rfl;simp only[e5,e6];refine(mL (hk.ext hX) HC.out.fine (hr0.out.ext (HE1.out.trans hX))).mono ?_;rw[Ho2.out];rintro e w2 ⟨rfl,hB⟩;exact⟨_,rfl,hB,fun _ _=>rfl⟩
   refine jm 9 1 4 7 ?_;refine jm 10 0 4 8 ?_;refine yF ⟨fun f X hX hR hal hap=>?_⟩;have e9:f 9=_:=hR 9 (by decide);simp only[yZ,e9];clear hR hal hap e9;refine zH ?_;have HX:=zF hX;rename World=>X2;replace h1:=HX.out.at_ h1;replace h2:=HX.out.at_ h2;replace h3:=HX.out.at_ h3;have HEX:=zF ((HE0.out.trans HE1.out).trans HX.out);clear hX;go_upto_region 4 with fail
   refine zh (by kernel_rfl) 10 [0,0,0,0,12,0,0,124,254,511,1023,2047] [] (fun j f X=>match j with
    | 0=>f 0=.pointer (some ⟨k,0,none⟩)
    | 1=>f 1=.pointer (some ⟨k,0,none⟩)
    | 2=>f 2=.pointer (some ⟨k,0,none⟩)
    | 3=>f 3=.agg #[.bool bi,p1,p2]
    | 4=>∃ o,f 4=o∧JAt C o (upP bi x y)
    | 5=>f 5=.pointer (some ⟨k,0,none⟩)
    | 6=>f 6=.agg #[.bool bj,r1,r2]
    | 7=>∃ o,f 7=o∧JAt C o (upP bj u v)
    | 8=>∃ o,f 8=o∧JAt C o (uo C.M (upP bi x y) (upP bj u v))
    | 9=>∃ o,f 9=o∧PtV X q o (yu C.M (uo C.M (upP bi x y) (upP bj u v)))
    | _=>True) (by kernel_rfl) [(22,0),(23,1),(24,2),(25,3),(26,4),(27,5),(28,6),(29,7),(30,8),(31,9)] (by kernel_rfl) ?_
   refine zJ 1 9 ?_;refine zJ 2 8 ?_;refine zJ 3 7 ?_;refine lV0 4 6 h1 va ?_;refine qI 5 5 (fun f=>#[f 2,f 3]) (F':=74) (fun f X hX hR=>?_) ?_
   · have e2:f 2=_:=hR.out 2 rfl;have e3:f 3=_:=hR.out 3 rfl;simp only[e2,e3];refine(zBl (hk.ext (HX.out.trans hX)) (hp0.out.ext ((HE1.out.trans HX.out).trans hX)) Ho1.out).mono ?_;rintro e w2 ⟨o,rfl,hj,hB⟩;exact⟨_,rfl,hB,fun _ _=>⟨_,rfl,hj⟩⟩
   refine zJ 6 4 ?_;refine lV0 7 3 h2 va ?_;refine qI 8 2 (fun f=>#[f 5,f 6]) (F':=74) (fun f X hX hR=>?_) ?_
   · have e5:f 5=_:=hR.out 5 rfl;have e6:f 6=_:=hR.out 6 rfl;simp only[e5,e6];refine(zBl (hk.ext (HX.out.trans hX)) (hr0.out.ext ((HE1.out.trans HX.out).trans hX)) Ho2.out).mono ?_;rintro e w2 ⟨o,rfl,hj,hB⟩;exact⟨_,rfl,hB,fun _ _=>⟨_,rfl,hj⟩⟩
   refine qI 9 1 (fun f=>#[f 1,f 4,f 7]) (F':=75) (fun f X hX hR=>?_) ?_
   · have e1:f 1=_:=hR.out 1 rfl;obtain⟨v4,(e4:f 4=_),j4⟩:=hR.out 4 rfl;obtain⟨v7,(e7:f 7=_),j7⟩:=hR.out 7 rfl;simp only[e1,e4,e7];refine(zBW (hk.ext (HX.out.trans hX)) j4 j7).mono ?_;rintro e w2 ⟨o,rfl,hj,hB⟩;exact⟨_,rfl,hB,fun _ _=>⟨_,rfl,hj⟩⟩
   refine qI 10 0 (fun f=>#[f 0,f 8]) (F':=78) (fun f X hX hR=>?_) ?_
   · have e0:f 0=_:=hR.out 0 rfl;obtain⟨v8,(e8:f 8=_),j8⟩:=hR.out 8 rfl;simp only[e0,e8];refine(zBD (hk.ext (HX.out.trans hX)) HC.out.plen j8).mono ?_;rintro e w2 ⟨o,rfl,hj,hB⟩;exact⟨_,rfl,hB,fun Y hY=>⟨_,rfl,(hj.mono (by have:=HEX.out.bsize;have:=hX.bsize;have:=Hq.out;omega)).ext hY⟩⟩
   refine yF ⟨fun f X hX hR hal hap=>?_⟩;obtain⟨v4,(e4:f 4=_),j4⟩:=hR 4 (by decide);obtain⟨v7,(e7:f 7=_),j7⟩:=hR 7 (by decide);obtain⟨v8,(e8:f 8=_),j8⟩:=hR 8 (by decide);obtain⟨v9,(e9:f 9=_),j9⟩:=hR 9 (by decide);simp only[yZ,e4,e7,e8,e9];clear hR hal hap e4 e7 e8 e9;obtain⟨x0,x1,x2,ev,hone,hst⟩:=aI (b:=q+1+1) j9;subst ev;refine zP (fun K hK=>⟨zU (by kernel_rfl) (jJ (cs':=#[x0,x1,x2]) (t:=33) 33 (.tmp 6) (.tmp 31) rfl rfl rfl rfl (hX.at_ h3) va rfl hone (fun Y hY1 hY2 hY3=>hK.out _ _ ?_))⟩);refine zP (fun K hK=>⟨zU (by kernel_rfl) ?_⟩);go_simp;refine hK.out _ _ ?_;refine zH ?_;go_wp2;exact gM rfl rfl rfl rfl hY1 ⟨_,rfl,hst Y hY2 ⟨_,hX.at_ h3⟩,hY2.ext (HEX.out.trans hX) (by have:=Hq.out;omega)⟩
end Go.Proofs.YtaemogcomplhiaaGreatDoor
namespace Go.Proofs.YtaemogcomplhiaaGreatDoor
open Go.RowKit Go.Shelf
attribute [local go_sem] Oper.semAt_some
def od (M:Nat) (p:Nat×Nat×Nat):Nat→Nat×Nat×Nat
 | 0=>(1,1,0)
 | 1=>p
 | k+2=>uo M (od M p (k+1)) p
def kI (M:Nat) (p:Nat×Nat×Nat) (E:Nat):Nat→(Nat×Nat×Nat)×Nat
 | 0=>((1,1,0),0)
 | k+1=>if(jn E k).1%4=0 then(uo M (gh M (kI M p E k).1) (od M p (2*(kI M p E k).2+(jn E k).2)),0)else(gh M (kI M p E k).1,2*(kI M p E k).2+(jn E k).2)
def yY (C:Crv) (bi:Bool) (x y E:Nat):Option (Option (Nat×Nat)):=if onQ C bi x y=true then(if zu E≤4096 then some (yu C.M (kI C.M (upP bi x y) E (zu E)).1)else none)else none
theorem rR {X:World}{b:Nat}{u:Value}{T:TypeId}(h:X.heap[b]?=some (.cells #[u] T (0,0)))(v:Value):(X.setCell ⟨b,0,none⟩ v).heap[b]?=some (.cells #[v] T (0,0))∧jQ b X (X.setCell ⟨b,0,none⟩ v) :=
 ⟨by simpa using jM h 0 v,(jk b X).set 0 v⟩
def uq (C:Crv) (X:World) (b:Nat) (p:Nat×Nat×Nat):Prop:=∃ x y z,kD X b x y z∧FJ C.M C.n x y z p.1 p.2.1 p.2.2
theorem kD.lt' {X:World}{b:Nat}{x y z:List Nat}(h:kD X b x y z):b<X.heap.size:=qr h
theorem uq.ext {C:Crv}{X Y:World}{b:Nat}{p:Nat×Nat×Nat}(h:uq C X b p)(hE:Ext X Y):uq C Y b p:=let ⟨x,y,z,h1,h2⟩:=h;⟨x,y,z,hE.at_ h1,h2⟩
theorem zBK (M:Nat)(p:Nat×Nat×Nat)(E:Nat):∀ k,k<zu E→(kI M p E k).2*2 ^((zu E-1-k)%4)<8
 | 0,_=>by rw[show(kI M p E 0).2=0 from rfl];omega
 | k+1,h=>by
  have ih:=zBK M p E k (by omega);have hb:(jn E k).2<2:=qL _ (by omega);have hi:(jn E k).1=zu E-1-k:=rfl;simp only[kI];split
  · simp
  · rename_i hne;rw[hi]at hne;obtain⟨i,hi'⟩:=eV (zu E-1-k);rw[hi']at ih hne;rw[show zu E-1-(k+1)=i-1 by omega];have hr:i%4=1∨i%4=2∨i%4=3:=by omega
    show(2*(kI M p E k).2+(jn E k).2)*_<8;rcases hr with hr|hr|hr
    · rw[hr]at ih;rw[show(i-1)%4=0 by omega];omega
    · rw[hr]at ih;rw[show(i-1)%4=1 by omega];omega
    · rw[hr]at ih;rw[show(i-1)%4=2 by omega];omega
theorem zCW {M:Nat}{p:Nat×Nat×Nat}{E k:Nat}(h:k<zu E):(kI M p E k).2<8:=jl (Nat.le_mul_of_pos_right _ (qS (by omega))) (zBK M p E k h)
theorem zDP {fn:Func}{tm:Array Value}{W:World}{p u:Tmp}{g:Nat}{ty:TypeId}{fr:Nat×Nat}{x0 x1 x2 v:Value}(hr:fn.results=#[.cell p 33,.tmp u])(hp:tm.getD p undef=.pointer (some ⟨g,0,none⟩))(hu:tm.getD u undef=v)
 (hg:W.heap[g]?=some (.cells #[x0,x1,x2] ty fr)):(results fn tm).run Tryz.prog W=.ok (.tuple #[.agg #[x0,x1,x2],v]) W:=by
 rw[results_cell_tmp hr,hp]
 have h1:(asAddr (.pointer (some ⟨g,0,none⟩)):Sem Addr).run Tryz.prog W=.ok ⟨g,0,none⟩ W:=rfl
 rw[h1,qw,run_loadVar_row W g ty 33 #[x0,x1,x2] fr _ hg Tryz.underlying33 rfl va,qw,hu]
theorem uq.just {C:Crv}{X Y:World}{b g:Nat}{p:Nat×Nat×Nat}(h:uq C X b p)(hj:jQ g X Y)(hb:b≠g):uq C Y b p:=let ⟨x,y,z,h1,h2⟩:=h;⟨x,y,z,hj.at_ hb h1,h2⟩
theorem OB.putC {X:World}{base D:Nat}{A:Option Addr}{c:Nat}{l:List Nat}{o o':Obj}(h:OB X base A c l)(hD:X.heap[D]?=some o)(hc:o.isCells=false):OB (X.putObj D o') base A c l:=by
 obtain⟨h1,h2,h3,h4⟩:=h;refine⟨h1,h2,h3,fun hl=>?_⟩;obtain⟨g,cur,e,hg,hgc,hr⟩:=h4 hl;refine⟨g,cur,e,hg,(qJ (fun e=>?_)).trans hgc,hr⟩;subst e;rw[hD]at hgc;cases hgc;cases hc
theorem PtV.put {X:World}{base D:Nat}{v:Value}{p:Option (Nat×Nat)}{o':Obj}(h:PtV X base v p)(hD:X.heap[D]?=some (.deferred (some []))):PtV (X.putObj D o') base v p:=by
 cases p with
 | none=>exact h
 | some p =>
  obtain⟨A,c,A',c',rfl,h1,h2⟩:=h;exact⟨A,c,A',c',rfl,h1.putC hD rfl,h2.putC hD rfl⟩
structure MK (n0 t bo be:Nat) (w3 V Z:World):Prop where
 keeps:jN n0 (n0+2) 0 V Z
 stay:yk t n0 V Z
 below:Below bo w3 Z
 tab:Z.heap[be]?=V.heap[be]?
 size:n0≤Z.heap.size
theorem MK.ext {n0 t bo be:Nat}{w3 V Z Z':World}(h:MK n0 t bo be w3 V Z)(hE:Ext Z Z')(hbe:be<n0)(hbo:bo≤n0):MK n0 t bo be w3 V Z' :=
 ⟨h.keeps.trans (jN.below hE (zG _)),yk.trans h.stay (hE.stay h.size),h.below.trans (Below.mono hE (by have:=h.size;omega)),(Below.block hE be (by have:=h.size;omega)).trans h.tab,zK h.size hE.bsize⟩
theorem MK.just {n0 t bo be g:Nat}{w3 V Z Z':World}{cs:Array Value}{T:TypeId}{fr:Nat×Nat}(h:MK n0 t bo be w3 V Z)(hj:jQ g Z Z')(hg:Z.heap[g]?=some (.cells cs T fr))(hgt:g<t)(hgb:bo≤g)(hne:be≠g)(hbe:be<n0)(hbo:bo≤n0):MK n0 t bo be w3 V Z' :=
 ⟨h.keeps.trans (jN.just hj hg),yk.trans h.stay (hj.stay hgt h.size),h.below.trans (hj.below hgb (by have:=h.size;omega)),(hj.block be (by have:=h.size;omega) hne).trans h.tab,zK h.size hj.size⟩
theorem uq.below {C:Crv}{X Y:World}{b B:Nat}{p:Nat×Nat×Nat}(h:uq C X b p)(hB:Below B X Y)(hb:b<B):uq C Y b p:=let ⟨x,y,z,h1,h2⟩:=h;⟨x,y,z,(hB.block b hb).trans h1,h2⟩
theorem oA {c:Int}{C:Crv}(hC:IsC c C){p:Value}{bi:Bool}{x y E:Nat}{An:Option Addr}{cn:Nat}{n:List Nat}(w:World)(hp:APt w p bi x y)(hn:RU w An cn n)(hE:val 18446744073709551616 n=E) :
 Calls Tryz.prog 35 #[.int .i64 c,.slice An n.length cn,p] w fun e w'=>∃ o,e=.returned (.tuple #[o,.bool (yY C bi x y E).isSome])∧PtV w' w.heap.size o (yY C bi x y E).join∧Ext w w':=by
 obtain⟨A,A',ca,cb,a,b,rfl,ha,hb,hx,hy⟩:=hp
 have hp:APt w (.agg #[.bool bi,.slice A a.length ca,.slice A' b.length cb]) bi x y:=⟨A,A',ca,cb,a,b,rfl,ha,hb,hx,hy⟩
 obtain⟨W0,hW0⟩:=eW ((w.alloc (.cells #[.bool bi,.slice A a.length ca,.slice A' b.length cb] 33)).alloc (.cells #[.bool false,.slice none 0 0,.slice none 0 0] 33))
 obtain⟨q,hq⟩:=eV w.heap.size
 have hE0:Ext w W0:=by rw[hW0];exact(zO _ _).trans (zO _ _)
 obtain⟨h1,h3,hz0⟩:=wL w (.cells #[.bool bi,.slice A a.length ca,.slice A' b.length cb] 33) (.cells #[.bool false,.slice none 0 0,.slice none 0 0] 33)
 rw[←hW0,hq]at h1 h3 hz0
 have hp0:=zF (hp.ext hE0)
 have HE0:=zF hE0
 have Hz0:=zF hz0
 have HC:=zF hC
 have HN:=zF (zL hn hE0)
 have HE:=zF hE
 rw[hq]
 obtain⟨res,hres⟩:=eV (yY C bi x y E)
 rw[hres]
 have Hres:=zF hres
 clear hp hE0 hz0 hC hres ha hb hx hy hn hE
 obtain⟨o1,ho1⟩:=eV (onQ C bi x y)
 have Ho1:=zF ho1
 obtain⟨nb,hnb⟩:=eV (zu E)
 have Hnb:=zF hnb
 clear ho1 hnb
 cases o1
 case false =>
  obtain rfl:res=none:=by rw[←Hres.out,yY,ql (by rw[Ho1.out];decide)]
  go_enter Tryz.func35,Tryz.ntmps35;go_upto_region 1 with fail;rw[←hW0];have Hq:=zF hq;clear hW0 hq;go_upto_region 2 with(go_at_call 64;refine(pH HC.out _).mono ?_;rintro e wa ⟨k1,rfl,hk1,hE1⟩);obtain⟨b2,hb2⟩:=eV wa.heap.size;have h2:=zS wa (.cells #[.pointer (some ⟨k1,0,none⟩)] 105);have hA:=zO wa (.cells #[.pointer (some ⟨k1,0,none⟩)] 105);rw[hb2]at h2;have hz1:(wa.alloc (.cells #[.pointer (some ⟨k1,0,none⟩)] 105)).heap.size=b2+1:=by rw[qB,hb2]
  generalize hW1:wa.alloc (.cells #[.pointer (some ⟨k1,0,none⟩)] 105)=W1 at *;rw[hb2];have Hk1:=zF (hk1.ext hA);have HE1:=zF (hE1.trans hA);have Hz1:=zF hz1;have HB2:=zF (show q+2≤b2 by have:=hE1.bsize;have:=Hz0.out;omega);replace h1:=HE1.out.at_ h1;replace h3:=HE1.out.at_ h3;have ck:=zQ h2 0;simp only[zR,zi]at ck;clear hk1 hE1 hA hz1 hb2 hW1
  refine zN 9 [0,0,3,7,15,31,63,127,255] [] (fun j f X=>match j with
   | 0=>f 0=.pointer (some ⟨k1,0,none⟩)
   | 1=>f 1=.agg #[.bool bi,.slice A a.length ca,.slice A' b.length cb]
   | 2=>f 2=.bool false
   | 3=>f 3=.bool true
   | 4=>f 4=.bool true
   | 5=>f 5=undef
   | 6=>f 6=undef
   | 7=>f 7=undef
   | 8=>f 8=.bool true
   | _=>True) (by kernel_rfl) [(17,0),(18,1),(19,2),(20,3),(21,4),(22,5),(23,6),(24,7),(25,8)] (by kernel_rfl) ?_
  refine Par.ld0 1 8 ck ?_;refine lV0 2 7 h1 va ?_;refine qI 3 6 (fun f=>#[f 0,f 1]) (F':=72) (fun f X hX hR=>?_) ?_
  · have e0:f 0=_:=hR.out 0 rfl;have e1:f 1=_:=hR.out 1 rfl;simp only[e0,e1];refine(mL (Hk1.out.ext hX) HC.out.fine (hp0.out.ext (HE1.out.trans hX))).mono ?_;rw[Ho1.out];rintro e w2 ⟨rfl,hB⟩;exact⟨_,rfl,hB,fun _ _=>rfl⟩
  refine qN 4 5 2 ?_;refine qN 5 4 3 ?_;refine wu 6 3 4 ?_;refine wu 7 2 4 ?_;refine wu 8 1 4 ?_;refine jm 9 0 4 7 ?_;refine yF ⟨fun f X hX hR hal hap=>?_⟩;have e8:f 8=_:=hR 8 (by decide);simp only[yZ,e8];clear hR hal hap e8;refine zH ?_;have hb1:=hX.at_ h3;go_wp2_with (go_at_call 73;refine(yX _).mono ?_;rintro e wb ⟨rfl,hE2⟩;have hrb2:=hE2.at_ hb1;obtain⟨z0,z1,z2,f0,f1,f2⟩:=jG hrb2);exact gM rfl rfl rfl rfl (xW hrb2 _ _ _) ⟨_,rfl,rfl,xq (((HE0.out.trans HE1.out).trans hX).trans hE2) (by have:=Hq.out;omega) _ _ _⟩
 case true =>
  by_cases hbits:nb≤4096;case neg =>
   obtain rfl:res=none:=by rw[←Hres.out,yY,qg Ho1.out,ql (by rw[Hnb.out];exact hbits)]
   have Hgt:=zF (show(4096:Int)<(nb:Int) by omega);go_enter Tryz.func35,Tryz.ntmps35;go_upto_region 1 with fail;rw[←hW0];have Hq:=zF hq;clear hW0 hq;go_upto_region 2 with(go_at_call 64;refine(pH HC.out _).mono ?_;rintro e wa ⟨k1,rfl,hk1,hE1⟩);obtain⟨b2,hb2⟩:=eV wa.heap.size;have h2:=zS wa (.cells #[.pointer (some ⟨k1,0,none⟩)] 105);have hA:=zO wa (.cells #[.pointer (some ⟨k1,0,none⟩)] 105);rw[hb2]at h2;have hz1:(wa.alloc (.cells #[.pointer (some ⟨k1,0,none⟩)] 105)).heap.size=b2+1:=by rw[qB,hb2]
   generalize hW1:wa.alloc (.cells #[.pointer (some ⟨k1,0,none⟩)] 105)=W1 at *;rw[hb2];have Hk1:=zF (hk1.ext hA);have HE1:=zF (hE1.trans hA);have Hz1:=zF hz1;have HB2:=zF (show q+2≤b2 by have:=hE1.bsize;have:=Hz0.out;omega);replace h1:=HE1.out.at_ h1;replace h3:=HE1.out.at_ h3;have ck:=zQ h2 0;simp only[zR,zi]at ck;clear hk1 hE1 hA hz1 hb2 hW1
   refine zN 9 [0,0,3,7,15,31,63,127,255] [] (fun j f X=>match j with
    | 0=>f 0=.pointer (some ⟨k1,0,none⟩)
    | 1=>f 1=.agg #[.bool bi,.slice A a.length ca,.slice A' b.length cb]
    | 2=>f 2=.bool true
    | 3=>f 3=.bool false
    | 4=>f 4=.bool false
    | 5=>f 5=.slice An n.length cn
    | 6=>f 6=.int .i64 (nb:Int)
    | 7=>f 7=.bool true
    | 8=>f 8=.bool true
    | _=>True) (by kernel_rfl) [(17,0),(18,1),(19,2),(20,3),(21,4),(22,5),(23,6),(24,7),(25,8)] (by kernel_rfl) ?_
   refine Par.ld0 1 8 ck ?_;refine lV0 2 7 h1 va ?_;refine qI 3 6 (fun f=>#[f 0,f 1]) (F':=72) (fun f X hX hR=>?_) ?_
   · have e0:f 0=_:=hR.out 0 rfl;have e1:f 1=_:=hR.out 1 rfl;simp only[e0,e1];refine(mL (Hk1.out.ext hX) HC.out.fine (hp0.out.ext (HE1.out.trans hX))).mono ?_;rw[Ho1.out];rintro e w2 ⟨rfl,hB⟩;exact⟨_,rfl,hB,fun _ _=>rfl⟩
   refine qN 4 5 2 ?_;refine qN 5 4 3 ?_;refine qN 6 3 4 ?_;refine Par.c1 7 2 4 (fun f=>#[f 5]) (F':=62) (fun f X hX hR=>?_) ?_
   · have e5:f 5=_:=hR.out 5 rfl;simp only[e5];refine(vK _ An cn n X (zL HN.out (HE1.out.trans hX))).mono ?_;rw[HE.out,Hnb.out];rintro e w2 ⟨rfl,rfl⟩;exact⟨_,rfl,(zX _),fun _ _=>rfl⟩
   refine zt 8 1 [(17,0),(18,1),(19,2),(20,3),(21,4),(22,5),(23,6)] (fun f X hX hR K hK=>?_) ?_
   · have e4:f 4=_:=hR.out 4 rfl;have e6:f 6=_:=hR.out 6 rfl;have hgt:decide ((4096:Int)<(nb:Int))=true:=qZ (by have:=Hgt.out;omega);have hgn:decide (4096<nb)=true:=qZ (by have:=Hgt.out;omega);simp only[yZ,e4,e6];refine⟨zU (by kernel_rfl) ?_⟩;go_simp;exact qd hK (s:=by simp only[yZ,e4,e6])
   refine jm 9 0 4 7 ?_;refine yF ⟨fun f X hX hR hal hap=>?_⟩;have e8:f 8=_:=hR 8 (by decide);simp only[yZ,e8];clear hR hal hap e8;refine zH ?_;have hb1:=hX.at_ h3;go_wp2_with (go_at_call 73;refine(yX _).mono ?_;rintro e wb ⟨rfl,hE2⟩;have hrb2:=hE2.at_ hb1;obtain⟨z0,z1,z2,f0,f1,f2⟩:=jG hrb2);exact gM rfl rfl rfl rfl (xW hrb2 _ _ _) ⟨_,rfl,rfl,xq (((HE0.out.trans HE1.out).trans hX).trans hE2) (by have:=Hq.out;omega) _ _ _⟩
  case pos =>
   obtain rfl:res=some (yu C.M (kI C.M (upP bi x y) E nb).1):=by rw[←Hres.out,yY,qg Ho1.out,qg (by rw[Hnb.out];exact hbits),Hnb.out]
   have Hgt:=zF (show ¬(4096:Int)<(nb:Int) by omega);refine(callsIn_wide (n:=6)).1 ?_;refine callsIn_of_wp_marks Tryz.func35 rfl trivial ?_ rfl;simp only[Tryz.ntmps35,qX,jZ,kA,Nat.reduceAdd,Nat.reduceSub,Array.replicate_succ,Array.replicate_zero,List.push_toArray,List.append_toArray,wm,uS];refine wpIn_wide.2 ?_;go_upto_region 1 with fail;rw[←hW0];have Hq:=zF hq;clear hW0 hq;go_upto_region 2 with(go_at_call 64;refine(pH HC.out _).mono ?_;rintro e wa ⟨k1,rfl,hk1,hE1⟩);obtain⟨b2,hb2⟩:=eV wa.heap.size;have h2:=zS wa (.cells #[.pointer (some ⟨k1,0,none⟩)] 105);have hA:=zO wa (.cells #[.pointer (some ⟨k1,0,none⟩)] 105);rw[hb2]at h2;have hz1:(wa.alloc (.cells #[.pointer (some ⟨k1,0,none⟩)] 105)).heap.size=b2+1:=by rw[qB,hb2]
   generalize hW1:wa.alloc (.cells #[.pointer (some ⟨k1,0,none⟩)] 105)=W1 at *;rw[hb2];have Hk1:=zF (hk1.ext hA);have HE1:=zF (hE1.trans hA);have Hz1:=zF hz1;have HB2:=zF (show q+2≤b2 by have:=hE1.bsize;have:=Hz0.out;omega);replace h1:=HE1.out.at_ h1;replace h3:=HE1.out.at_ h3;have ck:=zQ h2 0;simp only[zR,zi]at ck;clear hk1 hE1 hA hz1 hb2 hW1
   refine zN 9 [0,0,3,7,15,31,63,127,255] [] (fun j f X=>match j with
    | 0=>f 0=.pointer (some ⟨k1,0,none⟩)
    | 1=>f 1=.agg #[.bool bi,.slice A a.length ca,.slice A' b.length cb]
    | 2=>f 2=.bool true
    | 3=>f 3=.bool false
    | 4=>f 4=.bool false
    | 5=>f 5=.slice An n.length cn
    | 6=>f 6=.int .i64 (nb:Int)
    | 7=>f 7=.bool false
    | 8=>f 8=.bool false
    | _=>True) (by kernel_rfl) [(17,0),(18,1),(19,2),(20,3),(21,4),(22,5),(23,6),(24,7),(25,8)] (by kernel_rfl) ?_
   refine Par.ld0 1 8 ck ?_;refine lV0 2 7 h1 va ?_;refine qI 3 6 (fun f=>#[f 0,f 1]) (F':=72) (fun f X hX hR=>?_) ?_
   · have e0:f 0=_:=hR.out 0 rfl;have e1:f 1=_:=hR.out 1 rfl;simp only[e0,e1];refine(mL (Hk1.out.ext hX) HC.out.fine (hp0.out.ext (HE1.out.trans hX))).mono ?_;rw[Ho1.out];rintro e w2 ⟨rfl,hB⟩;exact⟨_,rfl,hB,fun _ _=>rfl⟩
   refine qN 4 5 2 ?_;refine qN 5 4 3 ?_;refine qN 6 3 4 ?_;refine Par.c1 7 2 4 (fun f=>#[f 5]) (F':=62) (fun f X hX hR=>?_) ?_
   · have e5:f 5=_:=hR.out 5 rfl;simp only[e5];refine(vK _ An cn n X (zL HN.out (HE1.out.trans hX))).mono ?_;rw[HE.out,Hnb.out];rintro e w2 ⟨rfl,rfl⟩;exact⟨_,rfl,(zX _),fun _ _=>rfl⟩
   refine zt 8 1 [(17,0),(18,1),(19,2),(20,3),(21,4),(22,5),(23,6)] (fun f X hX hR K hK=>?_) ?_
   · have e4:f 4=_:=hR.out 4 rfl;have e6:f 6=_:=hR.out 6 rfl;have hgt:decide ((4096:Int)<(nb:Int))=false:=jF (by have:=Hgt.out;omega);have hgn:decide (4096<nb)=false:=jF (by have:=Hgt.out;omega);simp only[yZ,e4,e6];refine⟨zU (by kernel_rfl) ?_⟩;go_simp;exact qd hK (s:=by simp only[yZ,e4,e6])
   refine jm 9 0 4 7 ?_;refine yF ⟨fun f X hX hR hal hap=>?_⟩;have e8:f 8=_:=hR 8 (by decide);simp only[yZ,e8];clear hR hal hap e8;refine zH ?_;have HX:=zF hX;rename World=>X2;replace ck:=hX.cell ck;replace h1:=hX.at_ h1;replace h3:=hX.at_ h3;clear hX h2;go_upto_region 4 with fail;obtain⟨pt,hpt⟩:=eV (od C.M (upP bi x y));have ht0:pt 0=(1,1,0):=by rw[←hpt];rfl
   have ht1:pt 1=upP bi x y:=by rw[←hpt];rfl
   have hts:∀ k,1≤k→pt (k+1)=uo C.M (pt k) (pt 1):=by
    intro k hk;obtain⟨k,rfl⟩:∃ m,k=m+1:=⟨k-1,by omega⟩
    rw[←hpt];rfl
   have Hpt:=zF hpt;have Ht0:=zF ht0;have Ht1:=zF ht1;have Hts:=zF hts;clear hpt ht0 ht1 hts
   refine zh (by kernel_rfl) 4 [0,0,3,0,15] [3] (fun j f X=>match j with
    | 0=>f 0=.pointer (some ⟨k1,0,none⟩)
    | 1=>f 1=gL
    | 2=>∃ v,f 2=v∧JAt C v (1,1,0)
    | 3=>∃ b,f 3=.pointer (some ⟨b,0,none⟩)∧X2.heap.size≤b∧X.heap[b]?=some (.cells #[.int .u64 0,.int .u64 0,.int .u64 0,.int .u64 0,.int .u64 0,.int .u64 0,.int .u64 0,.int .u64 0,.int .u64 0,.int .u64 0,.int .u64 0,.int .u64 0,.int .u64 0,.int .u64 0,.int .u64 0,.int .u64 0,.int .u64 0,.int .u64 0] 123 (0,0))
    | _=>True) (by kernel_rfl) [(27,0),(28,1),(29,2),(9,3)] (by kernel_rfl) ?_
   refine Par.ld0 1 3 ck ?_;refine qI 2 2 (fun _=>#[]) (F':=73) (fun f X hX hR=>?_) ?_
   · refine(yX X).mono ?_;rintro e w2 ⟨rfl,hB⟩;exact⟨gL,rfl,hB,fun _ _=>rfl⟩
   refine qI 3 1 (fun f=>#[f 0,f 1]) (F':=74) (fun f X hX hR=>?_) ?_
   · have e0:f 0=_:=hR.out 0 rfl;have e1:f 1=_:=hR.out 1 rfl;simp only[e0,e1];refine(zBl (Hk1.out.ext (HX.out.trans hX)) (APt.inf_ X) rfl).mono ?_;rintro e w2 ⟨o,rfl,hj,hB⟩;exact⟨_,rfl,hB,fun _ _=>⟨_,rfl,hj⟩⟩
   refine kK 4 0 ?_;refine yF ⟨fun f X hX hR hal hap=>?_⟩;obtain⟨v2,(e2:f 2=_),j2⟩:=hR 2 (by decide);obtain⟨bo3,(e3:f 3=_),lo3,ho3⟩:=hR 3 (by decide);simp only[yZ,e2,e3];clear hR hal hap e2 e3;obtain⟨ox,oy,oz,ev,hf⟩:=j2;subst ev;refine zP (fun K hK=>⟨zU (by kernel_rfl) (vG (x:=ox) (y:=oy) (z:=oz) (.tmp 9) (.tmp 29) rfl rfl rfl rfl ho3 rfl hf.x.elt.six hf.y.elt.six hf.z.elt.six (fun Y hY1 hY2 hY3=>hK.out _ _ ?_))⟩);refine zH ?_;have hXY:=hY2.ext hX lo3;have hbo:q+2≤bo3:=by have:=HX.out.bsize;have:=HE1.out.bsize;have:=Hz0.out;omega
   have hJo:uq C Y bo3 (pt 0):=⟨ox,oy,oz,hY1,by rw[Ht0.out];exact hf⟩
   replace ck:=hXY.cell ck;replace h1:=hXY.at_ h1;replace h3:=hXY.at_ h3;have HXY:=zF (HX.out.trans hXY);have lo:=zK HX.out.bsize lo3;have zY:bo3<Y.heap.size:=hY1.lt';clear hX hY1 hY2 hY3 ho3 lo3 hf hXY;rename World=>V4;go_upto_region 5 with fail
   refine zh (by kernel_rfl) 6 [0,0,0,6,15,0,63] [5] (fun j f X=>match j with
    | 0=>∃ v,f 0=v∧JAt C v (pt 0)
    | 1=>f 1=.pointer (some ⟨k1,0,none⟩)
    | 2=>f 2=.agg #[.bool bi,.slice A a.length ca,.slice A' b.length cb]
    | 3=>∃ v,f 3=v∧JAt C v (pt 1)
    | 4=>∃ cs:Array Value,f 4=.agg cs∧cs.size=288∧cs.all (·.oneCell')=true∧(∀(W:World) (b:Nat),W.heap[b]?=some (.cells cs 125 (0,0))→wD C W b pt 2)
    | 5=>∃ b,f 5=.pointer (some ⟨b,0,none⟩)∧V4.heap.size≤b∧X.heap[b]?=some (.cells z85 125 (0,0))
    | _=>True) (by kernel_rfl) [(30,0),(31,1),(32,2),(33,3),(34,4),(10,5)] (by kernel_rfl) ?_
   refine zt 1 5 [(31,1),(32,2),(33,3),(10,5)] (fun f X hX hR K hK=>?_) ?_
   · obtain⟨jx,jy,jz,hjb,hjf⟩:=hJo.ext hX;simp only[yZ];refine⟨kB (v:=JV jx jy jz) (t:=123) 123 (.tmp 9) rfl rfl hjb Tryz.underlying123 rfl (by rw[hjf.sz];exact gJ) rfl ?_⟩;exact hK.out _ (JV jx jy jz) _ (by simp only[yZ]) (zX _) trivial (fun _ _=>⟨_,rfl,⟨jx,jy,jz,rfl,hjf⟩⟩)
   refine Par.ld0 2 4 ck ?_;refine lV0 3 3 h1 va ?_;refine qI 4 2 (fun f=>#[f 1,f 2]) (F':=74) (fun f X hX hR=>?_) ?_
   · have e1:f 1=_:=hR.out 1 rfl;have e2:f 2=_:=hR.out 2 rfl;simp only[e1,e2];refine(zBl (Hk1.out.ext (HXY.out.trans hX)) (hp0.out.ext ((HE1.out.trans HXY.out).trans hX)) Ho1.out).mono ?_;rintro e w2 ⟨o,rfl,hj,hB⟩;exact⟨o,rfl,hB,fun _ _=>⟨_,rfl,by rw[Ht1.out];exact hj⟩⟩
   refine zt 5 1 [(30,0),(31,1),(32,2),(33,3),(10,5)] (fun f X hX hR K hK=>?_) ?_
   · obtain⟨v0,(e0:f 0=_),j0⟩:=hR.out 0 rfl;obtain⟨v3,(e3:f 3=_),j3⟩:=hR.out 3 rfl;simp only[yZ,e0,e3];refine⟨oU (.tmp 30) (.tmp 33) rfl rfl rfl j0 j3 (fun cs h1 h2 h3=>?_)⟩;exact hK.out _ (.agg cs) _ (by simp only[yZ,e0,e3]) (zX _) trivial (fun _ _=>⟨cs,rfl,h1,h2,fun W b hb=>h3 W b hb pt rfl rfl⟩)
   refine kK 6 0 ?_;refine yF ⟨fun f X hX hR hal hap=>?_⟩;obtain⟨v0,(e0:f 0=_),j0⟩:=hR 0 (by decide);obtain⟨v3,(e3:f 3=_),j3⟩:=hR 3 (by decide);obtain⟨cs,(e4:f 4=_),hs4,ho4,ht4⟩:=hR 4 (by decide);obtain⟨be5,(e5:f 5=_),le5,he5⟩:=hR 5 (by decide);simp only[yZ,e0,e3,e4,e5];clear hR hal hap e0 e3 e4 e5;refine zP (fun K hK=>⟨zU (by kernel_rfl) (jJ (cs':=cs) (t:=125) 125 (.tmp 10) (.tmp 34) rfl rfl rfl rfl he5 (by rw[hs4];exact zCR) (by rw[hs4,th]) ho4 (fun Y hY1 hY2 hY3=>hK.out _ _ ?_))⟩);refine zH ?_;have hT2:wD C Y be5 pt 2:=ht4 Y be5 hY1;have hXZ:=hY2.ext hX le5;have zE:be5<Y.heap.size:=qr hY1;have zoe:bo3<be5:=by omega
   have HXZ:=zF (HXY.out.trans hXZ);replace ck:=hXZ.cell ck;replace hJo:=hJo.ext hXZ;replace h3:=hXZ.at_ h3;clear hX hY1 hY2 hY3 he5 le5 hXZ j0 j3 ht4 hs4 ho4 h1 zY HXY;rename World=>V5;have hb2o:b2<bo3:=by have:=Hz1.out;omega
   go_wp2;go_loopw [11] (fun iv wr=>∃ k:Nat,iv=.int .i64 (k:Int)∧2≤k∧k≤16∧wD C wr be5 pt k∧Below be5 V5 wr) (fun iv _=>(16-intOf iv).toNat);case atStart=>exact⟨2,by go_num,by omega,by omega,hT2,zl _ _⟩
   case round =>
    obtain⟨k,rfl,hk2,hk16,hT,hB⟩:=hrel;by_cases hlt:k<16
    · obtain⟨m,hm⟩:∃ m,k=m+1:=⟨k-1,by omega⟩
      have e1:(k:Int)-1=(m:Int):=by omega
      have k1':(k:Int)<16:=by omega
      have k2':(m:Int)<16:=by omega
      have ckr:=(hB.cell (p:=⟨b2,0,none⟩) (by show b2<be5;omega)).trans ck;have HEr:=zF (show Ext W1 wr from kG HXZ.out (Below.mono hB (by have:=Hz1.out;omega)));have hsz:=hT.lt;have Hpk:=zF (show pt k=uo C.M (pt m) (pt 1) by rw[hm];exact Hts.out m (by omega));clear hm;go_upto_region 9 with fail
      refine zh (by kernel_rfl) 10 [0,0,0,4,12,28,0,64,254,511,1023] [] (fun j f X=>match j with
       | 0=>f 0=.int .i64 (k:Int)
       | 1=>f 1=.pointer (some ⟨k1,0,none⟩)
       | 2=>f 2=.int .i64 (k:Int)
       | 3=>f 3=.int .i64 (m:Int)
       | 4=>f 4=.pointer (some ⟨be5,m*18,none⟩)
       | 5=>∃ v,f 5=v∧JAt C v (pt m)
       | 6=>f 6=.pointer (some ⟨be5,18,none⟩)
       | 7=>∃ v,f 7=v∧JAt C v (pt 1)
       | 8=>∃ v,f 8=v∧JAt C v (pt k)
       | 9=>f 9=.pointer (some ⟨be5,k*18,none⟩)
       | _=>True) (by kernel_rfl) [(39,0),(40,1),(41,2),(42,3),(43,4),(44,5),(45,6),(46,7),(47,8),(48,9)] (by kernel_rfl) ?_
      refine zJ 1 9 ?_;refine Par.ld0 2 8 ckr ?_;refine zJ 3 7 ?_;refine zt 4 6 [(39,0),(40,1),(41,2),(45,6),(46,7)] (fun f X hX hR K hK=>?_) ?_
      · have e2:f 2=_:=hR.out 2 rfl;have ew:IntKind.i64.wrap (m:Int)=(m:Int):=jW _ (by omega);simp only[yZ,e2];refine⟨?_⟩;go_simp;exact qd hK (s:=by simp only[yZ,e2])
      refine zt 5 5 [(39,0),(40,1),(41,2),(42,3),(45,6),(46,7)] (fun f X hX hR K hK=>?_) ?_
      · have e3:f 3=_:=hR.out 3 rfl;simp only[yZ,e3];refine⟨?_⟩;go_simp;exact qd hK (s:=by simp only[yZ,e3])
      refine zt 6 4 [(39,0),(40,1),(41,2),(42,3),(43,4),(45,6),(46,7)] (fun f X hX hR K hK=>?_) ?_
      · have e4:f 4=_:=hR.out 4 rfl;simp only[yZ,e4];refine⟨cK (.tmp 43) rfl (hT.ext hX) (i:=m) (by omega) (zj _ _) rfl (fun v hv=>?_)⟩;exact hK.out _ v _ (by simp only[yZ,e4]) (zX _) trivial (fun _ _=>⟨_,rfl,hv⟩)
      refine zJ 7 3 ?_;refine zt 8 2 [(39,0),(40,1),(41,2),(42,3),(43,4),(44,5),(45,6)] (fun f X hX hR K hK=>?_) ?_
      · have e6:f 6=_:=hR.out 6 rfl;simp only[yZ,e6];refine⟨cK (.tmp 45) rfl (hT.ext hX) (i:=1) (by omega) rfl rfl (fun v hv=>?_)⟩;exact hK.out _ v _ (by simp only[yZ,e6]) (zX _) trivial (fun _ _=>⟨_,rfl,hv⟩)
      refine qI 9 1 (fun f=>#[f 1,f 5,f 7]) (F':=75) (fun f X hX hR=>?_) ?_
      · have e1:f 1=_:=hR.out 1 rfl;obtain⟨v5,(e5:f 5=_),j5⟩:=hR.out 5 rfl;obtain⟨v7,(e7:f 7=_),j7⟩:=hR.out 7 rfl;simp only[e1,e5,e7];refine(zBW (Hk1.out.ext (HEr.out.trans hX)) j5 j7).mono ?_;rintro e w2 ⟨o,rfl,hj,hB⟩;exact⟨o,rfl,hB,fun _ _=>⟨_,rfl,by rw[Hpk.out];exact hj⟩⟩
      refine zt 10 0 [(39,0),(40,1),(41,2),(42,3),(43,4),(44,5),(45,6),(46,7),(47,8)] (fun f X hX hR K hK=>?_) ?_
      · have e0:f 0=_:=hR.out 0 rfl;simp only[yZ,e0];refine⟨?_⟩;go_simp;exact qd hK (s:=by simp only[yZ,e0])
      refine yF ⟨fun f X hX hR hal hap=>?_⟩;obtain⟨v5,(e5:f 5=_),j5⟩:=hR 5 (by decide);obtain⟨v7,(e7:f 7=_),j7⟩:=hR 7 (by decide);obtain⟨v8,(e8:f 8=_),j8⟩:=hR 8 (by decide);have e9:f 9=_:=hR 9 (by decide);simp only[yZ,e5,e7,e8,e9];clear hR hal hap e5 e7 e8 e9;refine zP (fun K hK=>⟨sS (.tmp 48) (.tmp 47) rfl rfl (hT.ext hX) hlt j8 (zj _ _) rfl rfl (fun Y hY1 hY2 hY3=>hK.out _ _ ?_)⟩);refine zH ?_;have hBY:Below be5 V5 Y:=(hB.trans (Below.mono hX (by omega))).trans (hY2.below (zG _) (by have:=hX.bsize;omega));have HBY:=zF hBY;have HTY:=zF hY1;have hkw:IntKind.i64.wrap ((k:Int)+1)=(k:Int)+1:=jW _ (by omega);clear hX hY1 hY2 hY3 j5 j7 j8 hBY hT hB ckr;go_wp2;go_roundw;case rel=>exact⟨k+1,by go_num,by omega,by omega,HTY.out,HBY.out⟩
      case measure=>simp[intOf];omega
    · have hkk:k=16:=by omega
      rw[show(k:Int)=16 by omega];rw[hkk]at hT;have k1':¬(16:Int)<16:=by omega
      clear hlt hk2 hk16 hkk;have HT:=zF hT;have HBr:=zF hB;have hJr:uq C wr bo3 (pt 0):=hJo.below hB zoe;have h3r:=(hB.block (q+1) (by omega)).trans h3;have ckr:=(hB.cell (p:=⟨b2,0,none⟩) (by show b2<be5;omega)).trans ck;clear hT hB hJo h3 ck;have HEr:=zF (show Ext W1 wr from kG HXZ.out (Below.mono HBr.out (by have:=Hz1.out;omega)));obtain⟨bd,hbd⟩:=eV wr.heap.size;have d0:=zS wr (.cells #[.int .u64 0] 81);have hA6:=zO wr (.cells #[.int .u64 0] 81);rw[hbd]at d0;have hz6:(wr.alloc (.cells #[.int .u64 0] 81)).heap.size=bd+1:=by rw[qB,hbd]
      have zbe:be5<bd:=by have:=HT.out.lt;omega
      go_upto_region 11 with fail;generalize hW6:wr.alloc (.cells #[.int .u64 0] 81)=W6 at *;replace ckr:=hA6.cell ckr;replace h3r:=hA6.at_ h3r;replace hJr:=hJr.ext hA6;have HT6:=zF (HT.out.ext hA6);have HE6:=zF (HEr.out.trans hA6);have heach:=oL _ An cn n W6 (zL HN.out (HE1.out.trans HE6.out)) (fun b hb=>hb);rw[HE.out,hz6]at heach;have Heach:=zF heach;have hW6z:=zF hz6;clear heach hA6 hbd hz6 hW6 HT HBr HEr;go_wp2_with (go_at_call 76;refine Heach.out.mono ?_;rintro e' w3 ⟨Ae',ce',rfl,be,hOe,hB3⟩);obtain⟨t,ht⟩:=eV (bd+1);rw[ht]at be hOe hB3;rw[ht];have hbdt:bd<t:=by omega
      have hbot:bo3<t:=by omega
      have zn:t<w3.heap.size:=qr be;have hbe:=zQ be 0;simp only[zR,zi]at hbe;have hseq:=oK t t w3.heap.size (In t w3.heap.size) Ae' ce' (digs 18446744073709551616 E) w3 (fun b hb=>hb) (zG _) zn (zG _) hbe hOe.rn;rw[zd (by omega),Hnb.out]at hseq;have Hseq:=zF hseq;have hE3:Ext W6 w3:=by rw[←ht,←hW6z.out]at hB3;exact hB3
      have HE3:=zF (HE6.out.trans hE3);have c3:=hE3.cell ckr;have hJ3:=hJr.ext hE3;have hT3:=HT6.out.ext hE3;have hd3:=hE3.at_ d0;have h33:=hE3.at_ h3r;clear hseq Heach hbe be hOe hB3 hE3 ckr hJr d0 h3r HT6 ht;have hI0:uq C w3 bo3 (kI C.M (upP bi x y) E 0).1:=by rw[show(kI C.M (upP bi x y) E 0).1=pt 0 by rw[Ht0.out];rfl];exact hJ3
      have hInv:OwnFrom w3.heap.size (fun(k:Nat) X=>uq C X bo3 (kI C.M (upP bi x y) E k).1∧X.heap[bd]?=some (.cells #[.int .u64 ((kI C.M (upP bi x y) E k).2:Int)] 81 (0,0))∧wD C X be5 pt 16∧Below bo3 w3 X):=by
       rintro k X X' row ⟨⟨jx,jy,jz,g1,g2⟩,g3,g4,g5⟩ hg' hr;have hr':=fun r e=>(hr r e).2;obtain⟨cs',g6,g7⟩:=g4.blk;exact⟨⟨jx,jy,jz,(x9 hg' hr' g1 rfl).trans g1,g2⟩,(x9 hg' hr' g3 rfl).trans g3,g4.same (x9 hg' hr' g6 rfl),ownFrom_below (by omega) (by omega) k X X' row g5 hg' hr⟩
      refine(wpIn_wide (n:=6)).1 ?_
      refine' aC (by omega) (gf:=106) (lb:=#[.pointer (some ⟨t,0,none⟩)]) rfl (enters_of Tryz.func106 (by kernel_rfl) rfl)
       Hseq.out (fun h k=>yk.trans h k) (fun X l o o' hl ho _ _=>⟨by simp,fun i _ hi=>qJ (by omega)⟩) fB (zl _ _) (fun _=>rfl)
       (fun k X=>uq C X bo3 (kI C.M (upP bi x y) E k).1∧X.heap[bd]?=some (.cells #[.int .u64 ((kI C.M (upP bi x y) E k).2:Int)] 81 (0,0))∧wD C X be5 pt 16∧Below bo3 w3 X) (fun k X=>uq C X bo3 (kI C.M (upP bi x y) E k).1∧X.heap[bd]?=some (.cells #[.int .u64 ((kI C.M (upP bi x y) E k).2:Int)] 81 (0,0))∧wD C X be5 pt 16∧Below bo3 w3 X) (fun _ _ _=>False)
       hInv hInv (fun _ _ _ _ _ h=>h.elim) (fun _ _ _ _=>trivial) (fun B k A C' _ _ hi ht=>?hIT) (fun h=>by cases h) ⟨hI0,hd3,hT3,zl _ _⟩ _ ?assign ?body ?done ?stop
      case hIT=>exact gm (I:=fun k X=>uq C X bo3 (kI C.M (upP bi x y) E k).1∧X.heap[bd]?=some (.cells #[.int .u64 ((kI C.M (upP bi x y) E k).2:Int)] 81 (0,0))∧wD C X be5 pt 16∧Below bo3 w3 X) (B:=w3.heap.size) hInv hi ht
      case assign =>
       intro l k X K hK;gi_wp2;exact hK
      case body =>
       rintro l k V ⟨⟨jx,jy,jz,hjb,hjf⟩,hdV,hTV,h5⟩ hlt _;have zV:=h5.size;have hd8:=zCW (M:=C.M) (p:=upP bi x y) (E:=E) (k:=k) (by rw[Hnb.out];exact hlt);have hstep:kI C.M (upP bi x y) E (k+1)=if(jn E k).1%4=0 then(uo C.M (gh C.M (kI C.M (upP bi x y) E k).1) (od C.M (upP bi x y) (2*(kI C.M (upP bi x y) E k).2+(jn E k).2)),0)else(gh C.M (kI C.M (upP bi x y) E k).1,2*(kI C.M (upP bi x y) E k).2+(jn E k).2):=rfl
       rw[Hpt.out]at hstep;have hb2':(jn E k).2<2:=qL _ (by omega);have hi1:(jn E k).1≤4096:=by show zu E-1-k≤4096;rw[Hnb.out];omega
       obtain⟨so,hso⟩:=eV ((kI C.M (upP bi x y) E k).1);obtain⟨d,hd⟩:=eV ((kI C.M (upP bi x y) E k).2);obtain⟨bt,hbt⟩:=eV ((jn E k).2);obtain⟨ii,hii⟩:=eV ((jn E k).1);obtain⟨d2,hd2⟩:=eV (2*d+bt);rw[hso,hd,hbt,hii,hd2]at hstep;rw[hso]at hjf;rw[hd]at hdV hd8;rw[hbt]at hb2';rw[hii]at hi1;rw[hbt,hii];have Hstep:=zF hstep;have Hd2:=zF hd2;have HEV:=zF (show Ext W1 V from kG HE3.out (Below.mono h5 lo));have hd16:d2<16:=by omega
       have hM0:MK w3.heap.size t bo3 be5 w3 V V:=⟨jN.refl _ _ _ _,yk.refl _ _ _,h5,rfl,zV⟩
       have HM0:=zF hM0;have Hjf:=zF hjf;have HTV:=zF hTV;have cV:V.cell? ⟨b2,0,none⟩=some (.pointer (some ⟨k1,0,none⟩)):=(h5.cell (p:=⟨b2,0,none⟩) (by show b2<bo3;omega)).trans c3;clear hstep hd2 hso hd hbt hii hM0 hjf hTV h5;gi_upto_region 14 with fail
       refine Par.wH 3 [0,0,3,7] [] (fun j f X=>match j with
        | 0=>f 0=.pointer (some ⟨k1,0,none⟩)
        | 1=>f 1=JV jx jy jz
        | 2=>∃ v,f 2=v∧JAt C v (gh C.M so)
        | _=>True) (by kernel_rfl) [(53,0),(54,1),(55,2)] (by kernel_rfl) (by kernel_rfl) ?_
       refine zt 1 2 [(54,1)] (fun f X hX hR K hK=>?_) ?_
       · have x0:=hX.cell cV;simp only[yZ];refine⟨?_⟩;go_simp;exact qd hK (s:=by simp only[yZ])
       refine zt 2 1 [(53,0)] (fun f X hX hR K hK=>?_) ?_
       · simp only[yZ];refine⟨kB (v:=JV jx jy jz) (t:=123) 123 (.tmp 9) rfl rfl (hX.at_ hjb) Tryz.underlying123 rfl (by rw[Hjf.out.sz];exact gJ) rfl ?_⟩;exact hK.out _ (JV jx jy jz) _ (by simp only[yZ]) (zX _) trivial (fun _ _=>rfl)
       refine zt 3 0 [(53,0),(54,1)] (fun f X hX hR K hK=>?_) ?_
       · have e0:f 0=_:=hR.out 0 rfl;have e1:f 1=_:=hR.out 1 rfl;simp only[yZ,e0,e1];refine⟨?_⟩;go_simp;refine(zBG (Hk1.out.ext (HEV.out.trans hX)) ⟨jx,jy,jz,rfl,Hjf.out⟩).mono ?_;rintro e w2 ⟨o,rfl,hj,hB⟩;exact hK.out _ o _ (by simp only[yZ,e0,e1]) hB trivial (fun _ _=>⟨_,rfl,hj⟩)
       refine yF ⟨fun f X hX hR hal hap=>?_⟩;have e0:f 0=_:=hR 0 (by decide);have e1:f 1=_:=hR 1 (by decide);obtain⟨v2,(e2:f 2=_),j2⟩:=hR 2 (by decide);simp only[yZ,e0,e1,e2];clear hR hal hap e0 e1 e2;obtain⟨ox,oy,oz,ev,hf⟩:=j2;subst ev;refine zP (fun K hK=>⟨zU (by kernel_rfl) (vG (x:=ox) (y:=oy) (z:=oz) (.tmp 9) (.tmp 55) rfl rfl rfl rfl (hX.at_ hjb) Hjf.out.sz hf.x.elt.six hf.y.elt.six hf.z.elt.six (fun Y hY1 hY2 hY3=>hK.out _ _ ?_))⟩);refine zH ?_;refine⟨nofun,?_⟩;have hM1:=(HM0.out.ext hX (by omega) (by omega)).just hY2 (hX.at_ hjb) (by omega) (zG _) (by omega) (by omega) (by omega);have hdY:=hY2.at_ (by omega) (hX.at_ hdV);have HM1:=zF hM1;have HJ1:=zF (show uq C Y bo3 (gh C.M so)from⟨ox,oy,oz,hY1,hf⟩);have HdY:=zF hdY;have cd:=zQ hdY 0;have fd:=qu hdY 0;simp only[zR,zi]at cd;have hw1:IntKind.u64.wrap (2*(d:Int))=2*(d:Int):=qt _ (by omega);have hw2:IntKind.u64.wrap (2*(d:Int)+(bt:Int))=(d2:Int):=by rw[qt _ (by omega)];have:=Hd2.out;omega
       clear hM1 hdY hX hY1 hY2 hY3 hf hjb hdV cV;gi_upto_region 16 with fail
       obtain⟨hdV2,hj2⟩:=rR HdY.out (.int .u64 (d2:Int));have hM2:=HM1.out.just hj2 HdY.out (by omega) (by omega) (by omega) (by omega) (by omega);have hJ2:=HJ1.out.just hj2 (by omega);generalize hV2:Y.setCell ⟨bd,0,none⟩ (.int .u64 (d2:Int))=V2 at *;have HM2:=zF hM2;have HJ2:=zF hJ2;have HdV2:=zF hdV2;clear hM2 hJ2 hj2 hV2 cd fd hw1 hw2;by_cases hi4:ii%4=0
       · have hst:kI C.M (upP bi x y) E (k+1)=(uo C.M (gh C.M so) (pt d2),0):=by rw[Hstep.out,qg hi4]
         have Hst:=zF hst;have hr4:(ii:Int)%4=0:=by omega
         have hr5:(ii:Int).tmod 4=0:=by rw[IntWalk.rem_in _ _ (by omega)];exact hr4
         have hTV2:=zF (HTV.out.same HM2.out.tab);have cV2:V2.cell? ⟨b2,0,none⟩=some (.pointer (some ⟨k1,0,none⟩)):=(HM2.out.below.cell (p:=⟨b2,0,none⟩) (by show b2<bo3;omega)).trans c3;have cd2:=zQ hdV2 0;simp only[zR,zi]at cd2;have HE2:=zF (show Ext W1 V2 from kG HE3.out (Below.mono HM2.out.below lo));obtain⟨mx,my,mz,hmb,hmf⟩:=HJ2.out;have Hmf:=zF hmf;clear hst hmf;gi_upto_region 17 with fail
         clear hr4 hr5
         refine Par.bh (by kernel_rfl) 6 [0,0,0,4,12,31,63] [] (fun j f X=>match j with
          | 0=>f 0=.pointer (some ⟨k1,0,none⟩)
          | 1=>f 1=JV mx my mz
          | 2=>f 2=.int .u64 (d2:Int)
          | 3=>f 3=.pointer (some ⟨be5,d2*18,none⟩)
          | 4=>∃ v,f 4=v∧JAt C v (pt d2)
          | 5=>∃ v,f 5=v∧JAt C v (uo C.M (gh C.M so) (pt d2))
          | _=>True) (by kernel_rfl) [(63,0),(64,1),(65,2),(66,3),(67,4),(68,5)] (by kernel_rfl) (by kernel_rfl) ?_
         refine zt 1 5 [(64,1),(65,2),(66,3),(67,4)] (fun f X hX hR K hK=>?_) ?_
         · have x0:=hX.cell cV2;simp only[yZ];refine⟨?_⟩;go_simp;exact qd hK (s:=by simp only[yZ])
         refine zt 2 4 [(63,0),(65,2),(66,3),(67,4)] (fun f X hX hR K hK=>?_) ?_
         · simp only[yZ];refine⟨kB (v:=JV mx my mz) (t:=123) 123 (.tmp 9) rfl rfl (hX.at_ hmb) Tryz.underlying123 rfl (by rw[Hmf.out.sz];exact gJ) rfl ?_⟩;exact hK.out _ (JV mx my mz) _ (by simp only[yZ]) (zX _) trivial (fun _ _=>rfl)
         refine zt 3 3 [(63,0),(64,1)] (fun f X hX hR K hK=>?_) ?_
         · have x0:=hX.cell cd2;simp only[yZ];refine⟨?_⟩;go_simp;exact qd hK (s:=by simp only[yZ])
         refine zt 4 2 [(63,0),(64,1),(65,2)] (fun f X hX hR K hK=>?_) ?_
         · have e2:f 2=_:=hR.out 2 rfl;have hd17:(d2:Int)<16:=by omega
           simp only[yZ,e2];refine⟨?_⟩;go_simp;exact qd hK (s:=by simp only[yZ,e2])
         refine zt 5 1 [(63,0),(64,1),(65,2),(66,3)] (fun f X hX hR K hK=>?_) ?_
         · have e3:f 3=_:=hR.out 3 rfl;simp only[yZ,e3];refine⟨cK (.tmp 66) rfl (hTV2.out.ext hX) (i:=d2) hd16 (zj _ _) rfl (fun v hv=>?_)⟩;exact hK.out _ v _ (by simp only[yZ,e3]) (zX _) trivial (fun _ _=>⟨_,rfl,hv⟩)
         refine zt 6 0 [(63,0),(64,1),(65,2),(66,3),(67,4)] (fun f X hX hR K hK=>?_) ?_
         · have e0:f 0=_:=hR.out 0 rfl;have e1:f 1=_:=hR.out 1 rfl;obtain⟨v4,(e4:f 4=_),j4⟩:=hR.out 4 rfl;simp only[yZ,e0,e1,e4];refine⟨?_⟩;go_simp;refine(zBW (Hk1.out.ext (HE2.out.trans hX)) ⟨mx,my,mz,rfl,Hmf.out⟩ j4).mono ?_;rintro e w2 ⟨o,rfl,hj,hB⟩;exact hK.out _ o _ (by simp only[yZ,e0,e1,e4]) hB trivial (fun _ _=>⟨_,rfl,hj⟩)
         refine yF ⟨fun f X hX hR hal hap=>?_⟩;have e0:f 0=_:=hR 0 (by decide);have e1:f 1=_:=hR 1 (by decide);have e2:f 2=_:=hR 2 (by decide);have e3:f 3=_:=hR 3 (by decide);obtain⟨v4,(e4:f 4=_),j4⟩:=hR 4 (by decide);obtain⟨v5,(e5:f 5=_),j5⟩:=hR 5 (by decide);simp only[yZ,e0,e1,e2,e3,e4,e5];clear hR hal hap e0 e1 e2 e3 e4 e5;obtain⟨ux,uy,uz,ev,hf⟩:=j5;subst ev;refine zP (fun K hK=>⟨zU (by kernel_rfl) (vG (x:=ux) (y:=uy) (z:=uz) (.tmp 9) (.tmp 68) rfl rfl rfl rfl (hX.at_ hmb) Hmf.out.sz hf.x.elt.six hf.y.elt.six hf.z.elt.six (fun Y hY1 hY2 hY3=>hK.out _ _ ?_))⟩);refine zH ?_;refine⟨nofun,?_⟩;have hM3:=(HM2.out.ext hX (by omega) (by omega)).just hY2 (hX.at_ hmb) (by omega) (zG _) (by omega) (by omega) (by omega);have hd3':=hY2.at_ (by omega) (hX.at_ hdV2);have hJ3':uq C Y bo3 (uo C.M (gh C.M so) (pt d2)):=⟨ux,uy,uz,hY1,hf⟩
         obtain⟨hd4,hj4⟩:=rR hd3' (.int .u64 0);have hM4:=hM3.just hj4 hd3' (by omega) (by omega) (by omega) (by omega) (by omega);have hJ4:=hJ3'.just hj4 (by omega);have cd:=zQ hd3' 0;have fd:=qu hd3' 0;simp only[zR,zi]at cd;have HM4:=zF hM4;have HJ4:=zF hJ4;have Hd4:=zF hd4;clear hM3 hM4 hJ3' hJ4 hd3' hd4 hj4 hX hY1 hY2 hY3 hf hmb cV2 cd2 hdV2;gi_wp2;exact⟨HM4.out.keeps,HM4.out.stay,by rw[Hst.out];exact HJ4.out,by rw[Hst.out];exact Hd4.out,HTV.out.same HM4.out.tab,HM4.out.below⟩
       · have hst:kI C.M (upP bi x y) E (k+1)=(gh C.M so,d2):=by rw[Hstep.out,ql hi4]
         have Hst:=zF hst;have hr4:¬(ii:Int)%4=0:=by omega
         have hr5:¬(ii:Int).tmod 4=0:=by rw[IntWalk.rem_in _ _ (by omega)];exact hr4
         clear hst hdV2;gi_wp2;exact⟨HM2.out.keeps,HM2.out.stay,by rw[Hst.out];exact HJ2.out,by rw[Hst.out];exact HdV2.out,HTV.out.same HM2.out.tab,HM2.out.below⟩
      case done =>
       rintro D V hD ⟨⟨jx,jy,jz,hjb,hjf⟩,hdV,hTV,h5⟩ hKD;have HEV:=zF (show Ext W1 V from kG HE3.out (Below.mono h5 lo));have cV:V.cell? ⟨b2,0,none⟩=some (.pointer (some ⟨k1,0,none⟩)):=(h5.cell (p:=⟨b2,0,none⟩) (by show b2<bo3;omega)).trans c3;have hrV:=(h5.block (q+1) (by omega)).trans h33;have Hjf:=zF hjf;have HEX:=zF ((HE0.out.trans HE1.out).trans HEV.out);obtain⟨rs,hrs⟩:=eV ((kI C.M (upP bi x y) E nb).1);rw[hrs]at Hjf;have Hrs:=zF hrs;clear hjf hTV hdV hrs h5;go_upto_region 19 with fail
       refine zN 3 [0,0,3,7,15] [] (fun j f X=>match j with
        | 0=>f 0=.pointer (some ⟨k1,0,none⟩)
        | 1=>f 1=JV jx jy jz
        | 2=>∃ v,f 2=v∧PtV X q v (yu C.M rs)
        | _=>True) (by kernel_rfl) [(69,0),(70,1),(71,2)] (by kernel_rfl) ?_
       refine Par.ld0 1 2 cV ?_;refine zt 2 1 [(69,0)] (fun f X hX hR K hK=>?_) ?_
       · simp only[yZ];refine⟨kB (v:=JV jx jy jz) (t:=123) 123 (.tmp 9) rfl rfl (hX.at_ hjb) Tryz.underlying123 rfl (by rw[Hjf.out.sz];exact gJ) rfl ?_⟩;exact hK.out _ (JV jx jy jz) _ (by simp only[yZ]) (zX _) trivial (fun _ _=>rfl)
       refine qI 3 0 (fun f=>#[f 0,f 1]) (F':=78) (fun f X hX hR=>?_) ?_
       · have e0:f 0=_:=hR.out 0 rfl;have e1:f 1=_:=hR.out 1 rfl;simp only[e0,e1];refine(zBD (Hk1.out.ext (HEV.out.trans hX)) HC.out.plen ⟨jx,jy,jz,rfl,Hjf.out⟩).mono ?_;rintro e w2 ⟨o,rfl,hj,hB⟩;exact⟨o,rfl,hB,fun Y hY=>⟨_,rfl,(hj.mono (by have:=HEX.out.bsize;have:=hX.bsize;have:=Hq.out;omega)).ext hY⟩⟩
       refine yF ⟨fun f X hX hR hal hap=>?_⟩;obtain⟨v2,(e2:f 2=_),j2⟩:=hR 2 (by decide);simp only[yZ,e2];clear hR hal hap e2;obtain⟨x0,x1,x2,ev,hone,hst⟩:=aI (b:=q+1) j2;subst ev;refine zP (fun K hK=>⟨zU (by kernel_rfl) (jJ (cs':=#[x0,x1,x2]) (t:=33) 33 (.tmp 6) (.tmp 71) rfl rfl rfl rfl (hX.at_ hrV) va rfl hone (fun Y hY1 hY2 hY3=>hK.out _ _ ?_))⟩);refine zP (fun K hK=>⟨zU (by kernel_rfl) ?_⟩);go_simp;refine hK.out _ _ ?_;refine zH ?_;go_wp2;have hKY:Y.heap[D]?=some (.deferred (some [])):=hY2.at_ (by omega) (hX.at_ hKD);have hrY:(Y.putObj D (.deferred none)).heap[q+1]?=some (.cells #[x0,x1,x2] 33 (0,0)):=(qJ (by omega)).trans hY1;have hEY:Ext w Y:=hY2.ext (HEX.out.trans hX) (by have:=Hq.out;omega);have hst':PtV Y q (.agg #[x0,x1,x2]) (yu C.M rs):=hst Y hY2 ⟨_,hX.at_ hrV⟩;have hpo:PtV (Y.putObj D (.deferred none)) q (.agg #[x0,x1,x2]) (yu C.M rs):=hst'.put hKY;refine⟨by simp,.inl ⟨_,_,rfl,run_takeDeferred hKY,_,zDP rfl rfl rfl hrY,⟨_,rfl,by rw[Hrs.out];exact hpo,kG hEY (belowK_b (w:=w) (zG _) Y D _ _ (by have:=Hq.out;omega) hKY rfl rfl)⟩⟩⟩
      case stop=>exact fun _ _ _ _ _ _ _ h _=>h.elim
end Go.Proofs.YtaemogcomplhiaaGreatDoor
namespace Go.Proofs.YtaemogcomplhiaaGreatDoor.Ec
open Go.RowKit
def kY (C:Crv) (x:Nat):Bool:=decide (0<x)&&decide (x<val 18446744073709551616 C.nl)
theorem yP {x:Nat} : (0:Int)<(zu x:Int)↔0<x:=by
 by_cases h:x=0
 · subst h;simp[wW]
 · have:=(wB h).2.2;omega
theorem uN {c:Int}{C:Crv}(hC:IsU c C)(P:Nat→Prop)(A:Option Addr)(cap:Nat)(l:List Nat)(w:World)(h:RN w P A cap l)(hP:∀ b,P b→b<w.heap.size) :
 Calls Tryz.prog 34 #[.int .i64 c,.slice A l.length cap] w fun e w'=>e=.returned (.bool (kY C (val 18446744073709551616 l)))∧Ext w w':=by
 have HB:=zF (vK P A cap l w h)
 have HO:=zF (zB6 hC w)
 have HC:=zF (fun X (hX:Ext w X) A' c'=>fun(h2:RU X A' c' C.nl)=>xH P (fun b=>b<X.heap.size) A A' cap c' l C.nl X (h.below hX hP) h2)
 unfold kY
 obtain⟨x,hx⟩:=eV (val 18446744073709551616 l)
 rw[hx]at HB HC ⊢
 obtain⟨n,hn⟩:=eV (val 18446744073709551616 C.nl)
 simp only[hn]at HC
 rw[hn]
 clear hx hn h hP
 by_cases h0:0<x
 · have k0:(0:Int)<(zu x:Int):=yP.2 h0;have Hx:=zF h0;clear h0;go_enter Tryz.func34,Tryz.ntmps34;go_wp2_with fail;refine HB.out.mono ?_;rintro e w1 ⟨rfl,rfl⟩;go_wp2_with fail;refine HO.out.mono ?_;rintro e w1 ⟨A',c',rfl,h2,hE⟩;have HC2:=zF (HC.out w1 hE A' c' h2);have HE:=zF hE;clear h2 hE;go_wp2_with fail;refine HC2.out.mono ?_;rintro e w2 ⟨rfl,d,rfl⟩;obtain⟨z,hz⟩:=eV (vJ x n)
   have Hz:=zF (show(decide (0<x)&&decide (x<n))=decide (z<0) by
    rw[←hz,qZ Hx.out,Bool.true_and]
    unfold vJ
    by_cases h1:x<n
    · rw[qg h1,qZ h1];rfl
    · rw[ql h1,jF h1];split<;>rfl)
   rw[hz];clear hz;go_wp2;go_ret;exact⟨by rw[Hz.out];rfl,HE.out.trans (kW _ _)⟩
 · obtain rfl:x=0:=by omega
   have k0:¬(0:Int)<(zu 0:Int):=by simp[wW]
   clear h0;go_enter Tryz.func34,Tryz.ntmps34;go_wp2_with fail;refine HB.out.mono ?_;rintro e w1 ⟨rfl,rfl⟩;go_wp2;go_ret;exact⟨rfl,zX _⟩
def nS (C:Crv) (x:Nat):Option (Option (Nat×Nat)):=if kY C x=true then yY C false (val 18446744073709551616 C.xl) (val 18446744073709551616 C.yl) x else none
theorem nx (w:World):Calls Tryz.prog 30 #[] w fun e w'=>e=.returned gL∧Ext w w':=by
 go_enter Tryz.func30,Tryz.ntmps30;go_wp2;exact aW rfl rfl rfl (zS w _) ⟨rfl,zO _ _⟩
theorem PtV.mono {w:World}{base base':Nat}{v:Value}{o:Option (Nat×Nat)}(h:PtV w base v o)(hb:base'≤base):PtV w base' v o:=by
 cases o with
 | none=>exact h
 | some p=>obtain⟨A,c,A',c',h0,h1,h2⟩:=h;exact⟨A,c,A',c',h0,h1.mono hb,h2.mono hb⟩
theorem pA {c:Int}{C:Crv}(hC:IsU c C)(P:Nat→Prop)(A:Option Addr)(cap:Nat)(l:List Nat)(w:World)(h:RN w P A cap l)(hP:∀ b,P b→b<w.heap.size) :
   Calls Tryz.prog 12 #[.int .i64 c,.slice A l.length cap] w fun e w'=>∃ o,e=.returned (.tuple #[o,.bool (nS C (val 18446744073709551616 l)).isSome])∧PtV w' w.heap.size o (nS C (val 18446744073709551616 l)).join∧Ext w w':=by
 obtain⟨W0,hW0⟩:=eW (w.alloc (.cells #[.bool false,.slice none 0 0,.slice none 0 0] 33));have hr:=zS w (.cells #[.bool false,.slice none 0 0,.slice none 0 0] 33);have hE0:=zO w (.cells #[.bool false,.slice none 0 0,.slice none 0 0] 33);have hz:W0.heap.size=w.heap.size+1:=by rw[hW0];simp
 rw[←hW0]at hr hE0;have HM:=zF (uN hC P A cap l W0 (h.below hE0 hP) (fun b hb=>zI (hP b hb) hE0.bsize));have HU:=zF (fun X (hX:Ext w X)=>(show RU X A cap l from(h.below hX hP).ru (fun b hb=>zI (hP b hb) hX.bsize)));obtain⟨x,hx⟩:=eV (val 18446744073709551616 l);rw[hx]at HM ⊢;have Hx:=zF hx;have hp0:kY C x=false→nS C x=none:=fun h=>by unfold nS;rw[h];rfl
 have hp1:kY C x=true→nS C x=yY C false (val 18446744073709551616 C.xl) (val 18446744073709551616 C.yl) x:=fun h=>by unfold nS;rw[h];rfl
 have hcu:kY C x=true→IsC c C:=fun h=>by
   rcases hC with h1|⟨_,_,rfl⟩
   · exact h1
   · simp[kY,c0]at h
 obtain⟨m,hm⟩:=eV (kY C x);rw[hm]at HM hp0 hp1 hcu;obtain⟨q,hq⟩:=eV w.heap.size;rw[hq]at hr hz ⊢;have Hq:=zF hq;have HE0:=zF hE0;have Hz:=zF hz;clear h hP hx hm hq hE0 hz;cases m
 · rw[hp0 rfl];clear hp0 hp1 hcu HU;go_enter Tryz.func12,Tryz.ntmps12;go_upto_region 1 with fail;rw[←hW0,Hq.out];clear hW0;go_wp2_with fail;refine HM.out.mono ?_;rintro e w1 ⟨rfl,hE1⟩;have hr1:=hE1.at_ hr;have HE1:=zF (HE0.out.trans hE1);clear hr hE1;go_wp2_with fail;refine(nx _).mono ?_;rintro e w2 ⟨rfl,hE2⟩;have hr2:=hE2.at_ hr1;obtain⟨z0,z1,z2,f0,f1,f2⟩:=jG hr2;have HE2:=zF (HE1.out.trans hE2);clear hr1 hE2;unfold gL;go_wp2;exact gM rfl rfl rfl rfl (xW hr2 _ _ _) ⟨_,rfl,rfl,xq HE2.out (by rw[Hq.out];exact zG _) _ _ _⟩
 · rw[hp1 rfl];have hC:=hcu rfl;have HBa:=zF (fun X=>pm hC X);have HMu:=zF (fun X (hX:Ext w X) v (hv:APt X v false (val 18446744073709551616 C.xl) (val 18446744073709551616 C.yl))=>oA hC X hv (HU.out X hX) Hx.out);obtain⟨R,hRR⟩:=eV (yY C false (val 18446744073709551616 C.xl) (val 18446744073709551616 C.yl) x);simp only[hRR]at HMu;rw[hRR];clear hp0 hp1 hcu hC HU hRR;go_enter Tryz.func12,Tryz.ntmps12;go_upto_region 1 with fail;rw[←hW0,Hq.out];clear hW0;go_wp2_with fail;refine HM.out.mono ?_;rintro e w1 ⟨rfl,hE1⟩;have hr1:=hE1.at_ hr;have HE1:=zF (HE0.out.trans hE1);clear hr hE1;go_wp2_with fail;refine(HBa.out _).mono ?_;rintro e w2 ⟨A2,c2,A3,c3,rfl,h2,h3,hE2⟩;have hr2:=hE2.at_ hr1;have HE2:=zF (HE1.out.trans hE2);have HM2:=zF (HMu.out w2 HE2.out _ ⟨A2,A3,c2,c3,C.xl,C.yl,rfl,h2,h3,rfl,rfl⟩);clear hr1 hE2 h2 h3;go_wp2_with fail;refine HM2.out.mono ?_;rintro e w3 ⟨o,rfl,hv,hE3⟩;have hr3:=hE3.at_ hr2;have hq2:q≤w2.heap.size:=by have:=HE2.out.bsize;have:=Hq.out;omega
   obtain⟨z0,z1,z2,f0,f1,f2⟩:=jG hr3;have HE3:=zF (HE2.out.trans hE3);have hv:=PtV.mono hv hq2;clear hr2 hE3 HM2 hq2;obtain⟨b,hb⟩:=eV R.isSome;obtain⟨J,hJ⟩:=eV R.join;rw[hb];rw[hJ]at hv;have Hbb:=zF hb;have HJ:=zF hJ;clear hb hJ;cases J with
   | none =>
     obtain rfl:o=gL:=hv;unfold gL;go_wp2;exact gM rfl rfl rfl rfl (xW hr3 _ _ _) ⟨_,by rw[Hbb.out];rfl,by rw[HJ.out];rfl,xq HE3.out (by rw[Hq.out];exact zG _) _ _ _⟩
   | some p =>
     obtain⟨A5,c5,A6,c6,rfl,h5,h6⟩:=hv;have H5:=zF h5;have H6:=zF h6;clear h5 h6;go_wp2;exact gM rfl rfl rfl rfl (xW hr3 _ _ _) ⟨_,by rw[Hbb.out];rfl,by rw[HJ.out];exact⟨A5,c5,A6,c6,rfl,H5.out.just (mF _ _ _ _ _) hr3 (by decide),H6.out.just (mF _ _ _ _ _) hr3 (by decide)⟩,xq HE3.out (by rw[Hq.out];exact zG _) _ _ _⟩
end Go.Proofs.YtaemogcomplhiaaGreatDoor.Ec
namespace Go.Proofs.YtaemogcomplhiaaGreatDoor.Sha
abbrev W:=BitVec 32
def rr (n:Nat) (x:W):W:=(x <<<(32-n)) ||| (x >>> n)
def g0 (x:W):W:=rr 7 x ^^^ rr 18 x ^^^(x >>> 3)
def g1 (x:W):W:=rr 17 x ^^^ rr 19 x ^^^(x >>> 10)
def S1 (x:W):W:=rr 6 x ^^^ rr 11 x ^^^ rr 25 x
def S0 (x:W):W:=rr 2 x ^^^ rr 13 x ^^^ rr 22 x
def ch (x y z:W):W:=(x &&& y) ^^^(~~~x &&& z)
def mj (x y z:W):W:=(x &&& y) ^^^(x &&& z) ^^^(y &&& z)
def wd (l:List W) (i:Nat):W:=l.getD i 0
def o (n:Nat):W:=BitVec.ofNat 32 n
def be (l:List Nat) (i:Nat):W:=(o (l.getD i 0) <<< 24) ||| (o (l.getD (i+1) 0) <<< 16) ||| (o (l.getD (i+2) 0) <<< 8) ||| o (l.getD (i+3) 0)
def nxt (l:List W):W:=wd l (l.length-16)+g0 (wd l (l.length-15))+wd l (l.length-7)+g1 (wd l (l.length-2))
def sch (p:List Nat):Nat→List W
 | 0=>[]
 | k+1=>sch p k++[if k<16 then be p (4*k)else nxt (sch p k)]
def kk:List W:=[
 0x428a2f98,0x71374491,0xb5c0fbcf,0xe9b5dba5,0x3956c25b,0x59f111f1,0x923f82a4,0xab1c5ed5,
 0xd807aa98,0x12835b01,0x243185be,0x550c7dc3,0x72be5d74,0x80deb1fe,0x9bdc06a7,0xc19bf174,
 0xe49b69c1,0xefbe4786,0x0fc19dc6,0x240ca1cc,0x2de92c6f,0x4a7484aa,0x5cb0a9dc,0x76f988da,
 0x983e5152,0xa831c66d,0xb00327c8,0xbf597fc7,0xc6e00bf3,0xd5a79147,0x06ca6351,0x14292967,
 0x27b70a85,0x2e1b2138,0x4d2c6dfc,0x53380d13,0x650a7354,0x766a0abb,0x81c2c92e,0x92722c85,
 0xa2bfe8a1,0xa81a664b,0xc24b8b70,0xc76c51a3,0xd192e819,0xd6990624,0xf40e3585,0x106aa070,
 0x19a4c116,0x1e376c08,0x2748774c,0x34b0bcb5,0x391c0cb3,0x4ed8aa4a,0x5b9cca4f,0x682e6ff3,
 0x748f82ee,0x78a5636f,0x84c87814,0x8cc70208,0x90befffa,0xa4506ceb,0xbef9a3f7,0xc67178f2]
structure St where
 (a b c d e f g h:W)
def rnd (s:St) (k w:W):St :=
 let t:=s.h+S1 s.e+ch s.e s.f s.g+k+w
 ⟨t+(S0 s.a+mj s.a s.b s.c),s.a,s.b,s.c,s.d+t,s.e,s.f,s.g⟩
def de (L:List W) (s:St):Nat→St
 | 0=>s
 | k+1=>rnd (de L s k) (wd kk k) (wd L k)
def St.add (s t:St):St:=⟨s.a+t.a,s.b+t.b,s.c+t.c,s.d+t.d,s.e+t.e,s.f+t.f,s.g+t.g,s.h+t.h⟩
def tU (s:St) (p:List Nat):St:=s.add (de (sch p 64) s 64)
def vM (s:St) (m:List Nat):Nat→St
 | 0=>s
 | k+1=>tU (vM s m k) ((m.drop (64*k)).take 64)
def uX:St:=⟨0x6a09e667,0xbb67ae85,0x3c6ef372,0xa54ff53a,0x510e527f,0x9b05688c,0x1f83d9ab,0x5be0cd19⟩
def byt (n:Nat):List Nat:=[n/16777216%256,n/65536%256,n/256%256,n%256]
def St.list (s:St):List W:=[s.a,s.b,s.c,s.d,s.e,s.f,s.g,s.h]
def St.out (s:St):List Nat:=s.list.flatMap fun x=>byt x.toNat
def bc (n:Nat):List Nat:=[128]++List.replicate ((119-n%64)%64) 0++byt (n*8/4294967296)++byt (n*8%4294967296)
def pad (m:List Nat):List Nat:=m++bc m.length
def sha (m:List Nat):List Nat:=(vM uX (pad m) ((pad m).length/64)).out
def qj (k:List Nat) (c:Nat):List Nat:=(List.range 64).map fun i=>k.getD i 0 ^^^ c
def bu (k m:List Nat):List Nat:=sha (qj k 92++sha (qj k 54++m))
theorem uW (p:List Nat):∀ k,(sch p k).length=k
 | 0=>rfl
 | k+1=>by simp[sch,uW p k]
theorem fF (p:List Nat):∀(k j:Nat),j<k→wd (sch p k) j=if j<16 then be p (4*j)else nxt (sch p j)
 | 0,j,h=>by omega
 | k + 1, j, h => by
   have hl:=uW p k;unfold wd;rw[sch,qA];rcases qF j k with h1|h1
   · rw[wZ (by omega),←qA];exact fF p k j h1
   · obtain rfl:j=k:=by omega
     rw[uF (by omega),hl,Nat.sub_self];rfl
theorem fE (p:List Nat){k k' j:Nat}(h:j<k)(h':j<k'):wd (sch p k) j=wd (sch p k') j:=by rw[fF p k j h,fF p k' j h']
theorem zAJ (p:List Nat){n j:Nat}(h16:16≤j)(hn:j<n) :
 wd (sch p n) j=wd (sch p n) (j-16)+g0 (wd (sch p n) (j-15))+wd (sch p n) (j-7)+g1 (wd (sch p n) (j-2)):=by
 rw[fF p n j hn,ql (by omega)]
 unfold nxt
 rw[uW]
 rw[fE p (show j-16<j by omega) (show j-16<n by omega),fE p (show j-15<j by omega) (show j-15<n by omega),fE p (show j-7<j by omega) (show j-7<n by omega),fE p (show j-2<j by omega) (show j-2<n by omega)]
theorem uh (n:Nat):(byt n).length=4:=rfl
theorem zBQ (n:Nat):∀ x∈byt n,x<256:=by
 intro x hx;simp only[byt,List.mem_cons,List.not_mem_nil,or_false]at hx;omega
theorem zDb (s:St):∀ x∈s.out,x<256:=by
 intro x hx;obtain⟨y,_,hy⟩:=List.mem_flatMap.1 hx;exact zBQ _ x hy
theorem cQ (m:List Nat):(sha m).length=32:=rfl
theorem zDN (m:List Nat):∀ x∈sha m,x<256:=zDb _
theorem m5 (n:Nat):(bc n).length=9+(119-n%64)%64:=by simp[bc,byt];omega
theorem dQ (s:St)(m m':List Nat):∀ k,(∀ j,j<k→(m.drop (64*j)).take 64=(m'.drop (64*j)).take 64)→vM s m k=vM s m' k
 | 0,_=>rfl
 | k + 1, h => by
   rw[vM,vM,dQ s m m' k (fun j hj=>h j (by omega)),h k (by omega)]
theorem ax (s:St)(m t:List Nat)(k:Nat)(hk:64*k≤m.length):vM s (m++t) k=vM s m k :=
 dQ s _ _ k fun j hj=>by
  rw[List.drop_append_of_le_length (by omega),List.take_append_of_le_length (by rw[qn];omega)]
end Go.Proofs.YtaemogcomplhiaaGreatDoor.Sha
namespace Go.Proofs.YtaemogcomplhiaaGreatDoor
open Go.RowKit
namespace Par
section
variable {P:Program} {ops:Array Oper} {Q:Exit→Act→World→Prop}
theorem zBZ {M:Nat→Nat}{n:Nat}(hF:di ops M n){D:Nat→Bool}{f:Nat→Value}{a:Act}{i:Nat}(hnd:∀ j,j<n→D j=true→nd M i j=true) :
   ∃ g, (∀ j, D j = true → g j = f j) ∧ put ops D f (List.range n) a = put ops (nd M i) g (List.range n) a ∧
     (i<n→∀ v,(put ops (nd M i) g (List.range n) a).put (dst ops i) v=put ops (fun j=>D j||j==i) (upd g i v) (List.range n) a):=by
 refine⟨fun j=>if D j=true then f j else((dst ops j).map fun t=>a.tmps.getD t undef).getD undef,fun j hj=>by simp only[hj,if_true],?_,fun hi v=>?_⟩
 · exact uw a List.nodup_range (fun p hp q hq=>hF.own p q (List.mem_range.1 hp) (List.mem_range.1 hq)) (fun j hj hd=>⟨hnd j (List.mem_range.1 hj) hd,by simp only[hd,if_true]⟩) a
     (fun j _ hd t ht=>by simp only[hd,xz,yL,ht,yM,vL])
 · rw[cf (List.mem_range.2 hi) List.nodup_range (fun j hj hne=>hF.own i j hi (List.mem_range.1 hj) (xO hne)) (by simp[nd])];refine(uw a List.nodup_range (fun p hp q hq=>hF.own p q (List.mem_range.1 hp) (List.mem_range.1 hq)) (fun j hj hd=>⟨?_,rfl⟩) a (fun j hj hd t ht=>?_)).symm
   · rw[qi,jh]at hd;rw[qi,jh];exact hd.imp (hnd j (List.mem_range.1 hj)) id
   · rw[Bool.or_eq_false_iff]at hd;have hne:j≠i:=by simpa using hd.2
     simp only[upd,hne,yL,hd.1,xz,ht,yM,vL]
theorem gW {M:Nat→Nat}{j:Nat}{f g:Nat→Value}(h:∀ k,(k=j∨(M j).testBit k=true)→f k=g k):qj M j f=qj M j g:=by
 funext k;unfold qj;split
 · rename_i hk;rw[qi,jh]at hk;exact h k hk
 · rfl
theorem cZ {M:Nat→Nat}{n:Nat}(hF:di ops M n){listed:Array Bool}(hsz:listed.size=ops.size){j:Nat}(hj:j<n)(hn:listed.getD j false=false):Region.ready .any ops listed≠[]:=by
 intro h;have:∀ k,k≤n→(∀ i,i<k→listed.getD i false=true):=by
   intro k;induction k with
   | zero=>intro _ i hi;omega
   | succ k ihk =>
     intro hk i hi;by_cases hik:i<k
     · exact ihk (by omega) i hik
     · obtain rfl:i=k:=by omega
       cases hd:listed.getD i false
       · exfalso;have his:i<ops.size:=by have:=hF.le;omega
         have hmem:i∈Region.ready .any ops listed:=by
           rw[mem_ready];have hil:i<listed.size:=by omega
           exact⟨by simpa[hil]using hd,_,qG his,fun e he hb=>ihk (by omega) _ (hF.up i _ (qG his) e he hb)⟩
         rw[h]at hmem;cases hmem
       · rfl
 rw[this n (zG _) j hj]at hn;cases hn
theorem bK {n:Nat}{listed:Array Bool}(hsz:listed.size=ops.size)(hall:∀ j,j<n→listed.getD j false=true)(hlt:∀ j,listed.getD j false=true→j<n):listed=wU ops.size n:=by
 apply Array.ext
 · simp[wU,hsz]
 · intro k h1 h2;simp only[wU,List.getElem_toArray,List.getElem_map,List.getElem_range];by_cases hk:k<n
   · have:=hall k hk;simpa[h1,hk]using this
   · cases hd:listed[k]
     · simp[hk]
     · exact absurd (hlt k (by simp[h1,hd])) hk
theorem rK {listed:Array Bool}{i:Nat}(hil:i<listed.size)(j:Nat):(listed.setIfInBounds i true).getD j false=(listed.getD j false||j==i):=by
 by_cases hji:j=i
 · subst hji;simp[hil]
 · rw[Go.getD_set_ne false (fun e=>hji e.symm)];simp[hji]
theorem zA2 (f:Nat→Value)(i:Nat)(v:Value)(j:Nat)(hne:j≠i):upd f i v j=f j:=by simp only[upd,hne,yL]
theorem parB {E:World→World→Prop}{n s u:Nat}{M:Nat→Nat}{R:Nat→(Nat→Value)→World→Prop}{S:(Nat→Value)→World→Prop}{cv:Value}{a:Act}{w:World}(hF:di ops M n)(hu:u<n)(hus:u≠s)
   (hleaf:∀ j,j<n→(M j).testBit u=false)
   (hpu:∀ f X0 X,E w X0→(∀ j,(M u).testBit j=true→R j (qj M j f) X0)→∀ K:Act→World→Prop,K ((put ops (nd M u) f (List.range n) a).put (dst ops u) cv) X→wpOp P ops Q u K (put ops (nd M u) f (List.range n) a) X)
   (htail:∀ f Y,f u=cv→S (qj M s f) Y→wpAny P .any ops Q (ops.size-n) (wU ops.size n) (put ops (fun _=>true) f (List.range n) a) Y) (hs:s<n) :
   ∀ (fuel : Nat) (listed : Array Bool) (f : Nat → Value) (a' : Act) (X0 Y : World), listed.size = ops.size →
     (∀ j o,ops[j]?=some o→listed.getD j false=true→∀ e∈o.after,binds e=true→listed.getD e.on false=true) →
     (∀ j,listed.getD j false=true→j<n)→(∀ j,j<n→j≠u→listed.getD j false=true)→fuel+cnt (fun j=>listed.getD j false) n=ops.size →
     E w X0→(∀ j,j<s→j≠u→R j (qj M j f) X0)→(listed.getD u false=true→f u=cv)→S (qj M s f) Y→a'=put ops (fun j=>listed.getD j false) f (List.range n) a →
     (∀ j,(M u).testBit j=true→j<s)→wpAny P .any ops Q fuel listed a' Y:=by
 intro fuel;induction fuel with
 | zero =>
   intro listed f a' X0 Y hsz hcl hlt hall hc hE hR hfu hS ha hlow;have hcm:cnt (fun j=>listed.getD j false) n≤n:=mZ _ _;have hnn:n=ops.size:=by have:=hF.le;omega
   have hlu:listed.getD u false=true:=by
     cases h:listed.getD u false
     · have:=mY (D:=fun j=>listed.getD j false) (i:=u) h hu;omega
     · rfl
   have h1:=bK (ops:=ops) hsz (fun j hj=>by by_cases h:j=u;(rw[h];exact hlu);exact hall j hj h) hlt;have h2:=htail f Y (hfu hlu) hS;have e0:ops.size-n=0:=by omega
   rw[e0]at h2;rw[h1,ha];have e1:put ops (fun j=>listed.getD j false) f (List.range n) a=put ops (fun _=>true) f (List.range n) a:=xV (fun j hj=>⟨by by_cases h:j=u;(rw[h];exact hlu);exact hall j (List.mem_range.1 hj) h,rfl⟩) _;rw[e1];exact h2
 | succ fuel ih =>
   intro listed f a' X0 Y hsz hcl hlt hall hc hE hR hfu hS ha hlow;cases hlu:listed.getD u false
   · refine⟨fun h=>absurd h (cZ hF hsz hu hlu),fun i hi=>?_⟩;obtain⟨hi0,o,ho,hdep⟩:=mem_ready.1 hi;have his:i<ops.size:=(Array.getElem?_eq_some_iff.1 ho).1;have hil:i<listed.size:=by omega
     have hid:listed.getD i false=false:=by simpa[hil]using hi0
     have anc:=fun i o ho hd k hk hb=>anc hF hcl i i o (zG _) ho hd k hk hb;have hiu:i=u:=by
       rcases qF i n with h|h
       · exact Decidable.byContradiction fun hne=>by rw[hall i h hne]at hid;cases hid
       · have:=anc i o ho hdep u (by have:=hF.le;omega) (hF.late i h his u (by omega));rw[hlu]at this;cases this
     subst hiu;have hnd:∀ j,j<n→listed.getD j false=true→nd M i j=true:=fun j hj hd=>by
       have h1:j≠i:=fun e=>by rw[e,hid]at hd;cases hd
       simp[nd,h1,hleaf j hj]
     obtain⟨g,hg1,hg2,hg3⟩:=zBZ (M:=M) (a:=a) (f:=f) (D:=fun j=>listed.getD j false) hF hnd;rw[ha,hg2];have hgf:∀ j,j<n→j≠i→g j=f j:=fun j hj hne=>hg1 j (hall j hj hne);have hms:∀ h:Nat→Value,(∀ j,j<n→j≠i→h j=f j)→∀ j,j<n→j≠i→qj M j h=qj M j f:=fun h hh j hj hne=>gW fun k hk=>by
       rcases hk with rfl|hk
       · exact hh k hj hne
       · have hjs:j<ops.size:=by have:=hF.le;omega
         have:=hF.bit j hjs k hk;exact hh k (by omega) (fun e=>by rw[e,hleaf j hj]at hk;cases hk)
     refine hpu g X0 Y hE (fun j hb=>?_) _ ?_
     · have hj:=hlow j hb;have hne:j≠i:=fun e=>by rw[e,hleaf i hu]at hb;cases hb
       rw[hms g hgf j (by omega) hne];exact hR j hj hne
     · rw[hg3 hu];have hnew:=rK hil;have hup:∀ j,j<n→j≠i→upd g i cv j=f j:=fun j hj hne=>by simp only[upd,hne,yL];exact hgf j hj hne
       refine ih _ (upd g i cv) _ X0 Y (by simpa using hsz) (fun j oj hoj hd e he hb=>?_) (fun j hd=>?_) (fun j hj hne=>?_) ?_ hE (fun j hj hne=>?_) (fun _=>by simp[upd]) ?_ ?_ hlow
       · rw[hnew]at hd ⊢;rw[qi,jh]at hd ⊢;rcases hd with hd|rfl
         · exact .inl (hcl j oj hoj hd e he hb)
         · rw[ho]at hoj;cases hoj;exact .inl (hdep e he hb)
       · rw[hnew,qi,jh]at hd;rcases hd with hd|rfl
         · exact hlt j hd
         · exact hu
       · rw[hnew,hall j hj hne];rfl
       · rw[fZ (D:=fun j=>listed.getD j false) (D':=fun j=>(listed.setIfInBounds i true).getD j false) hid (by rw[hnew];simp) (fun j hj=>by show(listed.setIfInBounds i true).getD j false=listed.getD j false;rw[hnew];simp[hj]) hu];omega
       · rw[hms _ hup j (by omega) hne];exact hR j hj hne
       · rw[hms _ hup s hs (xO hus)];exact hS
       · exact xV (fun j _=>⟨(hnew j).symm,rfl⟩) _
   · have h1:=bK (ops:=ops) hsz (fun j hj=>by by_cases h:j=u;(rw[h];exact hlu);exact hall j hj h) hlt;have e1:put ops (fun j=>listed.getD j false) f (List.range n) a=put ops (fun _=>true) f (List.range n) a:=xV (fun j hj=>⟨by by_cases h:j=u;(rw[h];exact hlu);exact hall j (List.mem_range.1 hj) h,rfl⟩) _;have hcm:=bS (D:=fun j=>listed.getD j false) (m:=n) (fun j hj=>by by_cases h:j=u;(rw[h];exact hlu);exact hall j hj h);have h2:=htail f Y (hfu hlu) hS;have e0:ops.size-n=fuel+1:=by omega
     rw[e0]at h2;rw[h1,ha,e1];exact h2
theorem parS {E:World→World→Prop}(hE0:∀ w,E w w)(hE1:∀ a b c,E a b→E b c→E a c)(hE2:∀ a b,E a b→a.heap.size≤b.heap.size)
   {n s u:Nat} {M:Nat→Nat} {AL:Nat→Bool} {R:Nat→(Nat→Value)→World→Prop} {S:(Nat→Value)→World→Prop} {cv:Value} {a:Act} {w:World} (hF:di ops M n) (hsn:s+1=n) (hds:dst ops s=none) (hu:u<s)
   (hleaf:∀ j,j<n→(M j).testBit u=false) (hsto:∀ k,k<s→k≠u→(M s).testBit k=true)
   (hR:∀ j,j<n→∀ f X,R j (qj M j f) X→∀ Y,E X Y→R j (qj M j f) Y)
   (hstep:∀ i,i<s→tY P ops Q E n M AL (fun j f X=>R j (qj M j f) X) a w i)
   (hpu:∀ f X0 X,E w X0→(∀ j,(M u).testBit j=true→R j (qj M j f) X0)→∀ K:Act→World→Prop,K ((put ops (nd M u) f (List.range n) a).put (dst ops u) cv) X→wpOp P ops Q u K (put ops (nd M u) f (List.range n) a) X)
   (hRc:∀ f X,R u (qj M u f) X→f u=cv)
   (hst:∀ f X,E w X→(∀ j,(M s).testBit j=true→R j (qj M j f) X)→(∀ j,(M s).testBit j=true→AL j=true→∃ b,f j=.pointer (some ⟨b,0,none⟩)∧b<X.heap.size)→∀ K:Act→World→Prop,(∀ Y,S (qj M s f) Y→K (put ops (nd M s) f (List.range n) a) Y)→wpOp P ops Q s K (put ops (nd M s) f (List.range n) a) X)
   (htail:∀ f Y,f u=cv→S (qj M s f) Y→wpAny P .any ops Q (ops.size-n) (wU ops.size n) (put ops (fun _=>true) f (List.range n) a) Y) :
   ∀ (fuel : Nat) (listed : Array Bool) (f : Nat → Value) (a' : Act) (X : World), listed.size = ops.size →
     (∀ j o,ops[j]?=some o→listed.getD j false=true→∀ e∈o.after,binds e=true→listed.getD e.on false=true) →
     (∀ j,listed.getD j false=true→j<s)→fuel+cnt (fun j=>listed.getD j false) n=ops.size →
     Inv ops E n M AL R a w (fun j=>listed.getD j false) f a' X→wpAny P .any ops Q fuel listed a' X:=by
 intro fuel;induction fuel with
 | zero =>
   intro listed f a' X hsz hcl hlt hc hI;exfalso;have h1:listed.getD s false=false:=by
     cases h:listed.getD s false
     · rfl
     · have:=hlt s h;omega
   have:=mY (D:=fun j=>listed.getD j false) (i:=s) h1 (m:=n) (by omega);have:=hF.le;omega
 | succ fuel ih =>
   intro listed f a' X hsz hcl hlt hc hI;have hsf:listed.getD s false=false:=by
     cases h:listed.getD s false
     · rfl
     · have:=hlt s h;omega
   refine⟨fun h=>absurd h (cZ hF hsz (by omega) hsf),fun i hi=>?_⟩;obtain⟨hi0,o,ho,hdep⟩:=mem_ready.1 hi;have his:i<ops.size:=(Array.getElem?_eq_some_iff.1 ho).1;have hil:i<listed.size:=by omega
   have hid:listed.getD i false=false:=by simpa[hil]using hi0
   have anc:=fun i o ho hd k hk hb=>anc hF hcl i i o (zG _) ho hd k (zI hk hF.le) hb;have him:i<n:=by
     rcases qF i n with h|h
     · exact h
     · have:=anc i o ho hdep s (by omega) (hF.late i h his s (by omega));rw[hsf]at this;cases this
   have hnd:∀ j,j<n→listed.getD j false=true→nd M i j=true:=fun j hj hd=>by
     have h1:j≠i:=fun e=>by rw[e,hid]at hd;cases hd
     have hjs:j<ops.size:=by have:=hF.le;omega
     have h2:(M j).testBit i=false:=by
       cases hb:(M j).testBit i
       · rfl
       · have:=anc j _ (qG hjs) (hcl j _ (qG hjs) hd) i him hb;rw[hid]at this;cases this
     simp[nd,h1,h2]
   obtain⟨g,hg1,hg2,hg3⟩:=zBZ (M:=M) (a:=a) (f:=f) (D:=fun j=>listed.getD j false) hF hnd;have hmask:∀ j,j<n→listed.getD j false=true→qj M j g=qj M j f:=fun j hj hd=>gW fun k hk=>by
     rcases hk with rfl|hk
     · exact hg1 k hd
     · have hjs:j<ops.size:=by have:=hF.le;omega
       have hkj:=hF.bit j hjs k hk;exact hg1 k (anc j _ (qG hjs) (hcl j _ (qG hjs) hd) k (by omega) hk)
   have hnew:=rK hil;have hcl':∀ j oj,ops[j]?=some oj→(listed.setIfInBounds i true).getD j false=true→∀ e∈oj.after,binds e=true→(listed.setIfInBounds i true).getD e.on false=true:=fun j oj hoj hd e he hb=>by
     rw[hnew]at hd ⊢;rw[qi,jh]at hd ⊢;rcases hd with hd|rfl
     · exact .inl (hcl j oj hoj hd e he hb)
     · rw[ho]at hoj;cases hoj;exact .inl (hdep e he hb)
   have hcnt:fuel+cnt (fun j=>(listed.setIfInBounds i true).getD j false) n=ops.size:=by
     rw[fZ (D:=fun j=>listed.getD j false) (D':=fun j=>(listed.setIfInBounds i true).getD j false) hid (by rw[hnew];simp) (fun j hj=>by show(listed.setIfInBounds i true).getD j false=listed.getD j false;rw[hnew];simp[hj]) him];omega
   rw[hI.act,hg2];by_cases hisx:i=s
   · subst hisx;have hdone:∀ j,j<i→j≠u→listed.getD j false=true:=fun j hj hne=>anc i o ho hdep j (by omega) (hsto j hj hne);refine hst g X hI.ext (fun j hb=>?_) (fun j hb hal=>?_) _ (fun Y hS=>?_)
     · have hj:j<i:=hF.bit i his j hb;have hd:=anc i o ho hdep j (by omega) hb;rw[hmask j (by omega) hd];exact hI.said j (by omega) hd
     · have hj:j<i:=hF.bit i his j hb;have hd:=anc i o ho hdep j (by omega) hb;obtain⟨b,h1,h2⟩:=hI.at_ j (by omega) hd hal;exact⟨b,(hg1 j hd).trans h1,h2⟩
     · have ha:=hg3 him undef;rw[hds]at ha;have ha':put ops (nd M i) g (List.range n) a=put ops (fun j=>(listed.setIfInBounds i true).getD j false) (upd g i undef) (List.range n) a:=by
         refine Eq.trans ha (xV (fun j _=>⟨(hnew j).symm,rfl⟩) _)
       have hup:∀ j,j≠i→upd g i undef j=g j:=fun j hne=>by simp only[upd,hne,yL]
       refine parB hF (by omega) (by omega) hleaf hpu (S:=fun f Y=>S (qj M i (upd f i (g i))) Y) (fun f Y hfu hS'=>?_) (s:=i) him fuel _ (upd g i undef) _ X Y (by simpa using hsz) hcl' (fun j hd=>?_) (fun j hj hne=>?_) hcnt hI.ext (fun j hj hne=>?_) (fun hd=>?_) ?_ ha' (fun j hb=>?_)
       · have h1:put ops (fun _=>true) f (List.range n) a=put ops (fun _=>true) (upd f i (g i)) (List.range n) a:=by
           have:∀(l:List Nat) (a:Act),put ops (fun _=>true) f l a=put ops (fun _=>true) (upd f i (g i)) l a:=fun l=>by
             induction l with
             | nil=>intro a;rfl
             | cons j l ih =>
               intro a;simp only[put,if_true];by_cases hji:j=i
               · subst hji;rw[hds];exact ih _
               · rw[zA2 f i (g i) j hji];exact ih _
           exact this _ _
         rw[h1];refine htail (upd f i (g i)) Y (by rw[zA2 f i (g i) u (by omega)];exact hfu) ?_;have:qj M i (upd f i (g i))=qj M i (upd (qj M i f) i (g i)):=gW fun k hk=>by
           by_cases hki:k=i
           · subst hki;simp[upd]
           · rw[zA2 _ _ _ _ hki,zA2 _ _ _ _ hki];have hb:=hk.resolve_left hki;simp[qj,hb]
         rw[this];exact hS'
       · rw[hnew,qi,jh]at hd;rcases hd with hd|rfl
         · have:=hlt j hd;omega
         · exact him
       · rw[hnew];by_cases hji:j=i
         · simp[hji]
         · rw[hdone j (by omega) hne];rfl
       · have hd:=hdone j hj hne;have:qj M j (upd g i undef)=qj M j f:=by
           rw[←hmask j (by omega) hd];refine gW fun k hk=>hup k fun e=>?_;rcases hk with rfl|hk
           · omega
           · have hjs:j<ops.size:=by have:=hF.le;omega
             have:=hF.bit j hjs k hk;omega
         rw[this];exact hI.said j (by omega) hd
       · rw[hnew,qi,jh]at hd;have hd':=hd.resolve_right (by omega);rw[hup u (by omega),hg1 u hd'];exact hRc f X (hI.said u (by omega) hd')
       · have:qj M i (upd (qj M i (upd g i undef)) i (g i))=qj M i g:=gW fun k hk=>by
           by_cases hki:k=i
           · subst hki;simp[upd]
           · have hb:=hk.resolve_left hki;rw[zA2 _ _ _ _ hki];simp[qj,hb,upd,hki]
         show S (qj M i (upd (qj M i (upd g i undef)) i (g i))) Y;rw[this];exact hS
       · have hub:u<ops.size:=by have:=hF.le;omega
         have:=hF.bit u hub j hb;omega
   · have hi':i<s:=by omega
     refine hstep i hi' g X hI.ext (fun j hb=>?_) _ (fun a'' v X' ha hE hA hR'=>?_)
     · have hj:j<n:=by have:=hF.bit i his j hb;omega
       have hd:=anc i o ho hdep j hj hb;show R j (qj M j g) X;rw[hmask j hj hd];exact hI.said j hj hd
     · have hnin:∀ j,j<n→listed.getD j false=true→j≠i:=fun j _ hd e=>by rw[e,hid]at hd;cases hd
       have hupd:∀ j,listed.getD j false=true→upd g i v j=f j:=fun j hd=>by
         have hne:j≠i:=fun e=>by rw[e,hid]at hd;cases hd
         simp only[upd,hne,yL];exact hg1 j hd
       have hupi:upd g i v i=v:=by simp[upd]
       have hmk:∀ j,j<n→listed.getD j false=true→qj M j (upd g i v)=qj M j f:=fun j hj hd=>by
         rw[←hmask j hj hd];refine gW fun k hk=>?_;have hne:k≠i:=by
           rintro rfl;rcases hk with rfl|hk
           · exact hnin _ hj hd rfl
           · have:=hnd j hj hd;simp[nd,hk]at this
         simp[upd,hne]
       refine ih _ (upd g i v) a'' X' (by simpa using hsz) hcl' (fun j hd=>?_) hcnt ⟨?_,hE1 _ _ _ hI.ext hE,fun j hj hd=>?_,fun j hj hd hal=>?_,fun j k hj hk hd hd' hal hal' hne=>?_⟩
       · rw[hnew,qi,jh]at hd;rcases hd with hd|rfl
         · exact hlt j hd
         · exact hi'
       · rw[ha,hg3 him];exact xV (fun j _=>⟨(hnew j).symm,rfl⟩) _
       · rw[hnew,qi,jh]at hd;by_cases hold:listed.getD j false=true
         · rw[hmk j hj hold];exact hR j hj f X (hI.said j hj hold) X' hE
         · obtain rfl:j=i:=hd.resolve_left hold;exact hR' X' (hE0 _)
       · rw[hnew,qi,jh]at hd;by_cases hold:listed.getD j false=true
         · obtain⟨b,h1,h2⟩:=hI.at_ j hj hold hal;exact⟨b,(hupd j hold).trans h1,zI h2 (hE2 _ _ hE)⟩
         · obtain rfl:j=i:=hd.resolve_left hold;rw[qg hal]at hA;exact⟨X.heap.size,hupi.trans hA.1,hA.2⟩
       · rw[hnew,qi,jh]at hd hd';have key:∀ j k,j<n→listed.getD j false=true→AL j=true→AL k=true→k=i→upd g i v j≠upd g i v k:=fun j k hj hold hal hal' hki heq=>by
           subst hki;rw[qg hal']at hA;obtain⟨b,h1,h2⟩:=hI.at_ j hj hold hal;rw[hupd j hold,hupi,h1,hA.1]at heq;injection heq with heq
           injection heq with heq
           injection heq with heq
           omega
         by_cases hold:listed.getD j false=true
         · by_cases hold':listed.getD k false=true
           · rw[hupd j hold,hupd k hold'];exact hI.apart j k hj hk hold hold' hal hal' hne
           · exact key j k hj hold hal hal' (hd'.resolve_left hold')
         · have hji:=hd.resolve_left hold;by_cases hold':listed.getD k false=true
           · exact fun e=>key k j hk hold' hal' hal hji e.symm
           · exact absurd (hji.trans (hd'.resolve_left hold').symm) hne
end
section
variable {P:Program} {Q:Exit→Act→World→Prop}
def okS (ops:Array Oper) (M:Nat→Nat) (s u:Nat) (AL:List Nat):Bool :=
 (dst ops s).isNone&&decide (u<s) && !(AL.contains u)&&((List.range (s+1)).all fun j=>!(M j).testBit u)&&((List.range s).all fun k=>k==u||(M s).testBit k)
structure PuO (P:Program) (ol:List Oper) (Q:Exit→Act→World→Prop) (E:World→World→Prop) (n:Nat) (L:List Nat) (R:Nat→(Nat→Value)→World→Prop) (a:Act) (w:World) (u:Nat) (cv:Value) (o:Oper):Prop where
 out:ol[u]?=some o→∀ f X0 X,E w X0→(∀ j,(L.getD u 0).testBit j=true→R j (qj (fun i=>L.getD i 0) j f) X0)→∀ K:Act→World→Prop,K ((put ol.toArray (nd (fun i=>L.getD i 0) u) f (List.range n) a).put (dst ol.toArray u) cv) X→wpOp P ol.toArray Q u K (put ol.toArray (nd (fun i=>L.getD i 0) u) f (List.range n) a) X
theorem PuO.intro {ol:List Oper}{E:World→World→Prop}{n:Nat}{L:List Nat}{R:Nat→(Nat→Value)→World→Prop}{a:Act}{w:World}{u:Nat}{cv:Value}{o:Oper}(pl:List (Nat×Nat))(hpl:sel ol.toArray (nd (fun i=>L.getD i 0) u) (List.range n)=pl)
 (h : ∀ f X0 X, E w X0 → Way (∀ j, (L.getD u 0).testBit j = true → R j (qj (fun i => L.getD i 0) j f) X0) → ∀ K : Act → World → Prop, Way (K ((vH f pl a).put o.dst cv) X) →
  Way (if Region.wanted o (yielded ol.toArray (vH f pl a).tmps)=true then Oper.wp P o (vH f pl a) X K Q else K ((vH f pl a).put o.dst undef) X)):PuO P ol Q E n L R a w u cv o:=by
 refine⟨fun ho f X0 X hX hR K hK=>?_⟩
 have ho':ol.toArray[u]?=some o:=by simpa using ho
 refine wpOp_step ho' fun K' hK'=>?_
 have h1:=h f X0 X hX ⟨hR⟩ K'
 rw[←hpl,←fO]at h1
 refine(h1 ⟨hK' _ _ ?_⟩).out
 have:o.dst=dst ol.toArray u:=by rw[dst,ho'];rfl
 rw[this]
 exact hK
inductive yg (P:Program) (ol:List Oper) (Q:Exit→Act→World→Prop) (E:World→World→Prop) (n:Nat) (L AL:List Nat) (R:Nat→(Nat→Value)→World→Prop) (a:Act) (w:World) (u:Nat) (cv:Value):Nat→Oper→Prop
 | step {i:Nat} {o:Oper} (hne:(i==u)=false) (h:jP P ol Q E n L AL R a w i o):yg P ol Q E n L AL R a w u cv i o
 | pure {o:Oper} (h:PuO P ol Q E n L R a w u cv o):yg P ol Q E n L AL R a w u cv u o
inductive zCt (P:Program) (ol:List Oper) (Q:Exit→Act→World→Prop) (E:World→World→Prop) (s u:Nat) (cv:Value) (L AL:List Nat) (R:Nat→(Nat→Value)→World→Prop) (S:(Nat→Value)→World→Prop) (pl:List (Nat×Nat)) (a:Act) (w:World):List Oper→Prop
  | intro {o : Oper} {l : List Oper}
    (hst:∀ f X,E w X→Way (∀ j,(L.getD s 0).testBit j=true→R j (qj (fun i=>L.getD i 0) j f) X)→Way (∀ j,(L.getD s 0).testBit j=true→AL.contains j=true→∃ b,f j=.pointer (some ⟨b,0,none⟩)∧b<X.heap.size)→∀ K:Act→World→Prop,Way (∀ Y,S (qj (fun i=>L.getD i 0) s f) Y→K (vH f pl a) Y) →
      Way (if Region.wanted o (yielded ol.toArray (vH f pl a).tmps)=true then Oper.wp P o (vH f pl a) X K Q else K ((vH f pl a).put o.dst undef) X))
    (htail:∀ f Y,f u=cv→S (qj (fun i=>L.getD i 0) s f) Y→Way (zZ P ol Q l (vH f pl a) Y)):zCt P ol Q E s u cv L AL R S pl a w (o::l)
theorem zCm {E:World→World→Prop}(hE0:∀ w,E w w)(hE1:∀ a b c,E a b→E b c→E a c)(hE2:∀ a b,E a b→a.heap.size≤b.heap.size)
   {ol:List Oper} {a:Act} {w X0:World} (hX0:E w X0) (s u:Nat) (cv:Value) (L AL:List Nat) (R:Nat→(Nat→Value)→World→Prop) (S:(Nat→Value)→World→Prop) (hok:ok ol.toArray (fun i=>L.getD i 0) (s+1)=true) (hokS:okS ol.toArray (fun i=>L.getD i 0) s u AL=true)
   (hRc:∀ f X,R u f X↔f u=cv) (pl:List (Nat×Nat)) (hpl:sel ol.toArray (fun _=>true) (List.range (s+1))=pl) (hpl2:sel ol.toArray (nd (fun i=>L.getD i 0) s) (List.range (s+1))=pl)
   (hstep:qT (yg P ol Q E (s+1) L AL R a w u cv) (zCt P ol Q E s u cv L AL R S pl a w) 0 s ol):wpAny P .any ol.toArray Q ol.toArray.size (Array.replicate ol.toArray.size false) a X0:=by
 have hF:=ok.form hok;unfold okS at hokS;simp only[ji,decide_eq_true_eq,List.all_eq_true,List.mem_range,Bool.not_eq_true',qi,jh,Option.isNone_iff_eq_none]at hokS;obtain⟨⟨⟨⟨h1,h2⟩,h3⟩,h4⟩,h5⟩:=hokS;have hss:s<ol.toArray.size:=by have:=hF.le;omega
 have hus:u<ol.length:=by simp at hss;omega
 have hpure:PuO P ol Q E (s+1) L R a w u cv ol[u]:=by
   obtain⟨o,g1,g2⟩:=hstep.out u h2;rw[jH]at g2;cases g2 with
   | step hne _=>simp at hne
   | pure h=>rw[qO hus]at g1;injection g1 with g1;rw[g1];exact h
 have hpu:=hpure.out (qO hus)
 obtain⟨o,l,hol,hst,htail⟩:∃ o l,ol.drop s=o::l∧(∀ f X,E w X→Way (∀ j,(L.getD s 0).testBit j=true→R j (qj (fun i=>L.getD i 0) j f) X)→Way (∀ j,(L.getD s 0).testBit j=true→AL.contains j=true→∃ b,f j=.pointer (some ⟨b,0,none⟩)∧b<X.heap.size)→∀ K:Act→World→Prop,Way (∀ Y,S (qj (fun i=>L.getD i 0) s f) Y→K (vH f pl a) Y) →
     Way (if Region.wanted o (yielded ol.toArray (vH f pl a).tmps)=true then Oper.wp P o (vH f pl a) X K Q else K ((vH f pl a).put o.dst undef) X)) ∧
   (∀ f Y,f u=cv→S (qj (fun i=>L.getD i 0) s f) Y→Way (zZ P ol Q l (vH f pl a) Y)):=by
   have:=hstep.end_
   generalize ol.drop s=d at this
   cases this with
   | intro hst htail=>exact⟨_,_,rfl,hst,htail⟩
 have hosl:s<ol.length:=by simpa using hss
 rw[qa hosl]at hol;injection hol with ho1 ho2
 subst ho1 ho2
 refine parS hE0 hE1 hE2 (R:=fun j f X=>∀ Y,E X Y→R j f Y) (S:=S) (cv:=cv) (M:=fun i=>L.getD i 0) (AL:=fun i=>AL.contains i) (n:=s+1) (s:=s) (u:=u) (a:=a) (w:=w) hF rfl h1 h2 (fun j hj=>h4 j hj) (fun k hk hne=>(h5 k hk).resolve_left hne) (fun j _ f X h Y hY Z hZ=>h Z (hE1 _ _ _ hY hZ))
   (fun i hi=>?_) (fun f X1 X hX hR K hK=>hpu f X1 X hX (fun j hj=>hR j hj X1 (hE0 _)) K hK) (fun f X h=>(hRc _ _).1 (h X (hE0 _))|>fun h=>by simpa[qj]using h) (fun f X hX hR hal K hK=>?_) (fun f Y hfu hS=>?_) ol.toArray.size _ (fun _=>undef) a X0 (by simp) (fun j o _ h=>(by rw[yq]at h;cases h)) (fun j h=>(by rw[yq]at h;cases h)) ?_ ⟨?_,hX0,fun j _ h=>(by rw[yq]at h;cases h),fun j _ h=>(by rw[yq]at h;cases h),fun j k _ _ h=>(by rw[yq]at h;cases h)⟩
 · by_cases hiu:i=u
   · subst hiu;intro f X hX hR K hK;refine hpu f X X hX (fun j hj=>hR j hj X (hE0 _)) K (hK _ cv X rfl (hE0 _) (by show(if AL.contains i=true then _ else True);rw[ql (by rw[h3];decide)];trivial) (fun Y _ Z _=>(hRc _ _).2 (by simp[qj,upd])))
   · obtain⟨o,g1,g2⟩:=hstep.out i hi;rw[jH]at g2;cases g2 with
     | step hne h =>
       intro f X hX hR K hK;exact h.out g1 f X hX (fun j hj=>hR j hj X (hE0 _)) K (fun a' v X' ha hE hA hR'=>hK a' v X' ha hE hA (fun Y hY Z hZ=>hR' Z (hE1 _ _ _ hY hZ)))
     | pure h=>exact absurd rfl hiu
 · have ho':ol.toArray[s]?=some ol[s]:=by simp[hosl]
   refine wpOp_step ho' fun K' hK'=>?_;rw[fO,hpl2]at hK ⊢;exact(hst f X hX ⟨fun j hj=>hR j hj X (hE0 _)⟩ ⟨hal⟩ K' ⟨fun Y hS=>hK' _ _ (hK Y hS)⟩).out
 · rw[fO,hpl];exact zZ.sound hF (ol.toArray.size-(s+1)) (s+1) _ Y (zG _) (by omega) (htail f Y hfu hS).out
 · have:∀ n,cnt (fun j=>(Array.replicate ol.toArray.size false).getD j false) n=0:=fun n=>by
     induction n with
     | zero=>rfl
     | succ n ih=>rw[cnt,ih,yq];rfl
   rw[this];rfl
 · have:∀(l:List Nat) (a:Act),put ol.toArray (fun j=>(Array.replicate ol.toArray.size false).getD j false) (fun _=>undef) l a=a:=fun l=>by
     induction l with
     | nil=>intro a;rfl
     | cons j l ih=>intro a;rw[put,yq];exact ih _
   exact(this _ _).symm
theorem zBp {K:Act→World→Prop}{S:World→Prop}{A b:Act}{Y:World}(hK:Way (∀ Y,S Y→K A Y))(he:b=A)(hS:S Y):K b Y:=he▸hK.out Y hS
theorem zDS {K:Act→World→Prop}{A b:Act}{X:World}(hK:Way (K A X))(he:b=A):K b X:=he▸hK.out
theorem ot {ol:List Oper}{id:Nat}{a:Act}{w:World}(hm:P.follows .mixedOrders=true)(s u:Nat)(cv:Value)(L AL:List Nat)(R:Nat→(Nat→Value)→World→Prop)(S:(Nat→Value)→World→Prop)(hok:ok ol.toArray (fun i=>L.getD i 0) (s+1)=true)(hokS:okS ol.toArray (fun i=>L.getD i 0) s u AL=true)
 (hRc:∀ f X,R u f X↔f u=cv) (pl:List (Nat×Nat)) (hpl:sel ol.toArray (fun _=>true) (List.range (s+1))=pl) (hpl2:sel ol.toArray (nd (fun i=>L.getD i 0) s) (List.range (s+1))=pl)
 (hstep:qT (yg P ol Q Ext (s+1) L AL R a w u cv) (zCt P ol Q Ext s u cv L AL R S pl a w) 0 s ol):(Code.region id ol.toArray true).wp P Q a w :=
 wp_region_any hm (zCm zX (fun _ _ _=>jb) (fun _ _=>Ext.bsize) (Ext.drew w) s u cv L AL R S hok hokS hRc pl hpl hpl2 hstep)
end
end Par
end Go.Proofs.YtaemogcomplhiaaGreatDoor
namespace Go.Proofs.YtaemogcomplhiaaGreatDoor
open Go.RowKit
open Sha
theorem zBg (x y:W):IntKind.u32.wrap ((x.toNat:Int)+(y.toNat:Int))=((x+y).toNat:Int):=by
 rw[IntKind.wrap_u32,BitVec.toNat_add];omega
theorem xc (x y:W):bits .xor .u32 (x.toNat:Int) (y.toNat:Int)=((x ^^^ y).toNat:Int):=by
 rw[u32_xor_nat _ _ x.isLt y.isLt,BitVec.toNat_xor]
theorem zBf (x y:W):bits .and .u32 (x.toNat:Int) (y.toNat:Int)=((x &&& y).toNat:Int):=by
 rw[u32_and_nat _ _ x.isLt y.isLt,BitVec.toNat_and]
theorem av (x y:W):bits .or .u32 (x.toNat:Int) (y.toNat:Int)=((x ||| y).toNat:Int):=by
 rw[u32_or_nat _ _ x.isLt y.isLt,BitVec.toNat_or]
theorem zBe (x:W):bits .xor .u32 4294967295 (x.toNat:Int)=((~~~x).toNat:Int):=by
 have h:=xc 4294967295#32 x;rw[show((4294967295#32:W).toNat:Int)=4294967295 from rfl]at h;rw[h,←BitVec.allOnes_xor (x:=x)];rfl
theorem aJ (n:Nat):((2:Int)^n)=((2^n:Nat):Int):=by simp
theorem au (x:W)(n:Nat):(x.toNat:Int)/2^n=((x >>> n).toNat:Int):=by
 rw[BitVec.toNat_ushiftRight,Nat.shiftRight_eq_div_pow,aJ,uT]
theorem zBd (x:W)(n:Nat):IntKind.u32.wrap ((x.toNat:Int)*2^n)=((x <<< n).toNat:Int):=by
 rw[IntKind.wrap_u32,BitVec.toNat_shiftLeft,Nat.shiftLeft_eq,aJ,Int.natCast_emod,vW];rfl
theorem gz (x:W)(n:Nat):(x.toNat:Int)*2^n%4294967296=((x <<< n).toNat:Int):=by
 rw[←zBd,IntKind.wrap_u32]
theorem uB (x:W)(k:Int)(n s:Nat)(w:World)(hs:bits .and .u64 (IntKind.u64.wrap k) 31=(s:Int))(hn:IntKind.u64.wrap (32-(s:Int))=(n:Int))(h:n+s=32) :
 Calls Tryz.prog 163 #[.int .u32 (x.toNat:Int),.int .i64 k] w fun e w'=>e=.returned (.int .u32 ((rr n x).toNat:Int))∧w'=w:=by
 have Hx:((x <<< s) ||| (x >>> n))=rr n x:=by unfold rr;rw[show s=32-n by omega]
 have HX:=zF Hx
 clear Hx
 go_enter Tryz.func163,Tryz.ntmps163
 go_wp2_with fail
 go_ret
 refine⟨?_,rfl⟩
 show Ending.returned (.int .u32 (bits .or .u32 ((x.toNat:Int)*2^s%4294967296) ((x.toNat:Int)/2^n)))=_
 rw[gz,au,av,HX.out]
theorem xd (x:W)(k:Int)(n:Nat)(w:World)(hk:k=-(n:Int))(hn:n=2∨n=6∨n=7∨n=11∨n=13∨n=17∨n=18∨n=19∨n=22∨n=25) :
 Calls Tryz.prog 163 #[.int .u32 (x.toNat:Int),.int .i64 k] w fun e w'=>e=.returned (.int .u32 ((rr n x).toNat:Int))∧w'=w:=by
 subst hk
 rcases hn with rfl|rfl|rfl|rfl|rfl|rfl|rfl|rfl|rfl|rfl
 · exact uB x _ 2 30 w (by kernel_rfl) (by kernel_rfl) rfl
 · exact uB x _ 6 26 w (by kernel_rfl) (by kernel_rfl) rfl
 · exact uB x _ 7 25 w (by kernel_rfl) (by kernel_rfl) rfl
 · exact uB x _ 11 21 w (by kernel_rfl) (by kernel_rfl) rfl
 · exact uB x _ 13 19 w (by kernel_rfl) (by kernel_rfl) rfl
 · exact uB x _ 17 15 w (by kernel_rfl) (by kernel_rfl) rfl
 · exact uB x _ 18 14 w (by kernel_rfl) (by kernel_rfl) rfl
 · exact uB x _ 19 13 w (by kernel_rfl) (by kernel_rfl) rfl
 · exact uB x _ 22 10 w (by kernel_rfl) (by kernel_rfl) rfl
 · exact uB x _ 25 7 w (by kernel_rfl) (by kernel_rfl) rfl
theorem ut (x y:W):Value.int .u32 (IntKind.u32.wrap ((x.toNat:Int)+(y.toNat:Int)))=.int .u32 ((x+y).toNat:Int):=congrArg _ (zBg x y)
theorem tk (x y:W):Value.int .u32 (bits .xor .u32 (x.toNat:Int) (y.toNat:Int))=.int .u32 ((x ^^^ y).toNat:Int):=congrArg _ (xc x y)
theorem mr (x y:W):Value.int .u32 (bits .and .u32 (x.toNat:Int) (y.toNat:Int))=.int .u32 ((x &&& y).toNat:Int):=congrArg _ (zBf x y)
theorem v_not (x:W):Value.int .u32 (bits .xor .u32 4294967295 (x.toNat:Int))=.int .u32 ((~~~x).toNat:Int):=congrArg _ (zBe x)
theorem zDG (x:W):Value.int .u32 (IntKind.u32.wrap (x.toNat:Int))=.int .u32 (x.toNat:Int):=by
 have:=x.isLt;rw[IntKind.wrap_u32,Int.emod_eq_of_lt (by omega) (by omega)]
theorem v_up (x:W):Value.int .u64 (IntKind.u64.wrap (x.toNat:Int))=.int .u64 (x.toNat:Int):=by
 have:=x.isLt;rw[wi,Int.emod_eq_of_lt (by omega) (by omega)]
theorem gw0 (x:W):∃ y z:W,bits .xor .u32 ((rr 7 x).toNat:Int) ((rr 18 x).toNat:Int)=(y.toNat:Int)∧(x.toNat:Int)/8=(z.toNat:Int)∧bits .xor .u32 (y.toNat:Int) (z.toNat:Int)=((g0 x).toNat:Int):=⟨_,_,xc _ _,au x 3,xc _ _⟩
theorem gw1 (x:W):∃ y z:W,bits .xor .u32 ((rr 17 x).toNat:Int) ((rr 19 x).toNat:Int)=(y.toNat:Int)∧(x.toNat:Int)/1024=(z.toNat:Int)∧bits .xor .u32 (y.toNat:Int) (z.toNat:Int)=((g1 x).toNat:Int):=⟨_,_,xc _ _,au x 10,xc _ _⟩
theorem sw1 (x:W):∃ y:W,bits .xor .u32 ((rr 6 x).toNat:Int) ((rr 11 x).toNat:Int)=(y.toNat:Int)∧bits .xor .u32 (y.toNat:Int) ((rr 25 x).toNat:Int)=((S1 x).toNat:Int):=⟨_,xc _ _,xc _ _⟩
theorem sw0 (x:W):∃ y:W,bits .xor .u32 ((rr 2 x).toNat:Int) ((rr 13 x).toNat:Int)=(y.toNat:Int)∧bits .xor .u32 (y.toNat:Int) ((rr 22 x).toNat:Int)=((S0 x).toNat:Int):=⟨_,xc _ _,xc _ _⟩
theorem rC (x:W):(x.toNat:Int)%4294967296=(x.toNat:Int):=by
 have:=x.isLt;rw[Int.emod_eq_of_lt (by omega) (by omega)]
theorem rV {b:Nat}(h:b<256):(b:Int)=((o b).toNat:Int):=by
 rw[o,BitVec.toNat_ofNat,zy (by omega)]
theorem tJ (P:Nat→Prop)(A:Option Addr)(c:Nat)(bs:List Nat)(w:World)(h:RB w P A c bs)(hl:4≤bs.length) :
 Calls Tryz.prog 162 #[.slice A bs.length c] w fun e w'=>e=.returned (.int .u32 ((be bs 0).toNat:Int))∧Ext w w':=by
 obtain⟨a,rfl,c0,h0⟩:=h.dg (i:=0) (by omega)
 obtain⟨a1,e1,c1,h1⟩:=h.dg (i:=1) (by omega)
 obtain⟨a2,e2,c2,h2⟩:=h.dg (i:=2) (by omega)
 obtain⟨a3,e3,c3,h3⟩:=h.dg (i:=3) (by omega)
 cases e1;cases e2;cases e3
 have hc:=h.cap
 rw[rV h0]at c0;rw[rV h1]at c1;rw[rV h2]at c2;rw[rV h3]at c3
 have Hb:be bs 0=(o (dg bs 0) <<< 24) ||| (o (dg bs 1) <<< 16) ||| (o (dg bs 2) <<< 8) ||| o (dg bs 3):=rfl
 rw[Hb]
 clear Hb
 generalize o (dg bs 0)=x0 at *
 generalize o (dg bs 1)=x1 at *
 generalize o (dg bs 2)=x2 at *
 generalize o (dg bs 3)=x3 at *
 simp[Addr.add]at c0 c1 c2 c3
 have i0:(0:Int)<(bs.length:Int):=by omega
 have i1:(1:Int)<(bs.length:Int):=by omega
 have i2:(2:Int)<(bs.length:Int):=by omega
 have i3:(3:Int)<(bs.length:Int):=by omega
 clear h0 h1 h2 h3
 go_enter Tryz.func162,Tryz.ntmps162
 go_wp2_with fail
 go_quiet (fail)
 go_wp2_with fail
 go_ret
 refine⟨?_,kW _ _⟩
 show Ending.returned (.int .u32 (bits .or .u32 (bits .or .u32 (bits .or .u32 ((x0.toNat:Int)*16777216%4294967296) ((x1.toNat:Int)*65536%4294967296)) ((x2.toNat:Int)*256%4294967296)) (x3.toNat:Int)))=_
 rw[show(16777216:Int)=2^24 from rfl,show(65536:Int)=2^16 from rfl,show(256:Int)=2^8 from rfl,gz,gz,gz,av,av,av]
theorem RB.mid' {w:World}{P:Nat→Prop}{A:Option Addr}{c:Nat}{bs:List Nat}(h:RB w P A c bs){k m c':Nat}(hkm:k≤m)(hm:m≤bs.length)(hc:m-k≤c')(hc':c'≤maxLen){A':Option Addr}(hA:k<m→A'=A.map (·.add k)):RB w P A' c' ((bs.drop k).take (m-k)):=by
 have h1:=h.1.sub hkm hm hc hc' (A':=A') (by simpa using hA);have e:((bys bs).drop (k*1)).take ((m-k)*1)=bys ((bs.drop k).take (m-k)):=by simp[bys,List.map_take,List.map_drop]
 rw[e]at h1;have hl:((bs.drop k).take (m-k)).length=m-k:=by rw[zo,qn];omega
 refine⟨by rw[hl];exact h1,fun b hb=>h.2.1 b (List.mem_of_mem_drop (qM hb)),by rw[hl];have:=h.2.2;omega⟩
theorem RB.from' {w:World}{P:Nat→Prop}{A:Option Addr}{c:Nat}{bs:List Nat}(h:RB w P A c bs){k c':Nat}(hk:k≤bs.length)(hc:bs.length-k≤c')(hc':c'≤maxLen){A':Option Addr}(hA:k<bs.length→A'=A.map (·.add k)):RB w P A' c' (bs.drop k):=by
 have:=h.mid' hk (zG _) hc hc' hA;rwa [zx (by simp)]at this
def vs (l:List W):List Value:=l.map fun x=>.int .u32 (x.toNat:Int)
theorem aE (l:List W):(vs l).length=l.length:=by simp[vs]
theorem oW {l:List W}{i:Nat}(h:i<l.length):(vs l)[i]?=some (.int .u32 ((wd l i).toNat:Int)):=by
 simp[vs,wd,h]
theorem zDF (l:List W)(i:Nat)(x:W):(vs l).set i (.int .u32 (x.toNat:Int))=vs (l.set i x):=by simp[vs,List.map_set]
def VB (w:World) (g:Nat) (l:List W) (t:TypeId):Prop:=w.heap[g]?=some (.cells (vs l).toArray t (0,0))
theorem VB.lt {w:World}{g:Nat}{l:List W}{t:TypeId}(h:VB w g l t):g<w.heap.size:=qr h
theorem VB.cell {w:World}{g:Nat}{l:List W}{t:TypeId}(h:VB w g l t){i:Nat}(hi:i<l.length):w.cell? ⟨g,i,none⟩=some (.int .u32 ((wd l i).toNat:Int)):=by
 rw[zQ h];simpa using oW hi
theorem VB.free {w:World}{g:Nat}{l:List W}{t:TypeId}(h:VB w g l t)(i:Nat):w.frozen? ⟨g,i,none⟩=false:=qu h i
theorem VB.set {w:World}{g:Nat}{l:List W}{t:TypeId}(h:VB w g l t)(i:Nat)(x:W):VB (w.setCell ⟨g,i,none⟩ (.int .u32 (x.toNat:Int))) g (l.set i x) t:=by
 unfold VB;rw[←zDF];have:=jM h i (.int .u32 (x.toNat:Int));simpa using this
theorem VB.ext {w X:World}{g:Nat}{l:List W}{t:TypeId}(h:VB w g l t)(hE:Ext w X):VB X g l t:=hE.at_ h
theorem zDE {l:List W}{i:Nat}(x:W)(hi:i<l.length):wd (l.set i x) i=x:=by simp[wd,hi]
theorem aD {l:List W}{i j:Nat}(x:W)(h:i≠j):wd (l.set i x) j=wd l j:=by simp[wd,List.getElem?_set_ne h]
theorem uA {w:World}{t e:TypeId}{n i:Nat}{cs:Array Value}{v:Value}(h:Tryz.prog.underlying t=some (.array n e))(hs:∀ w,(sizeOf e).run Tryz.prog w=.ok 1 w)(ha:∀ w,(isAgg e).run Tryz.prog w=.ok false w)(hi:i<n)(hv:cs[i]?=some v) :
 (Instr.index t (.agg cs) (.int .i64 (i:Int))).run Tryz.prog w=.ok v w:=by
 have hn:(0:Int)≤(i:Int)∧(i:Int)<(n:Int):=by omega
 simp[Instr.index,run_underlying h,asIntOf,hn,hs,ha,part,hv,go_sem]
 intro hle
 omega
def gy (l m:List W) (k:Nat):Prop:=l.length=m.length∧∀ j,j<k→wd l j=wd m j
theorem gy.step {l m:List W}{k:Nat}(h:gy l m k)(hk:k<m.length){x:W}(hx:x=wd m k):gy (l.set k x) m (k+1):=by
 refine⟨by simpa using h.1,fun j hj=>?_⟩;rcases qF j k with h1|h1
 · rw[aD _ (by omega)];exact h.2 j h1
 · obtain rfl:j=k:=by omega
   rw[zDE _ (by rw[h.1];exact hk),hx]
theorem gy.fin {l m:List W}(h:gy l m m.length):l=m:=by
 apply List.ext_getElem h.1;intro i h1 h2;have:=h.2 i h2;simpa[wd,h1,h2]using this
theorem gy.zero (l m:List W)(h:l.length=m.length):gy l m 0:=⟨h,fun _ h=>absurd h (by omega)⟩
theorem rot2 (x:W)(w:World):Calls Tryz.prog 163 #[.int .u32 (x.toNat:Int),.int .i64 (-2)] w fun e w'=>e=.returned (.int .u32 ((rr 2 x).toNat:Int))∧w'=w:=xd x _ 2 w rfl (by decide)
theorem rot6 (x:W)(w:World):Calls Tryz.prog 163 #[.int .u32 (x.toNat:Int),.int .i64 (-6)] w fun e w'=>e=.returned (.int .u32 ((rr 6 x).toNat:Int))∧w'=w:=xd x _ 6 w rfl (by decide)
theorem rot7 (x:W)(w:World):Calls Tryz.prog 163 #[.int .u32 (x.toNat:Int),.int .i64 (-7)] w fun e w'=>e=.returned (.int .u32 ((rr 7 x).toNat:Int))∧w'=w:=xd x _ 7 w rfl (by decide)
theorem rot11 (x:W)(w:World):Calls Tryz.prog 163 #[.int .u32 (x.toNat:Int),.int .i64 (-11)] w fun e w'=>e=.returned (.int .u32 ((rr 11 x).toNat:Int))∧w'=w:=xd x _ 11 w rfl (by decide)
theorem rot13 (x:W)(w:World):Calls Tryz.prog 163 #[.int .u32 (x.toNat:Int),.int .i64 (-13)] w fun e w'=>e=.returned (.int .u32 ((rr 13 x).toNat:Int))∧w'=w:=xd x _ 13 w rfl (by decide)
theorem rot17 (x:W)(w:World):Calls Tryz.prog 163 #[.int .u32 (x.toNat:Int),.int .i64 (-17)] w fun e w'=>e=.returned (.int .u32 ((rr 17 x).toNat:Int))∧w'=w:=xd x _ 17 w rfl (by decide)
theorem rot18 (x:W)(w:World):Calls Tryz.prog 163 #[.int .u32 (x.toNat:Int),.int .i64 (-18)] w fun e w'=>e=.returned (.int .u32 ((rr 18 x).toNat:Int))∧w'=w:=xd x _ 18 w rfl (by decide)
theorem rot19 (x:W)(w:World):Calls Tryz.prog 163 #[.int .u32 (x.toNat:Int),.int .i64 (-19)] w fun e w'=>e=.returned (.int .u32 ((rr 19 x).toNat:Int))∧w'=w:=xd x _ 19 w rfl (by decide)
theorem rot22 (x:W)(w:World):Calls Tryz.prog 163 #[.int .u32 (x.toNat:Int),.int .i64 (-22)] w fun e w'=>e=.returned (.int .u32 ((rr 22 x).toNat:Int))∧w'=w:=xd x _ 22 w rfl (by decide)
theorem rot25 (x:W)(w:World):Calls Tryz.prog 163 #[.int .u32 (x.toNat:Int),.int .i64 (-25)] w fun e w'=>e=.returned (.int .u32 ((rr 25 x).toNat:Int))∧w'=w:=xd x _ 25 w rfl (by decide)
end Go.Proofs.YtaemogcomplhiaaGreatDoor
