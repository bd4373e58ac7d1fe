/- Laws that the proof rests on. -/
import Derived.Test.YtaemogcomplhiaaGreatDoorQ41de39f80b95
set_option maxRecDepth 100000
set_option maxHeartbeats 16000000
namespace Go.Proofs.YtaemogcomplhiaaGreatDoor
open Go.RowKit
theorem FE.zero {M n:Nat}(h:0<M):FE M n [0,0,0,0,0,0] 0:=⟨⟨rfl,by intro x a;simp at a;omega,by simp[val];omega⟩,by simp[val]⟩
theorem zAE {P0:Nat→Prop}{k g size n inv M bb:Nat}{pl nl bl xl yl ml ol rl tl fl:List Nat}{Ap An Ab Ax Ay:Option Addr}{cp cn cb cx cy:Nat}(J L:Nat→Prop)(A A':Option Addr)(c c':Nat)(a b:List Nat)(inf:Bool)(w:World)
 (hk:Num w P0 k g size n inv M bb pl nl bl xl yl ml ol rl tl fl Ap An Ab Ax Ay cp cn cb cx cy) (aa:∀ b,P0 b→b<w.heap.size) (h:RN w J A c a) (h':RN w L A' c' b) (ab:∀ b,J b→b<w.heap.size) (ac:∀ b,L b→b<w.heap.size)
 (C:inf=false→val 18446744073709551616 a<M) (D:inf=false→val 18446744073709551616 b<M) :
 Calls Tryz.prog 74 #[.pointer (some ⟨k,0,none⟩),.agg #[.bool inf,.slice A a.length c,.slice A' b.length c']] w fun e w'=>∃ U V oz,e=.returned (JV U V oz)∧FJ M n U V oz (if inf then 1 else val 18446744073709551616 a) (if inf then 1 else val 18446744073709551616 b) (if inf then 0 else 1)∧Ext w w':=by
 obtain⟨W0,u⟩:=eW ((w.alloc (.cells #[.bool inf,.slice A a.length c,.slice A' b.length c'] 33)).alloc (.cells #[.int .u64 0,.int .u64 0,.int .u64 0,.int .u64 0,.int .u64 0,.int .u64 0,.int .u64 0,.int .u64 0,.int .u64 0,.int .u64 0,.int .u64 0,.int .u64 0,.int .u64 0,.int .u64 0,.int .u64 0,.int .u64 0,.int .u64 0,.int .u64 0] 123))
 obtain⟨q,I⟩:=eV w.heap.size
 have t:Ext w W0:=by rw[u];exact(zL _ _).trans (zL _ _)
 obtain⟨P,ah,ai⟩:=wV w (.cells #[.bool inf,.slice A a.length c,.slice A' b.length c'] 33) (.cells #[.int .u64 0,.int .u64 0,.int .u64 0,.int .u64 0,.int .u64 0,.int .u64 0,.int .u64 0,.int .u64 0,.int .u64 0,.int .u64 0,.int .u64 0,.int .u64 0,.int .u64 0,.int .u64 0,.int .u64 0,.int .u64 0,.int .u64 0,.int .u64 0] 123)
 rw[←u,I]at P ah ai
 have b0:W0.cell? ⟨q,0,none⟩=some (.bool inf):=zP P 0
 have b1:W0.cell? ⟨q,1,none⟩=some (.slice A a.length c):=zP P 1
 have b2:W0.cell? ⟨q,2,none⟩=some (.slice A' b.length c'):=zP P 2
 have i:=zF (hk.ext aa t)
 have F:∀ b,P0 b→b<W0.heap.size:=fun b p=>zH (aa b p) t.bsize
 have an:∀ b,J b→b<W0.heap.size:=fun b p=>zH (ab b p) t.bsize
 have ao:∀ b,L b→b<W0.heap.size:=fun b p=>zH (ac b p) t.bsize
 have ha:=h.below t ab
 have p:=h'.below t ac
 have k6:=i.out.c_f
 have aj:=zF t
 have aq:=zF ai
 have av:=hk.fr.ff.big
 obtain⟨x,Q⟩:=eV (val 18446744073709551616 a)
 obtain⟨y,R⟩:=eV (val 18446744073709551616 b)
 rw[Q]at C
 rw[R]at D
 rw[Q,R]
 have Hx:=zF Q
 have Hy:=zF R
 clear t ai hk aa Q R h h' ab ac
 cases inf
 case true =>
  clear b1 b2 ha p Hx Hy C D an ao;simp only[if_true];go_enter Tryz.func74,Tryz.ntmps74;go_upto_region 1 with fail;rw[←u];have W:=zF I;have ap:=zF u;have m:=zT W0;clear I u;go_upto_region 3 with fail;clear k6 b0
  refine zR 6 [0,1,0,7,0,31,63] [] (fun j f X=>match j with
   | 0=>f 0=.pointer (some ⟨g,0,none⟩)
   | 1=>f 1=EV ol
   | 2=>f 2=.pointer (some ⟨g,0,none⟩)
   | 3=>f 3=EV ol
   | 4=>f 4=.agg #[.int .u64 0,.int .u64 0,.int .u64 0,.int .u64 0,.int .u64 0,.int .u64 0]
   | 5=>f 5=JV ol ol [0,0,0,0,0,0]
   | _=>True) (by kernel_rfl) [(12,0),(13,1),(14,2),(15,3),(16,4),(17,5)] (by kernel_rfl) ?_
  refine zJ 1 5 ?_;refine qK 2 4 (fun f=>#[f 0]) (F':=105) (fun f X d hR=>?_) ?_
  · have Z:f 0=_:=hR.out 0 rfl;simp only[Z];refine(mY X (i.out.ext F (m.trans d)).fr).mono ?_;rintro e w2 ⟨rfl,l⟩;exact⟨(EV ol),rfl,l,fun _ _=>rfl⟩
  refine zJ 3 3 ?_;refine qK 4 2 (fun f=>#[f 2]) (F':=105) (fun f X d hR=>?_) ?_
  · have e2:f 2=_:=hR.out 2 rfl;simp only[e2];refine(mY X (i.out.ext F (m.trans d)).fr).mono ?_;rintro e w2 ⟨rfl,l⟩;exact⟨(EV ol),rfl,l,fun _ _=>rfl⟩
  refine zJ 5 1 ?_;refine zv 6 0 [(12,0),(13,1),(14,2),(15,3),(16,4)] (fun f X d hR K B=>?_) ?_
  · have e1:f 1=_:=hR.out 1 rfl;have v:f 3=_:=hR.out 3 rfl;have s:f 4=_:=hR.out 4 rfl;simp only[yZ,e1,v,s];refine⟨zU (by kernel_rfl) (gn (x:=ol) (y:=ol) (z:=[0,0,0,0,0,0]) (.tmp 13) (.tmp 15) (.tmp 16) rfl rfl rfl rfl i.out.fr.fone.elt.six i.out.fr.fone.elt.six rfl ?_)⟩;exact B.out _ (JV ol ol [0,0,0,0,0,0]) _ (by simp only[yZ,e1,v,s]) (zT _) trivial (fun _ _=>rfl)
  refine yF ⟨fun f X d hR af ag=>?_⟩;have N:f 5=_:=hR 5 (by decide);simp only[yZ,N];clear hR af ag N;refine zO (fun K B=>⟨zU (by kernel_rfl) (vM (x:=ol) (y:=ol) (z:=[0,0,0,0,0,0]) (.tmp 4) (.tmp 17) rfl rfl rfl rfl (d.at_ ah) rfl i.out.fr.fone.elt.six i.out.fr.fone.elt.six rfl (fun Y ad ae au=>B.out _ _ ?_))⟩);refine zI ?_;go_wp2;exact cQ rfl rfl rfl ad i.out.fr.fone.elt.six i.out.fr.fone.elt.six rfl ⟨_,_,_,rfl,⟨i.out.fr.fone,i.out.fr.fone,FE.zero (by omega)⟩,ae.ext (aj.out.trans (m.trans d)) (by have:=W.out;omega)⟩
 case false =>
  have C:=C rfl;have D:=D rfl;simp only[yO,ya];go_enter Tryz.func74,Tryz.ntmps74;go_upto_region 1 with fail;rw[←u];have W:=zF I;have ap:=zF u;have ak:=zF (show q≤W0.heap.size by have:=aq.out;omega);have m:=zT W0;clear I u;go_upto_region 4 with fail;clear k6 b0
  refine zZ (by kernel_rfl) 13 [0,0,2,6,15,0,0,64,223,511,0,2047,4095,8191] [] (fun j f X=>match j with
   | 0=>f 0=.pointer (some ⟨g,0,none⟩)
   | 1=>f 1=.pointer (some ⟨q,1,none⟩)
   | 2=>f 2=.slice A a.length c
   | 3=>∃ r c1,f 3=.slice r (digs 18446744073709551616 x).length c1∧OB X q r c1 (digs 18446744073709551616 x)
   | 4=>∃ o,f 4=EV o∧FE M n o x
   | 5=>f 5=.pointer (some ⟨g,0,none⟩)
   | 6=>f 6=.pointer (some ⟨q,2,none⟩)
   | 7=>f 7=.slice A' b.length c'
   | 8=>∃ r c1,f 8=.slice r (digs 18446744073709551616 y).length c1∧OB X q r c1 (digs 18446744073709551616 y)
   | 9=>∃ o,f 9=EV o∧FE M n o y
   | 10=>f 10=.pointer (some ⟨g,0,none⟩)
   | 11=>f 11=EV ol
   | 12=>∃ o o',f 12=JV o o' ol∧FE M n o x∧FE M n o' y
   | _=>True) (by kernel_rfl) [(18,0),(19,1),(20,2),(21,3),(22,4),(23,5),(24,6),(25,7),(26,8),(27,9),(28,10),(29,11),(30,12)] (by kernel_rfl) ?_
  refine zJ 1 12 ?_;refine zJ 2 11 ?_;refine qC 3 10 1 b1 ?_;refine qK 4 9 (fun f=>#[f 2]) (F':=100) (fun f X d hR=>?_) ?_
  · have e2:f 2=_:=hR.out 2 rfl;simp only[e2];refine(yn J A c a X (ha.below (m.trans d) an)).mono ?_;rw[Hx.out];rintro e w2 ⟨r,c1,rfl,hO,l⟩;exact⟨_,rfl,l,fun Y G=>⟨r,c1,rfl,(hO.mono (zK ak.out (m.trans d).bsize)).below G (zG _)⟩⟩
  refine qK 5 8 (fun f=>#[f 0,f 3]) (F':=92) (fun f X d hR=>?_) ?_
  · have Z:f 0=_:=hR.out 0 rfl;obtain⟨A3,c3,(v:f 3=_),o3⟩:=hR.out 3 rfl;simp only[Z,v];refine(uB _ A3 c3 _ X (i.out.ext F (m.trans d)).fr o3.rn (fun b p=>p.2) (i.out.six C) (by rw[zi (by omega)];exact C)).mono ?_;rintro e w2 ⟨o,rfl,H,l⟩;rw[zi (by omega)]at H;exact⟨(EV o),rfl,l,fun Y G=>⟨o,rfl,H⟩⟩
  refine zJ 6 7 ?_;refine zJ 7 6 ?_;refine qC 8 5 6 b2 ?_;refine qK 9 4 (fun f=>#[f 7]) (F':=100) (fun f X d hR=>?_) ?_
  · have e7:f 7=_:=hR.out 7 rfl;simp only[e7];refine(yn L A' c' b X (p.below (m.trans d) ao)).mono ?_;rw[Hy.out];rintro e w2 ⟨r,c1,rfl,hO,l⟩;exact⟨_,rfl,l,fun Y G=>⟨r,c1,rfl,(hO.mono (zK ak.out (m.trans d).bsize)).below G (zG _)⟩⟩
  refine qK 10 3 (fun f=>#[f 5,f 8]) (F':=92) (fun f X d hR=>?_) ?_
  · have N:f 5=_:=hR.out 5 rfl;obtain⟨A8,c8,(O:f 8=_),o8⟩:=hR.out 8 rfl;simp only[N,O];refine(uB _ A8 c8 _ X (i.out.ext F (m.trans d)).fr o8.rn (fun b p=>p.2) (i.out.six D) (by rw[zi (by omega)];exact D)).mono ?_;rintro e w2 ⟨o,rfl,H,l⟩;rw[zi (by omega)]at H;exact⟨(EV o),rfl,l,fun Y G=>⟨o,rfl,H⟩⟩
  refine zJ 11 2 ?_;refine qK 12 1 (fun f=>#[f 10]) (F':=105) (fun f X d hR=>?_) ?_
  · have ar:f 10=_:=hR.out 10 rfl;simp only[ar];refine(mY X (i.out.ext F (m.trans d)).fr).mono ?_;rintro e w2 ⟨rfl,l⟩;exact⟨(EV ol),rfl,l,fun _ _=>rfl⟩
  refine zv 13 0 [(18,0),(19,1),(20,2),(21,3),(22,4),(23,5),(24,6),(25,7),(26,8),(27,9),(28,10),(29,11)] (fun f X d hR K B=>?_) ?_
  · obtain⟨S,(s:f 4=_),h4⟩:=hR.out 4 rfl;obtain⟨T,(E:f 9=_),h9⟩:=hR.out 9 rfl;have al:f 11=_:=hR.out 11 rfl;simp only[yZ,s,E,al];refine⟨zU (by kernel_rfl) (gn (x:=S) (y:=T) (z:=ol) (.tmp 22) (.tmp 27) (.tmp 29) rfl rfl rfl rfl h4.elt.six h9.elt.six i.out.fr.fone.elt.six ?_)⟩;exact B.out _ (JV S T ol) _ (by simp only[yZ,s,E,al]) (zT _) trivial (fun _ _=>⟨S,T,rfl,h4,h9⟩)
  refine yF ⟨fun f X d hR af ag=>?_⟩;obtain⟨A3,c3,(v:f 3=_),o3⟩:=hR 3 (by decide);obtain⟨S,(s:f 4=_),h4⟩:=hR 4 (by decide);obtain⟨A8,c8,(O:f 8=_),o8⟩:=hR 8 (by decide);obtain⟨T,(E:f 9=_),h9⟩:=hR 9 (by decide);obtain⟨U,V,(am:f 12=_),fx,fy⟩:=hR 12 (by decide);simp only[yZ,v,s,O,E,am];clear hR af ag v s O E am;refine zO (fun K B=>⟨zU (by kernel_rfl) (vM (x:=U) (y:=V) (z:=ol) (.tmp 4) (.tmp 30) rfl rfl rfl rfl (d.at_ ah) rfl fx.elt.six fy.elt.six i.out.fr.fone.elt.six (fun Y ad ae au=>B.out _ _ ?_))⟩);refine zI ?_;go_wp2;exact cQ rfl rfl rfl ad fx.elt.six fy.elt.six i.out.fr.fone.elt.six ⟨_,_,_,rfl,⟨fx,fy,i.out.fr.fone⟩,ae.ext (aj.out.trans (m.trans d)) (by have:=W.out;omega)⟩
def fG (M x1 y1 z1 x2 y2 a:Nat):Nat×Nat×Nat:=let u1:=mm M z1 z1;let u2:=mm M a a;let u3:=mm M x1 u2;let u4:=mm M x2 u1;let u5:=mm M u2 a;let u6:=mm M y1 u5;let u7:=mm M u1 z1;let u8:=mm M y2 u7;let u9:=sm M u4 u3;let u10:=sm M u8 u6;let u11:=mm M u9 u9;let u12:=mm M u11 u9;let u13:=mm M u3 u11;let u14:=mm M u10 u10;let u15:=sm M u14 u12;let u16:=am M u13 u13;let u17:=sm M u15 u16;let u18:=sm M u13 u17;let u19:=mm M u10 u18;let u20:=mm M u6 u12;let u21:=sm M u19 u20;let u22:=mm M z1 a;let u23:=mm M u9 u22;if u9%M=0 then(if u10%M=0 then gj M x1 y1 z1 else(1,1,0))else(u17,u21,u23)
def aO (M x1 y1 z1 x2 y2 a:Nat):Nat×Nat×Nat:=if z1%M=0 then(x2,y2,a)else if a%M=0 then(x1,y1,z1)else fG M x1 y1 z1 x2 y2 a
theorem FJ.sz {M n x y z:Nat}{a ly lz:List Nat}(h:FJ M n a ly lz x y z):(nts (a++ly++lz)).toArray.size=18:=by rw[qZ,qk,zf,zf,h.x.elt.six,h.y.elt.six,h.z.elt.six]
theorem nJ (w:World)(a o2 o3:Obj):(((w.alloc a).alloc o2).alloc o3).heap[w.heap.size]?=some a∧(((w.alloc a).alloc o2).alloc o3).heap[w.heap.size+1]?=some o2∧(((w.alloc a).alloc o2).alloc o3).heap[w.heap.size+2]?=some o3∧(((w.alloc a).alloc o2).alloc o3).heap.size=w.heap.size+3 :=
 ⟨(zL _ _).at_ (wV w a o2).1,(zL _ _).at_ (wV w a o2).2.1,by have:=zS ((w.alloc a).alloc o2) o3;rwa [(wV w a o2).2.2]at this,by simp⟩
theorem zA7 {P0:Nat→Prop}{k g size n inv M bb:Nat}{pl nl bl xl yl ml ol rl tl fl av aw l1z aI aJ l2z:List Nat}{Ap An Ab Ax Ay:Option Addr}{cp cn cb cx cy x1 y1 z1 x2 y2 z2:Nat}(w:World)
 (hk:Num w P0 k g size n inv M bb pl nl bl xl yl ml ol rl tl fl Ap An Ab Ax Ay cp cn cb cx cy) (a9:∀ b,P0 b→b<w.heap.size) (hj:FJ M n av aw l1z x1 y1 z1) (bQ:FJ M n aI aJ l2z x2 y2 z2) :
 Calls Tryz.prog 75 #[.pointer (some ⟨k,0,none⟩),JV av aw l1z,JV aI aJ l2z] w fun e w'=>∃ V W Z,e=.returned (JV V W Z)∧FJ M n V W Z (aO M x1 y1 z1 x2 y2 z2).1 (aO M x1 y1 z1 x2 y2 z2).2.1 (aO M x1 y1 z1 x2 y2 z2).2.2∧Ext w w':=by
 obtain⟨cs,ba⟩:=eV ((nts (av++aw++l1z)).toArray)
 obtain⟨ct,bc⟩:=eV ((nts (aI++aJ++l2z)).toArray)
 obtain⟨W0,ay⟩:=eW (((w.alloc (.cells cs 123)).alloc (.cells ct 123)).alloc (.cells #[.int .u64 0,.int .u64 0,.int .u64 0,.int .u64 0,.int .u64 0,.int .u64 0,.int .u64 0,.int .u64 0,.int .u64 0,.int .u64 0,.int .u64 0,.int .u64 0,.int .u64 0,.int .u64 0,.int .u64 0,.int .u64 0,.int .u64 0,.int .u64 0] 123))
 obtain⟨q,hq⟩:=eV w.heap.size
 have a0:Ext w W0:=by rw[ay];exact((zL _ _).trans (zL _ _)).trans (zL _ _)
 obtain⟨an,au,aV,bg⟩:=nJ w (.cells cs 123) (.cells ct 123) (.cells #[.int .u64 0,.int .u64 0,.int .u64 0,.int .u64 0,.int .u64 0,.int .u64 0,.int .u64 0,.int .u64 0,.int .u64 0,.int .u64 0,.int .u64 0,.int .u64 0,.int .u64 0,.int .u64 0,.int .u64 0,.int .u64 0,.int .u64 0,.int .u64 0] 123)
 rw[←ay,hq]at an au aV bg
 have an:kI W0 q av aw l1z:=by rw[kI,ba];exact an
 have au:kI W0 (q+1) aI aJ l2z:=by rw[kI,bc];exact au
 have A:=zF (hk.ext a9 a0)
 have s:∀ b,P0 b→b<W0.heap.size:=fun b hb=>zH (a9 b hb) a0.bsize
 have k6:=A.out.c_f
 have B:=zF hj
 have G:=zF bQ
 have aW:=zF a0
 have dL:=zF bg
 rw[show JV av aw l1z=.agg cs by rw[JV,ba],show JV aI aJ l2z=.agg ct by rw[JV,bc]]
 clear a0 bg hk a9 hj bQ ba bc
 by_cases h1:z1%M=0
 · have aX:=zF h1;rw[show aO M x1 y1 z1 x2 y2 z2=(x2,y2,z2) by rw[aO,qg h1]];clear h1 k6;go_enter Tryz.func75,Tryz.ntmps75;go_upto_region 1 with fail;rw[←ay];have Hq:=zF hq;have bM:=zF ay;have c:=zT W0;clear hq ay
   refine zR 4 [0,1,3,7] [] (fun j f X=>match j with
    | 0=>f 0=.pointer (some ⟨q,12,none⟩)
    | 1=>∃ o,f 1=EV o∧FE M n o z1
    | 2=>f 2=.bool true
    | 3=>f 3=.bool true
    | _=>True) (by kernel_rfl) [(22,0),(23,1),(24,2),(21,3)] (by kernel_rfl) ?_
   refine zJ 1 3 ?_;refine lE 2 2 0 (fun _ a=>xV ((c.trans a).at_ an) B.out.x.elt.six B.out.y.elt.six) B.out.z ?_;refine qK 3 1 (fun f=>#[f 1]) (F':=104) (fun f X a hR=>?_) ?_
   · obtain⟨L,(d:f 1=_),h1⟩:=hR.out 1 rfl;simp only[d];refine(vL L X h1.elt.six).mono ?_;rintro e w2 ⟨rfl,Q⟩;rw[show decide (L=[0,0,0,0,0,0])=true by rw[decide_eq_decide.2 (h1.zero_iff (A.out.ext s (c.trans a)).fr.ff)];exact qm aX.out];exact⟨(.bool true),rfl,Q,fun _ _=>rfl⟩
   refine zt 4 0 2 ?_;refine yF ⟨fun f X a hR m i=>?_⟩;obtain⟨L,(d:f 1=_),h1⟩:=hR 1 (by decide);have D:f 3=_:=hR 3 (by decide);simp only[yZ,d,D];clear hR m i d D;refine zI ?_;replace c:=c.trans a;clear a;rename World=>X1_;go_upto_region 2 with fail;have aH:=c.at_ aV
   refine zR 1 [0,1] [] (fun j f X=>match j with
    | 0=>f 0=JV aI aJ l2z
    | _=>True) (by kernel_rfl) [(25,0)] (by kernel_rfl) ?_
   refine zv 1 0 [] (fun f X a hR K p=>?_) ?_
   · simp only[yZ];refine⟨zU (by kernel_rfl) (vp (v:=JV aI aJ l2z) 123 (.tmp 5) rfl rfl ((c.trans a).at_ au) Tryz.underlying123 rfl (by rw[G.out.sz];exact gg) rfl ?_)⟩;exact p.out _ (JV aI aJ l2z) _ (by simp only[yZ]) (zT _) trivial (fun _ _=>rfl)
   refine yF ⟨fun f X a hR m i=>?_⟩;have r:f 0=_:=hR 0 (by decide);simp only[yZ,r];clear hR m i r;refine zO (fun K p=>⟨zU (by kernel_rfl) (vM (x:=aI) (y:=aJ) (z:=l2z) (.tmp 6) (.tmp 25) rfl rfl rfl rfl (a.at_ aH) rfl G.out.x.elt.six G.out.y.elt.six G.out.z.elt.six (fun Y aF aG a1=>p.out _ _ ?_))⟩);refine zI ?_;go_wp2;exact cQ rfl rfl rfl aF G.out.x.elt.six G.out.y.elt.six G.out.z.elt.six ⟨_,_,_,rfl,G.out,aG.ext (aW.out.trans (c.trans a)) (by have:=Hq.out;omega)⟩
 by_cases h2:z2%M=0
 · have aX:=zF h1;have a8:=zF h2;rw[show aO M x1 y1 z1 x2 y2 z2=(x1,y1,z1) by rw[aO,qo h1,qg h2]];clear h1 h2 k6;go_enter Tryz.func75,Tryz.ntmps75;go_upto_region 1 with fail;rw[←ay];have Hq:=zF hq;have bM:=zF ay;have c:=zT W0;clear hq ay
   refine zR 4 [0,1,3,7] [] (fun j f X=>match j with
    | 0=>f 0=.pointer (some ⟨q,12,none⟩)
    | 1=>∃ o,f 1=EV o∧FE M n o z1
    | 2=>f 2=.bool false
    | 3=>f 3=.bool false
    | _=>True) (by kernel_rfl) [(22,0),(23,1),(24,2),(21,3)] (by kernel_rfl) ?_
   refine zJ 1 3 ?_;refine lE 2 2 0 (fun _ a=>xV ((c.trans a).at_ an) B.out.x.elt.six B.out.y.elt.six) B.out.z ?_;refine qK 3 1 (fun f=>#[f 1]) (F':=104) (fun f X a hR=>?_) ?_
   · obtain⟨L,(d:f 1=_),h1⟩:=hR.out 1 rfl;simp only[d];refine(vL L X h1.elt.six).mono ?_;rintro e w2 ⟨rfl,Q⟩;rw[show decide (L=[0,0,0,0,0,0])=false by rw[decide_eq_decide.2 (h1.zero_iff (A.out.ext s (c.trans a)).fr.ff)];exact jT aX.out];exact⟨(.bool false),rfl,Q,fun _ _=>rfl⟩
   refine zt 4 0 2 ?_;refine yF ⟨fun f X a hR m i=>?_⟩;obtain⟨L,(d:f 1=_),h1⟩:=hR 1 (by decide);have D:f 3=_:=hR 3 (by decide);simp only[yZ,d,D];clear hR m i d D;refine zI ?_;replace c:=c.trans a;clear a;rename World=>X1_;go_upto_region 3 with fail
   refine zR 4 [0,1,3,7] [] (fun j f X=>match j with
    | 0=>f 0=.pointer (some ⟨q+1,12,none⟩)
    | 1=>∃ o,f 1=EV o∧FE M n o z2
    | 2=>f 2=.bool true
    | 3=>f 3=.bool true
    | _=>True) (by kernel_rfl) [(27,0),(28,1),(29,2),(26,3)] (by kernel_rfl) ?_
   refine zJ 1 3 ?_;refine lE 2 2 0 (fun _ a=>xV ((c.trans a).at_ au) G.out.x.elt.six G.out.y.elt.six) G.out.z ?_;refine qK 3 1 (fun f=>#[f 1]) (F':=104) (fun f X a hR=>?_) ?_
   · obtain⟨L,(d:f 1=_),h1⟩:=hR.out 1 rfl;simp only[d];refine(vL L X h1.elt.six).mono ?_;rintro e w2 ⟨rfl,Q⟩;rw[show decide (L=[0,0,0,0,0,0])=true by rw[decide_eq_decide.2 (h1.zero_iff (A.out.ext s (c.trans a)).fr.ff)];exact qm a8.out];exact⟨(.bool true),rfl,Q,fun _ _=>rfl⟩
   refine zt 4 0 2 ?_;refine yF ⟨fun f X a hR m i=>?_⟩;obtain⟨L,(d:f 1=_),h1⟩:=hR 1 (by decide);have D:f 3=_:=hR 3 (by decide);simp only[yZ,d,D];clear hR m i d D;refine zI ?_;replace c:=c.trans a;clear a;rename World=>X2_;go_upto_region 4 with fail;have aH:=c.at_ aV
   refine zR 1 [0,1] [] (fun j f X=>match j with
    | 0=>f 0=JV av aw l1z
    | _=>True) (by kernel_rfl) [(30,0)] (by kernel_rfl) ?_
   refine zv 1 0 [] (fun f X a hR K p=>?_) ?_
   · simp only[yZ];refine⟨zU (by kernel_rfl) (vp (v:=JV av aw l1z) 123 (.tmp 4) rfl rfl ((c.trans a).at_ an) Tryz.underlying123 rfl (by rw[B.out.sz];exact gg) rfl ?_)⟩;exact p.out _ (JV av aw l1z) _ (by simp only[yZ]) (zT _) trivial (fun _ _=>rfl)
   refine yF ⟨fun f X a hR m i=>?_⟩;have r:f 0=_:=hR 0 (by decide);simp only[yZ,r];clear hR m i r;refine zO (fun K p=>⟨zU (by kernel_rfl) (vM (x:=av) (y:=aw) (z:=l1z) (.tmp 6) (.tmp 30) rfl rfl rfl rfl (a.at_ aH) rfl B.out.x.elt.six B.out.y.elt.six B.out.z.elt.six (fun Y aF aG a1=>p.out _ _ ?_))⟩);refine zI ?_;go_wp2;exact cQ rfl rfl rfl aF B.out.x.elt.six B.out.y.elt.six B.out.z.elt.six ⟨_,_,_,rfl,B.out,aG.ext (aW.out.trans (c.trans a)) (by have:=Hq.out;omega)⟩
 · have aX:=zF h1;have a8:=zF h2;rw[show aO M x1 y1 z1 x2 y2 z2=fG M x1 y1 z1 x2 y2 z2 by rw[aO,qo h1,qo h2]];clear h1 h2;obtain⟨u1,bo⟩:=eG (mm M z1 z1);obtain⟨u2,bA⟩:=eG (mm M z2 z2);obtain⟨u3,bF⟩:=eG (mm M x1 u2);obtain⟨u4,bG⟩:=eG (mm M x2 u1);obtain⟨u5,bH⟩:=eG (mm M u2 z2);obtain⟨u6,bI⟩:=eG (mm M y1 u5);obtain⟨u7,bJ⟩:=eG (mm M u1 z1);obtain⟨u8,bK⟩:=eG (mm M y2 u7);obtain⟨u9,bL⟩:=eG (sm M u4 u3);obtain⟨u10,bp⟩:=eG (sm M u8 u6);obtain⟨u11,bq⟩:=eG (mm M u9 u9);obtain⟨u12,br⟩:=eG (mm M u11 u9);obtain⟨u13,bs⟩:=eG (mm M u3 u11);obtain⟨b4,bt⟩:=eG (mm M u10 u10);obtain⟨b5,bu⟩:=eG (sm M b4 u12);obtain⟨u16,bv⟩:=eG (am M u13 u13);obtain⟨u17,bw⟩:=eG (sm M b5 u16);obtain⟨u18,bx⟩:=eG (sm M u13 u17);obtain⟨u19,bz⟩:=eG (mm M u10 u18);obtain⟨b6,bB⟩:=eG (mm M u6 u12);obtain⟨u21,bC⟩:=eG (sm M u19 b6);obtain⟨b7,bD⟩:=eG (mm M z1 z2);obtain⟨u23,bE⟩:=eG (mm M u9 b7);have be:=zF (show fG M x1 y1 z1 x2 y2 z2=if u9%M=0 then(if u10%M=0 then gj M x1 y1 z1 else(1,1,0))else(u17,u21,u23) by simp only[fG,bo.out,bA.out,bF.out,bG.out,bH.out,bI.out,bJ.out,bK.out,bL.out,bp.out,bq.out,br.out,bs.out,bt.out,bu.out,bv.out,bw.out,bx.out,bz.out,bB.out,bC.out,bD.out,bE.out]);obtain⟨res,bd⟩:=eV (fG M x1 y1 z1 x2 y2 z2);rw[bd];have a4:=zF bd;clear bd;go_enter Tryz.func75,Tryz.ntmps75;go_upto_region 1 with fail;rw[←ay];have Hq:=zF hq;have bM:=zF ay;have c:=zT W0;clear hq ay
   refine zR 4 [0,1,3,7] [] (fun j f X=>match j with
    | 0=>f 0=.pointer (some ⟨q,12,none⟩)
    | 1=>∃ o,f 1=EV o∧FE M n o z1
    | 2=>f 2=.bool false
    | 3=>f 3=.bool false
    | _=>True) (by kernel_rfl) [(22,0),(23,1),(24,2),(21,3)] (by kernel_rfl) ?_
   refine zJ 1 3 ?_;refine lE 2 2 0 (fun _ a=>xV ((c.trans a).at_ an) B.out.x.elt.six B.out.y.elt.six) B.out.z ?_;refine qK 3 1 (fun f=>#[f 1]) (F':=104) (fun f X a hR=>?_) ?_
   · obtain⟨L,(d:f 1=_),h1⟩:=hR.out 1 rfl;simp only[d];refine(vL L X h1.elt.six).mono ?_;rintro e w2 ⟨rfl,Q⟩;rw[show decide (L=[0,0,0,0,0,0])=false by rw[decide_eq_decide.2 (h1.zero_iff (A.out.ext s (c.trans a)).fr.ff)];exact jT aX.out];exact⟨(.bool false),rfl,Q,fun _ _=>rfl⟩
   refine zt 4 0 2 ?_;refine yF ⟨fun f X a hR m i=>?_⟩;obtain⟨L,(d:f 1=_),h1⟩:=hR 1 (by decide);have D:f 3=_:=hR 3 (by decide);simp only[yZ,d,D];clear hR m i d D;refine zI ?_;replace c:=c.trans a;clear a;rename World=>X1_;go_upto_region 3 with fail
   refine zR 4 [0,1,3,7] [] (fun j f X=>match j with
    | 0=>f 0=.pointer (some ⟨q+1,12,none⟩)
    | 1=>∃ o,f 1=EV o∧FE M n o z2
    | 2=>f 2=.bool false
    | 3=>f 3=.bool false
    | _=>True) (by kernel_rfl) [(27,0),(28,1),(29,2),(26,3)] (by kernel_rfl) ?_
   refine zJ 1 3 ?_;refine lE 2 2 0 (fun _ a=>xV ((c.trans a).at_ au) G.out.x.elt.six G.out.y.elt.six) G.out.z ?_;refine qK 3 1 (fun f=>#[f 1]) (F':=104) (fun f X a hR=>?_) ?_
   · obtain⟨L,(d:f 1=_),h1⟩:=hR.out 1 rfl;simp only[d];refine(vL L X h1.elt.six).mono ?_;rintro e w2 ⟨rfl,Q⟩;rw[show decide (L=[0,0,0,0,0,0])=false by rw[decide_eq_decide.2 (h1.zero_iff (A.out.ext s (c.trans a)).fr.ff)];exact jT a8.out];exact⟨(.bool false),rfl,Q,fun _ _=>rfl⟩
   refine zt 4 0 2 ?_;refine yF ⟨fun f X a hR m i=>?_⟩;obtain⟨L,(d:f 1=_),h1⟩:=hR 1 (by decide);have D:f 3=_:=hR 3 (by decide);simp only[yZ,d,D];clear hR m i d D;refine zI ?_;replace c:=c.trans a;clear a;rename World=>X2_;have dI:=c.cell k6;go_upto_region 6 with fail;clear dI
   refine zZ (by kernel_rfl) 14 [0,0,2,0,8,31,0,0,128,0,512,2047,0,0,16383,32767] [12,13] (fun j f X=>match j with
    | 0=>f 0=.pointer (some ⟨g,0,none⟩)
    | 1=>f 1=.pointer (some ⟨q,12,none⟩)
    | 2=>∃ o,f 2=EV o∧FE M n o z1
    | 3=>f 3=.pointer (some ⟨q,12,none⟩)
    | 4=>∃ o,f 4=EV o∧FE M n o z1
    | 5=>∃ o,f 5=EV o∧FE M n o u1
    | 6=>f 6=.pointer (some ⟨g,0,none⟩)
    | 7=>f 7=.pointer (some ⟨q+1,12,none⟩)
    | 8=>∃ o,f 8=EV o∧FE M n o z2
    | 9=>f 9=.pointer (some ⟨q+1,12,none⟩)
    | 10=>∃ o,f 10=EV o∧FE M n o z2
    | 11=>∃ o,f 11=EV o∧FE M n o u2
    | 12=>∃ b,f 12=.pointer (some ⟨b,0,none⟩)∧X2_.heap.size≤b∧X.heap[b]?=some (.cells #[.int .u64 0,.int .u64 0,.int .u64 0,.int .u64 0,.int .u64 0,.int .u64 0] 109 (0,0))
    | 13=>∃ b,f 13=.pointer (some ⟨b,0,none⟩)∧X2_.heap.size≤b∧X.heap[b]?=some (.cells #[.int .u64 0,.int .u64 0,.int .u64 0,.int .u64 0,.int .u64 0,.int .u64 0] 109 (0,0))
    | _=>True) (by kernel_rfl) [(35,0),(36,1),(37,2),(38,3),(39,4),(40,5),(41,6),(42,7),(43,8),(44,9),(45,10),(46,11),(8,12),(9,13)] (by kernel_rfl) ?_
   refine zJ 1 13 ?_;refine zJ 2 12 ?_;refine lE 3 11 1 (fun _ a=>xV ((c.trans a).at_ an) B.out.x.elt.six B.out.y.elt.six) B.out.z ?_;refine zJ 4 10 ?_;refine lE 5 9 3 (fun _ a=>xV ((c.trans a).at_ an) B.out.x.elt.six B.out.y.elt.six) B.out.z ?_;refine fc 6 8 0 2 4 (fun X a _ _ h l=>kD X (A.out.ext s (c.trans a)).fr.ff h l) bo.out ?_;refine zJ 7 7 ?_;refine zJ 8 6 ?_;refine lE 9 5 7 (fun _ a=>xV ((c.trans a).at_ au) G.out.x.elt.six G.out.y.elt.six) G.out.z ?_;refine zJ 10 4 ?_;refine lE 11 3 9 (fun _ a=>xV ((c.trans a).at_ au) G.out.x.elt.six G.out.y.elt.six) G.out.z ?_;refine fc 12 2 6 8 10 (fun X a _ _ h l=>kD X (A.out.ext s (c.trans a)).fr.ff h l) bA.out ?_;refine kr 13 1 ?_;refine kr 14 0 ?_;refine yF ⟨fun f X a hR m i=>?_⟩;obtain⟨o2,(N:f 2=_),h2⟩:=hR 2 (by decide);obtain⟨o4,(e4:f 4=_),h4⟩:=hR 4 (by decide);obtain⟨o5,(e5:f 5=_),h5⟩:=hR 5 (by decide);obtain⟨o8,(e8:f 8=_),h8⟩:=hR 8 (by decide);obtain⟨aS,(ae:f 10=_),aD⟩:=hR 10 (by decide);obtain⟨bn,(af:f 11=_),aE⟩:=hR 11 (by decide);obtain⟨O,(aC:f 12=_),bW,dA⟩:=hR 12 (by decide);obtain⟨P,(ar:f 13=_),bX,dB⟩:=hR 13 (by decide);have bi:P≠O:=fun e=>i 13 12 (by decide) (by decide) rfl rfl (by decide) (by rw[ar,aC,e]);simp only[yZ,N,e4,e5,e8,ae,af,aC,ar];clear hR m i N e4 e5 e8 ae af aC ar;refine zO (fun K p=>⟨zU (by kernel_rfl) (qi (.tmp 8) (.tmp 40) rfl rfl rfl rfl (dA) ku h5.elt.six (fun dM a2=>p.out _ _ ?_))⟩);refine zO (fun K p=>⟨zU (by kernel_rfl) (qi (.tmp 9) (.tmp 46) rfl rfl rfl rfl (a2.other bi (dB)) ku aE.elt.six (fun Y3_15 a3=>p.out _ _ ?_))⟩);refine zI ?_;have t:VE Y3_15 M n O u1:=(a3.ve (xa bi) (a2.mk' h5))
   have d1:=zK c.bsize bW;have u:VE Y3_15 M n P u2:=(a3.mk' aE)
   have d2:=zK c.bsize bX;have dS:O≠P:=(xa bi)
   have U:Ext W0 Y3_15:=(a3.ext (a2.ext (c.trans a) (zK c.bsize bW)) (zK c.bsize bX))
   clear c a a2 a3 h2 h4 h5 h8 aD aE ;have c:=U;clear U;go_upto_region 7 with fail
   refine zZ (by kernel_rfl) 12 [0,0,2,0,15,0,0,64,0,511,0,0,4095,8191] [10,11] (fun j f X=>match j with
    | 0=>f 0=.pointer (some ⟨g,0,none⟩)
    | 1=>f 1=.pointer (some ⟨q,0,none⟩)
    | 2=>∃ o,f 2=EV o∧FE M n o x1
    | 3=>∃ o,f 3=EV o∧FE M n o u2
    | 4=>∃ o,f 4=EV o∧FE M n o u3
    | 5=>f 5=.pointer (some ⟨g,0,none⟩)
    | 6=>f 6=.pointer (some ⟨q+1,0,none⟩)
    | 7=>∃ o,f 7=EV o∧FE M n o x2
    | 8=>∃ o,f 8=EV o∧FE M n o u1
    | 9=>∃ o,f 9=EV o∧FE M n o u4
    | 10=>∃ b,f 10=.pointer (some ⟨b,0,none⟩)∧Y3_15.heap.size≤b∧X.heap[b]?=some (.cells #[.int .u64 0,.int .u64 0,.int .u64 0,.int .u64 0,.int .u64 0,.int .u64 0] 109 (0,0))
    | 11=>∃ b,f 11=.pointer (some ⟨b,0,none⟩)∧Y3_15.heap.size≤b∧X.heap[b]?=some (.cells #[.int .u64 0,.int .u64 0,.int .u64 0,.int .u64 0,.int .u64 0,.int .u64 0] 109 (0,0))
    | _=>True) (by kernel_rfl) [(47,0),(48,1),(49,2),(50,3),(51,4),(52,5),(53,6),(54,7),(55,8),(56,9),(10,10),(11,11)] (by kernel_rfl) ?_
   refine zJ 1 11 ?_;refine zJ 2 10 ?_;refine lE 3 9 1 (fun _ a=>kI.rx ((c.trans a).at_ an)) B.out.x ?_;refine lX 4 8 (fun X a=>let ⟨o,hbl,ho⟩:=u.ext a;⟨o,hbl.range,ho⟩) ?_;refine fc 5 7 0 2 3 (fun X a _ _ h l=>kD X (A.out.ext s (c.trans a)).fr.ff h l) bF.out ?_;refine zJ 6 6 ?_;refine zJ 7 5 ?_;refine lE 8 4 6 (fun _ a=>kI.rx ((c.trans a).at_ au)) G.out.x ?_;refine lX 9 3 (fun X a=>let ⟨o,hbl,ho⟩:=t.ext a;⟨o,hbl.range,ho⟩) ?_;refine fc 10 2 5 7 8 (fun X a _ _ h l=>kD X (A.out.ext s (c.trans a)).fr.ff h l) bG.out ?_;refine kr 11 1 ?_;refine kr 12 0 ?_;refine yF ⟨fun f X a hR m i=>?_⟩;obtain⟨o2,(N:f 2=_),h2⟩:=hR 2 (by decide);obtain⟨o3,(D:f 3=_),h3⟩:=hR 3 (by decide);obtain⟨o4,(e4:f 4=_),h4⟩:=hR 4 (by decide);obtain⟨o7,(e7:f 7=_),h7⟩:=hR 7 (by decide);obtain⟨o8,(e8:f 8=_),h8⟩:=hR 8 (by decide);obtain⟨o9,(e9:f 9=_),h9⟩:=hR 9 (by decide);obtain⟨R,(ae:f 10=_),bY,dC⟩:=hR 10 (by decide);obtain⟨S,(af:f 11=_),bZ,dD⟩:=hR 11 (by decide);have bj:S≠R:=fun e=>i 11 10 (by decide) (by decide) rfl rfl (by decide) (by rw[af,ae,e]);simp only[yZ,N,D,e4,e7,e8,e9,ae,af];clear hR m i N D e4 e7 e8 e9 ae af;refine zO (fun K p=>⟨zU (by kernel_rfl) (qi (.tmp 10) (.tmp 51) rfl rfl rfl rfl (dC) ku h4.elt.six (fun dN aT=>p.out _ _ ?_))⟩);refine zO (fun K p=>⟨zU (by kernel_rfl) (qi (.tmp 11) (.tmp 56) rfl rfl rfl rfl (aT.other bj (dD)) ku h9.elt.six (fun Y4_13 aU=>p.out _ _ ?_))⟩);refine zI ?_;have co:O≠R:=by have:=(let ⟨_,h,_⟩:=t;h.lt:O<Y3_15.heap.size);omega
   have cq:O≠S:=by have:=(let ⟨_,h,_⟩:=t;h.lt:O<Y3_15.heap.size);omega
   replace t:=(aU.ve cq (aT.ve co (t.ext a)))
   have cE:P≠R:=by have:=(let ⟨_,h,_⟩:=u;h.lt:P<Y3_15.heap.size);omega
   have cF:P≠S:=by have:=(let ⟨_,h,_⟩:=u;h.lt:P<Y3_15.heap.size);omega
   replace u:=(aU.ve cF (aT.ve cE (u.ext a)))
   have C:VE Y4_13 M n R u3:=(aU.ve (xa bj) (aT.mk' h4))
   have d3:=zK c.bsize bY;have E:VE Y4_13 M n S u4:=(aU.mk' h9)
   have d4:=zK c.bsize bZ;have dT:R≠S:=(xa bj)
   have U:Ext W0 Y4_13:=(aU.ext (aT.ext (c.trans a) (zK c.bsize bY)) (zK c.bsize bZ))
   clear c a aT aU h2 h3 h4 h7 h8 h9;have c:=U;clear U;go_upto_region 8 with fail
   refine zZ (by kernel_rfl) 20 [0,0,2,0,0,0,32,120,255,0,0,1024,0,0,0,16384,61951,131071,0,0,1048575,2097151] [18,19] (fun j f X=>match j with
    | 0=>f 0=.pointer (some ⟨g,0,none⟩)
    | 1=>f 1=.pointer (some ⟨q,6,none⟩)
    | 2=>∃ o,f 2=EV o∧FE M n o y1
    | 3=>f 3=.pointer (some ⟨g,0,none⟩)
    | 4=>∃ o,f 4=EV o∧FE M n o u2
    | 5=>f 5=.pointer (some ⟨q+1,12,none⟩)
    | 6=>∃ o,f 6=EV o∧FE M n o z2
    | 7=>∃ o,f 7=EV o∧FE M n o u5
    | 8=>∃ o,f 8=EV o∧FE M n o u6
    | 9=>f 9=.pointer (some ⟨g,0,none⟩)
    | 10=>f 10=.pointer (some ⟨q+1,6,none⟩)
    | 11=>∃ o,f 11=EV o∧FE M n o y2
    | 12=>f 12=.pointer (some ⟨g,0,none⟩)
    | 13=>∃ o,f 13=EV o∧FE M n o u1
    | 14=>f 14=.pointer (some ⟨q,12,none⟩)
    | 15=>∃ o,f 15=EV o∧FE M n o z1
    | 16=>∃ o,f 16=EV o∧FE M n o u7
    | 17=>∃ o,f 17=EV o∧FE M n o u8
    | 18=>∃ b,f 18=.pointer (some ⟨b,0,none⟩)∧Y4_13.heap.size≤b∧X.heap[b]?=some (.cells #[.int .u64 0,.int .u64 0,.int .u64 0,.int .u64 0,.int .u64 0,.int .u64 0] 109 (0,0))
    | 19=>∃ b,f 19=.pointer (some ⟨b,0,none⟩)∧Y4_13.heap.size≤b∧X.heap[b]?=some (.cells #[.int .u64 0,.int .u64 0,.int .u64 0,.int .u64 0,.int .u64 0,.int .u64 0] 109 (0,0))
    | _=>True) (by kernel_rfl) [(57,0),(58,1),(59,2),(60,3),(61,4),(62,5),(63,6),(64,7),(65,8),(66,9),(67,10),(68,11),(69,12),(70,13),(71,14),(72,15),(73,16),(74,17),(12,18),(13,19)] (by kernel_rfl) ?_
   refine zJ 1 19 ?_;refine zJ 2 18 ?_;refine lE 3 17 1 (fun _ a=>kI.ry ((c.trans a).at_ an) B.out.x.elt.six) B.out.y ?_;refine zJ 4 16 ?_;refine lX 5 15 (fun X a=>let ⟨o,hbl,ho⟩:=u.ext a;⟨o,hbl.range,ho⟩) ?_;refine zJ 6 14 ?_;refine lE 7 13 5 (fun _ a=>xV ((c.trans a).at_ au) G.out.x.elt.six G.out.y.elt.six) G.out.z ?_;refine fc 8 12 3 4 6 (fun X a _ _ h l=>kD X (A.out.ext s (c.trans a)).fr.ff h l) bH.out ?_;refine fc 9 11 0 2 7 (fun X a _ _ h l=>kD X (A.out.ext s (c.trans a)).fr.ff h l) bI.out ?_;refine zJ 10 10 ?_;refine zJ 11 9 ?_;refine lE 12 8 10 (fun _ a=>kI.ry ((c.trans a).at_ au) G.out.x.elt.six) G.out.y ?_;refine zJ 13 7 ?_;refine lX 14 6 (fun X a=>let ⟨o,hbl,ho⟩:=t.ext a;⟨o,hbl.range,ho⟩) ?_;refine zJ 15 5 ?_;refine lE 16 4 14 (fun _ a=>xV ((c.trans a).at_ an) B.out.x.elt.six B.out.y.elt.six) B.out.z ?_;refine fc 17 3 12 13 15 (fun X a _ _ h l=>kD X (A.out.ext s (c.trans a)).fr.ff h l) bJ.out ?_;refine fc 18 2 9 11 16 (fun X a _ _ h l=>kD X (A.out.ext s (c.trans a)).fr.ff h l) bK.out ?_;refine kr 19 1 ?_;refine kr 20 0 ?_;refine yF ⟨fun f X a hR m i=>?_⟩;obtain⟨o2,(N:f 2=_),h2⟩:=hR 2 (by decide);obtain⟨o4,(e4:f 4=_),h4⟩:=hR 4 (by decide);obtain⟨o6,(e6:f 6=_),h6⟩:=hR 6 (by decide);obtain⟨o7,(e7:f 7=_),h7⟩:=hR 7 (by decide);obtain⟨o8,(e8:f 8=_),h8⟩:=hR 8 (by decide);obtain⟨bn,(af:f 11=_),aE⟩:=hR 11 (by decide);obtain⟨d9,(ar:f 13=_),ds⟩:=hR 13 (by decide);obtain⟨ea,(bN:f 15=_),dt⟩:=hR 15 (by decide);obtain⟨eb,(bO:f 16=_),du⟩:=hR 16 (by decide);obtain⟨ec,(bP:f 17=_),a7⟩:=hR 17 (by decide);obtain⟨aa,(a5:f 18=_),b0,dE⟩:=hR 18 (by decide);obtain⟨ab,(a6:f 19=_),b1,dF⟩:=hR 19 (by decide);have bk:ab≠aa:=fun e=>i 19 18 (by decide) (by decide) rfl rfl (by decide) (by rw[a6,a5,e]);simp only[yZ,N,e4,e6,e7,e8,af,ar,bN,bO,bP,a5,a6];clear hR m i N e4 e6 e7 e8 af ar bN bO bP a5 a6;refine zO (fun K p=>⟨zU (by kernel_rfl) (qi (.tmp 12) (.tmp 65) rfl rfl rfl rfl (dE) ku h8.elt.six (fun dO aM=>p.out _ _ ?_))⟩);refine zO (fun K p=>⟨zU (by kernel_rfl) (qi (.tmp 13) (.tmp 74) rfl rfl rfl rfl (aM.other bk (dF)) ku a7.elt.six (fun Y5_21 aN=>p.out _ _ ?_))⟩);refine zI ?_;have cr:O≠aa:=by have:=(let ⟨_,h,_⟩:=t;h.lt:O<Y4_13.heap.size);omega
   have cu:O≠ab:=by have:=(let ⟨_,h,_⟩:=t;h.lt:O<Y4_13.heap.size);omega
   replace t:=(aN.ve cu (aM.ve cr (t.ext a)))
   have cG:P≠aa:=by have:=(let ⟨_,h,_⟩:=u;h.lt:P<Y4_13.heap.size);omega
   have cH:P≠ab:=by have:=(let ⟨_,h,_⟩:=u;h.lt:P<Y4_13.heap.size);omega
   replace u:=(aN.ve cH (aM.ve cG (u.ext a)))
   have cP:R≠aa:=by have:=(let ⟨_,h,_⟩:=C;h.lt:R<Y4_13.heap.size);omega
   have cR:R≠ab:=by have:=(let ⟨_,h,_⟩:=C;h.lt:R<Y4_13.heap.size);omega
   replace C:=(aN.ve cR (aM.ve cP (C.ext a)))
   have cZ:S≠aa:=by have:=(let ⟨_,h,_⟩:=E;h.lt:S<Y4_13.heap.size);omega
   have c0:S≠ab:=by have:=(let ⟨_,h,_⟩:=E;h.lt:S<Y4_13.heap.size);omega
   replace E:=(aN.ve c0 (aM.ve cZ (E.ext a)))
   have H:VE Y5_21 M n aa u6:=(aN.ve (xa bk) (aM.mk' h8))
   have d5:=zK c.bsize b0;have I:VE Y5_21 M n ab u8:=(aN.mk' a7)
   have d6:=zK c.bsize b1;have dU:aa≠ab:=(xa bk)
   have U:Ext W0 Y5_21:=(aN.ext (aM.ext (c.trans a) (zK c.bsize b0)) (zK c.bsize b1))
   clear c a aM aN h2 h4 h6 h7 h8 aE ds dt du a7;have c:=U;clear U;go_upto_region 9 with fail
   refine zZ (by kernel_rfl) 10 [0,0,0,7,0,0,0,127,0,0,1023,2047] [8,9] (fun j f X=>match j with
    | 0=>f 0=.pointer (some ⟨g,0,none⟩)
    | 1=>∃ o,f 1=EV o∧FE M n o u4
    | 2=>∃ o,f 2=EV o∧FE M n o u3
    | 3=>∃ o,f 3=EV o∧FE M n o u9
    | 4=>f 4=.pointer (some ⟨g,0,none⟩)
    | 5=>∃ o,f 5=EV o∧FE M n o u8
    | 6=>∃ o,f 6=EV o∧FE M n o u6
    | 7=>∃ o,f 7=EV o∧FE M n o u10
    | 8=>∃ b,f 8=.pointer (some ⟨b,0,none⟩)∧Y5_21.heap.size≤b∧X.heap[b]?=some (.cells #[.int .u64 0,.int .u64 0,.int .u64 0,.int .u64 0,.int .u64 0,.int .u64 0] 109 (0,0))
    | 9=>∃ b,f 9=.pointer (some ⟨b,0,none⟩)∧Y5_21.heap.size≤b∧X.heap[b]?=some (.cells #[.int .u64 0,.int .u64 0,.int .u64 0,.int .u64 0,.int .u64 0,.int .u64 0] 109 (0,0))
    | _=>True) (by kernel_rfl) [(75,0),(76,1),(77,2),(78,3),(79,4),(80,5),(81,6),(82,7),(14,8),(15,9)] (by kernel_rfl) ?_
   refine zJ 1 9 ?_;refine lX 2 8 (fun X a=>let ⟨o,hbl,ho⟩:=E.ext a;⟨o,hbl.range,ho⟩) ?_;refine lX 3 7 (fun X a=>let ⟨o,hbl,ho⟩:=C.ext a;⟨o,hbl.range,ho⟩) ?_;refine fc 4 6 0 1 2 (fun X a _ _ h l=>yI X (A.out.ext s (c.trans a)).fr.ff h l) bL.out ?_;refine zJ 5 5 ?_;refine lX 6 4 (fun X a=>let ⟨o,hbl,ho⟩:=I.ext a;⟨o,hbl.range,ho⟩) ?_;refine lX 7 3 (fun X a=>let ⟨o,hbl,ho⟩:=H.ext a;⟨o,hbl.range,ho⟩) ?_;refine fc 8 2 4 5 6 (fun X a _ _ h l=>yI X (A.out.ext s (c.trans a)).fr.ff h l) bp.out ?_;refine kr 9 1 ?_;refine kr 10 0 ?_;refine yF ⟨fun f X a hR m i=>?_⟩;obtain⟨L,(d:f 1=_),h1⟩:=hR 1 (by decide);obtain⟨o2,(N:f 2=_),h2⟩:=hR 2 (by decide);obtain⟨o3,(D:f 3=_),h3⟩:=hR 3 (by decide);obtain⟨o5,(e5:f 5=_),h5⟩:=hR 5 (by decide);obtain⟨o6,(e6:f 6=_),h6⟩:=hR 6 (by decide);obtain⟨o7,(e7:f 7=_),h7⟩:=hR 7 (by decide);obtain⟨ac,(e8:f 8=_),b2,dG⟩:=hR 8 (by decide);obtain⟨ad,(e9:f 9=_),b3,dH⟩:=hR 9 (by decide);have bm:ad≠ac:=fun e=>i 9 8 (by decide) (by decide) rfl rfl (by decide) (by rw[e9,e8,e]);simp only[yZ,d,N,D,e5,e6,e7,e8,e9];clear hR m i d N D e5 e6 e7 e8 e9;refine zO (fun K p=>⟨zU (by kernel_rfl) (qi (.tmp 14) (.tmp 78) rfl rfl rfl rfl (dG) ku h3.elt.six (fun dP aA=>p.out _ _ ?_))⟩);refine zO (fun K p=>⟨zU (by kernel_rfl) (qi (.tmp 15) (.tmp 82) rfl rfl rfl rfl (aA.other bm (dH)) ku h7.elt.six (fun Y6_11 aB=>p.out _ _ ?_))⟩);refine zI ?_;have cv:O≠ac:=by have:=(let ⟨_,h,_⟩:=t;h.lt:O<Y5_21.heap.size);omega
   have cw:O≠ad:=by have:=(let ⟨_,h,_⟩:=t;h.lt:O<Y5_21.heap.size);omega
   replace t:=(aB.ve cw (aA.ve cv (t.ext a)))
   have cI:P≠ac:=by have:=(let ⟨_,h,_⟩:=u;h.lt:P<Y5_21.heap.size);omega
   have cJ:P≠ad:=by have:=(let ⟨_,h,_⟩:=u;h.lt:P<Y5_21.heap.size);omega
   replace u:=(aB.ve cJ (aA.ve cI (u.ext a)))
   have cS:R≠ac:=by have:=(let ⟨_,h,_⟩:=C;h.lt:R<Y5_21.heap.size);omega
   have cT:R≠ad:=by have:=(let ⟨_,h,_⟩:=C;h.lt:R<Y5_21.heap.size);omega
   replace C:=(aB.ve cT (aA.ve cS (C.ext a)))
   have c1:S≠ac:=by have:=(let ⟨_,h,_⟩:=E;h.lt:S<Y5_21.heap.size);omega
   have c2:S≠ad:=by have:=(let ⟨_,h,_⟩:=E;h.lt:S<Y5_21.heap.size);omega
   replace E:=(aB.ve c2 (aA.ve c1 (E.ext a)))
   have c8:aa≠ac:=by have:=(let ⟨_,h,_⟩:=H;h.lt:aa<Y5_21.heap.size);omega
   have c9:aa≠ad:=by have:=(let ⟨_,h,_⟩:=H;h.lt:aa<Y5_21.heap.size);omega
   replace H:=(aB.ve c9 (aA.ve c8 (H.ext a)))
   have df:ab≠ac:=by have:=(let ⟨_,h,_⟩:=I;h.lt:ab<Y5_21.heap.size);omega
   have dg:ab≠ad:=by have:=(let ⟨_,h,_⟩:=I;h.lt:ab<Y5_21.heap.size);omega
   replace I:=(aB.ve dg (aA.ve df (I.ext a)))
   have F:VE Y6_11 M n ac u9:=(aB.ve (xa bm) (aA.mk' h3))
   have d7:=zK c.bsize b2;have J:VE Y6_11 M n ad u10:=(aB.mk' h7)
   have d8:=zK c.bsize b3;have dV:ac≠ad:=(xa bm)
   have U:Ext W0 Y6_11:=(aB.ext (aA.ext (c.trans a) (zK c.bsize b2)) (zK c.bsize b3))
   clear c a aA aB h1 h2 h3 h5 h6 h7;have c:=U;clear U;by_cases hh:u9%M=0
   · by_cases hr:u10%M=0
     · have aY:=zF hh;have bf:=zF hr;obtain rfl:res=gj M x1 y1 z1:=by rw[←a4.out,be.out,qg hh,qg hr]
       clear hh hr;go_upto_region 10 with fail
       refine zR 2 [0,1] [] (fun j f X=>match j with
        | 0=>∃ o,f 0=EV o∧FE M n o u9
        | 1=>f 1=.bool true
        | _=>True) (by kernel_rfl) [(83,0),(84,1)] (by kernel_rfl) ?_
       refine lX 1 1 (fun X a=>let ⟨o,hbl,ho⟩:=F.ext a;⟨o,hbl.range,ho⟩) ?_;refine qK 2 0 (fun f=>#[f 0]) (F':=104) (fun f X a hR=>?_) ?_
       · obtain⟨o0,(r:f 0=_),T⟩:=hR.out 0 rfl;simp only[r];refine(vL o0 X T.elt.six).mono ?_;rintro e w2 ⟨rfl,Q⟩;rw[show decide (o0=[0,0,0,0,0,0])=true by rw[decide_eq_decide.2 (T.zero_iff (A.out.ext s (c.trans a)).fr.ff)];exact qm aY.out];exact⟨(.bool true),rfl,Q,fun _ _=>rfl⟩
       refine yF ⟨fun f X a hR m i=>?_⟩;obtain⟨o0,(r:f 0=_),T⟩:=hR 0 (by decide);have d:f 1=_:=hR 1 (by decide);simp only[yZ,r,d];clear hR m i r d;refine zI ?_;replace t:=t.ext a;replace u:=u.ext a;replace C:=C.ext a;replace E:=E.ext a;replace H:=H.ext a;replace I:=I.ext a;replace F:=F.ext a;replace J:=J.ext a;replace c:=c.trans a;clear a;rename World=>X7_;go_upto_region 11 with fail
       refine zR 2 [0,1] [] (fun j f X=>match j with
        | 0=>∃ o,f 0=EV o∧FE M n o u10
        | 1=>f 1=.bool true
        | _=>True) (by kernel_rfl) [(85,0),(86,1)] (by kernel_rfl) ?_
       refine lX 1 1 (fun X a=>let ⟨o,hbl,ho⟩:=J.ext a;⟨o,hbl.range,ho⟩) ?_;refine qK 2 0 (fun f=>#[f 0]) (F':=104) (fun f X a hR=>?_) ?_
       · obtain⟨o0,(r:f 0=_),T⟩:=hR.out 0 rfl;simp only[r];refine(vL o0 X T.elt.six).mono ?_;rintro e w2 ⟨rfl,Q⟩;rw[show decide (o0=[0,0,0,0,0,0])=true by rw[decide_eq_decide.2 (T.zero_iff (A.out.ext s (c.trans a)).fr.ff)];exact qm bf.out];exact⟨(.bool true),rfl,Q,fun _ _=>rfl⟩
       refine yF ⟨fun f X a hR m i=>?_⟩;obtain⟨o0,(r:f 0=_),T⟩:=hR 0 (by decide);have d:f 1=_:=hR 1 (by decide);simp only[yZ,r,d];clear hR m i r d;refine zI ?_;replace t:=t.ext a;replace u:=u.ext a;replace C:=C.ext a;replace E:=E.ext a;replace H:=H.ext a;replace I:=I.ext a;replace F:=F.ext a;replace J:=J.ext a;replace c:=c.trans a;clear a;rename World=>X8_;go_upto_region 12 with fail;have aH:=c.at_ aV
       refine zR 3 [0,0,3,7] [] (fun j f X=>match j with
        | 0=>f 0=.pointer (some ⟨k,0,none⟩)
        | 1=>f 1=JV av aw l1z
        | 2=>∃ V W Z,f 2=JV V W Z∧FJ M n V W Z (gj M x1 y1 z1).1 (gj M x1 y1 z1).2.1 (gj M x1 y1 z1).2.2
        | _=>True) (by kernel_rfl) [(87,0),(88,1),(89,2)] (by kernel_rfl) ?_
       refine zJ 1 2 ?_;refine zv 2 1 [(87,0)] (fun f X a hR K p=>?_) ?_
       · simp only[yZ];refine⟨zU (by kernel_rfl) (vp (v:=JV av aw l1z) 123 (.tmp 4) rfl rfl ((c.trans a).at_ an) Tryz.underlying123 rfl (by rw[B.out.sz];exact gg) rfl ?_)⟩;exact p.out _ (JV av aw l1z) _ (by simp only[yZ]) (zT _) trivial (fun _ _=>rfl)
       refine qK 3 0 (fun f=>#[f 0,f 1]) (F':=77) (fun f X a hR=>?_) ?_
       · have r:f 0=_:=hR.out 0 rfl;have d:f 1=_:=hR.out 1 rfl;simp only[r,d];refine(aL X (A.out.ext s (c.trans a)) (fun b hb=>zH (s b hb) (c.trans a).bsize) B.out).mono ?_;rintro e w2 ⟨V,W,Z,rfl,hf,Q⟩;exact⟨(JV V W Z),rfl,Q,fun Y hY=>⟨V,W,Z,rfl,hf⟩⟩
       refine yF ⟨fun f X a hR m i=>?_⟩;obtain⟨V,W,Z,(N:f 2=_),f2⟩:=hR 2 (by decide);simp only[yZ,N];clear hR m i N;refine zO (fun K p=>⟨zU (by kernel_rfl) (vM (x:=V) (y:=W) (z:=Z) (.tmp 6) (.tmp 89) rfl rfl rfl rfl (a.at_ aH) rfl f2.x.elt.six f2.y.elt.six f2.z.elt.six (fun Y aF aG a1=>p.out _ _ ?_))⟩);refine zI ?_;go_wp2;exact cQ rfl rfl rfl aF f2.x.elt.six f2.y.elt.six f2.z.elt.six ⟨_,_,_,rfl,f2,aG.ext (aW.out.trans (c.trans a)) (by have:=Hq.out;omega)⟩
     · have aY:=zF hh;have bf:=zF hr;obtain rfl:res=(1,1,0):=by rw[←a4.out,be.out,qg hh,qo hr]
       clear hh hr;go_upto_region 10 with fail
       refine zR 2 [0,1] [] (fun j f X=>match j with
        | 0=>∃ o,f 0=EV o∧FE M n o u9
        | 1=>f 1=.bool true
        | _=>True) (by kernel_rfl) [(83,0),(84,1)] (by kernel_rfl) ?_
       refine lX 1 1 (fun X a=>let ⟨o,hbl,ho⟩:=F.ext a;⟨o,hbl.range,ho⟩) ?_;refine qK 2 0 (fun f=>#[f 0]) (F':=104) (fun f X a hR=>?_) ?_
       · obtain⟨o0,(r:f 0=_),T⟩:=hR.out 0 rfl;simp only[r];refine(vL o0 X T.elt.six).mono ?_;rintro e w2 ⟨rfl,Q⟩;rw[show decide (o0=[0,0,0,0,0,0])=true by rw[decide_eq_decide.2 (T.zero_iff (A.out.ext s (c.trans a)).fr.ff)];exact qm aY.out];exact⟨(.bool true),rfl,Q,fun _ _=>rfl⟩
       refine yF ⟨fun f X a hR m i=>?_⟩;obtain⟨o0,(r:f 0=_),T⟩:=hR 0 (by decide);have d:f 1=_:=hR 1 (by decide);simp only[yZ,r,d];clear hR m i r d;refine zI ?_;replace t:=t.ext a;replace u:=u.ext a;replace C:=C.ext a;replace E:=E.ext a;replace H:=H.ext a;replace I:=I.ext a;replace F:=F.ext a;replace J:=J.ext a;replace c:=c.trans a;clear a;rename World=>X7_;go_upto_region 11 with fail
       refine zR 2 [0,1] [] (fun j f X=>match j with
        | 0=>∃ o,f 0=EV o∧FE M n o u10
        | 1=>f 1=.bool false
        | _=>True) (by kernel_rfl) [(85,0),(86,1)] (by kernel_rfl) ?_
       refine lX 1 1 (fun X a=>let ⟨o,hbl,ho⟩:=J.ext a;⟨o,hbl.range,ho⟩) ?_;refine qK 2 0 (fun f=>#[f 0]) (F':=104) (fun f X a hR=>?_) ?_
       · obtain⟨o0,(r:f 0=_),T⟩:=hR.out 0 rfl;simp only[r];refine(vL o0 X T.elt.six).mono ?_;rintro e w2 ⟨rfl,Q⟩;rw[show decide (o0=[0,0,0,0,0,0])=false by rw[decide_eq_decide.2 (T.zero_iff (A.out.ext s (c.trans a)).fr.ff)];exact jT bf.out];exact⟨(.bool false),rfl,Q,fun _ _=>rfl⟩
       refine yF ⟨fun f X a hR m i=>?_⟩;obtain⟨o0,(r:f 0=_),T⟩:=hR 0 (by decide);have d:f 1=_:=hR 1 (by decide);simp only[yZ,r,d];clear hR m i r d;refine zI ?_;replace t:=t.ext a;replace u:=u.ext a;replace C:=C.ext a;replace E:=E.ext a;replace H:=H.ext a;replace I:=I.ext a;replace F:=F.ext a;replace J:=J.ext a;replace c:=c.trans a;clear a;rename World=>X8_;go_upto_region 13 with fail;have aH:=c.at_ aV
       refine zR 3 [0,0,3,7] [] (fun j f X=>match j with
        | 0=>f 0=.pointer (some ⟨k,0,none⟩)
        | 1=>f 1=yU
        | 2=>∃ V W Z,f 2=JV V W Z∧FJ M n V W Z 1 1 0
        | _=>True) (by kernel_rfl) [(90,0),(91,1),(92,2)] (by kernel_rfl) ?_
       refine zJ 1 2 ?_;refine qK 2 1 (fun _=>#[]) (F':=73) (fun f X a hR=>?_) ?_
       · refine(yo X).mono ?_;rintro e w2 ⟨rfl,Q⟩;exact⟨yU,rfl,Q,fun _ _=>rfl⟩
       refine qK 3 0 (fun f=>#[f 0,f 1]) (F':=74) (fun f X a hR=>?_) ?_
       · have r:f 0=_:=hR.out 0 rfl;have d:f 1=_:=hR.out 1 rfl;simp only[r,d];refine(zAE (fun _=>False) (fun _=>False) none none 0 0 [] [] true X (A.out.ext s (c.trans a)) (fun b hb=>zH (s b hb) (c.trans a).bsize) (RN.nil_ _ _) (RN.nil_ _ _) (fun _ h=>h.elim) (fun _ h=>h.elim) (fun h=>by cases h) (fun h=>by cases h)).mono ?_;rintro e w2 ⟨V,W,Z,rfl,hf,Q⟩;exact⟨(JV V W Z),rfl,Q,fun Y hY=>⟨V,W,Z,rfl,hf⟩⟩
       refine yF ⟨fun f X a hR m i=>?_⟩;obtain⟨V,W,Z,(N:f 2=_),f2⟩:=hR 2 (by decide);simp only[yZ,N];clear hR m i N;refine zO (fun K p=>⟨zU (by kernel_rfl) (vM (x:=V) (y:=W) (z:=Z) (.tmp 6) (.tmp 92) rfl rfl rfl rfl (a.at_ aH) rfl f2.x.elt.six f2.y.elt.six f2.z.elt.six (fun Y aF aG a1=>p.out _ _ ?_))⟩);refine zI ?_;go_wp2;exact cQ rfl rfl rfl aF f2.x.elt.six f2.y.elt.six f2.z.elt.six ⟨_,_,_,rfl,f2,aG.ext (aW.out.trans (c.trans a)) (by have:=Hq.out;omega)⟩
   · have aY:=zF hh;obtain rfl:res=(u17,u21,u23):=by rw[←a4.out,be.out,qo hh]
     clear hh;go_upto_region 10 with fail
     refine zR 2 [0,1] [] (fun j f X=>match j with
      | 0=>∃ o,f 0=EV o∧FE M n o u9
      | 1=>f 1=.bool false
      | _=>True) (by kernel_rfl) [(83,0),(84,1)] (by kernel_rfl) ?_
     refine lX 1 1 (fun X a=>let ⟨o,hbl,ho⟩:=F.ext a;⟨o,hbl.range,ho⟩) ?_;refine qK 2 0 (fun f=>#[f 0]) (F':=104) (fun f X a hR=>?_) ?_
     · obtain⟨o0,(r:f 0=_),T⟩:=hR.out 0 rfl;simp only[r];refine(vL o0 X T.elt.six).mono ?_;rintro e w2 ⟨rfl,Q⟩;rw[show decide (o0=[0,0,0,0,0,0])=false by rw[decide_eq_decide.2 (T.zero_iff (A.out.ext s (c.trans a)).fr.ff)];exact jT aY.out];exact⟨(.bool false),rfl,Q,fun _ _=>rfl⟩
     refine yF ⟨fun f X a hR m i=>?_⟩;obtain⟨o0,(r:f 0=_),T⟩:=hR 0 (by decide);have d:f 1=_:=hR 1 (by decide);simp only[yZ,r,d];clear hR m i r d;refine zI ?_;replace t:=t.ext a;replace u:=u.ext a;replace C:=C.ext a;replace E:=E.ext a;replace H:=H.ext a;replace I:=I.ext a;replace F:=F.ext a;replace J:=J.ext a;replace c:=c.trans a;clear a;rename World=>X7_;go_upto_region 14 with fail
     refine zR 5 [0,0,0,7,0,31] [4] (fun j f X=>match j with
      | 0=>f 0=.pointer (some ⟨g,0,none⟩)
      | 1=>∃ o,f 1=EV o∧FE M n o u9
      | 2=>∃ o,f 2=EV o∧FE M n o u9
      | 3=>∃ o,f 3=EV o∧FE M n o u11
      | 4=>∃ b,f 4=.pointer (some ⟨b,0,none⟩)∧X7_.heap.size≤b∧X.heap[b]?=some (.cells #[.int .u64 0,.int .u64 0,.int .u64 0,.int .u64 0,.int .u64 0,.int .u64 0] 109 (0,0))
      | _=>True) (by kernel_rfl) [(93,0),(94,1),(95,2),(96,3),(16,4)] (by kernel_rfl) ?_
     refine zJ 1 4 ?_;refine lX 2 3 (fun X a=>let ⟨o,hbl,ho⟩:=F.ext a;⟨o,hbl.range,ho⟩) ?_;refine lX 3 2 (fun X a=>let ⟨o,hbl,ho⟩:=F.ext a;⟨o,hbl.range,ho⟩) ?_;refine fc 4 1 0 1 2 (fun X a _ _ h l=>kD X (A.out.ext s (c.trans a)).fr.ff h l) bq.out ?_;refine kr 5 0 ?_;refine yF ⟨fun f X a hR m i=>?_⟩;obtain⟨L,(d:f 1=_),h1⟩:=hR 1 (by decide);obtain⟨o2,(N:f 2=_),h2⟩:=hR 2 (by decide);obtain⟨o3,(D:f 3=_),h3⟩:=hR 3 (by decide);obtain⟨ag,(e4:f 4=_),bR,dv⟩:=hR 4 (by decide);simp only[yZ,d,N,D,e4];clear hR m i d N D e4;refine zO (fun K p=>⟨zU (by kernel_rfl) (qi (.tmp 16) (.tmp 96) rfl rfl rfl rfl (dv) ku h3.elt.six (fun Y8_5 az=>p.out _ _ ?_))⟩);refine zI ?_;have ci:O≠ag:=by have:=(let ⟨_,h,_⟩:=t;h.lt:O<X7_.heap.size);omega
     replace t:=(az.ve ci (t.ext a))
     have cz:P≠ag:=by have:=(let ⟨_,h,_⟩:=u;h.lt:P<X7_.heap.size);omega
     replace u:=(az.ve cz (u.ext a))
     have cK:R≠ag:=by have:=(let ⟨_,h,_⟩:=C;h.lt:R<X7_.heap.size);omega
     replace C:=(az.ve cK (C.ext a))
     have cU:S≠ag:=by have:=(let ⟨_,h,_⟩:=E;h.lt:S<X7_.heap.size);omega
     replace E:=(az.ve cU (E.ext a))
     have c3:aa≠ag:=by have:=(let ⟨_,h,_⟩:=H;h.lt:aa<X7_.heap.size);omega
     replace H:=(az.ve c3 (H.ext a))
     have da:ab≠ag:=by have:=(let ⟨_,h,_⟩:=I;h.lt:ab<X7_.heap.size);omega
     replace I:=(az.ve da (I.ext a))
     have dh:ac≠ag:=by have:=(let ⟨_,h,_⟩:=F;h.lt:ac<X7_.heap.size);omega
     replace F:=(az.ve dh (F.ext a))
     have dm:ad≠ag:=by have:=(let ⟨_,h,_⟩:=J;h.lt:ad<X7_.heap.size);omega
     replace J:=(az.ve dm (J.ext a))
     have ax:VE Y8_5 M n ag u11:=(az.mk' h3)
     have dW:=zK c.bsize bR;have U:Ext W0 Y8_5:=(az.ext (c.trans a) (zK c.bsize bR))
     clear c a az h1 h2 h3;have c:=U;clear U;go_upto_region 15 with fail
     refine zZ (by kernel_rfl) 10 [0,0,0,7,0,0,0,127,0,0,1023,2047] [8,9] (fun j f X=>match j with
      | 0=>f 0=.pointer (some ⟨g,0,none⟩)
      | 1=>∃ o,f 1=EV o∧FE M n o u11
      | 2=>∃ o,f 2=EV o∧FE M n o u9
      | 3=>∃ o,f 3=EV o∧FE M n o u12
      | 4=>f 4=.pointer (some ⟨g,0,none⟩)
      | 5=>∃ o,f 5=EV o∧FE M n o u3
      | 6=>∃ o,f 6=EV o∧FE M n o u11
      | 7=>∃ o,f 7=EV o∧FE M n o u13
      | 8=>∃ b,f 8=.pointer (some ⟨b,0,none⟩)∧Y8_5.heap.size≤b∧X.heap[b]?=some (.cells #[.int .u64 0,.int .u64 0,.int .u64 0,.int .u64 0,.int .u64 0,.int .u64 0] 109 (0,0))
      | 9=>∃ b,f 9=.pointer (some ⟨b,0,none⟩)∧Y8_5.heap.size≤b∧X.heap[b]?=some (.cells #[.int .u64 0,.int .u64 0,.int .u64 0,.int .u64 0,.int .u64 0,.int .u64 0] 109 (0,0))
      | _=>True) (by kernel_rfl) [(97,0),(98,1),(99,2),(100,3),(101,4),(102,5),(103,6),(104,7),(17,8),(18,9)] (by kernel_rfl) ?_
     refine zJ 1 9 ?_;refine lX 2 8 (fun X a=>let ⟨o,hbl,ho⟩:=ax.ext a;⟨o,hbl.range,ho⟩) ?_;refine lX 3 7 (fun X a=>let ⟨o,hbl,ho⟩:=F.ext a;⟨o,hbl.range,ho⟩) ?_;refine fc 4 6 0 1 2 (fun X a _ _ h l=>kD X (A.out.ext s (c.trans a)).fr.ff h l) br.out ?_;refine zJ 5 5 ?_;refine lX 6 4 (fun X a=>let ⟨o,hbl,ho⟩:=C.ext a;⟨o,hbl.range,ho⟩) ?_;refine lX 7 3 (fun X a=>let ⟨o,hbl,ho⟩:=ax.ext a;⟨o,hbl.range,ho⟩) ?_;refine fc 8 2 4 5 6 (fun X a _ _ h l=>kD X (A.out.ext s (c.trans a)).fr.ff h l) bs.out ?_;refine kr 9 1 ?_;refine kr 10 0 ?_;refine yF ⟨fun f X a hR m i=>?_⟩;obtain⟨L,(d:f 1=_),h1⟩:=hR 1 (by decide);obtain⟨o2,(N:f 2=_),h2⟩:=hR 2 (by decide);obtain⟨o3,(D:f 3=_),h3⟩:=hR 3 (by decide);obtain⟨o5,(e5:f 5=_),h5⟩:=hR 5 (by decide);obtain⟨o6,(e6:f 6=_),h6⟩:=hR 6 (by decide);obtain⟨o7,(e7:f 7=_),h7⟩:=hR 7 (by decide);obtain⟨ah,(e8:f 8=_),bS,dw⟩:=hR 8 (by decide);obtain⟨ai,(e9:f 9=_),bT,dx⟩:=hR 9 (by decide);have bh:ai≠ah:=fun e=>i 9 8 (by decide) (by decide) rfl rfl (by decide) (by rw[e9,e8,e]);simp only[yZ,d,N,D,e5,e6,e7,e8,e9];clear hR m i d N D e5 e6 e7 e8 e9;refine zO (fun K p=>⟨zU (by kernel_rfl) (qi (.tmp 17) (.tmp 100) rfl rfl rfl rfl (dw) ku h3.elt.six (fun dQ ap=>p.out _ _ ?_))⟩);refine zO (fun K p=>⟨zU (by kernel_rfl) (qi (.tmp 18) (.tmp 104) rfl rfl rfl rfl (ap.other bh (dx)) ku h7.elt.six (fun Y9_11 aq=>p.out _ _ ?_))⟩);refine zI ?_;have cj:O≠ah:=by have:=(let ⟨_,h,_⟩:=t;h.lt:O<Y8_5.heap.size);omega
     have ck:O≠ai:=by have:=(let ⟨_,h,_⟩:=t;h.lt:O<Y8_5.heap.size);omega
     replace t:=(aq.ve ck (ap.ve cj (t.ext a)))
     have cA:P≠ah:=by have:=(let ⟨_,h,_⟩:=u;h.lt:P<Y8_5.heap.size);omega
     have cB:P≠ai:=by have:=(let ⟨_,h,_⟩:=u;h.lt:P<Y8_5.heap.size);omega
     replace u:=(aq.ve cB (ap.ve cA (u.ext a)))
     have cL:R≠ah:=by have:=(let ⟨_,h,_⟩:=C;h.lt:R<Y8_5.heap.size);omega
     have cM:R≠ai:=by have:=(let ⟨_,h,_⟩:=C;h.lt:R<Y8_5.heap.size);omega
     replace C:=(aq.ve cM (ap.ve cL (C.ext a)))
     have cV:S≠ah:=by have:=(let ⟨_,h,_⟩:=E;h.lt:S<Y8_5.heap.size);omega
     have cW:S≠ai:=by have:=(let ⟨_,h,_⟩:=E;h.lt:S<Y8_5.heap.size);omega
     replace E:=(aq.ve cW (ap.ve cV (E.ext a)))
     have c4:aa≠ah:=by have:=(let ⟨_,h,_⟩:=H;h.lt:aa<Y8_5.heap.size);omega
     have c5:aa≠ai:=by have:=(let ⟨_,h,_⟩:=H;h.lt:aa<Y8_5.heap.size);omega
     replace H:=(aq.ve c5 (ap.ve c4 (H.ext a)))
     have db:ab≠ah:=by have:=(let ⟨_,h,_⟩:=I;h.lt:ab<Y8_5.heap.size);omega
     have dc:ab≠ai:=by have:=(let ⟨_,h,_⟩:=I;h.lt:ab<Y8_5.heap.size);omega
     replace I:=(aq.ve dc (ap.ve db (I.ext a)))
     have di:ac≠ah:=by have:=(let ⟨_,h,_⟩:=F;h.lt:ac<Y8_5.heap.size);omega
     have dj:ac≠ai:=by have:=(let ⟨_,h,_⟩:=F;h.lt:ac<Y8_5.heap.size);omega
     replace F:=(aq.ve dj (ap.ve di (F.ext a)))
     have dn:ad≠ah:=by have:=(let ⟨_,h,_⟩:=J;h.lt:ad<Y8_5.heap.size);omega
     have dp:ad≠ai:=by have:=(let ⟨_,h,_⟩:=J;h.lt:ad<Y8_5.heap.size);omega
     replace J:=(aq.ve dp (ap.ve dn (J.ext a)))
     have b8:ag≠ah:=by have:=(let ⟨_,h,_⟩:=ax;h.lt:ag<Y8_5.heap.size);omega
     have b9:ag≠ai:=by have:=(let ⟨_,h,_⟩:=ax;h.lt:ag<Y8_5.heap.size);omega
     replace ax:=(aq.ve b9 (ap.ve b8 (ax.ext a)))
     have aP:VE Y9_11 M n ah u12:=(aq.ve (xa bh) (ap.mk' h3))
     have dX:=zK c.bsize bS;have aK:VE Y9_11 M n ai u13:=(aq.mk' h7)
     have dY:=zK c.bsize bT;have dR:ah≠ai:=(xa bh)
     have U:Ext W0 Y9_11:=(aq.ext (ap.ext (c.trans a) (zK c.bsize bS)) (zK c.bsize bT))
     clear c a ap aq h1 h2 h3 h5 h6 h7;have c:=U;clear U;go_upto_region 16 with fail
     refine zZ (by kernel_rfl) 14 [0,0,0,0,0,28,0,126,0,0,0,2046,4095,0,16383] [13] (fun j f X=>match j with
      | 0=>f 0=.pointer (some ⟨g,0,none⟩)
      | 1=>f 1=.pointer (some ⟨g,0,none⟩)
      | 2=>f 2=.pointer (some ⟨g,0,none⟩)
      | 3=>∃ o,f 3=EV o∧FE M n o u10
      | 4=>∃ o,f 4=EV o∧FE M n o u10
      | 5=>∃ o,f 5=EV o∧FE M n o b4
      | 6=>∃ o,f 6=EV o∧FE M n o u12
      | 7=>∃ o,f 7=EV o∧FE M n o b5
      | 8=>f 8=.pointer (some ⟨g,0,none⟩)
      | 9=>∃ o,f 9=EV o∧FE M n o u13
      | 10=>∃ o,f 10=EV o∧FE M n o u13
      | 11=>∃ o,f 11=EV o∧FE M n o u16
      | 12=>∃ o,f 12=EV o∧FE M n o u17
      | 13=>∃ b,f 13=.pointer (some ⟨b,0,none⟩)∧Y9_11.heap.size≤b∧X.heap[b]?=some (.cells #[.int .u64 0,.int .u64 0,.int .u64 0,.int .u64 0,.int .u64 0,.int .u64 0] 109 (0,0))
      | _=>True) (by kernel_rfl) [(105,0),(106,1),(107,2),(108,3),(109,4),(110,5),(111,6),(112,7),(113,8),(114,9),(115,10),(116,11),(117,12),(19,13)] (by kernel_rfl) ?_
     refine zJ 1 13 ?_;refine zJ 2 12 ?_;refine zJ 3 11 ?_;refine lX 4 10 (fun X a=>let ⟨o,hbl,ho⟩:=J.ext a;⟨o,hbl.range,ho⟩) ?_;refine lX 5 9 (fun X a=>let ⟨o,hbl,ho⟩:=J.ext a;⟨o,hbl.range,ho⟩) ?_;refine fc 6 8 2 3 4 (fun X a _ _ h l=>kD X (A.out.ext s (c.trans a)).fr.ff h l) bt.out ?_;refine lX 7 7 (fun X a=>let ⟨o,hbl,ho⟩:=aP.ext a;⟨o,hbl.range,ho⟩) ?_;refine fc 8 6 1 5 6 (fun X a _ _ h l=>yI X (A.out.ext s (c.trans a)).fr.ff h l) bu.out ?_;refine zJ 9 5 ?_;refine lX 10 4 (fun X a=>let ⟨o,hbl,ho⟩:=aK.ext a;⟨o,hbl.range,ho⟩) ?_;refine lX 11 3 (fun X a=>let ⟨o,hbl,ho⟩:=aK.ext a;⟨o,hbl.range,ho⟩) ?_;refine fc 12 2 8 9 10 (fun X a _ _ h l=>uR X (A.out.ext s (c.trans a)).fr.ff h l) bv.out ?_;refine fc 13 1 0 7 11 (fun X a _ _ h l=>yI X (A.out.ext s (c.trans a)).fr.ff h l) bw.out ?_;refine kr 14 0 ?_;refine yF ⟨fun f X a hR m i=>?_⟩;obtain⟨o3,(D:f 3=_),h3⟩:=hR 3 (by decide);obtain⟨o4,(e4:f 4=_),h4⟩:=hR 4 (by decide);obtain⟨o5,(e5:f 5=_),h5⟩:=hR 5 (by decide);obtain⟨o6,(e6:f 6=_),h6⟩:=hR 6 (by decide);obtain⟨o7,(e7:f 7=_),h7⟩:=hR 7 (by decide);obtain⟨o9,(e9:f 9=_),h9⟩:=hR 9 (by decide);obtain⟨aS,(ae:f 10=_),aD⟩:=hR 10 (by decide);obtain⟨bn,(af:f 11=_),aE⟩:=hR 11 (by decide);obtain⟨dJ,(aC:f 12=_),aR⟩:=hR 12 (by decide);obtain⟨ak,(ar:f 13=_),bU,dy⟩:=hR 13 (by decide);simp only[yZ,D,e4,e5,e6,e7,e9,ae,af,aC,ar];clear hR m i D e4 e5 e6 e7 e9 ae af aC ar;refine zO (fun K p=>⟨zU (by kernel_rfl) (qi (.tmp 19) (.tmp 117) rfl rfl rfl rfl (dy) ku aR.elt.six (fun Y10_14 al=>p.out _ _ ?_))⟩);refine zI ?_;have cl:O≠ak:=by have:=(let ⟨_,h,_⟩:=t;h.lt:O<Y9_11.heap.size);omega
     replace t:=(al.ve cl (t.ext a))
     have cC:P≠ak:=by have:=(let ⟨_,h,_⟩:=u;h.lt:P<Y9_11.heap.size);omega
     replace u:=(al.ve cC (u.ext a))
     have cN:R≠ak:=by have:=(let ⟨_,h,_⟩:=C;h.lt:R<Y9_11.heap.size);omega
     replace C:=(al.ve cN (C.ext a))
     have cX:S≠ak:=by have:=(let ⟨_,h,_⟩:=E;h.lt:S<Y9_11.heap.size);omega
     replace E:=(al.ve cX (E.ext a))
     have c6:aa≠ak:=by have:=(let ⟨_,h,_⟩:=H;h.lt:aa<Y9_11.heap.size);omega
     replace H:=(al.ve c6 (H.ext a))
     have dd:ab≠ak:=by have:=(let ⟨_,h,_⟩:=I;h.lt:ab<Y9_11.heap.size);omega
     replace I:=(al.ve dd (I.ext a))
     have dk:ac≠ak:=by have:=(let ⟨_,h,_⟩:=F;h.lt:ac<Y9_11.heap.size);omega
     replace F:=(al.ve dk (F.ext a))
     have dq:ad≠ak:=by have:=(let ⟨_,h,_⟩:=J;h.lt:ad<Y9_11.heap.size);omega
     replace J:=(al.ve dq (J.ext a))
     have ca:ag≠ak:=by have:=(let ⟨_,h,_⟩:=ax;h.lt:ag<Y9_11.heap.size);omega
     replace ax:=(al.ve ca (ax.ext a))
     have cd:ah≠ak:=by have:=(let ⟨_,h,_⟩:=aP;h.lt:ah<Y9_11.heap.size);omega
     replace aP:=(al.ve cd (aP.ext a))
     have cf:ai≠ak:=by have:=(let ⟨_,h,_⟩:=aK;h.lt:ai<Y9_11.heap.size);omega
     replace aK:=(al.ve cf (aK.ext a))
     have aZ:VE Y10_14 M n ak u17:=(al.mk' aR)
     have dZ:=zK c.bsize bU;have U:Ext W0 Y10_14:=(al.ext (c.trans a) (zK c.bsize bU))
     clear c a al h3 h4 h5 h6 h7 h9 aD aE aR;have c:=U;clear U;go_upto_region 17 with fail
     refine zZ (by kernel_rfl) 14 [0,0,0,0,0,0,56,126,0,0,0,2046,4095,0,16383] [13] (fun j f X=>match j with
      | 0=>f 0=.pointer (some ⟨g,0,none⟩)
      | 1=>f 1=.pointer (some ⟨g,0,none⟩)
      | 2=>∃ o,f 2=EV o∧FE M n o u10
      | 3=>f 3=.pointer (some ⟨g,0,none⟩)
      | 4=>∃ o,f 4=EV o∧FE M n o u13
      | 5=>∃ o,f 5=EV o∧FE M n o u17
      | 6=>∃ o,f 6=EV o∧FE M n o u18
      | 7=>∃ o,f 7=EV o∧FE M n o u19
      | 8=>f 8=.pointer (some ⟨g,0,none⟩)
      | 9=>∃ o,f 9=EV o∧FE M n o u6
      | 10=>∃ o,f 10=EV o∧FE M n o u12
      | 11=>∃ o,f 11=EV o∧FE M n o b6
      | 12=>∃ o,f 12=EV o∧FE M n o u21
      | 13=>∃ b,f 13=.pointer (some ⟨b,0,none⟩)∧Y10_14.heap.size≤b∧X.heap[b]?=some (.cells #[.int .u64 0,.int .u64 0,.int .u64 0,.int .u64 0,.int .u64 0,.int .u64 0] 109 (0,0))
      | _=>True) (by kernel_rfl) [(118,0),(119,1),(120,2),(121,3),(122,4),(123,5),(124,6),(125,7),(126,8),(127,9),(128,10),(129,11),(130,12),(20,13)] (by kernel_rfl) ?_
     refine zJ 1 13 ?_;refine zJ 2 12 ?_;refine lX 3 11 (fun X a=>let ⟨o,hbl,ho⟩:=J.ext a;⟨o,hbl.range,ho⟩) ?_;refine zJ 4 10 ?_;refine lX 5 9 (fun X a=>let ⟨o,hbl,ho⟩:=aK.ext a;⟨o,hbl.range,ho⟩) ?_;refine lX 6 8 (fun X a=>let ⟨o,hbl,ho⟩:=aZ.ext a;⟨o,hbl.range,ho⟩) ?_;refine fc 7 7 3 4 5 (fun X a _ _ h l=>yI X (A.out.ext s (c.trans a)).fr.ff h l) bx.out ?_;refine fc 8 6 1 2 6 (fun X a _ _ h l=>kD X (A.out.ext s (c.trans a)).fr.ff h l) bz.out ?_;refine zJ 9 5 ?_;refine lX 10 4 (fun X a=>let ⟨o,hbl,ho⟩:=H.ext a;⟨o,hbl.range,ho⟩) ?_;refine lX 11 3 (fun X a=>let ⟨o,hbl,ho⟩:=aP.ext a;⟨o,hbl.range,ho⟩) ?_;refine fc 12 2 8 9 10 (fun X a _ _ h l=>kD X (A.out.ext s (c.trans a)).fr.ff h l) bB.out ?_;refine fc 13 1 0 7 11 (fun X a _ _ h l=>yI X (A.out.ext s (c.trans a)).fr.ff h l) bC.out ?_;refine kr 14 0 ?_;refine yF ⟨fun f X a hR m i=>?_⟩;obtain⟨o2,(N:f 2=_),h2⟩:=hR 2 (by decide);obtain⟨o4,(e4:f 4=_),h4⟩:=hR 4 (by decide);obtain⟨o5,(e5:f 5=_),h5⟩:=hR 5 (by decide);obtain⟨o6,(e6:f 6=_),h6⟩:=hR 6 (by decide);obtain⟨o7,(e7:f 7=_),h7⟩:=hR 7 (by decide);obtain⟨o9,(e9:f 9=_),h9⟩:=hR 9 (by decide);obtain⟨aS,(ae:f 10=_),aD⟩:=hR 10 (by decide);obtain⟨bn,(af:f 11=_),aE⟩:=hR 11 (by decide);obtain⟨dJ,(aC:f 12=_),aR⟩:=hR 12 (by decide);obtain⟨ao,(ar:f 13=_),bV,dz⟩:=hR 13 (by decide);simp only[yZ,N,e4,e5,e6,e7,e9,ae,af,aC,ar];clear hR m i N e4 e5 e6 e7 e9 ae af aC ar;refine zO (fun K p=>⟨zU (by kernel_rfl) (qi (.tmp 20) (.tmp 130) rfl rfl rfl rfl (dz) ku aR.elt.six (fun Y11_14 aj=>p.out _ _ ?_))⟩);refine zI ?_;have cm:O≠ao:=by have:=(let ⟨_,h,_⟩:=t;h.lt:O<Y10_14.heap.size);omega
     replace t:=(aj.ve cm (t.ext a))
     have cD:P≠ao:=by have:=(let ⟨_,h,_⟩:=u;h.lt:P<Y10_14.heap.size);omega
     replace u:=(aj.ve cD (u.ext a))
     have cO:R≠ao:=by have:=(let ⟨_,h,_⟩:=C;h.lt:R<Y10_14.heap.size);omega
     replace C:=(aj.ve cO (C.ext a))
     have cY:S≠ao:=by have:=(let ⟨_,h,_⟩:=E;h.lt:S<Y10_14.heap.size);omega
     replace E:=(aj.ve cY (E.ext a))
     have c7:aa≠ao:=by have:=(let ⟨_,h,_⟩:=H;h.lt:aa<Y10_14.heap.size);omega
     replace H:=(aj.ve c7 (H.ext a))
     have de:ab≠ao:=by have:=(let ⟨_,h,_⟩:=I;h.lt:ab<Y10_14.heap.size);omega
     replace I:=(aj.ve de (I.ext a))
     have dl:ac≠ao:=by have:=(let ⟨_,h,_⟩:=F;h.lt:ac<Y10_14.heap.size);omega
     replace F:=(aj.ve dl (F.ext a))
     have dr:ad≠ao:=by have:=(let ⟨_,h,_⟩:=J;h.lt:ad<Y10_14.heap.size);omega
     replace J:=(aj.ve dr (J.ext a))
     have cc:ag≠ao:=by have:=(let ⟨_,h,_⟩:=ax;h.lt:ag<Y10_14.heap.size);omega
     replace ax:=(aj.ve cc (ax.ext a))
     have ce:ah≠ao:=by have:=(let ⟨_,h,_⟩:=aP;h.lt:ah<Y10_14.heap.size);omega
     replace aP:=(aj.ve ce (aP.ext a))
     have cg:ai≠ao:=by have:=(let ⟨_,h,_⟩:=aK;h.lt:ai<Y10_14.heap.size);omega
     replace aK:=(aj.ve cg (aK.ext a))
     have ch:ak≠ao:=by have:=(let ⟨_,h,_⟩:=aZ;h.lt:ak<Y10_14.heap.size);omega
     replace aZ:=(aj.ve ch (aZ.ext a))
     have dK:VE Y11_14 M n ao u21:=(aj.mk' aR)
     have d0:=zK c.bsize bV;have U:Ext W0 Y11_14:=(aj.ext (c.trans a) (zK c.bsize bV))
     clear c a aj h2 h4 h5 h6 h7 h9 aD aE aR;have c:=U;clear U;have aH:=c.at_ aV;go_upto_region 18 with fail
     refine zZ (by kernel_rfl) 12 [0,0,0,0,0,0,32,0,128,496,1020,2047,4095] [] (fun j f X=>match j with
      | 0=>∃ o,f 0=EV o∧FE M n o u17
      | 1=>∃ o,f 1=EV o∧FE M n o u21
      | 2=>f 2=.pointer (some ⟨g,0,none⟩)
      | 3=>∃ o,f 3=EV o∧FE M n o u9
      | 4=>f 4=.pointer (some ⟨g,0,none⟩)
      | 5=>f 5=.pointer (some ⟨q,12,none⟩)
      | 6=>∃ o,f 6=EV o∧FE M n o z1
      | 7=>f 7=.pointer (some ⟨q+1,12,none⟩)
      | 8=>∃ o,f 8=EV o∧FE M n o z2
      | 9=>∃ o,f 9=EV o∧FE M n o b7
      | 10=>∃ o,f 10=EV o∧FE M n o u23
      | 11=>∃ V W Z,f 11=JV V W Z∧FJ M n V W Z u17 u21 u23
      | _=>True) (by kernel_rfl) [(131,0),(132,1),(133,2),(134,3),(135,4),(136,5),(137,6),(138,7),(139,8),(140,9),(141,10),(142,11)] (by kernel_rfl) ?_
     refine lX 1 11 (fun X a=>let ⟨o,hbl,ho⟩:=aZ.ext a;⟨o,hbl.range,ho⟩) ?_;refine lX 2 10 (fun X a=>let ⟨o,hbl,ho⟩:=dK.ext a;⟨o,hbl.range,ho⟩) ?_;refine zJ 3 9 ?_;refine lX 4 8 (fun X a=>let ⟨o,hbl,ho⟩:=F.ext a;⟨o,hbl.range,ho⟩) ?_;refine zJ 5 7 ?_;refine zJ 6 6 ?_;refine lE 7 5 5 (fun _ a=>xV ((c.trans a).at_ an) B.out.x.elt.six B.out.y.elt.six) B.out.z ?_;refine zJ 8 4 ?_;refine lE 9 3 7 (fun _ a=>xV ((c.trans a).at_ au) G.out.x.elt.six G.out.y.elt.six) G.out.z ?_;refine fc 10 2 4 6 8 (fun X a _ _ h l=>kD X (A.out.ext s (c.trans a)).fr.ff h l) bD.out ?_;refine fc 11 1 2 3 9 (fun X a _ _ h l=>kD X (A.out.ext s (c.trans a)).fr.ff h l) bE.out ?_;refine zv 12 0 [(131,0),(132,1),(133,2),(134,3),(135,4),(136,5),(137,6),(138,7),(139,8),(140,9),(141,10)] (fun f X a hR K p=>?_) ?_
     · obtain⟨o0,(r:f 0=_),T⟩:=hR.out 0 rfl;obtain⟨L,(d:f 1=_),h1⟩:=hR.out 1 rfl;obtain⟨aS,(ae:f 10=_),aD⟩:=hR.out 10 rfl;simp only[yZ,r,d,ae];refine⟨zU (by kernel_rfl) (gn (x:=o0) (y:=L) (z:=aS) (.tmp 131) (.tmp 132) (.tmp 141) rfl rfl rfl rfl T.elt.six h1.elt.six aD.elt.six ?_)⟩;exact p.out _ (JV o0 L aS) _ (by simp only[yZ,r,d,ae]) (zT _) trivial (fun _ _=>⟨o0,L,aS,rfl,⟨T,h1,aD⟩⟩)
     refine yF ⟨fun f X a hR m i=>?_⟩;obtain⟨o0,(r:f 0=_),T⟩:=hR 0 (by decide);obtain⟨L,(d:f 1=_),h1⟩:=hR 1 (by decide);obtain⟨o3,(D:f 3=_),h3⟩:=hR 3 (by decide);obtain⟨o6,(e6:f 6=_),h6⟩:=hR 6 (by decide);obtain⟨o8,(e8:f 8=_),h8⟩:=hR 8 (by decide);obtain⟨o9,(e9:f 9=_),h9⟩:=hR 9 (by decide);obtain⟨aS,(ae:f 10=_),aD⟩:=hR 10 (by decide);obtain⟨V,W,Z,(af:f 11=_),aQ⟩:=hR 11 (by decide);simp only[yZ,r,d,D,e6,e8,e9,ae,af];clear hR m i r d D e6 e8 e9 ae af;refine zO (fun K p=>⟨zU (by kernel_rfl) (vM (x:=V) (y:=W) (z:=Z) (.tmp 6) (.tmp 142) rfl rfl rfl rfl (a.at_ aH) rfl aQ.x.elt.six aQ.y.elt.six aQ.z.elt.six (fun Y aF aG a1=>p.out _ _ ?_))⟩);refine zI ?_;go_wp2;exact cQ rfl rfl rfl aF aQ.x.elt.six aQ.y.elt.six aQ.z.elt.six ⟨_,_,_,rfl,aQ,aG.ext (aW.out.trans (c.trans a)) (by have:=Hq.out;omega)⟩
theorem ub:(Tryz.prog.info? 5).map (fun i=>(i.zero,i.size,i.bytes))=some (some (.int .u8 0),1,1):=by kernel_rfl
def js (w:World) (g:Nat) (l:List Nat):Prop:=w.heap[g]?=some (.cells (bys l).toArray 5 (0,0))
section
variable {w w':World} {g:Nat} {l:List Nat}
theorem zC3 {l:List Nat}{i:Nat}(h:i<l.length):(bys l)[i]?=some (.int .u8 (dg l i:Int)):=by
 rw[dg,ja h];simp[bys,qL h]
theorem js.cell (h:js w g l){i:Nat}(a:i<l.length):w.cell? ⟨g,i,none⟩=some (.int .u8 (dg l i:Int)):=by
 rw[zP h i,zQ,zC3 a]
theorem js.free (h:js w g l)(i:Nat):w.frozen? ⟨g,i,none⟩=false:=qz h i
theorem js.set (h:js w g l)(i:Nat)(x:Nat):js (w.setCell ⟨g,i,none⟩ (.int .u8 (x:Int))) g (l.set i x):=by
 unfold js at *;simp[World.setCell,vI,h,bys]
theorem js.made (w:World)(n:Nat):js (w.alloc (.cells (madeCells #[.int .u8 0] n) 5)) w.heap.size (List.replicate n 0):=by
 unfold js;rw[zS];congr 1;congr 1;apply Array.ext_getElem?;intro i;by_cases hi:i<n
 · have a:i<(madeCells #[Value.int .u8 0] n).size:=by rw[size_madeCells];simpa using hi
   rw[qJ a];simp[madeCells,bys,hi,Nat.mod_one]
 · rw[yP (by rw[size_madeCells];omega),yP (by simp[bys];omega)]
theorem js.rb {P:Nat→Prop}(h:js w g l)(a:P g)(c:∀ b∈l,b<256)(e:l.length≤1000000):RB w P (some ⟨g,0,none⟩) l.length l:=by
 refine⟨⟨zG _,by unfold maxLen;omega,by simp[bys],fun _=>⟨_,rfl,a,fun j u d=>?_⟩⟩,c,by omega⟩;rw[yW,zP h j,zQ];exact d
end
def wZ (x n:Nat) (o:List Nat) (k:Nat):Prop:=o.length=n∧(∀ j,j<k→dg o j=x/2 ^(8*(n-1-j))%256)∧(∀ j,k≤j→dg o j=0)∧∀ b∈o,b<256
theorem wZ.zero (x n:Nat):wZ x n (List.replicate n 0) 0:=by
 refine⟨by simp,fun j c=>by omega,fun j _=>?_,fun b a=>by simp at a;omega⟩;rw[dg,zy,List.getElem?_replicate];split<;>rfl
theorem wZ.step {x n:Nat}{o:List Nat}{k b:Nat}(h:wZ x n o k)(i:k<n)(f:x/2 ^(8*(n-1-k))%256=b):wZ x n (o.set k b) (k+1):=by
 obtain⟨a,c,d,e⟩:=h;refine⟨by simpa using a,fun j g=>?_,fun j g=>by rw[getD_set_ne (by omega)];exact d j (by omega),xF e (by omega)⟩;rcases qH j k with h|h
 · rw[getD_set_ne (by omega)];exact c j h
 · obtain rfl:j=k:=by omega
   rw[vz (by omega)];exact f.symm
theorem wZ.skip {x n:Nat}{o:List Nat}{k:Nat}(h:wZ x n o k)(e:x/2 ^(8*(n-1-k))%256=0):wZ x n o (k+1):=by
 obtain⟨b,c,a,d⟩:=h;refine⟨b,fun j f=>?_,fun j f=>a j (by omega),d⟩;rcases qH j k with h|h
 · exact c j h
 · obtain rfl:j=k:=by omega
   rw[e];exact a j h
theorem wZ.fin {x n:Nat}{o:List Nat}(h:wZ x n o n):o=bytesOf x n:=by
 obtain⟨a,b,_⟩:=h;apply List.ext_getElem (by rw[a,vN]);intro i c d;have:=b i (by omega);rw[dg,ja c]at this;rw[this];simp[bytesOf]
theorem th (d j:Nat):IntKind.u8.wrap ((d:Int)/2^j)=((d/2^j%256:Nat):Int):=by
 rw[show(d:Int)/2^j=((d/2^j:Nat):Int) by simp];generalize d/2^j=z;simp[IntKind.wrap,IntKind.bits,IntKind.signed]
theorem tg (P:Nat→Prop)(A:Option Addr)(c:Nat)(a:List Nat)(n:Nat)(w:World)(h:RN w P A c a)(J:∀ b,P b→b<w.heap.size)(hn:n≤65536)(N:qD (val 18446744073709551616 a)≤8*n) :
 Calls Tryz.prog 60 #[.slice A a.length c,.int .i64 (n:Int)] w fun e w'=>∃ z,e=.returned (.tuple #[.slice z n n,.bool true]) ∧
  RB w' (In w.heap.size w'.heap.size) z n (bytesOf (val 18446744073709551616 a) n)∧Below w.heap.size w w':=by
 obtain⟨T,U,V⟩:=h.cap
 have B:=zF (vO P A c a w h)
 have u:=fun k j M=>zAC (m:=64) a h.2.1 k j M
 rw[show(2:Nat)^64=18446744073709551616 by decide]at u
 generalize K:val 18446744073709551616 a=x at *
 generalize qD x=k0 at *
 have Y:(k0:Int)≤8*(n:Int):=by omega
 have G:=zF u
 clear u K N
 have Z:=qt (P:=Tryz.prog) 22 5 (.int .u8 0) 1 Tryz.underlying22 ub rfl .i64 .i64 n (by omega) (by omega)
 go_enter Tryz.func60,Tryz.ntmps60
 go_wp2_with fail
 refine B.out.mono ?_
 rintro e w1 ⟨rfl,rfl⟩
 clear B
 go_wp2
 go_loopw [26] (fun iv wr=>∃(k:Nat) (o:List Nat),iv=.int .i64 (k:Int)∧k≤n∧wZ x n o k∧js wr w.heap.size o∧Below w.heap.size w wr) (fun iv _=>n-(intOf iv).toNat)
 case atStart=>exact⟨0,List.replicate n 0,rfl,by omega,wZ.zero x n,js.made w n,(zo _ w).alloc (zG _) _⟩
 case round =>
  obtain⟨k,o,rfl,X,d,f,l⟩:=hrel;by_cases hlt:k<n
  · obtain⟨m,q,r,v,hr,F⟩:∃ m q r,m=n-1-k∧r<8∧m=8*q+r:=⟨n-1-k,(n-1-k)/8,(n-1-k)%8,rfl,by omega,by omega⟩
    have g:=G.out q (r*8) (by omega);rw[show 64*q+r*8=8*m by omega,v]at g;have Q:(n:Int)-1-(k:Int)=(m:Int):=by omega
    have R:(m:Int)/8=(q:Int):=by omega
    have S:(m:Int)%8=(r:Int):=by omega
    have k1:(m:Int)<(n:Int):=by omega
    by_cases hq:q<a.length
    · obtain⟨ad,rfl,W,q1⟩:=(h.below l J).at_ hq;obtain⟨b,t⟩:=eV (dg a q/2 ^(r*8)%256);rw[t]at g;have H:=th (dg a q) (r*8);rw[t]at H;have s:=d.step hlt g;have q3:=f.cell (i:=k) (by rw[d.1];exact hlt);have q4:=f.free k;have L:=f.set k b;have I:=l.setCell (p:=⟨w.heap.size,k,none⟩) (zG _) (.int .u8 (b:Int));have O:(q:Int)<(a.length:Int):=by omega
      have k3:(r:Int)<8:=by omega
      clear t g d f l F v;go_wp2;go_roundw;case rel=>exact⟨k+1,o.set k b,by go_num,by omega,s,L,I⟩
      case measure=>simp[intOf];omega
    · rw[vJ (by omega:a.length≤q),Nat.zero_div,kS]at g;have s:=d.skip g;have O:¬(q:Int)<(a.length:Int):=by omega
      clear g d F v;go_wp2;go_roundw;case rel=>exact⟨k+1,o,by go_num,by omega,s,f,l⟩
      case measure=>simp[intOf];omega
  · obtain rfl:k=n:=by omega
    have C:=d.fin;have D:=d.2.2.2;have E:=d.1;have y:=f.rb (P:=In w.heap.size wr.heap.size) ⟨zG _,qd f⟩ D (by omega);rw[E]at y;rw[C]at y;clear d C D E f;go_wp2;go_ret2;exact⟨_,rfl,y,l⟩
end Go.Proofs.YtaemogcomplhiaaGreatDoor
namespace Go.Proofs.YtaemogcomplhiaaGreatDoor
open Go.RowKit Go.Shelf
attribute [local go_sem] Oper.semAt_some
def jw (x:Nat) (j:Nat):Nat×Nat:=(qD x-1-j,x/2 ^(qD x-1-j)%2)
theorem oN (P:Nat→Prop)(A:Option Addr)(c:Nat)(a:List Nat)(w:World)(h:RN w P A c a)(r:∀ b,P b→b<w.heap.size) :
 Calls Tryz.prog 76 #[.slice A a.length c] w fun e w'=>∃ d c1,e=.returned (.func (.func 106) #[] #[.pointer (some ⟨w.heap.size,0,none⟩)]) ∧
  w'.heap[w.heap.size]?=some (.cells #[.slice d (digs 18446744073709551616 (val 18446744073709551616 a)).length c1] 24 (0,0))∧OB w' w.heap.size d c1 (digs 18446744073709551616 (val 18446744073709551616 a))∧Below w.heap.size w w':=by
 have v:=zF (fun w h=>dC P A c a w h)
 have hR:RN (w.alloc (.cells #[.slice A a.length c] 24)) P A c a:=h.below ((zo _ w).alloc (zG _) _) r
 generalize digs 18446744073709551616 (val 18446744073709551616 a)=l at *
 go_enter Tryz.func76,Tryz.ntmps76
 go_wp2_with fail
 refine(v.out _ hR).mono ?_
 rintro e z ⟨d,c1,rfl,q,i⟩
 have f:=(i.block w.heap.size (by simp)).trans (zS w _)
 have y:=qz f 0
 have c0:=zP f 0
 simp at c0
 go_wp2
 go_ret
 refine⟨d,c1,rfl,?_,?_,(((zo _ w).alloc (zG _) _).trans (i.mono (by simp))).setCell (p:=⟨w.heap.size,0,none⟩) (zG _) _⟩
 · simp[World.setCell,vI,f]
 · obtain⟨k,m,n,o⟩:=q;refine⟨k,m,n,fun x=>?_⟩;obtain⟨g,j,e,t,u,s⟩:=o x;simp at t;exact⟨g,j,e,by omega,(ji _ _ _ _ (by show g≠w.heap.size;omega)).trans u,s⟩
end Go.Proofs.YtaemogcomplhiaaGreatDoor
namespace Go.Proofs.YtaemogcomplhiaaGreatDoor
open Go.RowKit
structure jS (B C m:Nat) (W W':World):Prop where
 size:W.heap.size≤W'.heap.size
 others:∀(k:Nat) (o:Obj),B≤k→W.heap[k]?=some o→o.isCells=false→W'.heap[k]?=some o
 cells:∀ k,C≤k→k<C+m→k<W.heap.size→W'.heap[k]?=W.heap[k]?
theorem jS.refl (B C m:Nat)(W:World):jS B C m W W:=⟨zG _,fun _ _ _ h _=>h,fun _ _ _ _=>rfl⟩
theorem jS.trans {B C m:Nat}{W W' b:World}(h:jS B C m W W')(k:jS B C m W' b):jS B C m W b :=
 ⟨zK h.size k.size,fun i o c a f=>k.others i o c (h.others i o c a f) f,fun i d e a=>(k.cells i d e (zH a h.size)).trans (h.cells i d e a)⟩
theorem jS.mono {B b C a m c:Nat}{W W':World}(h:jS B C m W W')(d:B≤b)(e:C≤a)(j:a+c≤C+m):jS b a c W W' :=
 ⟨h.size,fun k o f=>h.others k o (zK d f),fun k g i=>h.cells k (zK e g) (zH i j)⟩
theorem jS.none {B C a m:Nat}{W W':World}(h:jS B C m W W'):jS B a 0 W W':=⟨h.size,h.others,fun k c b=>absurd b (by omega)⟩
theorem jS.setCell (B C m:Nat)(W:World){a:Addr}(d:a.block<C∨C+m≤a.block)(v:Value):jS B C m W (W.setCell a v) :=
 ⟨(KeepsOthers.setCell W a v).size,fun k o _=>(KeepsOthers.setCell W a v).same k o,fun k b c _=>ji W a v k (by omega)⟩
theorem jS.alloc (B C m:Nat)(W:World)(o:Obj):jS B C m W (W.alloc o):=⟨by simp,fun k o' _=>(KeepsOthers.alloc W o).same k o',fun k _ _ a=>kJ W o k a⟩
theorem jS.drew (B C m:Nat)(W:World):jS B C m W W.drew:=⟨zG _,fun _ _ _ h _=>h,fun _ _ _ _=>rfl⟩
theorem jS.drewN (B C m:Nat)(W:World)(n:Nat):jS B C m W (W.drewN n):=⟨zG _,fun _ _ _ h _=>h,fun _ _ _ _=>rfl⟩
theorem jS.below {B C m D:Nat}{W W':World}(h:Below D W W')(b:W.heap.size≤D):jS B C m W W' :=
 ⟨h.size,fun k _ _ a _=>(h.block k (zH (Array.getElem?_eq_some_iff.1 a).1 b)).trans a,fun k _ _ a=>h.block k (zH a b)⟩
theorem jS.putObj {B C m:Nat}{W:World}{l:Nat}{o:Obj}(e:l<B)(b:l<C):jS B C m W (W.putObj l o) :=
 ⟨by simp,fun k _ c a _=>(qM (by omega)).trans a,fun k d _ _=>qM (by omega)⟩
def zDX (P:Program) (g:Nat) (lb:Array Value) (f:Nat→Array Value) (d:Nat→World→Prop) (T:Nat→Nat→World→World→Prop) (c:World→World→Prop) (m N:Nat) (fin:Bool) (w:World):Prop :=
  ∀ (n l : Nat) (J a b : Nat → World → Prop) (W : World), 1 ≤ n → Below w.heap.size w W → l < W.heap.size → OwnFrom W.heap.size J → OwnFrom W.heap.size a → OwnFrom W.heap.size b →
    (∀ k W1,k≤N→J k W1→d k W1)→(∀ k W1 W2,k≤N→J k W1→T W.heap.size k W1 W2→a k W2)→(fin=false→∀ W',¬ a N W') →
    (∀ k W1,a k W1→k<N→W.heap.size+m≤W1.heap.size→YieldAt Fence.wide (n-1) P l (f k) W1 fun e W' =>
      (e=.returned (.bool true)∧J (k+1) W'∧c W1 W'∧jS W.heap.size W.heap.size m W1 W')∨(e=.returned (.bool false)∧b (k+1) W'∧jS W.heap.size W.heap.size m W1 W')) →
    J 0 W →
    CallsIn Fence.wide n P g (#[.func (.yield l) #[] #[]]++lb) W fun e W'=>(∃ v,e=.returned v)∧(a N W'∨∃ k,0<k∧k≤N∧b k W')
def zEe (_:Nat) (_:World):Prop:=True
def rD (_B _k:Nat) (W W':World):Prop:=W.grownBy W' none
def oH (B m:Nat) (b:World→World→Prop) (I:Nat→World→Prop) (a:Code→Nat→World→Prop) (k:Nat) (W:World):Exit→Act→World→Prop
 | .normal,_,W'=>jS B (B+2) m W W'∧b W W'∧I k W'
 | .ret,_,W'=>jS B (B+2) m W W'∧a .ret k W'
 | .exit id,_,W'=>jS B (B+2) m W W'∧a (.exit id) k W'
 | .goto t,_,W'=>jS B (B+2) m W W'∧a (.goto t) k W'
 | .panic _,_,_=>False
 | .outgrown,_,_=>False
theorem wI {β:Type}{B C:Nat}{I:β→World→Prop}(h:OwnFrom B I)(b:B≤C):OwnFrom C I :=
 fun s W W' row d c a=>h s W W' row d c fun r e=>⟨zK b (a r e).1,(a r e).2⟩
theorem xq {β:Type}{B g:Nat}(o:Obj)(d:g<B):OwnFrom B (fun(_:β) W=>g<W.heap.size∧W.heap[g]?=some o):=fun _ W W' row a b c =>
 ⟨zH a.1 b.size,(b.block g a.1 fun e=>by have:=(c g e.symm).1;omega).trans a.2⟩
theorem ab {n:Nat}{P:Program}{g:Operand}{ps:Array Tmp}{assign body:Code}{Q:Exit→Act→World→Prop}{a:Act}{w:World}
   (h2:2≤n) {gf:Nat} {lb:Array Value} (hg:a.eval g=.func (.func gf) #[] lb) (eg:∀ args w,(callFunc gf args).run P w=.ok (.enter gf args) w)
   {Y:Nat→Array Value} {Nd:Nat→World→Prop} {T:Nat→Nat→World→World→Prop} {x:World→World→Prop} {m N:Nat} {fin:Bool} {R:World} (aE:zDX P gf lb Y Nd T x m N fin R)
   (ae:∀ {A B C:World},x A B→x B C→x A C) (ad:∀(W:World) (l:Nat) (o o':Obj),w.heap.size≤l→W.heap[l]?=some o→o.isCells=false→o.isWalk=false→x W (W.putObj l o'))
   (hT:∀ B k W1 W2,T B k W1 W2→W1.heap.size≤W2.heap.size∧∀ b o,b<B→W1.heap[b]?=some o→o.isCells=false→W2.heap[b]?=some o)
   (af:Below R.heap.size R w) (aC:∀ k,(Y k).size=ps.size)
   (I G:Nat→World→Prop) (S:Code→Nat→World→Prop) (U:OwnFrom w.heap.size I) (aa:OwnFrom w.heap.size G) (hIx:∀ c,OwnFrom w.heap.size (S c))
   (hNd:∀ k W,k≤N→I k W→Nd k W) (hIT:∀ B k W1 W2,w.heap.size≤B→k≤N→I k W1→T B k W1 W2→G k W2) (au:fin=false→∀ W',¬ G N W') (h0:I 0 w) (a₁:Nat→Act)
   (am:∀(l k:Nat) (W:World) (K:Act→World→Prop),K (a₁ k) W →
     assign.wpIn (Fence.wide.inRound l) (n-1-1) P (Exit.then K (fun _ _ _=>False)) { tmps:=(ps.zip (Y k)).foldl (fun t (p,v)=>t.setIfInBounds p v) a.tmps,defers:=[] } W)
   (ao:∀(l k:Nat) (W:World),G k W→k<N→w.heap.size+2+m≤W.heap.size→body.wpIn (Fence.wide.inRound l) (n-1-1) P (oH w.heap.size m x I S (k+1) W) (a₁ k) W)
   (ar:∀(D:Nat) (W:World),w.heap.size≤D→G N W→W.heap[D]?=some (.deferred (some []))→Q .normal { a with defers:={ target:=.collected D,args:=#[] }::a.defers } W)
   (aF:∀(D:Nat) (c:Code) (k:Nat) (W:World),w.heap.size≤D→0<k→k≤N→S c k W→W.heap[D]?=some (.deferred (some []))→c.wpIn Fence.wide n P Q { a with defers:={ target:=.collected D,args:=#[] }::a.defers } W) :
   (Code.rangeFunc g ps assign body).wpIn Fence.wide n P Q a w:=by
 refine wpIn_rangeFunc ?_;intro fn av;obtain⟨rc,s⟩:∃ rc:LoopState→Option Code→Loop,rc=fun X V=>{ state:=X,pending:=V,fn,tmps:=a.tmps,params:=ps,assign,body,defers:=w.heap.size }:=⟨_,rfl⟩
 obtain⟨L,hL⟩:=eV (w.heap.size+1);obtain⟨D,Z⟩:=eV w.heap.size;obtain⟨W1,H⟩:=eV ((w.alloc (.deferred (some []))).alloc (.loop (rc .ready none)));have aI:W1.heap.size=D+2:=by rw[←H,←Z];simp
 have al:W1.heap[L]?=some (.loop (rc .ready none)):=by
   rw[←H,←hL];have:=World.alloc_heap_new (w.alloc (.deferred (some []))) (.loop (rc .ready none));rwa [zz]at this
 have ah:W1.heap[D]?=some (.deferred (some [])):=by
   rw[←H,←Z];exact(kJ _ _ _ (by simp)).trans (World.alloc_heap_new w _)
 have aw:I 0 W1:=by rw[←H];exact U.alloc _ (U.alloc _ h0)
 have an:Below R.heap.size R W1:=by rw[←H];exact af.trans ((((zo _ w).alloc (zG _) _).alloc (by simp) _).mono af.size)
 have aH:L=D+1:=by omega
 refine⟨L,[{ target:=.collected D,args:=#[] }],W1,{ target:=.fn (.func gf) lb,args:=#[.func (.yield L) #[] #[]] },W1,gf,
   #[.func (.yield L) #[] #[]]++lb,W1,?_,?_,?_,?_,fun _=>by omega,?_⟩
 · rw[←H,s,←hL,←Z];exact run_enterLoop_outer _ _ _ _ _
 · simp only[resolve,hg];simp[go_sem]
 · exact fun _ _=>trivial
 · simp[invoke,go_sem,eg]
 -- the record's two blocks,beside what the caller holds
 have ac:∀(X:LoopState) (V:Option Code),OwnFrom W1.heap.size (fun(_:Nat) (W:World)=>(L<W.heap.size∧W.heap[L]?=some (.loop (rc X V)))∧D<W.heap.size∧W.heap[D]?=some (.deferred (some []))):=fun X V =>
   OwnFrom.and (xq _ (by omega)) (xq _ (by omega))
 have lt:∀ {W:World} {b:Nat} {o:Obj},W.heap[b]?=some o→b<W.heap.size:=fun h=>(Array.getElem?_eq_some_iff.1 h).1
 refine(aE (n-1) L
   (fun k W=>I k W∧(L<W.heap.size∧W.heap[L]?=some (.loop (rc .ready none)))∧D<W.heap.size∧W.heap[D]?=some (.deferred (some [])))
   (fun k W=>G k W∧(L<W.heap.size∧W.heap[L]?=some (.loop (rc .ready none)))∧D<W.heap.size∧W.heap[D]?=some (.deferred (some [])))
   (fun k W=>∃ c,S c k W∧(L<W.heap.size∧W.heap[L]?=some (.loop (rc .done (some c))))∧D<W.heap.size∧W.heap[D]?=some (.deferred (some [])))
   W1 (by omega) an (by omega) (OwnFrom.and (wI U (by omega)) (ac _ _)) (OwnFrom.and (wI aa (by omega)) (ac _ _))
   (fun k A B row O ai u=>by obtain⟨c,hc,aD⟩:=O;exact⟨c,wI (hIx c) (by omega) k A B row hc ai u,ac _ _ k A B row aD ai u⟩)
   (fun k A M O=>hNd k A M O.1) ?_ (fun hf W' O=>au hf W' O.1) ?_ ⟨aw,⟨lt al,al⟩,lt ah,ah⟩).mono ?_
 · rintro k A B M ⟨z,⟨_,f⟩,_,y⟩ ht;have ak:=(hT _ _ _ _ ht).2 L _ (by omega) f rfl;have ag:=(hT _ _ _ _ ht).2 D _ (by omega) y rfl;exact⟨hIT _ k A B (by omega) M z ht,⟨lt ak,ak⟩,lt ag,ag⟩
 · -- one round
   rintro k W ⟨z,⟨_,f⟩,_,y⟩ aA hm;have aB:L<W.heap.size:=lt f;have hy:=run_yield (P:=P) (args:=Y k) f (by rw[s];exact aC k);rw[s]at hy;refine⟨fn,_,assign,body,hy,roundIn_of_wpIn av (am _ k W _ ⟨_,run_beginRound f (by rw[s]),?_⟩)⟩;have az:(W.putObj L (.loop { rc .ready none with state:=.busy })).heap[L]?=some (.loop { rc .ready none with state:=.busy }):=World.putObj_heap_same aB;have ap:(W.putObj L (.loop { rc .ready none with state:=.busy })).heap[D]?=some (.deferred (some [])):=(qM (by omega)).trans y;have aG:x W (W.putObj L (.loop { rc .ready none with state:=.busy })):=ad _ _ _ _ (by omega) f rfl rfl;have aj:jS W1.heap.size W1.heap.size m W (W.putObj L (.loop { rc .ready none with state:=.busy })):=jS.putObj (by omega) (by omega);refine wpIn_mono (ao _ k _ (aa.putObj _ z (by omega) f rfl) aA (by simp;omega)) ?_
   have fin:∀(d:Option Code) (W3:World),jS w.heap.size (w.heap.size+2) m (W.putObj L (.loop { rc .ready none with state:=.busy })) W3 →
       (Instr.endRound L d).run P W3=.ok (.bool d.isNone) (W3.putObj L (.loop (rc (if d.isNone then .ready else .done) d))) ∧
       W3.heap[L]?=some (.loop { rc .ready none with state:=.busy }) ∧
       (W3.putObj L (.loop (rc (if d.isNone then .ready else .done) d))).heap[L]?=some (.loop (rc (if d.isNone then .ready else .done) d)) ∧
       (W3.putObj L (.loop (rc (if d.isNone then .ready else .done) d))).heap[D]?=some (.deferred (some [])) ∧
       jS W1.heap.size W1.heap.size m W (W3.putObj L (.loop (rc (if d.isNone then .ready else .done) d))):=fun d W3 j=>by
     have i:=j.others L _ (by omega) az rfl;have aq:=j.others D _ (by omega) ap rfl;have:=run_endRound (P:=P) d i;rw[s]at this ⊢;exact⟨this,by rw[s]at i;exact i,World.putObj_heap_same (lt i),(qM (by omega)).trans aq,by rw[s]at aj j;exact aj.trans ((j.mono (by omega) (by omega) (by omega)).trans (jS.putObj (by omega) (by omega)))⟩
   rintro e a3 W3 J;cases e with
   | normal =>
     obtain⟨j,ay,E⟩:=J;obtain⟨u,i,r,q,F⟩:=fin none W3 j;exact⟨_,_,u,.inl ⟨rfl,⟨U.putObj _ E (by omega) i rfl,⟨lt r,r⟩,lt q,q⟩,ae (ae aG ay) (ad _ _ _ _ (by omega) i rfl rfl),F⟩⟩
   | ret =>
     obtain⟨j,E⟩:=J;obtain⟨u,i,r,q,F⟩:=fin (some .ret) W3 j;exact⟨_,_,u,.inr ⟨rfl,⟨.ret,(hIx _).putObj _ E (by omega) i rfl,⟨lt r,r⟩,lt q,q⟩,F⟩⟩
   | exit id =>
     obtain⟨j,E⟩:=J;obtain⟨u,i,r,q,F⟩:=fin (some (.exit id)) W3 j;exact⟨_,_,u,.inr ⟨rfl,⟨.exit id,(hIx _).putObj _ E (by omega) i rfl,⟨lt r,r⟩,lt q,q⟩,F⟩⟩
   | goto t =>
     obtain⟨j,E⟩:=J;obtain⟨u,i,r,q,F⟩:=fin (some (.goto t)) W3 j;exact⟨_,_,u,.inr ⟨rfl,⟨.goto t,(hIx _).putObj _ E (by omega) i rfl,⟨lt r,r⟩,lt q,q⟩,F⟩⟩
   | panic ch=>exact J.elim
   | outgrown=>exact J.elim
 · -- behind the iterator
   rintro e W2 ⟨⟨v,rfl⟩,(⟨z,⟨_,f⟩,_,y⟩|⟨k,ax,M,c,z,⟨_,f⟩,_,y⟩)⟩
   · exact⟨none,_,by have:=run_endLoop (P:=P) f (by rw[s];simp);rw[s]at this;exact this,ar _ _ (by omega) (aa.putObj _ z (by omega) f rfl) ((qM (by omega)).trans y)⟩
   · exact⟨some c,_,by have:=run_endLoop (P:=P) f (by rw[s];simp);rw[s]at this;exact this,aF _ c k _ (by omega) ax M ((hIx c).putObj _ z (by omega) f rfl) ((qM (by omega)).trans y)⟩
theorem fY:∀ B k W1 W2,rD B k W1 W2→W1.heap.size≤W2.heap.size∧∀ b o,b<B→W1.heap[b]?=some o→o.isCells=false→W2.heap[b]?=some o:=fun _ _ _ _ h =>
 ⟨h.size,fun b o _ a _=>(h.block b (Array.getElem?_eq_some_iff.1 a).1 (by simp)).trans a⟩
theorem fK {B:Nat}{I:Nat→World→Prop}(h:OwnFrom B I){C k:Nat}{W1 W2:World}(a:I k W1)(b:rD C k W1 W2):I k W2:=h k W1 W2 none a b (fun r e=>by cases e)
end Go.Proofs.YtaemogcomplhiaaGreatDoor
namespace Go.Proofs.YtaemogcomplhiaaGreatDoor
open Go.RowKit Go.Shelf
attribute [local go_sem] Oper.semAt_some
def yy (lo a:Nat) (W W':World):Prop:=W.heap.size≤W'.heap.size∧∀ k,lo≤k→k<a→W'.heap[k]?=W.heap[k]?
theorem yy.trans {lo d:Nat}{a b c:World}(h:yy lo d a b)(k:yy lo d b c):yy lo d a c:=⟨zK h.1 k.1,fun i e f=>(k.2 i e f).trans (h.2 i e f)⟩
theorem yy.refl (lo a:Nat)(w:World):yy lo a w w:=⟨zG _,fun _ _ _=>rfl⟩
theorem oM (d lo l:Nat)(P:Nat→Prop)(A:Option Addr)(c:Nat)(a:List Nat)(w:World)(q:∀ b,P b→lo≤b∧b<l)(ad:lo≤d)(y:d<l)(L:l≤w.heap.size)(H:w.cell? ⟨d,0,none⟩=some (.slice A a.length c))(C:RN w P A c a) :
 zDX Tryz.prog 106 #[.pointer (some ⟨d,0,none⟩)] (fun k=>#[.int .i64 ((jw (val 18446744073709551616 a) k).1:Int),.int .u64 ((jw (val 18446744073709551616 a) k).2:Int)]) zEe rD (yy lo l) 0 (qD (val 18446744073709551616 a)) true w:=by
 intro n l' J J' Jx W hn s _ _ _ _ _ r _ t S
 have hc:=(s.cell (p:=⟨d,0,none⟩) (zH y L)).trans H
 have hR:=C.below s fun b Y=>zH (q b Y).2 L
 have zW:=s.size
 clear H C
 have F:=zF (fun W (h:RN W P A c a)=>(callsIn_wide (n:=n-1)).2 (vO P A c a W h))
 have Z:=zF (fun i W (h:RN W P A c a) (hi:i≤9223372036854775807)=>(callsIn_wide (n:=n-1)).2 (zC5 P A c a i W h hi))
 have aa:=hR.cap
 have I:qD (val 18446744073709551616 a)≤64*a.length:=by
  apply aB;have:=kF hR.2.1;rwa [show(18446744073709551616:Nat)=2^64 by decide,←vW]at this
 have G:=fun k=>(show uK (val 18446744073709551616 a) ((k:Nat):Int)=val 18446744073709551616 a/2^k%2 by simp[uK,show ¬(k:Int)<0 by omega])
 have Q:=zF G
 clear G
 generalize hx:val 18446744073709551616 a=x at *
 have D:=zF (fun k=>(show jw x k=(qD x-1-k,x/2 ^(qD x-1-k)%2) by rfl))
 obtain⟨f,K⟩:=eV (qD x)
 rw[K]at F D I t r ⊢
 have v:=zF r
 have N:=zF t
 clear r t
 clear hx K
 have ah:f≤64000000:=by have:=aa.2.2;omega
 clear I
 refine callsIn_of_wp Tryz.func106 rfl trivial ?_ rfl
 simp only[Tryz.ntmps106,qZ,jP,jk,Nat.reduceAdd,Nat.reduceSub,Array.replicate_succ,Array.replicate_zero,List.push_toArray,List.append_toArray,vh,ul]
 gi_wp2
 refine⟨trivial,(F.out _ hR).mono ?_⟩
 rintro e w' ⟨rfl,rfl⟩
 have R:=zF (xW f)
 gi_wp2
 gi_loopw [3] (fun i wr=>∃(k:Nat) (z:Int),k≤f∧wB (f-k) z∧i=.int .i64 z∧J k wr∧yy lo l W wr)
  (fun i _=>(intOf i+1).toNat)
 case atStart=>exact⟨0,_,xB _,R.out,rfl,S,yy.refl _ _ _⟩
 case round =>
  obtain⟨k,z,hk,hz,rfl,B,o⟩:=hrel;have af:=(qB (w':=wr) (a:=⟨d,0,none⟩) (o.2 d ad y)).trans hc;have X:=hR.keep (w':=wr) fun p M=>qB (o.2 _ (q _ M).1 (q _ M).2);rcases hz with⟨ag,rfl⟩|⟨j,hj,rfl⟩
  · obtain rfl:k=f:=by omega
    have ab:=v.out k _ _ (zG _) B (World.grownBy.refl wr none);gi_wp2;go_end0;exact⟨⟨_,rfl⟩,.inl ab⟩
  · obtain⟨fn,tmps,assign,body,u,V⟩:=N.out k wr (v.out k _ _ hk B (World.grownBy.refl wr none)) (by omega) (by have:=o.1;omega);have g:=D.out k;rw[show f-1-k=j by omega]at g;have m:=Z.out (j:Int) wr X (by omega);rw[Q.out j]at m;rw[g]at u;obtain⟨bb,E⟩:=eV (x/2^j%2);rw[E]at u g m;dsimp only at u;have O:=zF m;have ae:=zF g;clear g m E;gi_wp2;refine⟨trivial,O.out.mono ?_⟩;rintro e w' ⟨rfl,rfl⟩;gi_wp2;refine V.mono ?_;rintro e W3 (⟨rfl,T,ac,_⟩|⟨rfl,U,_⟩)
    · gi_wp2;go_roundw;case rel=>exact⟨k+1,_,by omega,by rw[show f-(k+1)=j by omega];exact xW j,rfl,T,o.trans ac⟩
      case measure=>simp[intOf]
    · gi_wp2;refine vg (results_none rfl _ _ _) rfl ?_;exact⟨⟨_,rfl⟩,.inr ⟨k+1,by omega,by omega,U⟩⟩
end Go.Proofs.YtaemogcomplhiaaGreatDoor
namespace Go.Proofs.YtaemogcomplhiaaGreatDoor
open Go
namespace Par
def wW (o:Oper):Bool:=match o.op with | .defer _=>false|_=>true
theorem dB {o:Oper}(h:wW o=true)(c:Call):o.op≠.defer c:=fun e=>by simp[wW,e]at h
def au (Q:Exit→Act→World→Prop):Exit→Act→World→Prop:=fun e a w=>e≠.outgrown∧Q e a w
section
variable {P:Program} {ops:Array Oper} {Q:Exit→Act→World→Prop} {md:Region.Mode} {l n:Nat}
theorem oA:¬ LetsOut (au Q):=fun⟨_,_,h,_⟩=>h rfl
theorem pJ {o:Oper}{a:Act}{w:World}{K:Act→World→Prop}(d:wW o=true)(b:o.wp P a w K Q):o.wpIn (Fence.wide.inRound l) n P a w K Q:=by
 refine⟨fun _ _=>trivial,?_⟩;rw[Oper.semAt_eq _ _ _ (dB d)];unfold Oper.wp at b;generalize(execOp a.eval o).run P w=r at *;cases r with
 | ok x w' =>
   cases x<;>simp only[Oper.upon,Oper.uponIn]at b ⊢;case enter f args=>exact⟨(fun h=>by cases h),(callsIn_wide (n:=n-1)).2 b⟩
   case row r args=>exact⟨(fun h=>by cases h),fun c cs _=>let ⟨v,w'',r,s⟩:=b c cs;⟨v,w'',r,stepsIn_wide.2 s⟩⟩
   all_goals first|exact b|exact b.elim
 | halt x w'=>cases x<;>simp only[Oper.upon,Oper.uponIn]at b ⊢ <;> exact b
theorem n8 (e:∀(i:Nat) o,ops[i]?=some o→wW o=true)(f:¬ LetsOut Q){i:Nat}{K d:Act→World→Prop}(c:∀ a w,K a w→d a w){a:Act}{w:World}(b:wpOp P ops Q i K a w) :
 wpOpIn (Fence.wide.inRound l) n P ops Q i d a w:=by
 unfold wpOp at b
 unfold wpOpIn
 split
 · rename_i h;simp only[h]at b;exact c _ _ b
 · rename_i o h;simp only[h]at b;split
   · rename_i hw;simp only[hw,if_true]at b;rcases b with b|b
     · exact Oper.wpIn_mono c (pJ (e _ _ h) b)
     · exact absurd b.2 f
   · rename_i hw;simp only[hw]at b;exact⟨fun _ _=>trivial,c _ _ b⟩
theorem mK (b:∀(i:Nat) o,ops[i]?=some o→wW o=true)(c:¬ LetsOut Q):∀(fuel:Nat) (listed:Array Bool) (a:Act) (w:World),wpAny P md ops Q fuel listed a w→wpAnyIn (Fence.wide.inRound l) n P md ops Q fuel listed a w
 | 0,_,_,_,h=>h
 | fuel+1,_,_,_,h=>⟨h.1,fun i e=>n8 b c (fun a' w' d=>mK b c fuel _ a' w' d) (h.2 i e)⟩
theorem ar (b:∀(i:Nat) o,ops[i]?=some o→wW o=true)(c:¬ LetsOut Q):∀(k:List Nat) (a:Act) (w:World),wpOps P ops Q k a w→wpOpsIn (Fence.wide.inRound l) n P ops Q k a w
 | [],_,_,h=>h
 | i :: k, a, w, h => by
   rw[wpOpsIn_cons];refine n8 (K:=wpOps P ops Q k) b c (fun a' w' d=>ar b c k a' w' d) ?_;unfold wpOps at h;unfold wpOp;exact h
theorem cT {ol:List Oper}(h:ol.all wW=true)(i:Nat)(o:Oper)(a:ol.toArray[i]?=some o):wW o=true:=by
 rw[zQ]at a;exact List.all_eq_true.1 h o (xC a)
theorem oO {c:Code}{a:Act}{w:World}(h:c.wpIn (Fence.wide.inRound l) n P (au Q) a w):c.wpIn (Fence.wide.inRound l) n P Q a w:=wpIn_mono h fun _ _ _ h=>h.2
theorem aU {ol:List Oper}{g:Nat}{a:Act}{w:World}(c:P.follows .mixedOrders=true)(m:Nat)(L AL:List Nat)(R:Nat→(Nat→Value)→World→Prop)(d:ok ol.toArray (fun i=>L.getD i 0) m=true)(pl:List (Nat×Nat))(e:sel ol.toArray (fun _=>true) (List.range m)=pl)(b:ol.all wW=true)
 (f:qT (jV P ol (au Q) Ext m L AL R a w) (Fin P ol (au Q) Ext m L AL R pl a w) 0 m ol):(Code.region g ol.toArray true).wpIn (Fence.wide.inRound l) n P Q a w :=
 oO (wpIn_region_any c (mK (cT b) oA _ _ _ _ (bM zT (fun _ _ _=>jb) (fun _ _=>Ext.bsize) (vR w) m L AL R d pl e f)))
theorem wU {ol:List Oper}{f:Nat}{a:Act}{w:World}(m:Nat)(L AL:List Nat)(R:Nat→(Nat→Value)→World→Prop)(b:ok ol.toArray (fun i=>L.getD i 0) m=true)(pl:List (Nat×Nat))(d:sel ol.toArray (fun _=>true) (List.range m)=pl)(c:ol.all wW=true)
 (e:qT (jV P ol (au Q) Ext m L AL R a w) (Fin P ol (au Q) Ext m L AL R pl a w) 0 m ol):(Code.region f ol.toArray false).wpIn (Fence.wide.inRound l) n P Q a w:=by
 refine oO (wpIn_region (ar (cT c) oA _ _ _ ?_))
 have h:=bM zT (fun _ _ _=>jb) (fun _ _=>Ext.bsize) (zT w) m L AL R b pl d e
 rw[ag]at h
 rw[List.range_eq_range']
 exact oT (ok.form b) _ 0 a w (by omega) h
end
end Par
end Go.Proofs.YtaemogcomplhiaaGreatDoor
namespace Go.Proofs.YtaemogcomplhiaaGreatDoor
open Go.RowKit Go.Shelf
attribute [local go_sem] Oper.semAt_some
def kT (E k:Nat):Nat:=E/2 ^(qD E-k)
theorem gN (E:Nat):kT E 0=0:=by rw[kT,Nat.sub_zero];exact ql (uG (zG _))
theorem fL (E:Nat):kT E (qD E)=E:=by rw[kT,uk,Nat.pow_zero,Nat.div_one]
theorem uA {E k:Nat}(a:k<qD E):kT E (k+1)=2*kT E k+(jw E k).2:=by
 rw[kT,kT,jw,show qD E-k=(qD E-(k+1))+1 by omega,show qD E-1-k=qD E-(k+1) by omega,zx,←yM];have:=jj (E/2 ^(qD E-(k+1))) 2;omega
theorem tp {x E k:Nat}(b:k<qD E)(a:(jw E k).2=0):x^kT E (k+1)=x^kT E k*x^kT E k:=by
 rw[uA b,a,jF,Nat.two_mul,qQ]
theorem sV {x E k:Nat}(b:k<qD E)(a:(jw E k).2=1):x^kT E (k+1)=x^kT E k*x^kT E k*x:=by
 rw[uA b,a,zx,Nat.two_mul,qQ]
theorem jS.just {B C g:Nat}{X Y:World}{cs:Array Value}{t:TypeId}{fr:Nat×Nat}(h:jE g X Y)(c:X.heap[g]?=some (.cells cs t fr)):jS B C 0 X Y :=
 ⟨h.size, fun k o _ a d => by
  by_cases hkg:k=g
  · subst hkg
    rw[c]at a
    cases a
    cases d
  · exact(h.block k (qd a) hkg).trans a,fun k e b=>absurd b (by omega)⟩
theorem jE.stay {g lo a:Nat}{X Y:World}(h:jE g X Y)(d:g<lo)(e:a≤X.heap.size):yy lo a X Y:=⟨h.size,fun k b c=>h.block k (by omega) (by omega)⟩
theorem Ext.stay {lo a:Nat}{X Y:World}(h:Ext X Y)(c:a≤X.heap.size):yy lo a X Y:=⟨h.bsize,fun k _ b=>Below.block h k (by omega)⟩
theorem zBw (w:World)(a o2 o3:Obj):(((w.alloc a).alloc o2).alloc o3).heap[w.heap.size]?=some a∧(((w.alloc a).alloc o2).alloc o3).heap[w.heap.size+1]?=some o2∧(((w.alloc a).alloc o2).alloc o3).heap[w.heap.size+2]?=some o3∧(((w.alloc a).alloc o2).alloc o3).heap.size=w.heap.size+3:=by
 have c:=zS (w.alloc a) o2;have b:=zS ((w.alloc a).alloc o2) o3;rw[zz]at c b;rw[zz]at b;exact⟨(zL _ _).at_ ((zL _ _).at_ (zS w a)),(zL _ _).at_ c,b,by simp⟩
theorem tz {g n inv M:Nat}{ml ol rl la:List Nat}(w:World)(hF:FR w g n inv M ml ol rl)(ak:FE M n ol 1)(x E:Nat)(ha:FE M n la x)(Pe:Nat→Prop)(Ae:Option Addr)(ce:Nat)(e:List Nat)(he:RN w Pe Ae ce e)(aI:∀ b,Pe b→b<w.heap.size)(hE:val 18446744073709551616 e=E) :
 Calls Tryz.prog 108 #[.pointer (some ⟨g,0,none⟩),EV la,.slice Ae e.length ce] w fun e w'=>∃ o,e=.returned (EV o)∧FE M n o (x^E)∧Ext w w':=by
 obtain⟨W0,Q⟩:=eW (((w.alloc (.cells #[.pointer (some ⟨g,0,none⟩)] 107)).alloc (.cells (nts la).toArray 109)).alloc (.cells #[.int .u64 0,.int .u64 0,.int .u64 0,.int .u64 0,.int .u64 0,.int .u64 0] 109))
 obtain⟨s,hs⟩:=eV w.heap.size
 have aA:Ext w W0:=by rw[Q];exact((zL _ _).trans (zL _ _)).trans (zL _ _)
 obtain⟨m0,m1,m2,an⟩:=zBw w (.cells #[.pointer (some ⟨g,0,none⟩)] 107) (.cells (nts la).toArray 109) (.cells #[.int .u64 0,.int .u64 0,.int .u64 0,.int .u64 0,.int .u64 0,.int .u64 0] 109)
 rw[←Q,hs]at m0 m1 m2 an
 have hg:=hF.ff.fld.lt
 have c0:W0.cell? ⟨s,0,none⟩=some (.pointer (some ⟨g,0,none⟩)):=zP m0 0
 have aC:=zF (fun X (h:Ext w X)=>hF.below h hg)
 have ap:=zF aA
 have aY:=zF an
 have Z:=zF hs
 obtain⟨cs,ac⟩:=eV ((nts la).toArray)
 have hA:xR W0 (s+1) la:=m1
 rw[show EV la=.agg cs by rw[EV,ac]]
 rw[ac]at Q
 have ba:=zF ac
 clear ac m0 m1 aA an
 refine(callsIn_wide (n:=6)).1 ?_
 refine callsIn_of_wp_marks Tryz.func108 rfl trivial ?_ rfl
 simp only[Tryz.ntmps108,qZ,jP,jk,Nat.reduceAdd,Nat.reduceSub,Array.replicate_succ,Array.replicate_zero,List.push_toArray,List.append_toArray,vh,ul]
 refine wpIn_wide.2 ?_
 go_upto_region 1 with fail
 rw[←Q]
 have a9:=zF Q
 clear Q hs
 refine zR 5 [0,1,3,7,0,31] [4] (fun j f X=>match j with
  | 0=>f 0=.pointer (some ⟨g,0,none⟩)
  | 1=>f 1=.pointer (some ⟨g,0,none⟩)
  | 2=>f 2=.pointer (some ⟨g,8,none⟩)
  | 3=>f 3=EV ol
  | 4=>∃ b,f 4=.pointer (some ⟨b,0,none⟩)∧W0.heap.size≤b∧X.heap[b]?=some (.cells #[.int .u64 0,.int .u64 0,.int .u64 0,.int .u64 0,.int .u64 0,.int .u64 0] 109 (0,0))
  | _=>True) (by kernel_rfl) [(10,0),(11,1),(12,2),(13,3),(7,4)] (by kernel_rfl) ?_
 refine Par.ld0 1 4 c0 ?_
 refine zt 2 3 0 ?_
 refine zt 3 2 1 ?_
 refine zv 4 1 [(10,0),(11,1),(12,2),(7,4)] (fun f X a hR K c=>?_) ?_
 · have u:f 2=_:=hR.out 2 rfl;simp only[yZ,u];refine⟨zU (by kernel_rfl) (vA (.tmp 12) rfl rfl (aC.out X (ap.out.trans a)).r_one ak.elt.six ?_)⟩;exact c.out _ (EV ol) _ (by simp only[yZ,u]) (zT _) trivial (fun _ _=>rfl)
 refine kr 5 0 ?_
 refine yF ⟨fun f X a hR N O=>?_⟩
 have H:f 3=_:=hR 3 (by decide)
 obtain⟨d,(e4:f 4=_),l4,h4⟩:=hR 4 (by decide)
 simp only[yZ,H,e4]
 clear hR N O H e4
 refine zO (fun K c=>⟨zU (by kernel_rfl) (qi (.tmp 7) (.tmp 13) rfl rfl rfl rfl h4 ku ak.elt.six (fun Y1 m=>c.out _ _ ?_))⟩)
 refine zI ?_
 have S:Ext W0 Y1:=m.ext a (by have:=l4;omega)
 have zq:s+3≤d:=by have:=aY.out;omega
 have ao:d<Y1.heap.size:=m.blk.lt
 have c1:=S.cell c0
 have ax:xR Y1 (s+1) la:=S.at_ hA
 have aP:xR Y1 d ol:=m.blk
 have m3:=S.at_ m2
 have ad:=ap.out.trans S
 have aj:=oN Pe Ae ce e Y1 (he.below ad aI) (fun b hb=>zH (aI b hb) ad.bsize)
 rw[hE]at aj
 have av:=zF aj
 clear aj m l4 h4 a m2 hA c0
 go_wp2_with (go_at_call 76;refine av.out.mono ?_;rintro e' w3 ⟨aR,aZ,rfl,be,af,aa⟩)
 obtain⟨t,T⟩:=eV Y1.heap.size
 rw[T]at be af aa ao
 have zn:t<w3.heap.size:=qd be
 have ag:=zP be 0
 simp only[zQ,ze]at ag
 have al:=oM t t w3.heap.size (In t w3.heap.size) aR aZ (digs 18446744073709551616 E) w3 (fun b hb=>hb) (zG _) zn (zG _) ag af.rn
 rw[zi (by omega)]at al
 have aW:=zF al
 have P:Ext Y1 w3:=by rw[←T]at aa;exact aa
 have aB:=ad.trans P
 have c3:=P.cell c1
 have ay:xR w3 (s+1) la:=P.at_ ax
 have a6:xR w3 d ol:=P.at_ aP
 have m4:=P.at_ m3
 have a3:VE w3 M n d (x^kT E 0):=⟨ol,a6,by rw[gN,Nat.pow_zero];exact ak⟩
 have aD:=zF (fun X (h:Below d w3 X)=>(aC.out w3 aB).below h (by have:=Z.out;omega))
 clear al av ag be af aa P c1 ax aP m3 S
 have ae:OwnFrom w3.heap.size (fun(k:Nat) X=>VE X M n d (x^kT E k)∧Below d w3 X):=by
  rintro k X X' row ⟨⟨l,h1,h2⟩,F⟩ aN hr;have a7:=fun r e=>(hr r e).2;exact⟨⟨l,(yS aN a7 h1 rfl).trans h1,h2⟩,ownFrom_below (by omega) (by omega) k X X' row F aN hr⟩
 refine(wpIn_wide (n:=6)).1 ?_
 refine' ab (by omega) (gf:=106) (lb:=#[.pointer (some ⟨t,0,none⟩)]) (by rw[←T];rfl) (enters_of Tryz.func106 (by kernel_rfl) rfl)
  aW.out (fun h k=>yy.trans h k) (fun X l o o' y ho _ _=>⟨by simp,fun i _ hi=>qM (by omega)⟩) fY (zo _ _) (fun _=>rfl)
  (fun k X=>VE X M n d (x^kT E k)∧Below d w3 X) (fun k X=>VE X M n d (x^kT E k)∧Below d w3 X) (fun _ _ _=>False)
  ae ae (fun _ _ _ _ _ h=>h.elim) (fun _ _ _ _=>trivial) (fun B k A C _ _ hi T=>?hIT) (fun h=>by cases h) ⟨a3,zo _ _⟩ _ ?assign ?body ?done ?stop
 case hIT=>exact fK (I:=fun k X=>VE X M n d (x^kT E k)∧Below d w3 X) (B:=w3.heap.size) ae hi T
 case assign =>
  intro l k X K c;gi_wp2;exact c
 case body =>
  rintro l k V ⟨⟨lo,y,G⟩,F⟩ aO _;have zV:=F.size;have hq:d<V.heap.size:=y.lt;have cV:V.cell? ⟨s,0,none⟩=some (.pointer (some ⟨g,0,none⟩)):=(F.cell (p:=⟨s,0,none⟩) (by show s<d;omega)).trans c3;have a0:xR V (s+1) la:=(F.block (s+1) (by omega)).trans ay;have L:=zF G;have ah:(jw E k).2=0∨(jw E k).2=1:=by
   have:(jw E k).2<2:=qP _ (by omega);omega
  obtain⟨bt,ai⟩:=eV ((jw E k).2);rw[ai]at ah ⊢;have au:=zF ai;have aV:=zF ah;have H5:=zF F;obtain⟨v,hv⟩:=eV (x^kT E k);rw[hv]at L G;have Hv:=zF hv;have bb:=zF y;clear hv ai ah G F;gi_upto_region 4 with fail
  refine Par.wU 4 [0,0,0,7,15] [] (fun j f X=>match j with
   | 0=>f 0=.pointer (some ⟨g,0,none⟩)
   | 1=>f 1=EV lo
   | 2=>f 2=EV lo
   | 3=>∃ o,f 3=EV o∧FE M n o (v*v)
   | _=>True) (by kernel_rfl) [(18,0),(19,1),(20,2),(21,3)] (by kernel_rfl) (by kernel_rfl) ?_
  refine zv 1 3 [(19,1),(20,2)] (fun f X a hR K c=>?_) ?_
  · have x0:=a.cell cV;simp only[yZ];refine⟨?_⟩;go_simp;exact qY c (s:=by simp only[yZ])
  refine zv 2 2 [(18,0),(20,2)] (fun f X a hR K c=>?_) ?_
  · simp only[yZ];refine⟨zU (by kernel_rfl) (vA (.tmp 7) rfl rfl (xR.range (a.at_ y)) L.out.elt.six ?_)⟩;exact c.out _ (EV lo) _ (by simp only[yZ]) (zT _) trivial (fun _ _=>rfl)
  refine zv 3 1 [(18,0),(19,1)] (fun f X a hR K c=>?_) ?_
  · simp only[yZ];refine⟨zU (by kernel_rfl) (vA (.tmp 7) rfl rfl (xR.range (a.at_ y)) L.out.elt.six ?_)⟩;exact c.out _ (EV lo) _ (by simp only[yZ]) (zT _) trivial (fun _ _=>rfl)
  refine zv 4 0 [(18,0),(19,1),(20,2)] (fun f X a hR K c=>?_) ?_
  · have q:f 0=_:=hR.out 0 rfl;have z:f 1=_:=hR.out 1 rfl;have u:f 2=_:=hR.out 2 rfl;simp only[yZ,q,z,u];refine⟨?_⟩;go_simp;refine(uc X (aD.out X (H5.out.trans (Below.mono a (by omega)))).ff L.out L.out).mono ?_;rintro e w2 ⟨o,rfl,ho,hB⟩;exact c.out _ (EV o) _ (by simp only[yZ,q,z,u]) hB trivial (fun Y hY=>⟨o,rfl,ho⟩)
  refine yF ⟨fun f X a hR N O=>?_⟩;have q:f 0=_:=hR 0 (by decide);have z:f 1=_:=hR 1 (by decide);have u:f 2=_:=hR 2 (by decide);obtain⟨o3,(H:f 3=_),J⟩:=hR 3 (by decide);simp only[yZ,q,z,u,H];clear hR N O q z u H;refine zO (fun K c=>⟨zU (by kernel_rfl) (qi (.tmp 7) (.tmp 21) rfl rfl rfl rfl (a.at_ y) (by rw[qk];exact L.out.elt.six) J.elt.six (fun Y1 m=>c.out _ _ ?_))⟩);refine zI ?_;refine⟨nofun,?_⟩;have aE:jS w3.heap.size (w3.heap.size+2) 0 V Y1:=(jS.below a (zG _)).trans (jS.just m.just (a.at_ y));have aJ:yy t w3.heap.size V Y1:=yy.trans (a.stay zV) (m.just.stay ao (zK zV a.bsize));have R:Below d w3 Y1:=(H5.out.trans (Below.mono a (by omega))).trans (m.just.below (zG _) (by have:=a.bsize;omega));have am:xR Y1 d o3:=m.blk;have zY:=R.size;have bc:d<Y1.heap.size:=am.lt;have aq:=zF aE;have ar:=zF aJ;have W:=zF R;have aw:=zF am;have U:=zF J;have cY:Y1.cell? ⟨s,0,none⟩=some (.pointer (some ⟨g,0,none⟩)):=(R.cell (p:=⟨s,0,none⟩) (by show s<d;omega)).trans c3;have a1:xR Y1 (s+1) la:=(R.block (s+1) (by omega)).trans ay;clear aE aJ R am m a J y cV a0 L;rcases aV.out with aL|aM
  · have hp:=zF (tp (x:=x) aO (au.out.trans aL));subst aL;gi_wp2;exact⟨aq.out,ar.out,⟨o3,aw.out,by rw[hp.out,Hv.out];exact U.out⟩,W.out⟩
  · have hp:=zF (sV (x:=x) aO (au.out.trans aM));rw[aM,show((1:Nat):Int)=1 from rfl];gi_upto_region 6 with fail
    rename World=>V1;have y:=aw.out;have aQ:=W.out.size
    refine Par.wU 4 [0,0,0,7,15] [] (fun j f X=>match j with
     | 0=>f 0=.pointer (some ⟨g,0,none⟩)
     | 1=>f 1=EV o3
     | 2=>f 2=EV la
     | 3=>∃ o,f 3=EV o∧FE M n o (v*v*x)
     | _=>True) (by kernel_rfl) [(24,0),(25,1),(26,2),(27,3)] (by kernel_rfl) (by kernel_rfl) ?_
    refine zv 1 3 [(25,1),(26,2)] (fun f X a hR K c=>?_) ?_
    · have x0:=a.cell cY;simp only[yZ];refine⟨?_⟩;go_simp;exact qY c (s:=by simp only[yZ])
    refine zv 2 2 [(24,0),(26,2)] (fun f X a hR K c=>?_) ?_
    · simp only[yZ];refine⟨zU (by kernel_rfl) (vA (.tmp 7) rfl rfl (xR.range (a.at_ y)) U.out.elt.six ?_)⟩;exact c.out _ (EV o3) _ (by simp only[yZ]) (zT _) trivial (fun _ _=>rfl)
    refine zv 3 1 [(24,0),(25,1)] (fun f X a hR K c=>?_) ?_
    · simp only[yZ];refine⟨zU (by kernel_rfl) (vA (.tmp 4) rfl rfl (xR.range (a.at_ a1)) ha.elt.six ?_)⟩;exact c.out _ (EV la) _ (by simp only[yZ]) (zT _) trivial (fun _ _=>rfl)
    refine zv 4 0 [(24,0),(25,1),(26,2)] (fun f X a hR K c=>?_) ?_
    · have q:f 0=_:=hR.out 0 rfl;have z:f 1=_:=hR.out 1 rfl;have u:f 2=_:=hR.out 2 rfl;simp only[yZ,q,z,u];refine⟨?_⟩;go_simp;refine(uc X (aD.out X (W.out.trans (Below.mono a (by omega)))).ff U.out ha).mono ?_;rintro e w2 ⟨o,rfl,ho,hB⟩;exact c.out _ (EV o) _ (by simp only[yZ,q,z,u]) hB trivial (fun Y hY=>⟨o,rfl,ho⟩)
    refine yF ⟨fun f X a hR N O=>?_⟩;have q:f 0=_:=hR 0 (by decide);have z:f 1=_:=hR 1 (by decide);have u:f 2=_:=hR 2 (by decide);obtain⟨o5,(H:f 3=_),J⟩:=hR 3 (by decide);simp only[yZ,q,z,u,H];clear hR N O q z u H;refine zO (fun K c=>⟨zU (by kernel_rfl) (qi (.tmp 7) (.tmp 27) rfl rfl rfl rfl (a.at_ y) (by rw[qk];exact U.out.elt.six) J.elt.six (fun Y2 m=>c.out _ _ ?_))⟩);refine zI ?_;refine⟨nofun,?_⟩;have aG:jS w3.heap.size (w3.heap.size+2) 0 V1 Y2:=(jS.below a (zG _)).trans (jS.just m.just (a.at_ y));have aK:yy t w3.heap.size V1 Y2:=yy.trans (a.stay aQ) (m.just.stay ao (zK aQ a.bsize));have az:Below d w3 Y2:=(W.out.trans (Below.mono a (by omega))).trans (m.just.below (zG _) (by have:=a.bsize;omega));have aT:=zF (aq.out.trans aG);have aU:=zF (yy.trans ar.out aK);have aS:=zF az;have aX:=zF m.blk;have H4:=zF J;clear aG aK az m J;gi_wp2;exact⟨aT.out,aU.out,⟨o5,aX.out,by rw[hp.out,Hv.out];exact H4.out⟩,aS.out⟩
 case done =>
  rintro D V hD ⟨⟨lo,y,G⟩,F⟩ a4;rw[fL]at G;have a5:=(F.block (s+2) (by omega)).trans m4;go_upto_region 7 with fail
  refine zR 1 [0,1] [] (fun j f X=>match j with
   | 0=>f 0=EV lo
   | _=>True) (by kernel_rfl) [(28,0)] (by kernel_rfl) ?_
  refine zv 1 0 [] (fun f X a hR K c=>?_) ?_
  · simp only[yZ];refine⟨zU (by kernel_rfl) (vA (.tmp 7) rfl rfl (xR.range (a.at_ y)) G.elt.six ?_)⟩;exact c.out _ (EV lo) _ (by simp only[yZ]) (zT _) trivial (fun _ _=>rfl)
  refine yF ⟨fun f X a hR N O=>?_⟩;have q:f 0=_:=hR 0 (by decide);simp only[yZ,q];clear hR N O q;refine zO (fun K c=>⟨zU (by kernel_rfl) (qi (.tmp 6) (.tmp 28) rfl rfl rfl rfl (a.at_ a5) ku G.elt.six (fun Y2 m=>c.out _ _ ?_))⟩);refine zI ?_;go_wp2;have aH:Y2.heap[D]?=some (.deferred (some [])):=m.other (by omega) (a.at_ a4);have a8:(Y2.putObj D (.deferred none)).heap[s+1+1]?=some (.cells (nts lo).toArray 109 (0,0)):=(qM (by omega)).trans m.blk;have a2:Ext w Y2:=m.ext (jJ aB (Below.mono (F.trans (Below.mono a (by have:=F.size;omega))) (by have:=Z.out;omega))) (by have:=Z.out;omega);refine⟨by simp,.inl ⟨_,_,rfl,run_takeDeferred aH,_,wu rfl _ _ (s+1+1) _ _ _ (.array 6 65) rfl a8 Tryz.underlying109 rfl (by rw[qZ,qk,G.elt.six];exact aF),⟨lo,rfl,G,jJ a2 (belowK_b (w:=w) (zG _) Y2 D _ _ (by have:=Z.out;omega) aH rfl rfl)⟩⟩⟩
 case stop=>exact fun _ _ _ _ _ _ _ h _=>h.elim
end Go.Proofs.YtaemogcomplhiaaGreatDoor
namespace Go.Proofs.YtaemogcomplhiaaGreatDoor
open Go.RowKit
def PtV (w:World) (base:Nat) (v:Value):Option (Nat×Nat)→Prop
 | none=>v=yU
 | some p=>∃ A c A' c',v=.agg #[.bool false,.slice A (digs 18446744073709551616 p.1).length c,.slice A' (digs 18446744073709551616 p.2).length c']∧OB w base A c (digs 18446744073709551616 p.1)∧OB w base A' c' (digs 18446744073709551616 p.2)
def aK (M x y z:Nat):Option (Nat×Nat):=if z%M=0 then none else let u1:=z ^(M-2);let u2:=mm M u1 u1;let u3:=mm M x u2;let u4:=mm M u2 u1;let u5:=mm M y u4;some (u3%M,u5%M)
theorem zBO {P0:Nat→Prop}{k g size n inv M bb:Nat}{pl nl bl xl yl ml ol rl tl fl lx ly lz:List Nat}{Ap An Ab Ax Ay:Option Addr}{cp cn cb cx cy x y z:Nat}(w:World)
 (hk:Num w P0 k g size n inv M bb pl nl bl xl yl ml ol rl tl fl Ap An Ab Ax Ay cp cn cb cx cy) (ak:∀ b,P0 b→b<w.heap.size) (aO:pl.length<100000) (hj:FJ M n lx ly lz x y z) :
 Calls Tryz.prog 78 #[.pointer (some ⟨k,0,none⟩),JV lx ly lz] w fun e w'=>∃ v,e=.returned v∧PtV w' w.heap.size v (aK M x y z)∧Ext w w':=by
 obtain⟨cs,am⟩:=eV ((nts (lx++ly++lz)).toArray)
 obtain⟨W0,N⟩:=eW ((w.alloc (.cells cs 123)).alloc (.cells #[.bool false,.slice none 0 0,.slice none 0 0] 33))
 obtain⟨q,hq⟩:=eV w.heap.size
 have ah:Ext w W0:=by rw[N];exact(zL _ _).trans (zL _ _)
 obtain⟨O,ao,ap⟩:=wV w (.cells cs 123) (.cells #[.bool false,.slice none 0 0,.slice none 0 0] 33)
 rw[←N,hq]at O ao ap
 have O:kI W0 q lx ly lz:=by rw[kI,am];exact O
 have E:=zF (hk.ext ak ah)
 have H:∀ b,P0 b→b<W0.heap.size:=fun b T=>zH (ak b T) ah.bsize
 have k6:=E.out.c_f
 have k1:=E.out.c_p
 have G:=zF hj
 have aB:=zF ah
 have a5:=zF ap
 have aC:=zF hk.pv
 have aW:=zF aO
 have ba:=hk.fr.ff.big
 have af:=zF (show q≤W0.heap.size by omega)
 rw[show JV lx ly lz=.agg cs by rw[JV,am],hq]
 clear ah ap hk ak hj am aO
 by_cases hz:z%M=0
 · have aq:=zF hz;rw[aK,qg hz];clear hz k6 k1;go_enter Tryz.func78,Tryz.ntmps78;go_upto_region 1 with fail;rw[←N];have Hq:=zF hq;have aV:=zF N;have c:=zT W0;clear hq N
   refine zR 3 [0,1,3] [] (fun j f X=>match j with
    | 0=>f 0=.pointer (some ⟨q,12,none⟩)
    | 1=>∃ o,f 1=EV o∧FE M n o z
    | 2=>f 2=.bool true
    | _=>True) (by kernel_rfl) [(10,0),(11,1),(12,2)] (by kernel_rfl) ?_
   refine zJ 1 2 ?_;refine lE 2 1 0 (fun _ a=>xV ((c.trans a).at_ O) G.out.x.elt.six G.out.y.elt.six) G.out.z ?_;refine qK 3 0 (fun f=>#[f 1]) (F':=104) (fun f X a hR=>?_) ?_
   · obtain⟨P,(F:f 1=_),L⟩:=hR.out 1 rfl;simp only[F];refine(vL P X L.elt.six).mono ?_;rintro e w2 ⟨rfl,m⟩;rw[show decide (P=[0,0,0,0,0,0])=true by rw[decide_eq_decide.2 (L.zero_iff (E.out.ext H (c.trans a)).fr.ff)];exact qm aq.out];exact⟨(.bool true),rfl,m,fun _ _=>rfl⟩
   refine yF ⟨fun f X a hR C D=>?_⟩;obtain⟨P,(F:f 1=_),L⟩:=hR 1 (by decide);have u:f 2=_:=hR 2 (by decide);simp only[yZ,F,u];clear hR C D F u;refine zI ?_;replace c:=c.trans a;clear a;rename World=>X1_;go_upto_region 2 with fail;have ae:=c.at_ ao
   refine zR 1 [0,1] [] (fun j f X=>match j with
    | 0=>f 0=yU
    | _=>True) (by kernel_rfl) [(13,0)] (by kernel_rfl) ?_
   refine qK 1 0 (fun _=>#[]) (F':=73) (fun f X a hR=>?_) ?_
   · refine(yo X).mono ?_;rintro e w2 ⟨rfl,m⟩;exact⟨yU,rfl,m,fun _ _=>rfl⟩
   refine yF ⟨fun f X a hR C D=>?_⟩;have e0:f 0=_:=hR 0 (by decide);simp only[yZ,e0];clear hR C D e0;refine zO (fun K i=>⟨zU (by kernel_rfl) (jX (cs':=#[.bool true,.slice none 0 0,.slice none 0 0]) (t:=33) 33 (.tmp 4) (.tmp 13) rfl rfl rfl rfl (a.at_ ae) vl rfl (ur _ _ _ _ _ _ _) (fun Y al ad aY=>i.out _ _ ?_))⟩);refine zI ?_;go_wp2;exact oL rfl rfl rfl al ⟨_,rfl,rfl,ad.ext (aB.out.trans (c.trans a)) (by have:=Hq.out;omega)⟩
 · have aq:=zF hz;obtain⟨u1,aw⟩:=eG (z ^(M-2));obtain⟨u2,ax⟩:=eG (mm M u1 u1);obtain⟨u3,ay⟩:=eG (mm M x u2);obtain⟨u4,az⟩:=eG (mm M u2 u1);obtain⟨V,aA⟩:=eG (mm M y u4);have aP:aK M x y z=some (u3%M,V%M):=by rw[aK,qo hz];simp only[aw.out,ax.out,ay.out,az.out,aA.out]
   rw[aP];clear aP hz;go_enter Tryz.func78,Tryz.ntmps78;go_upto_region 1 with fail;rw[←N];have Hq:=zF hq;have aV:=zF N;have c:=zT W0;clear hq N
   refine zR 3 [0,1,3] [] (fun j f X=>match j with
    | 0=>f 0=.pointer (some ⟨q,12,none⟩)
    | 1=>∃ o,f 1=EV o∧FE M n o z
    | 2=>f 2=.bool false
    | _=>True) (by kernel_rfl) [(10,0),(11,1),(12,2)] (by kernel_rfl) ?_
   refine zJ 1 2 ?_;refine lE 2 1 0 (fun _ a=>xV ((c.trans a).at_ O) G.out.x.elt.six G.out.y.elt.six) G.out.z ?_;refine qK 3 0 (fun f=>#[f 1]) (F':=104) (fun f X a hR=>?_) ?_
   · obtain⟨P,(F:f 1=_),L⟩:=hR.out 1 rfl;simp only[F];refine(vL P X L.elt.six).mono ?_;rintro e w2 ⟨rfl,m⟩;rw[show decide (P=[0,0,0,0,0,0])=false by rw[decide_eq_decide.2 (L.zero_iff (E.out.ext H (c.trans a)).fr.ff)];exact jT aq.out];exact⟨(.bool false),rfl,m,fun _ _=>rfl⟩
   refine yF ⟨fun f X a hR C D=>?_⟩;obtain⟨P,(F:f 1=_),L⟩:=hR 1 (by decide);have u:f 2=_:=hR 2 (by decide);simp only[yZ,F,u];clear hR C D F u;refine zI ?_;replace c:=c.trans a;clear a;rename World=>X1_;have a1:=c.cell k6;have aQ:=c.cell k1;go_upto_region 4 with fail;clear a1
   refine zZ (by kernel_rfl) 11 [0,1,3,7,0,31,63,127,127,255,1023] [] (fun j f X=>match j with
    | 0=>f 0=.pointer (some ⟨k,0,none⟩)
    | 1=>f 1=.pointer (some ⟨k,0,none⟩)
    | 2=>f 2=.pointer (some ⟨k,1,none⟩)
    | 3=>f 3=.slice Ap pl.length cp
    | 4=>∃ d c1,f 4=.slice d (digs 18446744073709551616 2).length c1∧OB X q d c1 (digs 18446744073709551616 2)
    | 5=>∃ d c1,f 5=.tuple #[.slice d (digs 18446744073709551616 (M-2)).length c1,.bool true]∧OB X q d c1 (digs 18446744073709551616 (M-2))
    | 6=>∃ d c1,f 6=.tuple #[.slice d (digs 18446744073709551616 (M-2)).length c1,.bool true]∧OB X q d c1 (digs 18446744073709551616 (M-2))
    | 7=>∃ d c1,f 7=.slice d (digs 18446744073709551616 (M-2)).length c1∧OB X q d c1 (digs 18446744073709551616 (M-2))
    | 8=>f 8=.bool true
    | 9=>∃ d c1,f 9=.slice d (digs 18446744073709551616 (M-2)).length c1∧OB X q d c1 (digs 18446744073709551616 (M-2))
    | 10=>f 10=.bool true
    | _=>True) (by kernel_rfl) [(19,0),(20,1),(21,2),(22,3),(23,4),(24,5),(18,6),(25,7),(26,8),(6,9),(7,10)] (by kernel_rfl) ?_
   refine zJ 1 10 ?_;refine zt 2 9 0 ?_;refine zt 3 8 1 ?_;refine qC 4 7 2 aQ ?_;refine qK 5 6 (fun _=>#[Value.int IntKind.u64 2]) (F':=67) (fun f X a hR=>?_) ?_
   · refine(fP 2 X (by omega)).mono ?_;rintro e w2 ⟨d,c1,rfl,S,m⟩;exact⟨_,rfl,m,fun Y l=>⟨d,c1,rfl,(S.mono (zK af.out (c.trans a).bsize)).below l (zG _)⟩⟩
   refine qK 6 5 (fun f=>#[f 3,f 4]) (F':=65) (fun f X a hR=>?_) ?_
   · have J:f 3=_:=hR.out 3 rfl;obtain⟨A4,c4,(A:f 4=_),o4⟩:=hR.out 4 rfl;simp only[J,A];refine(mO P0 _ Ap A4 cp c4 pl _ X (E.out.ext H (c.trans a)).p o4.rn (fun b T=>zH (H b T) (c.trans a).bsize) (fun b T=>T.2) aW.out (by rw[aC.out,zi (by omega)];omega)).mono ?_;rw[aC.out,zi (by omega)];rintro e w2 ⟨d,c1,rfl,S,m⟩;exact⟨_,rfl,m,fun Y l=>⟨d,c1,rfl,(S.mono (zK af.out (c.trans a).bsize)).below l (zG _)⟩⟩
   refine zv 7 4 [(19,0),(20,1),(21,2),(22,3),(23,4),(24,5)] (fun f X a hR K i=>?_) ?_
   · obtain⟨A5,c5,(B:f 5=_),o5⟩:=hR.out 5 rfl;simp only[yZ,B];refine⟨?_⟩;go_simp;exact i.out _ _ _ (by simp only[yZ,B]) (zT _) trivial (fun Y l=>⟨A5,c5,rfl,o5.below (l) (zG _)⟩)
   refine zv 8 3 [(19,0),(20,1),(21,2),(22,3),(23,4),(24,5),(18,6),(26,8)] (fun f X a hR K i=>?_) ?_
   · obtain⟨W,Z,(r:f 6=_),U⟩:=hR.out 6 rfl;simp only[yZ,r];refine⟨?_⟩;go_simp;exact i.out _ _ _ (by simp only[yZ,r]) (zT _) trivial (fun Y l=>⟨W,Z,rfl,U.below (l) (zG _)⟩)
   refine zv 9 2 [(19,0),(20,1),(21,2),(22,3),(23,4),(24,5),(18,6),(25,7),(6,9)] (fun f X a hR K i=>?_) ?_
   · obtain⟨W,Z,(r:f 6=_),U⟩:=hR.out 6 rfl;simp only[yZ,r];refine⟨?_⟩;go_simp;exact qY i (s:=by simp only[yZ,r])
   refine zv 10 1 [(19,0),(20,1),(21,2),(22,3),(23,4),(24,5),(18,6),(25,7),(26,8)] (fun f X a hR K i=>?_) ?_
   · obtain⟨A7,c7,(Q:f 7=_),o7⟩:=hR.out 7 rfl;simp only[yZ,Q];refine⟨?_⟩;go_simp;exact i.out _ _ _ (by simp only[yZ,Q]) (zT _) trivial (fun Y l=>⟨A7,c7,rfl,o7.below (l) (zG _)⟩)
   refine zt 11 0 8 ?_;refine yF ⟨fun f X a hR C D=>?_⟩;obtain⟨A4,c4,(A:f 4=_),o4⟩:=hR 4 (by decide);obtain⟨A5,c5,(B:f 5=_),o5⟩:=hR 5 (by decide);obtain⟨W,Z,(r:f 6=_),U⟩:=hR 6 (by decide);obtain⟨A7,c7,(Q:f 7=_),o7⟩:=hR 7 (by decide);obtain⟨A9,c9,(e9:f 9=_),o9⟩:=hR 9 (by decide);simp only[yZ,A,B,r,Q,e9];clear hR C D A B r Q e9;refine zI ?_;replace c:=c.trans a;have hL:=o9;rename World=>X4_;clear a aQ o4 o5 U o7 o9;go_upto_region 5 with fail
   refine zR 6 [0,0,2,0,15,0,63] [5] (fun j f X=>match j with
    | 0=>f 0=.pointer (some ⟨g,0,none⟩)
    | 1=>f 1=.pointer (some ⟨q,12,none⟩)
    | 2=>∃ o,f 2=EV o∧FE M n o z
    | 3=>f 3=.slice A9 (digs 18446744073709551616 (M-2)).length c9
    | 4=>∃ o,f 4=EV o∧FE M n o u1
    | 5=>∃ b,f 5=.pointer (some ⟨b,0,none⟩)∧X4_.heap.size≤b∧X.heap[b]?=some (.cells #[.int .u64 0,.int .u64 0,.int .u64 0,.int .u64 0,.int .u64 0,.int .u64 0] 109 (0,0))
    | _=>True) (by kernel_rfl) [(27,0),(28,1),(29,2),(30,3),(31,4),(8,5)] (by kernel_rfl) ?_
   refine zJ 1 5 ?_;refine zJ 2 4 ?_;refine lE 3 3 1 (fun _ a=>xV ((c.trans a).at_ O) G.out.x.elt.six G.out.y.elt.six) G.out.z ?_;refine zJ 4 2 ?_;refine qK 5 1 (fun f=>#[f 0,f 2,f 3]) (F':=108) (fun f X a hR=>?_) ?_
   · have e0:f 0=_:=hR.out 0 rfl;obtain⟨o2,(u:f 2=_),h2⟩:=hR.out 2 rfl;have J:f 3=_:=hR.out 3 rfl;simp only[e0,u,J];refine(tz X (E.out.ext H (c.trans a)).fr E.out.fr.fone z (M-2) h2 _ A9 c9 _ (hL.below a (zG _)).rn (fun b T=>T.2) (zi (by omega) _)).mono ?_;rw[aw.out];rintro e w2 ⟨o,rfl,I,m⟩;exact⟨(EV o),rfl,m,fun Y l=>⟨o,rfl,I⟩⟩
   refine kr 6 0 ?_;refine yF ⟨fun f X a hR C D=>?_⟩;obtain⟨o2,(u:f 2=_),h2⟩:=hR 2 (by decide);obtain⟨o4,(A:f 4=_),h4⟩:=hR 4 (by decide);obtain⟨aj,(B:f 5=_),aR,aZ⟩:=hR 5 (by decide);simp only[yZ,u,A,B];clear hR C D u A B;refine zO (fun K i=>⟨zU (by kernel_rfl) (qi (.tmp 8) (.tmp 31) rfl rfl rfl rfl (aZ) ku h4.elt.six (fun Y2_6 an=>i.out _ _ ?_))⟩);refine zI ?_;have aa:VE Y2_6 M n aj u1:=(an.mk' h4)
   have bc:=zK c.bsize aR;have ac:Ext W0 Y2_6:=(an.ext (c.trans a) (zK c.bsize aR))
   clear c a an h2 h4 ;have c:=ac;clear ac;go_upto_region 6 with fail
   refine zR 5 [0,0,0,7,0,31] [4] (fun j f X=>match j with
    | 0=>f 0=.pointer (some ⟨g,0,none⟩)
    | 1=>∃ o,f 1=EV o∧FE M n o u1
    | 2=>∃ o,f 2=EV o∧FE M n o u1
    | 3=>∃ o,f 3=EV o∧FE M n o u2
    | 4=>∃ b,f 4=.pointer (some ⟨b,0,none⟩)∧Y2_6.heap.size≤b∧X.heap[b]?=some (.cells #[.int .u64 0,.int .u64 0,.int .u64 0,.int .u64 0,.int .u64 0,.int .u64 0] 109 (0,0))
    | _=>True) (by kernel_rfl) [(32,0),(33,1),(34,2),(35,3),(9,4)] (by kernel_rfl) ?_
   refine zJ 1 4 ?_;refine lX 2 3 (fun X a=>let ⟨o,hbl,I⟩:=aa.ext a;⟨o,hbl.range,I⟩) ?_;refine lX 3 2 (fun X a=>let ⟨o,hbl,I⟩:=aa.ext a;⟨o,hbl.range,I⟩) ?_;refine fc 4 1 0 1 2 (fun X a _ _ h R=>kD X (E.out.ext H (c.trans a)).fr.ff h R) ax.out ?_;refine kr 5 0 ?_;refine yF ⟨fun f X a hR C D=>?_⟩;obtain⟨P,(F:f 1=_),L⟩:=hR 1 (by decide);obtain⟨o2,(u:f 2=_),h2⟩:=hR 2 (by decide);obtain⟨o3,(J:f 3=_),h3⟩:=hR 3 (by decide);obtain⟨aD,(A:f 4=_),aS,a0⟩:=hR 4 (by decide);simp only[yZ,F,u,J,A];clear hR C D F u J A;refine zO (fun K i=>⟨zU (by kernel_rfl) (qi (.tmp 9) (.tmp 35) rfl rfl rfl rfl (a0) ku h3.elt.six (fun Y3_5 ai=>i.out _ _ ?_))⟩);refine zI ?_;have aX:aj≠aD:=by have:=(let ⟨_,h,_⟩:=aa;h.lt:aj<Y2_6.heap.size);omega
   replace aa:=(ai.ve aX (aa.ext a))
   have aU:VE Y3_5 M n aD u2:=(ai.mk' h3)
   have bd:=zK c.bsize aS;have ac:Ext W0 Y3_5:=(ai.ext (c.trans a) (zK c.bsize aS))
   clear c a ai L h2 h3;have c:=ac;clear ac;have ae:=c.at_ ao;go_upto_region 7 with fail
   refine zZ (by kernel_rfl) 18 [0,0,0,4,0,30,63,0,0,0,512,0,0,0,14463,32639,65535,131071,262143] [] (fun j f X=>match j with
    | 0=>f 0=.pointer (some ⟨g,0,none⟩)
    | 1=>f 1=.pointer (some ⟨g,0,none⟩)
    | 2=>f 2=.pointer (some ⟨q,0,none⟩)
    | 3=>∃ o,f 3=EV o∧FE M n o x
    | 4=>∃ o,f 4=EV o∧FE M n o u2
    | 5=>∃ o,f 5=EV o∧FE M n o u3
    | 6=>∃ d c1,f 6=.slice d (digs 18446744073709551616 (u3%M)).length c1∧OB X q d c1 (digs 18446744073709551616 (u3%M))
    | 7=>f 7=.pointer (some ⟨g,0,none⟩)
    | 8=>f 8=.pointer (some ⟨g,0,none⟩)
    | 9=>f 9=.pointer (some ⟨q,6,none⟩)
    | 10=>∃ o,f 10=EV o∧FE M n o y
    | 11=>f 11=.pointer (some ⟨g,0,none⟩)
    | 12=>∃ o,f 12=EV o∧FE M n o u2
    | 13=>∃ o,f 13=EV o∧FE M n o u1
    | 14=>∃ o,f 14=EV o∧FE M n o u4
    | 15=>∃ o,f 15=EV o∧FE M n o V
    | 16=>∃ d c1,f 16=.slice d (digs 18446744073709551616 (V%M)).length c1∧OB X q d c1 (digs 18446744073709551616 (V%M))
    | 17=>∃ d c1 A2 c2,f 17=.agg #[.bool false,.slice d (digs 18446744073709551616 (u3%M)).length c1,.slice A2 (digs 18446744073709551616 (V%M)).length c2]∧OB X q d c1 (digs 18446744073709551616 (u3%M))∧OB X q A2 c2 (digs 18446744073709551616 (V%M))
    | _=>True) (by kernel_rfl) [(36,0),(37,1),(38,2),(39,3),(40,4),(41,5),(42,6),(43,7),(44,8),(45,9),(46,10),(47,11),(48,12),(49,13),(50,14),(51,15),(52,16),(53,17)] (by kernel_rfl) ?_
   refine zJ 1 17 ?_;refine zJ 2 16 ?_;refine zJ 3 15 ?_;refine lE 4 14 2 (fun _ a=>kI.rx ((c.trans a).at_ O)) G.out.x ?_;refine lX 5 13 (fun X a=>let ⟨o,hbl,I⟩:=aU.ext a;⟨o,hbl.range,I⟩) ?_;refine fc 6 12 1 3 4 (fun X a _ _ h R=>kD X (E.out.ext H (c.trans a)).fr.ff h R) ay.out ?_;refine qK 7 11 (fun f=>#[f 0,f 5]) (F':=109) (fun f X a hR=>?_) ?_
   · have e0:f 0=_:=hR.out 0 rfl;obtain⟨o5,(B:f 5=_),h5⟩:=hR.out 5 rfl;simp only[e0,B];refine(zBE X (E.out.ext H (c.trans a)).fr h5).mono ?_;rintro e w2 ⟨d,c1,rfl,S,m⟩;exact⟨_,rfl,m,fun Y l=>⟨d,c1,rfl,(S.mono (zK af.out (c.trans a).bsize)).below l (zG _)⟩⟩
   refine zJ 8 10 ?_;refine zJ 9 9 ?_;refine zJ 10 8 ?_;refine lE 11 7 9 (fun _ a=>kI.ry ((c.trans a).at_ O) G.out.x.elt.six) G.out.y ?_;refine zJ 12 6 ?_;refine lX 13 5 (fun X a=>let ⟨o,hbl,I⟩:=aU.ext a;⟨o,hbl.range,I⟩) ?_;refine lX 14 4 (fun X a=>let ⟨o,hbl,I⟩:=aa.ext a;⟨o,hbl.range,I⟩) ?_;refine fc 15 3 11 12 13 (fun X a _ _ h R=>kD X (E.out.ext H (c.trans a)).fr.ff h R) az.out ?_;refine fc 16 2 8 10 14 (fun X a _ _ h R=>kD X (E.out.ext H (c.trans a)).fr.ff h R) aA.out ?_;refine qK 17 1 (fun f=>#[f 7,f 15]) (F':=109) (fun f X a hR=>?_) ?_
   · have Q:f 7=_:=hR.out 7 rfl;obtain⟨a2,(ag:f 15=_),aN⟩:=hR.out 15 rfl;simp only[Q,ag];refine(zBE X (E.out.ext H (c.trans a)).fr aN).mono ?_;rintro e w2 ⟨d,c1,rfl,S,m⟩;exact⟨_,rfl,m,fun Y l=>⟨d,c1,rfl,(S.mono (zK af.out (c.trans a).bsize)).below l (zG _)⟩⟩
   refine zv 18 0 [(36,0),(37,1),(38,2),(39,3),(40,4),(41,5),(42,6),(43,7),(44,8),(45,9),(46,10),(47,11),(48,12),(49,13),(50,14),(51,15),(52,16)] (fun f X a hR K i=>?_) ?_
   · obtain⟨W,Z,(r:f 6=_),U⟩:=hR.out 6 rfl;obtain⟨ar,aE,(ab:f 16=_),aT⟩:=hR.out 16 rfl;simp only[yZ,r,ab];refine⟨?_⟩;go_simp;exact i.out _ _ _ (by simp only[yZ,r,ab]) (zT _) trivial (fun Y l=>⟨W,Z,ar,aE,rfl,U.below l (zG _),aT.below l (zG _)⟩)
   refine yF ⟨fun f X a hR C D=>?_⟩;obtain⟨o3,(J:f 3=_),h3⟩:=hR 3 (by decide);obtain⟨o4,(A:f 4=_),h4⟩:=hR 4 (by decide);obtain⟨o5,(B:f 5=_),h5⟩:=hR 5 (by decide);obtain⟨W,Z,(r:f 6=_),U⟩:=hR 6 (by decide);obtain⟨be,(aH:f 10=_),a6⟩:=hR 10 (by decide);obtain⟨bf,(aI:f 12=_),a7⟩:=hR 12 (by decide);obtain⟨bg,(aJ:f 13=_),a8⟩:=hR 13 (by decide);obtain⟨bh,(aL:f 14=_),a9⟩:=hR 14 (by decide);obtain⟨a2,(ag:f 15=_),aN⟩:=hR 15 (by decide);obtain⟨ar,aE,(ab:f 16=_),aT⟩:=hR 16 (by decide);obtain⟨au,aF,av,aG,(aM:f 17=_),a3,a4⟩:=hR 17 (by decide);simp only[yZ,J,A,B,r,aH,aI,aJ,aL,ag,ab,aM];clear hR C D J A B r aH aI aJ aL ag ab aM;refine zO (fun K i=>⟨zU (by kernel_rfl) (jX (cs':=#[.bool false,.slice au (digs 18446744073709551616 (u3%M)).length aF,.slice av (digs 18446744073709551616 (V%M)).length aG]) (t:=33) 33 (.tmp 4) (.tmp 53) rfl rfl rfl rfl (a.at_ ae) vl rfl (ur _ _ _ _ _ _ _) (fun Y al ad aY=>i.out _ _ ?_))⟩);refine zI ?_;go_wp2;exact oL rfl rfl rfl al ⟨_,rfl,⟨au,aF,av,aG,rfl,a3.just ad (a.at_ ae) (by decide),a4.just ad (a.at_ ae) (by decide)⟩,ad.ext (aB.out.trans (c.trans a)) (by have:=Hq.out;omega)⟩
def APt (w:World) (v:Value) (inf:Bool) (x y:Nat):Prop:=∃(A A':Option Addr) (c c':Nat) (a b:List Nat),v=.agg #[.bool inf,.slice A a.length c,.slice A' b.length c']∧RU w A c a∧RU w A' c' b∧val 18446744073709551616 a=x∧val 18446744073709551616 b=y
theorem APt.ext {w X:World}{v:Value}{inf:Bool}{x y:Nat}(h:APt w v inf x y)(d:Ext w X):APt X v inf x y:=by
 obtain⟨A,A',c,c',a,b,rfl,e,f,g,i⟩:=h;exact⟨A,A',c,c',a,b,rfl,zN e d,zN f d,g,i⟩
theorem APt.inf_ (w:World):APt w yU true 0 0:=⟨none,none,0,0,[],[],rfl,RN.nil_ _ _,RN.nil_ _ _,rfl,rfl⟩
theorem PtV.pt {w:World}{base:Nat}{v:Value}{o:Option (Nat×Nat)}(h:PtV w base v o):APt w v o.isNone (o.elim 0 (·.1)) (o.elim 0 (·.2)):=by
 cases o with
 | none=>cases h;exact APt.inf_ w
 | some p =>
   obtain⟨A,c,A',c',rfl,a,b⟩:=h;exact⟨A,A',c,c',_,_,rfl,a.ru,b.ru,zi (by omega) _,zi (by omega) _⟩
theorem PtV.ext {w X:World}{base:Nat}{v:Value}{o:Option (Nat×Nat)}(h:PtV w base v o)(a:Ext w X):PtV X base v o:=by
 cases o with
 | none=>exact h
 | some p =>
   obtain⟨A,c,A',c',rfl,b,d⟩:=h;exact⟨A,c,A',c',rfl,b.below a (zG _),d.below a (zG _)⟩
theorem PtV.mono {w:World}{base base':Nat}{v:Value}{o:Option (Nat×Nat)}(h:PtV w base v o)(a:base'≤base):PtV w base' v o:=by
 cases o with
 | none=>exact h
 | some p =>
   obtain⟨A,c,A',c',rfl,b,d⟩:=h;exact⟨A,c,A',c',rfl,b.mono a,d.mono a⟩
def JAt (C:Crv) (v:Value) (p:Nat×Nat×Nat):Prop:=∃ a ly lz,v=JV a ly lz∧FJ C.M C.n a ly lz p.1 p.2.1 p.2.2
def upP (inf:Bool) (x y:Nat):Nat×Nat×Nat:=if inf then(1,1,0)else(x,y,1)
def gL (M:Nat) (p q:Nat×Nat×Nat):Nat×Nat×Nat:=aO M p.1 p.2.1 p.2.2 q.1 q.2.1 q.2.2
def fF (M:Nat) (p:Nat×Nat×Nat):Nat×Nat×Nat:=gj M p.1 p.2.1 p.2.2
def uI (M:Nat) (p:Nat×Nat×Nat):Option (Nat×Nat):=aK M p.1 p.2.1 p.2.2
def onQ (C:Crv) (inf:Bool) (x y:Nat):Bool:=inf||onB C.M C.bb x y
theorem zAn {M bb x y:Nat}(h:onB M bb x y=true):x<M∧y<M:=by
 simp only[onB,jp,decide_eq_true_eq]at h;exact h.1
theorem pL {C:Crv}{inf:Bool}{x y:Nat}(h:onQ C inf x y=true)(a:inf=false):x<C.M∧y<C.M:=by
 subst a;exact zAn h
section
variable {C:Crv} {w:World} {k:Nat} {v u:Value}
theorem mZ (h:OfC C w k)(d:C.Fine){inf:Bool}{x y:Nat}(i:APt w v inf x y):Calls Tryz.prog 72 #[.pointer (some ⟨k,0,none⟩),v] w fun e w'=>e=.returned (.bool (onQ C inf x y))∧Ext w w':=by
 obtain⟨A,A',c,c',a,b,rfl,f,g,rfl,rfl⟩:=i;exact on_c h d _ _ A A' c c' a b inf f g (fun _ h=>h) (fun _ h=>h)
theorem zBu (h:OfC C w k){inf:Bool}{x y:Nat}(q:APt w v inf x y)(f:onQ C inf x y=true):Calls Tryz.prog 74 #[.pointer (some ⟨k,0,none⟩),v] w fun e w'=>∃ o,e=.returned o∧JAt C o (upP inf x y)∧Ext w w':=by
 obtain⟨A,A',c,c',a,b,rfl,l,m,rfl,rfl⟩:=q;obtain⟨P0,g,inv,ml,ol,rl,tl,fl,Ap,An,Ab,Ax,Ay,cp,cn,cb,cx,cy,p,j⟩:=h;refine(zAE _ _ A A' c c' a b inf w p j l m (fun _ h=>h) (fun _ h=>h) (fun d=>(pL f d).1) (fun d=>(pL f d).2)).mono ?_;rintro e w' ⟨r,s,t,rfl,n,i⟩;refine⟨_,rfl,⟨r,s,t,rfl,?_⟩,i⟩;cases inf<;>exact n
theorem zBQ (h:OfC C w k){p:Nat×Nat×Nat}(i:JAt C v p):Calls Tryz.prog 77 #[.pointer (some ⟨k,0,none⟩),v] w fun e w'=>∃ o,e=.returned o∧JAt C o (fF C.M p)∧Ext w w':=by
 obtain⟨n,ly,lz,rfl,c⟩:=i;obtain⟨P0,g,inv,ml,ol,rl,tl,fl,Ap,An,Ab,Ax,Ay,cp,cn,cb,cx,cy,f,b⟩:=h;refine(aL w f b c).mono ?_;rintro e w' ⟨j,l,m,rfl,d,a⟩;exact⟨_,rfl,⟨j,l,m,rfl,d⟩,a⟩
theorem zBe (h:OfC C w k){p q:Nat×Nat×Nat}(l:JAt C v p)(j:JAt C u q):Calls Tryz.prog 75 #[.pointer (some ⟨k,0,none⟩),v,u] w fun e w'=>∃ o,e=.returned o∧JAt C o (gL C.M p q)∧Ext w w':=by
 obtain⟨s,ly,lz,rfl,c⟩:=l;obtain⟨t,x,y,rfl,f⟩:=j;obtain⟨P0,g,inv,ml,ol,rl,tl,fl,Ap,An,Ab,Ax,Ay,cp,cn,cb,cx,cy,i,b⟩:=h;refine(zA7 w i b c f).mono ?_;rintro e w' ⟨m,n,r,rfl,d,a⟩;exact⟨_,rfl,⟨m,n,r,rfl,d⟩,a⟩
theorem zBN (h:OfC C w k){p:Nat×Nat×Nat}(d:C.pl.length<100000)(f:JAt C v p):Calls Tryz.prog 78 #[.pointer (some ⟨k,0,none⟩),v] w fun e w'=>∃ o,e=.returned o∧PtV w' w.heap.size o (uI C.M p)∧Ext w w':=by
 obtain⟨i,ly,lz,rfl,b⟩:=f;obtain⟨P0,g,inv,ml,ol,rl,tl,fl,Ap,An,Ab,Ax,Ay,cp,cn,cb,cx,cy,c,a⟩:=h;exact zBO w c a d b
end
theorem IsC.plen {c:Int}{C:Crv}(h:IsC c C):C.pl.length<100000:=by
 rcases h with⟨_,rfl⟩|⟨_,rfl⟩<;>decide
def RPv (w:World) (v:Value) (a:Bool) (x y:Nat):Prop:=∃(A A':Option Addr) (c c':Nat),v=.agg #[.bool a,.slice A (digs 4294967296 x).length c,.slice A' (digs 4294967296 y).length c']∧RU w A c (digs 4294967296 x)∧RU w A' c' (digs 4294967296 y)
theorem RPv.ext {w X:World}{v:Value}{a:Bool}{x y:Nat}(h:RPv w v a x y)(b:Ext w X):RPv X v a x y:=by
 obtain⟨A,A',c,c',rfl,d,e⟩:=h;exact⟨A,A',c,c',rfl,zN d b,zN e b⟩
theorem RPv.inf_ (w:World):RPv w yU true 0 0:=⟨none,none,0,0,by rw[qW];rfl,RN.nil0 _,RN.nil0 _⟩
theorem RPU.pv {w:World}{v:Value}{o:Option (Nat×Nat)}(h:RPU w v o):RPv w v o.isNone (o.elim 0 (·.1)) (o.elim 0 (·.2)):=by
 cases o with
 | none=>cases h;exact RPv.inf_ w
 | some p =>
  obtain⟨A,c,A',c',rfl,a,b⟩:=h;exact⟨A,A',c,c',rfl,a,b⟩
def APn (w:World) (v:Value) (d:Bool) (a b:List Nat):Prop:=∃(A A':Option Addr) (c c':Nat),v=.agg #[.bool d,.slice A a.length c,.slice A' b.length c']∧RU w A c a∧RU w A' c' b
theorem APn.ext {w X:World}{v:Value}{d:Bool}{a b:List Nat}(h:APn w v d a b)(e:Ext w X):APn X v d a b:=by
 obtain⟨A,A',c,c',rfl,f,g⟩:=h;exact⟨A,A',c,c',rfl,zN f e,zN g e⟩
theorem APn.pt {w:World}{v:Value}{d:Bool}{a b:List Nat}(h:APn w v d a b):APt w v d (val 18446744073709551616 a) (val 18446744073709551616 b):=by
 obtain⟨A,A',c,c',rfl,e,f⟩:=h;exact⟨A,A',c,c',a,b,rfl,e,f,rfl,rfl⟩
theorem APt.pn {w:World}{v:Value}{d:Bool}{x y:Nat}(h:APt w v d x y):∃ a b,APn w v d a b∧val 18446744073709551616 a=x∧val 18446744073709551616 b=y:=by
 obtain⟨A,A',c,c',a,b,rfl,e,f,g,i⟩:=h;exact⟨a,b,⟨A,A',c,c',rfl,e,f⟩,g,i⟩
theorem PtV.pn {w:World}{base:Nat}{v:Value}{o:Option (Nat×Nat)}(h:PtV w base v o):APn w v o.isNone (digs 18446744073709551616 (o.elim 0 (·.1))) (digs 18446744073709551616 (o.elim 0 (·.2))):=by
 cases o with
 | none =>
  cases h;exact⟨none,none,0,0,by show yU=.agg #[.bool true,.slice none (digs 18446744073709551616 0).length 0,.slice none (digs 18446744073709551616 0).length 0];rw[qW];rfl,by show RU w none 0 (digs 18446744073709551616 0);rw[qW];exact RN.nil_ _ _,by show RU w none 0 (digs 18446744073709551616 0);rw[qW];exact RN.nil_ _ _⟩
 | some p =>
  obtain⟨A,c,A',c',rfl,a,b⟩:=h;exact⟨A,A',c,c',rfl,a.ru,b.ru⟩
theorem zCH {C:Crv}{v:Value}(w:World)(F:RC w C v):Calls Tryz.prog 17 #[v] w fun e w'=>∃ o,e=.returned o∧RPv w' o false (val 18446744073709551616 C.xl) (val 18446744073709551616 C.yl)∧Ext w w':=by
 obtain⟨Ap,An,Ab,Ax,Ay,cp,cn,cb,cx,cy,rfl,B,A,y,n,d⟩:=F;obtain⟨W0,c⟩:=eW ((w.alloc (.cells #[.slice Ap (digs 4294967296 C.M).length cp,.slice An (digs 4294967296 (val 18446744073709551616 C.nl)).length cn,.slice Ab (digs 4294967296 C.bb).length cb,.slice Ax (digs 4294967296 (val 18446744073709551616 C.xl)).length cx,.slice Ay (digs 4294967296 (val 18446744073709551616 C.yl)).length cy,.int .i64 (C.size:Int)] 30)).alloc (.cells #[.bool false,.slice none 0 0,.slice none 0 0] 45));obtain⟨q,k⟩:=eV w.heap.size;have b:Ext w W0:=by rw[c];exact(zL _ _).trans (zL _ _)
 obtain⟨g,h,p⟩:=wV w (.cells #[.slice Ap (digs 4294967296 C.M).length cp,.slice An (digs 4294967296 (val 18446744073709551616 C.nl)).length cn,.slice Ab (digs 4294967296 C.bb).length cb,.slice Ax (digs 4294967296 (val 18446744073709551616 C.xl)).length cx,.slice Ay (digs 4294967296 (val 18446744073709551616 C.yl)).length cy,.int .i64 (C.size:Int)] 30) (.cells #[.bool false,.slice none 0 0,.slice none 0 0] 45);rw[←c,k]at g h p;have c3:=zP g 3;have l:=zP g 4;simp only[zQ,ze,qe]at c3 l;have s:=zF (zN n b);have u:=zF (zN d b);have r:=zF b;clear B A y n d b p g;go_enter Tryz.func17,Tryz.ntmps17;go_upto_region 1 with fail;rw[←c];have x:=zF k;clear c k
 refine zR 5 [0,1,0,4,15,31] [] (fun j f X=>match j with
  | 0=>f 0=.pointer (some ⟨q,3,none⟩)
  | 1=>f 1=.slice Ax (digs 4294967296 (val 18446744073709551616 C.xl)).length cx
  | 2=>f 2=.pointer (some ⟨q,4,none⟩)
  | 3=>f 3=.slice Ay (digs 4294967296 (val 18446744073709551616 C.yl)).length cy
  | 4=>f 4=.agg #[.bool false,.slice Ax (digs 4294967296 (val 18446744073709551616 C.xl)).length cx,.slice Ay (digs 4294967296 (val 18446744073709551616 C.yl)).length cy]
  | _=>True) (by kernel_rfl) [(3,0),(4,1),(5,2),(6,3),(7,4)] (by kernel_rfl) ?_
 refine zJ 1 4 ?_;refine qC 2 3 0 c3 ?_;refine zJ 3 2 ?_;refine qC 4 1 2 l ?_;refine qj 5 0 1 3 ?_;refine yF ⟨fun f X a hR D E=>?_⟩;have m:f 4=_:=hR 4 (by decide);simp only[yZ,m];clear hR D E m;refine zO (fun K z=>⟨zU (by kernel_rfl) (jX (cs':=#[.bool false,.slice Ax (digs 4294967296 (val 18446744073709551616 C.xl)).length cx,.slice Ay (digs 4294967296 (val 18446744073709551616 C.yl)).length cy]) (t:=45) 45 (.tmp 2) (.tmp 7) rfl rfl rfl rfl (a.at_ h) di rfl (ur _ _ _ _ _ _ _) (fun Y d i G=>z.out _ _ ?_))⟩);refine zI ?_;go_wp2;exact bH rfl rfl rfl d ⟨_,rfl,⟨_,_,_,_,rfl,(zN s.out a).offJ i (a.at_ h) (by kernel_rfl),(zN u.out a).offJ i (a.at_ h) (by kernel_rfl)⟩,i.ext (r.out.trans a) (by have:=x.out;omega)⟩
theorem ris_n {p r:Value}{l m:Bool}{a b:List Nat}{u v:Nat}(w:World)(hp:APn w p l a b)(hr:RPv w r m u v):Calls Tryz.prog 15 #[p,r] w fun e w'=>e=.returned (.bool (l==m&&decide (a=digs 18446744073709551616 u)&&decide (b=digs 18446744073709551616 v)))∧Ext w w':=by
 obtain⟨A,A',c,c',rfl,ha,hb⟩:=hp;obtain⟨B,M,k,O,rfl,hu,hv⟩:=hr;obtain⟨W0,x⟩:=eW ((w.alloc (.cells #[.bool l,.slice A a.length c,.slice A' b.length c'] 33)).alloc (.cells #[.bool m,.slice B (digs 4294967296 u).length k,.slice M (digs 4294967296 v).length O] 45));obtain⟨q,y⟩:=eV w.heap.size;have C:Ext w W0:=by rw[x];exact(zL _ _).trans (zL _ _)
 obtain⟨G,H,ae⟩:=wV w (.cells #[.bool l,.slice A a.length c,.slice A' b.length c'] 33) (.cells #[.bool m,.slice B (digs 4294967296 u).length k,.slice M (digs 4294967296 v).length O] 45);rw[←x,y]at G H ae;have P:=zP G 0;have p1:=zP G 1;have p2:=zP G 2;have Q:=zP H 0;have Y:=zP H 1;have r2:=zP H 2;simp only[zQ,ze,qe]at P p1 p2 Q Y r2;have Ha:=zF (zN ha C);have Hb:=zF (zN hb C);have Hu:=zF (zN hu C);have Hv:=zF (zN hv C);have R:=zF C;obtain⟨z1,V⟩:∃ z,decide (a=digs 18446744073709551616 u)=z:=⟨_,rfl⟩
 obtain⟨Z,W⟩:∃ z,decide (b=digs 18446744073709551616 v)=z:=⟨_,rfl⟩
 rw[V,W];have aa:=zF V;have af:=zF W;obtain⟨z0,N⟩:∃ z,(l==m)=z:=⟨_,rfl⟩
 rw[N];have ai:(l==m)=z0:=N;have S:=zF N;clear ha hb hu hv C ae G H V W N;cases z0;case false =>
  go_enter Tryz.func15,Tryz.ntmps15;go_upto_region 1 with fail;rw[←x];have Hq:=zF y;clear x y
  refine zR 20 [0,1,0,4,15,31,63,127,63,319,1023,2047,4095,8191,16383,8191,40959,131071,262143,524287] [] (fun j f X=>match j with
   | 0=>f 0=.pointer (some ⟨q,0,none⟩)
   | 1=>f 1=.bool l
   | 2=>f 2=.pointer (some ⟨q+1,0,none⟩)
   | 3=>f 3=.bool m
   | 4=>f 4=.bool false
   | 5=>f 5=.bool false
   | 6=>f 6=undef
   | 7=>f 7=undef
   | 8=>f 8=undef
   | 9=>f 9=undef
   | 10=>f 10=undef
   | 11=>f 11=.bool false
   | 12=>f 12=.bool false
   | 13=>f 13=undef
   | 14=>f 14=undef
   | 15=>f 15=undef
   | 16=>f 16=undef
   | 17=>f 17=undef
   | 18=>f 18=.bool false
   | 19=>f 19=.bool false
   | _=>True) (by kernel_rfl) [(5,0),(6,1),(7,2),(8,3),(9,4),(10,5),(11,6),(12,7),(13,8),(14,9),(15,10),(16,11),(17,12),(18,13),(19,14),(20,15),(21,16),(22,17),(23,18),(4,19)] (by kernel_rfl) ?_
  refine zJ 1 19 ?_;refine qC 2 18 0 P ?_;refine zJ 3 17 ?_;refine qC 4 16 2 Q ?_;refine zv 5 15 [(5,0),(6,1),(7,2),(8,3)] (fun f X d hR K g=>?_) ?_
  · have n:f 1=_:=hR.out 1 rfl;have t:f 3=_:=hR.out 3 rfl;have ad:=S.out;simp only[yZ,n,t];refine⟨?_⟩;go_simp;exact qY g (s:=by simp only[yZ,n,t])
  refine zt 6 14 4 ?_;refine kZ 7 13 5 ?_;refine kZ 8 12 5 ?_;refine kZ 9 11 5 ?_;refine kZ 10 10 5 ?_;refine kZ 11 9 5 ?_;refine qj 12 8 5 10 ?_;refine zt 13 7 11 ?_;refine kZ 14 6 12 ?_;refine kZ 15 5 12 ?_;refine kZ 16 4 12 ?_;refine kZ 17 3 12 ?_;refine kZ 18 2 12 ?_;refine qj 19 1 12 17 ?_;refine zt 20 0 18 ?_;refine yF ⟨fun f X d hR J L=>?_⟩;have o:f 19=_:=hR 19 (by decide);simp only[yZ,o];clear hR J L o;refine zI ?_;go_wp2;go_ret;exact⟨rfl,R.out.trans d⟩
 case true =>
  cases z1;case false =>
   go_enter Tryz.func15,Tryz.ntmps15;go_upto_region 1 with fail;rw[←x];have Hq:=zF y;clear x y
   refine zR 20 [0,1,0,4,15,31,63,127,63,319,1023,2047,4095,8191,16383,8191,40959,131071,262143,524287] [] (fun j f X=>match j with
    | 0=>f 0=.pointer (some ⟨q,0,none⟩)
    | 1=>f 1=.bool l
    | 2=>f 2=.pointer (some ⟨q+1,0,none⟩)
    | 3=>f 3=.bool m
    | 4=>f 4=.bool true
    | 5=>f 5=.bool true
    | 6=>f 6=.pointer (some ⟨q,1,none⟩)
    | 7=>f 7=.slice A a.length c
    | 8=>f 8=.pointer (some ⟨q+1,1,none⟩)
    | 9=>f 9=.slice B (digs 4294967296 u).length k
    | 10=>f 10=.bool false
    | 11=>f 11=.bool false
    | 12=>f 12=.bool false
    | 13=>f 13=undef
    | 14=>f 14=undef
    | 15=>f 15=undef
    | 16=>f 16=undef
    | 17=>f 17=undef
    | 18=>f 18=.bool false
    | 19=>f 19=.bool false
    | _=>True) (by kernel_rfl) [(5,0),(6,1),(7,2),(8,3),(9,4),(10,5),(11,6),(12,7),(13,8),(14,9),(15,10),(16,11),(17,12),(18,13),(19,14),(20,15),(21,16),(22,17),(23,18),(4,19)] (by kernel_rfl) ?_
   refine zJ 1 19 ?_;refine qC 2 18 0 P ?_;refine zJ 3 17 ?_;refine qC 4 16 2 Q ?_;refine zv 5 15 [(5,0),(6,1),(7,2),(8,3)] (fun f X d hR K g=>?_) ?_
   · have n:f 1=_:=hR.out 1 rfl;have t:f 3=_:=hR.out 3 rfl;have ad:=S.out;simp only[yZ,n,t];refine⟨?_⟩;go_simp;exact qY g (s:=by simp only[yZ,n,t])
   refine zt 6 14 4 ?_;refine zt 7 13 5 ?_;refine zv 8 12 [(5,0),(6,1),(7,2),(8,3),(9,4),(10,5),(11,6),(13,8),(14,9)] (fun f X d hR K g=>?_) ?_
   · have i:f 5=_:=hR.out 5 rfl;have E:f 6=_:=hR.out 6 rfl;have x0:=d.cell p1;simp only[yZ,i,E];refine⟨zU (by kernel_rfl) ?_⟩;go_simp;exact qY g (s:=by simp only[yZ,i,E])
   refine zt 9 11 5 ?_;refine zv 10 10 [(5,0),(6,1),(7,2),(8,3),(9,4),(10,5),(11,6),(12,7),(13,8)] (fun f X d hR K g=>?_) ?_
   · have i:f 5=_:=hR.out 5 rfl;have F:f 8=_:=hR.out 8 rfl;have x0:=d.cell Y;simp only[yZ,i,F];refine⟨zU (by kernel_rfl) ?_⟩;go_simp;exact qY g (s:=by simp only[yZ,i,F])
   refine Par.c1 11 9 5 (fun f=>#[f 7,f 9]) (F':=20) (fun f X d hR=>?_) ?_
   · have T:f 7=_:=hR.out 7 rfl;have U:f 9=_:=hR.out 9 rfl;simp only[T,U];refine(bG _ _ A B c k a u X (zN Ha.out d) (zN Hu.out d) (fun _ h=>h) (fun _ h=>h)).mono ?_;rw[aa.out];rintro e w2 ⟨rfl,I⟩;exact⟨_,rfl,I,fun _ _=>rfl⟩
   refine qj 12 8 5 10 ?_;refine zt 13 7 11 ?_;refine kZ 14 6 12 ?_;refine kZ 15 5 12 ?_;refine kZ 16 4 12 ?_;refine kZ 17 3 12 ?_;refine kZ 18 2 12 ?_;refine qj 19 1 12 17 ?_;refine zt 20 0 18 ?_;refine yF ⟨fun f X d hR J L=>?_⟩;have o:f 19=_:=hR 19 (by decide);simp only[yZ,o];clear hR J L o;refine zI ?_;go_wp2;go_ret;exact⟨rfl,R.out.trans d⟩
  case true =>
   go_enter Tryz.func15,Tryz.ntmps15;go_upto_region 1 with fail;rw[←x];have Hq:=zF y;clear x y
   refine zR 20 [0,1,0,4,15,31,63,127,63,319,1023,2047,4095,8191,16383,8191,40959,131071,262143,524287] [] (fun j f X=>match j with
    | 0=>f 0=.pointer (some ⟨q,0,none⟩)
    | 1=>f 1=.bool l
    | 2=>f 2=.pointer (some ⟨q+1,0,none⟩)
    | 3=>f 3=.bool m
    | 4=>f 4=.bool true
    | 5=>f 5=.bool true
    | 6=>f 6=.pointer (some ⟨q,1,none⟩)
    | 7=>f 7=.slice A a.length c
    | 8=>f 8=.pointer (some ⟨q+1,1,none⟩)
    | 9=>f 9=.slice B (digs 4294967296 u).length k
    | 10=>f 10=.bool true
    | 11=>f 11=.bool true
    | 12=>f 12=.bool true
    | 13=>f 13=.pointer (some ⟨q,2,none⟩)
    | 14=>f 14=.slice A' b.length c'
    | 15=>f 15=.pointer (some ⟨q+1,2,none⟩)
    | 16=>f 16=.slice M (digs 4294967296 v).length O
    | 17=>f 17=.bool Z
    | 18=>f 18=.bool Z
    | 19=>f 19=.bool Z
    | _=>True) (by kernel_rfl) [(5,0),(6,1),(7,2),(8,3),(9,4),(10,5),(11,6),(12,7),(13,8),(14,9),(15,10),(16,11),(17,12),(18,13),(19,14),(20,15),(21,16),(22,17),(23,18),(4,19)] (by kernel_rfl) ?_
   refine zJ 1 19 ?_;refine qC 2 18 0 P ?_;refine zJ 3 17 ?_;refine qC 4 16 2 Q ?_;refine zv 5 15 [(5,0),(6,1),(7,2),(8,3)] (fun f X d hR K g=>?_) ?_
   · have n:f 1=_:=hR.out 1 rfl;have t:f 3=_:=hR.out 3 rfl;have ad:=S.out;simp only[yZ,n,t];refine⟨?_⟩;go_simp;exact qY g (s:=by simp only[yZ,n,t])
   refine zt 6 14 4 ?_;refine zt 7 13 5 ?_;refine zv 8 12 [(5,0),(6,1),(7,2),(8,3),(9,4),(10,5),(11,6),(13,8),(14,9)] (fun f X d hR K g=>?_) ?_
   · have i:f 5=_:=hR.out 5 rfl;have E:f 6=_:=hR.out 6 rfl;have x0:=d.cell p1;simp only[yZ,i,E];refine⟨zU (by kernel_rfl) ?_⟩;go_simp;exact qY g (s:=by simp only[yZ,i,E])
   refine zt 9 11 5 ?_;refine zv 10 10 [(5,0),(6,1),(7,2),(8,3),(9,4),(10,5),(11,6),(12,7),(13,8)] (fun f X d hR K g=>?_) ?_
   · have i:f 5=_:=hR.out 5 rfl;have F:f 8=_:=hR.out 8 rfl;have x0:=d.cell Y;simp only[yZ,i,F];refine⟨zU (by kernel_rfl) ?_⟩;go_simp;exact qY g (s:=by simp only[yZ,i,F])
   refine Par.c1 11 9 5 (fun f=>#[f 7,f 9]) (F':=20) (fun f X d hR=>?_) ?_
   · have T:f 7=_:=hR.out 7 rfl;have U:f 9=_:=hR.out 9 rfl;simp only[T,U];refine(bG _ _ A B c k a u X (zN Ha.out d) (zN Hu.out d) (fun _ h=>h) (fun _ h=>h)).mono ?_;rw[aa.out];rintro e w2 ⟨rfl,I⟩;exact⟨_,rfl,I,fun _ _=>rfl⟩
   refine qj 12 8 5 10 ?_;refine zt 13 7 11 ?_;refine zt 14 6 12 ?_;refine zv 15 5 [(5,0),(6,1),(7,2),(8,3),(9,4),(10,5),(11,6),(12,7),(13,8),(14,9),(15,10),(16,11),(17,12),(18,13),(20,15),(21,16)] (fun f X d hR K g=>?_) ?_
   · have D:f 12=_:=hR.out 12 rfl;have ab:f 13=_:=hR.out 13 rfl;have x0:=d.cell p2;simp only[yZ,D,ab];refine⟨zU (by kernel_rfl) ?_⟩;go_simp;exact qY g (s:=by simp only[yZ,D,ab])
   refine zt 16 4 12 ?_;refine zv 17 3 [(5,0),(6,1),(7,2),(8,3),(9,4),(10,5),(11,6),(12,7),(13,8),(14,9),(15,10),(16,11),(17,12),(18,13),(19,14),(20,15)] (fun f X d hR K g=>?_) ?_
   · have D:f 12=_:=hR.out 12 rfl;have ac:f 15=_:=hR.out 15 rfl;have x0:=d.cell r2;simp only[yZ,D,ac];refine⟨zU (by kernel_rfl) ?_⟩;go_simp;exact qY g (s:=by simp only[yZ,D,ac])
   refine Par.c1 18 2 12 (fun f=>#[f 14,f 16]) (F':=20) (fun f X d hR=>?_) ?_
   · have ag:f 14=_:=hR.out 14 rfl;have ah:f 16=_:=hR.out 16 rfl;simp only[ag,ah];refine(bG _ _ A' M c' O b v X (zN Hb.out d) (zN Hv.out d) (fun _ h=>h) (fun _ h=>h)).mono ?_;rw[af.out];rintro e w2 ⟨rfl,I⟩;exact⟨_,rfl,I,fun _ _=>rfl⟩
   refine qj 19 1 12 17 ?_;refine zt 20 0 18 ?_;refine yF ⟨fun f X d hR J L=>?_⟩;have o:f 19=_:=hR 19 (by decide);simp only[yZ,o];clear hR J L o;refine zI ?_;go_wp2;go_ret;exact⟨rfl,R.out.trans d⟩
def IsU (c:Int) (C:Crv):Prop:=IsC c C∨(c≠1∧c≠2∧C=c0)
theorem isU (c:Int):∃ C,IsU c C:=by
 by_cases h1:c=1
 · exact⟨vH,Or.inl (Or.inl ⟨h1,rfl⟩)⟩
 · by_cases h2:c=2
   · exact⟨tf,Or.inl (Or.inr ⟨h2,rfl⟩)⟩
   · exact⟨c0,Or.inr ⟨h1,h2,rfl⟩⟩
structure Crv.Norm (C:Crv):Prop where
 p:digs 18446744073709551616 C.M=C.pl
 n:digs 18446744073709551616 (val 18446744073709551616 C.nl)=C.nl
 x:digs 18446744073709551616 (val 18446744073709551616 C.xl)=C.xl
 y:digs 18446744073709551616 (val 18446744073709551616 C.yl)=C.yl
def Crv.inf (C:Crv):Bool:=C.size==0
theorem IsC.inf {c:Int}{C:Crv}(h:IsC c C):C.inf=false:=by
 rcases h with⟨_,rfl⟩|⟨_,rfl⟩<;>rfl
theorem rQ {c:Int}{C:Crv}(h:IsU c C)(w:World):Calls Tryz.prog 9 #[.int .i64 c] w fun e w'=>∃ v,e=.returned v∧RC w' C v∧Ext w w':=by
 rcases h with h|⟨a,b,rfl⟩
 · exact mR h w
 · exact ov a b w
theorem zCS {c:Int}{C:Crv}(h:IsU c C)(w:World):Calls Tryz.prog 66 #[.int .i64 c] w fun e w'=>∃ A a,e=.returned (.slice A C.nl.length a)∧RU w' A a C.nl∧Ext w w':=by
 rcases h with h|⟨b,d,rfl⟩
 · exact fv h w
 · exact(tA b d w).mono fun e w' ⟨h,f⟩=>⟨none,0,h,RN.nil_ _ _,f⟩
def z85:Array Value:=Array.replicate 288 (.int .u64 0)
theorem zCm:(Tryz.prog.info? 125).map (·.size)=some 288:=by kernel_rfl
theorem t7:z85.size=288:=by kernel_rfl
def JRow (C:Crv) (X:World) (b i:Nat) (p:Nat×Nat×Nat):Prop:=∃ x y z,X.rangeAt b (18*i) (nts (x++y++z))∧FJ C.M C.n x y z p.1 p.2.1 p.2.2
structure wO (C:Crv) (X:World) (b:Nat) (t:Nat→Nat×Nat×Nat) (n:Nat):Prop where
 blk:∃ cs:Array Value,X.heap[b]?=some (.cells cs 125 (0,0))∧cs.size=288
 row:∀ i,i<n→JRow C X b i (t i)
section
variable {C:Crv} {X Y:World} {b n:Nat} {t:Nat→Nat×Nat×Nat}
theorem wO.lt (h:wO C X b t n):b<X.heap.size:=by
 obtain⟨cs,a,_⟩:=h.blk;exact qd a
theorem wO.same (h:wO C X b t n)(a:Y.heap[b]?=X.heap[b]?):wO C Y b t n:=by
 obtain⟨cs,c,d⟩:=h.blk;refine⟨⟨cs,a.trans c,d⟩,fun i f=>?_⟩;obtain⟨x,y,z,g,e⟩:=h.row i f;exact⟨x,y,z,fun j v k=>(qB a).trans (g j v k),e⟩
theorem wO.ext (h:wO C X b t n)(a:Ext X Y):wO C Y b t n:=h.same (Below.block a b h.lt)
theorem wO.just {g:Nat}(h:wO C X b t n)(c:jE g X Y)(a:b≠g):wO C Y b t n:=h.same (c.block b h.lt a)
theorem oG {x y z:List Nat}{M m:Nat}{p:Nat×Nat×Nat}(h:FJ M m x y z p.1 p.2.1 p.2.2):(nts (x++y++z)).length=18:=by
 rw[qk,zf,zf,h.x.elt.six,h.y.elt.six,h.z.elt.six]
theorem bP {c:Oper}{a:Act}{K:Act→World→Prop}{Q:Exit→Act→World→Prop}(x:Operand)(g:c.op=.load 123 x){i:Nat}(h:wO C X b t n)(f:i<n){o:Nat}(j:18*i=o)(l:a.eval x=.pointer (some ⟨b,o,none⟩))(e:∀ v,JAt C v (t i)→K (a.put c.dst v) X):c.wp Tryz.prog a X K Q:=by
 obtain⟨m,ly,lz,k,d⟩:=h.row i f;subst j;exact wp_load_mid 123 x g b (18*i) l _ _ k Tryz.underlying123 rfl (by rw[oG d];exact gg) (e _ ⟨m,ly,lz,rfl,d⟩)
theorem rP {T:TypeId}(b:Nat):∀(vs:List Value) (o:Nat) (X:World) (cs:Array Value),X.heap[b]?=some (.cells cs T (0,0))→∃ ds:Array Value,(X.setCells b o vs).heap[b]?=some (.cells ds T (0,0))∧ds.size=cs.size
 | [],_,X,cs,h=>⟨cs,h,rfl⟩
 | v :: vs, o, X, cs, h => by
   obtain⟨ds,a,c⟩:=rP b vs (o+1) (X.setCell ⟨b,o,none⟩ v) _ (jA h o v);exact⟨ds,a,by rw[c];simp⟩
theorem fI (b:Nat):∀(vs:List Value) (o:Nat) (X:World),jE b X (X.setCells b o vs)∧(X.setCells b o vs).heap.size=X.heap.size
 | [],_,X=>⟨q9 b X,rfl⟩
 | v :: vs, o, X => by
   obtain⟨a,c⟩:=fI b vs (o+1) (X.setCell ⟨b,o,none⟩ v);exact⟨((q9 b X).set o v).trans a,c.trans (by simp[World.setCell])⟩
theorem sW {e:Oper}{a:Act}{K:Act→World→Prop}{Q:Exit→Act→World→Prop}(x y:Operand)(B:e.op=.store 123 x y)(w:e.dst=none)(h:wO C X b t n)(O:n<16){v:Value}(F:JAt C v (t n)){o:Nat}(D:18*n=o)(G:a.eval x=.pointer (some ⟨b,o,none⟩))(H:a.eval y=v)
 (u:∀ Y,wO C Y b t (n+1)→jE b X Y→Y.heap.size=X.heap.size→K a Y):e.wp Tryz.prog a X K Q:=by
 obtain⟨c,ly,lz,rfl,f⟩:=F
 obtain⟨cs,d,l⟩:=h.blk
 subst D
 have k:=oG f
 have m:X.there b (18*n) (nts (c++ly++lz)).toArray.size:=fun j z=>by
  rw[qZ,k]at z;refine⟨?_,qz d _⟩;rw[zP d];simp[l];omega
 refine wp_store_mid 123 x y B b (18*n) _ G H m (by rw[qZ,k];exact gg) (nB _) ?_
 rw[w]
 obtain⟨p,q⟩:=fI b (nts (c++ly++lz)) (18*n) X
 refine u _ ⟨?_,fun i N=>?_⟩ p q
 · obtain⟨ds,r,s⟩:=rP b (nts (c++ly++lz)) (18*n) X cs d;exact⟨ds,r,s.trans l⟩
 · rcases qH i n with A|M
   · obtain⟨I,J,L,E,g⟩:=h.row i A;exact⟨I,J,L,World.rangeAt_setCells_apart E _ _ _ (.inr (.inl (by rw[oG g];omega))),g⟩
   · obtain rfl:i=n:=by omega
     exact⟨c,ly,lz,World.rangeAt_setCells_same _ _ _ _ (by rwa [qZ]at m),f⟩
end
theorem six3 {l:List Nat}(h:l.length=18):∃ a b c a3 a4 a5 d e f a9 g i j k m n o p,l=[a,b,c,a3,a4,a5,d,e,f,a9,g,i,j,k,m,n,o,p]:=by
 match l,h with
 | [a,b,c,a3,a4,a5,d,e,f,a9,g,i,j,k,m,n,o,p],_=>exact⟨_,_,_,_,_,_,_,_,_,_,_,_,_,_,_,_,_,_,rfl⟩
theorem sP {x y:List Nat}(a:x.length=18)(b:y.length=18):Tryz.prog.built 125 [(0,.agg (nts x).toArray),(1,.agg (nts y).toArray)]=some (nts (x++y++List.replicate 252 0)).toArray:=by
 obtain⟨c,d,e,a3,a4,a5,f,g,h,a9,i,j,k,l,m,n,o,p,rfl⟩:=six3 a;obtain⟨c0,c1,q,c3,r,s,t,u,c8,v,d0,d1,d2,w,z,A,B,C,rfl⟩:=six3 b;kernel_rfl
theorem oX {C:Crv}{k:Oper}{a:Act}{X:World}{K:Act→World→Prop}{Q:Exit→Act→World→Prop}(p q:Operand)(B:k.op=.build 125 #[(0,p),(1,q)]){v u:Value}{x y:Nat×Nat×Nat}(D:a.eval p=v)(E:a.eval q=u)(f:JAt C v x)(F:JAt C u y)
 (A:∀ cs:Array Value,cs.size=288→cs.all (·.oneCell')=true→(∀ W b,W.heap[b]?=some (.cells cs 125 (0,0))→∀ t:Nat→Nat×Nat×Nat,t 0=x→t 1=y→wO C W b t 2)→K (a.put k.dst (.agg cs)) X):k.wp Tryz.prog a X K Q:=by
 obtain⟨x1,x2,x3,rfl,n⟩:=f
 obtain⟨y1,y2,c,rfl,o⟩:=F
 have d:(x1++x2++x3).length=18:=by have:=oG n;rwa [qk]at this
 have g:(y1++y2++c).length=18:=by have:=oG o;rwa [qk]at this
 have m:(#[(0,p),(1,q)].map fun(i,x)=>(i,a.eval x)).toList=[(0,.agg (nts (x1++x2++x3)).toArray),(1,.agg (nts (y1++y2++c)).toArray)]:=by simp[D,E,JV]
 have r:(x1++x2++x3++(y1++y2++c)++List.replicate 252 0).length=288:=by rw[zf,zf,d,g,wS]
 refine wp_build 125 #[(0,p),(1,q)] B (by rw[m,sP d g];rfl) ?_
 rw[m,sP d g,vP]
 refine A _ (by rw[qZ,qk,r]) (nB _) fun W b h t w z=>⟨⟨_,h,by rw[qZ,qk,r]⟩,fun i G=>?_⟩
 have key:∀ pre l s:List Nat,x1++x2++x3++(y1++y2++c)++List.replicate 252 0=pre++l++s→W.rangeAt b pre.length (nts l):=fun pre l s e j v f=>by
  rw[zP h,e,zQ,gB,gB,xD,uS (by rw[qk];omega),qk,Nat.add_sub_cancel_left,wv,f];exact(List.getElem?_eq_some_iff.1 f).1
 rcases(show i=0∨i=1 by omega)with rfl|rfl
 · rw[w];exact⟨x1,x2,x3,by have:=key [] (x1++x2++x3) _ (by rw[vh,xD]);simpa using this,n⟩
 · rw[z];exact⟨y1,y2,c,by have:=key (x1++x2++x3) (y1++y2++c) _ rfl;rwa [d]at this,o⟩
end Go.Proofs.YtaemogcomplhiaaGreatDoor
