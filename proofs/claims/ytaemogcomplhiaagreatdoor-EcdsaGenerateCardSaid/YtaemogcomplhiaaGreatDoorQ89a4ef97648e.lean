/- Laws that the proof rests on. -/
import Derived.Test.YtaemogcomplhiaaGreatDoorQ4e7b853d713d
set_option maxRecDepth 100000
set_option maxHeartbeats 16000000
namespace Go.Proofs.YtaemogcomplhiaaGreatDoor
open Go.RowKit
def rmS (M qx qy E:Nat):Nat→Nat×Nat×Nat
 | 0=>(0,0,0)
 | k+1=>if(jw E k).2=1 then uP M (twP M (rmS M qx qy E k).1 (rmS M qx qy E k).2.1 (rmS M qx qy E k).2.2).1 (twP M (rmS M qx qy E k).1 (rmS M qx qy E k).2.1 (rmS M qx qy E k).2.2).2.1 (twP M (rmS M qx qy E k).1 (rmS M qx qy E k).2.1 (rmS M qx qy E k).2.2).2.2 qx qy else twP M (rmS M qx qy E k).1 (rmS M qx qy E k).2.1 (rmS M qx qy E k).2.2
def cJ (M x y z:Nat):Option (Nat×Nat):=if z=0 then none else let iv:=(ws z M).1;let u1:=mm M iv iv;some (mm M x u1,mm M y (mm M u1 iv))
def fJ (M:Nat) (a:Bool) (qx qy E:Nat):Option (Nat×Nat):=if a then none else cJ M (rmS M qx qy E (qD E)).1 (rmS M qx qy E (qD E)).2.1 (rmS M qx qy E (qD E)).2.2
theorem pS {m:Nat} : ∀(n s:Nat),s≤n→∀ r t u,t<m→u<m→(jt m r s t u).2<m:=by
 intro n;induction n with
 | zero =>
  intro s d r t u a b;obtain rfl:s=0:=by omega
  rw[vV];exact a
 | succ n ih =>
  intro s d r t u a b;rcases za s with rfl|c
  · rw[vV];exact a
  · rw[xL (by omega)];exact ih (r%s) (by have:=qP r c;omega) s u _ b (qP _ (by omega))
theorem tI {x m:Nat}(a:2≤m):(ws x m).1<m:=by
 unfold ws;split
 · exact pS (x%m) _ (zG _) _ _ _ (by omega) (by omega)
 · show 0<m;omega
def RJB (C:Crv) (X:World) (b:Nat) (p:Nat×Nat×Nat):Prop:=∃(a c d:Option Addr) (c1 e c3:Nat),X.heap[b]?=some (.cells #[.slice a (digs 4294967296 p.1).length c1,.slice c (digs 4294967296 p.2.1).length e,.slice d (digs 4294967296 p.2.2).length c3] 78 (0,0)) ∧
 RU X a c1 (digs 4294967296 p.1)∧RU X c e (digs 4294967296 p.2.1)∧RU X d c3 (digs 4294967296 p.2.2)∧p.1<C.M∧p.2.1<C.M∧p.2.2<C.M
theorem zDp {C:Crv}{y:Array Value}{an:Option Addr}{ao E:Nat}{bi:Bool}{B1 B2:Option Addr}{m1 m2 qx qy:Nat}(hF:C.Fine)(h8:8<C.M)(w:World)(hc:RC w C (.agg y))(hn:RU w an ao (digs 4294967296 E))(bg:RU w B1 m1 (digs 4294967296 qx))(bh:RU w B2 m2 (digs 4294967296 qy))(bl:bi=false→qx<C.M∧qy<C.M) :
 Calls Tryz.prog 16 #[.agg y,.slice an (digs 4294967296 E).length ao,.agg #[.bool bi,.slice B1 (digs 4294967296 qx).length m1,.slice B2 (digs 4294967296 qy).length m2]] w fun e w'=>∃ o,e=.returned o∧RPU w' o (fJ C.M bi qx qy E)∧Ext w w':=by
 obtain⟨Ap,An,Ab,Ax,Ay,cp,cn,cb,cx,cy,ai,hP,hN,N,bc,F⟩:=hc
 injection ai with ai
 have ba:RC w C (.agg y):=⟨Ap,An,Ab,Ax,Ay,cp,cn,cb,cx,cy,by rw[ai],hP,hN,N,bc,F⟩
 obtain⟨W0,ab⟩:=eW (((w.alloc (.cells y 30)).alloc (.cells #[.bool bi,.slice B1 (digs 4294967296 qx).length m1,.slice B2 (digs 4294967296 qy).length m2] 45)).alloc (.cells #[.bool false,.slice none 0 0,.slice none 0 0] 45))
 obtain⟨q,hq⟩:=eV w.heap.size
 have W:Ext w W0:=by rw[ab];exact((zL _ _).trans (zL _ _)).trans (zL _ _)
 obtain⟨ah,ak,ad,n⟩:=mM w (.cells y 30) (.cells #[.bool bi,.slice B1 (digs 4294967296 qx).length m1,.slice B2 (digs 4294967296 qy).length m2] 45) (.cells #[.bool false,.slice none 0 0,.slice none 0 0] 45)
 rw[←ab,hq]at ah ak ad n
 have t0:=zP ak 0
 have cP:=zP ah 0
 rw[ai]at cP
 simp only[zQ,ze]at t0 cP
 have aa:=zF (ba.ext W)
 have af:=zF (show y.size=6 by rw[ai];rfl)
 have az:=zF (zN hP W)
 have bE:=zF (zN bg W)
 have bF:=zF (zN bh W)
 have HN:=zF (zN hn W)
 have I:=zF hF
 have H8:=zF h8
 have Z:0<C.M:=by omega
 have ay:=zF W
 have bO:=zF n
 clear ba ai hP hN N bc F hF h8 W n bg bh hn
 cases bi
 case true =>
  rw[show fJ C.M true qx qy E=none from rfl];go_enter Tryz.func16,Tryz.ntmps16;go_upto_region 1 with fail;rw[←ab];have Hq:=zF hq;clear ab hq;obtain⟨z0,z1,z2,f0,f1,f2⟩:=jQ ad;go_wp2;exact bH rfl rfl rfl (xG ad _ _ _) ⟨_,rfl,rfl,xi ay.out (by have:=Hq.out;omega) _ _ _⟩
 case false =>
  obtain⟨bm,bn⟩:=bl rfl;have bZ:=zF bm;have b0:=zF bn;clear bm bn bl;obtain⟨x,av⟩:=eV (qD E);rw[show fJ C.M false qx qy E=cJ C.M (rmS C.M qx qy E x).1 (rmS C.M qx qy E x).2.1 (rmS C.M qx qy E x).2.2 by rw[←av];rfl];have ci:x≤64000000:=by
   have h1:=HN.out.cap;rw[←av];refine zK (aB (k:=32*(digs 4294967296 E).length) ?_) (by omega);have:=kF (kL (B:=4294967296) (by omega) E);rw[zi (by omega)]at this;rw[vW];exact this
  obtain⟨res,aL⟩:=eV (cJ C.M (rmS C.M qx qy E x).1 (rmS C.M qx qy E x).2.1 (rmS C.M qx qy E x).2.2);rw[aL];have bN:=zF aL;have a1:=zF av;clear av aL;go_enter Tryz.func16,Tryz.ntmps16;go_upto_region 1 with fail;rw[←ab];have Hq:=zF hq;have cd:=zF ab;clear ab hq;obtain⟨G,au⟩:=eV W0.heap.size;have g7:=zS W0 (.cells #[.slice none 0 0,.slice none 0 0,.slice none 0 0] 78);have ap:=zL W0 (.cells #[.slice none 0 0,.slice none 0 0,.slice none 0 0] 78);rw[au]at g7;have ck:(W0.alloc (.cells #[.slice none 0 0,.slice none 0 0,.slice none 0 0] 78)).heap.size=G+1:=by rw[zz,au]
  go_upto_region 4 with fail;clear t0;generalize bW:W0.alloc (.cells #[.slice none 0 0,.slice none 0 0,.slice none 0 0] 78)=W5 at *;have aH:=cI _ an ao E W5 (zN HN.out ap);rw[a1.out]at aH;have bG:=zF aH;have cj:q+3≤G:=by have:=bO.out;omega
  have cc:=zF (ay.out.trans ap);have aW:=zF ap;have aY:=zF au;have bV:RJB C W5 G (rmS C.M qx qy E 0):=⟨none,none,none,0,0,0,by rw[show rmS C.M qx qy E 0=(0,0,0)from rfl,qW];exact g7,RN.nil0 _,RN.nil0 _,RN.nil0 _,Z,Z,Z⟩
  have b4:IntKind.i64.wrap ((x:Int)-1)=(x:Int)-1:=qu _ (by omega);clear aH ap bW g7 au;have bK:=zF ah;have bJ:=zF cP;have bM:=zF ak;have ce:=zF ad;clear cP;go_wp2_with (go_at_call 39;refine bG.out.mono ?_;rintro e w5 ⟨rfl,rfl⟩);clear b4;go_loopw [8] (fun iv wr=>∃(k:Nat) (z:Int),k≤x∧iv=.int .i64 z∧z=(x:Int)-1-(k:Int)∧RJB C wr G (rmS C.M qx qy E k)∧Below G W5 wr) (fun iv _=>(intOf iv+1).toNat);case atStart=>exact⟨0,_,by omega,rfl,by omega,bV,zo _ _⟩
  case round =>
   obtain⟨k,z,hk,rfl,hz,hJ,aq⟩:=hrel;have ag:Ext W0 wr:=jJ aW.out (Below.mono aq (Nat.le_of_eq aY.out));have aA:=zF ag;have aj:=ag.at_ ah;have bk:=ag.at_ ak;have aM:=ag.at_ ad;have bb:=zF (aa.out.ext ag);have bz:=zF aq;clear ag;obtain⟨E1,E2,E3,d1,d2,d3,v,g1,P,Q,R,S,T⟩:=hJ;have cl:=qd v;by_cases hlt:k<x
   · have k1:(0:Int)≤z:=by omega
     obtain⟨b,ae⟩:=eV (rmS C.M qx qy E k);have aO:rmS C.M qx qy E (k+1)=if(jw E k).2=1 then uP C.M (twP C.M b.1 b.2.1 b.2.2).1 (twP C.M b.1 b.2.1 b.2.2).2.1 (twP C.M b.1 b.2.1 b.2.2).2.2 qx qy else twP C.M b.1 b.2.1 b.2.2:=by rw[←ae];rfl
     have aI:(uK E z:Nat)=(jw E k).2:=by
      rw[uK,qo (by omega),jw,a1.out,show z.toNat=x-1-k by omega]
     have bY:(jw E k).2<2:=qP _ (by omega);rw[ae]at v g1 P Q R S T;obtain⟨bt,bd⟩:=eV ((jw E k).2);rw[bd]at aO aI bY;have aC:=zF aO;have bI:=zF aI;have G1:=zF g1;have G2:=zF P;have G3:=zF Q;have G4:=zF R;have G5:=zF S;have G6:=zF T;have aw:IntKind.i64.wrap (z-1)=z-1:=qu _ (by omega);have a2:=zF aw;have Hz:=zF hz;clear aO aI g1 P Q R S T ae bd hz aq aw ah ak ad aM;go_upto_region 7 with fail
     refine zR 3 [0,0,3,7] [] (fun j f X=>match j with
      | 0=>f 0=.agg y
      | 1=>f 1=.agg #[.slice E1 (digs 4294967296 b.1).length d1,.slice E2 (digs 4294967296 b.2.1).length d2,.slice E3 (digs 4294967296 b.2.2).length d3]
      | 2=>∃ o,f 2=o∧JN X C o (twP C.M b.1 b.2.1 b.2.2)
      | _=>True) (by kernel_rfl) [(22,0),(23,1),(24,2)] (by kernel_rfl) ?_
     refine lV0 1 2 aj (by rw[af.out];exact jG) ?_;refine lV0 2 1 v uQ ?_;refine qK 3 0 (fun f=>#[f 0,f 1]) (F':=40) (fun f X a hR=>?_) ?_
     · have e0:f 0=_:=hR.out 0 rfl;have H:f 1=_:=hR.out 1 rfl;simp only[e0,H];refine(rH (p:=b) I.out H8.out X (bb.out.ext a) ⟨E1,E2,E3,d1,d2,d3,rfl,zN G1.out a,zN G2.out a,zN G3.out a,G4.out,G5.out,G6.out⟩).mono ?_;rintro e w2 ⟨o,rfl,hj,N⟩;exact⟨o,rfl,N,fun Y m=>⟨_,rfl,hj.ext m⟩⟩
     refine yF ⟨fun f X a hR A D=>?_⟩;obtain⟨vo,(J:f 2=_),jo⟩:=hR 2 (by decide);simp only[yZ,J];clear hR A D J;obtain⟨D1,D2,D3,c1,O,c3,ev,f1,f2,f3,f4,f5,f6⟩:=jo;subst ev;refine zO (fun K g=>⟨zU (by kernel_rfl) (jX (cs':=#[.slice D1 (digs 4294967296 (twP C.M b.1 b.2.1 b.2.2).1).length c1,.slice D2 (digs 4294967296 (twP C.M b.1 b.2.1 b.2.2).2.1).length O,.slice D3 (digs 4294967296 (twP C.M b.1 b.2.1 b.2.2).2.2).length c3]) (t:=78) 78 (.tmp 7) (.tmp 24) rfl rfl rfl rfl (a.at_ v) uQ rfl (dX _ _ _ _ _ _ _ _ _) (fun Y F r ar=>g.out _ _ ?_))⟩);refine zI ?_;obtain⟨i,bo⟩:=eV (twP C.M b.1 b.2.1 b.2.2);rw[bo]at aC F f1 f2 f3 f4 f5 f6;have F1:=zF (f1.offJ r (a.at_ v) (by kernel_rfl));have F2:=zF (f2.offJ r (a.at_ v) (by kernel_rfl));have F3:=zF (f3.offJ r (a.at_ v) (by kernel_rfl));have F4:=zF f4;have F5:=zF f5;have F6:=zF f6;have ax:=zF ((bz.out.trans (Below.mono a (by omega))).trans (r.below (zG _) (by have:=a.bsize;omega)));have aF:Ext W0 Y:=jJ aW.out (Below.mono ax.out (Nat.le_of_eq aY.out));have ac:=F;have zY:=qd F;have al:=zF aF;have aG:=pA _ an ao E z Y (zN HN.out aF) (by have:=Hz.out;omega);rw[bI.out]at aG;have aZ:=zF aG;clear f1 f2 f3 f4 f5 f6 a F r ar v aj bk aF aG bo;rename World=>V;by_cases hb1:bt=1
     · have aN:=zF (show rmS C.M qx qy E (k+1)=uP C.M i.1 i.2.1 i.2.2 qx qy by rw[aC.out,qg hb1]);subst hb1;have be:=al.out.at_ (show W0.heap[q]?=some (.cells y 30 (0,0))from bK.out);have bj:=al.out.at_ (show W0.heap[q+1]?=some (.cells #[.bool false,.slice B1 (digs 4294967296 qx).length m1,.slice B2 (digs 4294967296 qy).length m2] 45 (0,0))from bM.out);go_upto_region 9 with(go_at_call 41;refine aZ.out.mono ?_;rintro e w5 ⟨rfl,rfl⟩)
       refine zR 4 [0,0,0,7,15] [] (fun j f X=>match j with
        | 0=>f 0=.agg y
        | 1=>f 1=.agg #[.slice D1 (digs 4294967296 i.1).length c1,.slice D2 (digs 4294967296 i.2.1).length O,.slice D3 (digs 4294967296 i.2.2).length c3]
        | 2=>f 2=.agg #[.bool false,.slice B1 (digs 4294967296 qx).length m1,.slice B2 (digs 4294967296 qy).length m2]
        | 3=>∃ o,f 3=o∧JN X C o (uP C.M i.1 i.2.1 i.2.2 qx qy)
        | _=>True) (by kernel_rfl) [(29,0),(30,1),(31,2),(32,3)] (by kernel_rfl) ?_
       refine lV0 1 3 be (by rw[af.out];exact jG) ?_;refine lV0 2 2 ac uQ ?_;refine lV0 3 1 bj di ?_;refine qK 4 0 (fun f=>#[f 0,f 1,f 2]) (F':=42) (fun f X a hR=>?_) ?_
       · have e0:f 0=_:=hR.out 0 rfl;have H:f 1=_:=hR.out 1 rfl;have J:f 2=_:=hR.out 2 rfl;simp only[e0,H,J];refine(zCf (p:=i) I.out H8.out X (aa.out.ext (al.out.trans a)) ⟨D1,D2,D3,c1,O,c3,rfl,zN F1.out a,zN F2.out a,zN F3.out a,F4.out,F5.out,F6.out⟩ (zN bE.out (al.out.trans a)) (zN bF.out (al.out.trans a)) bZ.out b0.out).mono ?_;rintro e w2 ⟨o,rfl,hj,N⟩;exact⟨o,rfl,N,fun Y m=>⟨_,rfl,hj.ext m⟩⟩
       refine yF ⟨fun f X a hR A D=>?_⟩;obtain⟨vo,(l:f 3=_),jo⟩:=hR 3 (by decide);simp only[yZ,l];clear hR A D l;obtain⟨H1,H2,H3,i1,i2,i3,ev,f1,f2,f3,f4,f5,f6⟩:=jo;subst ev;refine zO (fun K g=>⟨zU (by kernel_rfl) (jX (cs':=#[.slice H1 (digs 4294967296 (uP C.M i.1 i.2.1 i.2.2 qx qy).1).length i1,.slice H2 (digs 4294967296 (uP C.M i.1 i.2.1 i.2.2 qx qy).2.1).length i2,.slice H3 (digs 4294967296 (uP C.M i.1 i.2.1 i.2.2 qx qy).2.2).length i3]) (t:=78) 78 (.tmp 7) (.tmp 32) rfl rfl rfl rfl (a.at_ ac) uQ rfl (dX _ _ _ _ _ _ _ _ _) (fun Y F r ar=>g.out _ _ ?_))⟩);refine zI ?_;have a9:RJB C Y G (rmS C.M qx qy E (k+1)):=by rw[aN.out];exact⟨H1,H2,H3,i1,i2,i3,F,f1.offJ r (a.at_ ac) (by kernel_rfl),f2.offJ r (a.at_ ac) (by kernel_rfl),f3.offJ r (a.at_ ac) (by kernel_rfl),f4,f5,f6⟩
       have bA:=zF a9;have bx:=zF ((ax.out.trans (Below.mono a (by omega))).trans (r.below (zG _) (by have:=a.bsize;omega)));clear a9 f1 f2 f3 f4 f5 f6 a F r ar ac be bj;have aw:=a2.out;go_wp2;refine⟨⟨k+1,z-1,by omega,rfl,by have:=Hz.out;omega,bA.out,bx.out⟩,?_⟩;simp[intOf];omega
     · obtain rfl:bt=0:=by omega
       have aN:=zF (show rmS C.M qx qy E (k+1)=i by rw[aC.out,qo hb1]);have aw:=a2.out;go_wp2_with (go_at_call 41;refine aZ.out.mono ?_;rintro e w5 ⟨rfl,rfl⟩);refine⟨⟨k+1,z-1,by omega,rfl,by have:=Hz.out;omega,by rw[aN.out];exact⟨D1,D2,D3,c1,O,c3,ac,F1.out,F2.out,F3.out,F4.out,F5.out,F6.out⟩,ax.out⟩,?_⟩;simp[intOf];omega
   · obtain rfl:k=x:=by omega
     have k1:¬(0:Int)≤z:=by omega
     obtain⟨b,ae⟩:=eV (rmS C.M qx qy E k);obtain⟨sx,sy,sz⟩:=b;rw[ae]at v g1 P Q R S T;simp only at v g1 P Q R S T;have Hr:=zF (show cJ C.M sx sy sz=res by rw[←bN.out,ae]);have s0:=zP v 0;have s1:=zP v 1;have s2:=zP v 2;have bS:=aA.out.cell bJ.out;simp only[zQ,ze,qe]at s0 s1 s2;have bB:=zF g1;have bC:=zF P;have bD:=zF Q;have b1:=zF R;have b2:=zF S;have b3:=zF T;have aX:=zF (ay.out.trans aA.out);replace az:=zF (zN az.out aA.out);replace aa:=bb;have d:=zT wr;clear g1 P Q R S T v ae hz aq ah ak ad bk;by_cases n:sz=0
     · obtain rfl:res=none:=by rw[←Hr.out,cJ,qg n]
       replace n:=zF n;go_upto_region 10 with fail
       refine zR 4 [0,1,3,7] [] (fun j f X=>match j with
        | 0=>f 0=.pointer (some ⟨G,2,none⟩)
        | 1=>f 1=.slice E3 (digs 4294967296 sz).length d3
        | 2=>f 2=.int .i64 ((digs 4294967296 sz).length:Int)
        | 3=>f 3=.bool true
        | _=>True) (by kernel_rfl) [(33,0),(34,1),(35,2),(36,3)] (by kernel_rfl) ?_
       refine zJ 1 3 ?_;refine qC 2 2 0 (d.cell s2) ?_;refine zv 3 1 [(33,0),(34,1)] (fun f X a hR K g=>?_) ?_
       · have H:f 1=_:=hR.out 1 rfl;simp only[yZ,H];refine⟨?_⟩;go_simp;exact qY g (s:=by simp only[yZ,H])
       refine zv 4 0 [(33,0),(34,1),(35,2)] (fun f X a hR K g=>?_) ?_
       · have J:f 2=_:=hR.out 2 rfl;have b5:decide (((digs 4294967296 sz).length:Int)=0)=true:=xd n.out;have b6:decide ((digs 4294967296 sz).length=0)=true:=xc n.out;have b7:((((digs 4294967296 sz).length:Nat):Int)==0)=true:=xe n.out;simp only[yZ,J];refine⟨?_⟩;go_simp;exact qY g (s:=by simp only[yZ,J])
       refine yF ⟨fun f X a hR A D=>?_⟩;have l:f 3=_:=hR 3 (by decide);simp only[yZ,l];clear hR A D l;refine zI ?_;replace d:=d.trans a;clear a  ;rename World=>X10_k;have hb1:=d.at_ aM;obtain⟨z0,z1,z2,f0,f1,f2⟩:=jQ hb1;go_wp2;exact bH rfl rfl rfl (xG hb1 _ _ _) ⟨_,rfl,rfl,xi (aX.out.trans d) (by have:=Hq.out;omega) _ _ _⟩
     · obtain⟨iv,aJ⟩:=eV ((ws sz C.M).1);obtain⟨ib,bf⟩:=eV ((ws sz C.M).2);have aK:=zF (show iv<C.M by rw[←aJ];exact tI (by have:=I.out.three;omega));have a0:=zF aJ;have bL:=zF bf;obtain⟨u1,dw⟩:=eV (mm C.M iv iv);have a3:=zF (show u1<C.M by rw[←dw];exact kh Z _ _);have aS:=zF dw;clear dw;obtain⟨u2,dv⟩:=eV (mm C.M sx u1);have cf:=zF (show u2<C.M by rw[←dv];exact kh Z _ _);have aT:=zF dv;clear dv;obtain⟨u3,aD⟩:=eV (mm C.M u1 iv);have bP:=zF (show u3<C.M by rw[←aD];exact kh Z _ _);have aU:=zF aD;clear aD;obtain⟨u4,aE⟩:=eV (mm C.M sy u3);have cg:=zF (show u4<C.M by rw[←aE];exact kh Z _ _);have aV:=zF aE;clear aE;obtain rfl:res=some (u2,u4):=by rw[←Hr.out,cJ,qo n];simp only[a0.out,aS.out,aT.out,aU.out,aV.out]
       clear aJ bf;replace n:=zF n;go_upto_region 10 with fail
       refine zR 4 [0,1,3,7] [] (fun j f X=>match j with
        | 0=>f 0=.pointer (some ⟨G,2,none⟩)
        | 1=>f 1=.slice E3 (digs 4294967296 sz).length d3
        | 2=>f 2=.int .i64 ((digs 4294967296 sz).length:Int)
        | 3=>f 3=.bool false
        | _=>True) (by kernel_rfl) [(33,0),(34,1),(35,2),(36,3)] (by kernel_rfl) ?_
       refine zJ 1 3 ?_;refine qC 2 2 0 (d.cell s2) ?_;refine zv 3 1 [(33,0),(34,1)] (fun f X a hR K g=>?_) ?_
       · have H:f 1=_:=hR.out 1 rfl;simp only[yZ,H];refine⟨?_⟩;go_simp;exact qY g (s:=by simp only[yZ,H])
       refine zv 4 0 [(33,0),(34,1),(35,2)] (fun f X a hR K g=>?_) ?_
       · have J:f 2=_:=hR.out 2 rfl;have b5:decide (((digs 4294967296 sz).length:Int)=0)=false:=wj n.out;have b6:decide ((digs 4294967296 sz).length=0)=false:=wi n.out;have b7:((((digs 4294967296 sz).length:Nat):Int)==0)=false:=wk n.out;simp only[yZ,J];refine⟨?_⟩;go_simp;exact qY g (s:=by simp only[yZ,J])
       refine yF ⟨fun f X a hR A D=>?_⟩;have l:f 3=_:=hR 3 (by decide);simp only[yZ,l];clear hR A D l;refine zI ?_;replace d:=d.trans a;clear a  ;rename World=>X10_k;go_upto_region 12 with fail
       refine zR 10 [0,1,0,4,15,31,63,63,127,511] [] (fun j f X=>match j with
        | 0=>f 0=.pointer (some ⟨G,2,none⟩)
        | 1=>f 1=.slice E3 (digs 4294967296 sz).length d3
        | 2=>f 2=.pointer (some ⟨q,0,none⟩)
        | 3=>f 3=.slice Ap (digs 4294967296 C.M).length cp
        | 4=>∃ c c1,f 4=.tuple #[.slice c (digs 4294967296 iv).length c1,.bool ib]∧RU X c c1 (digs 4294967296 iv)
        | 5=>∃ c c1,f 5=.tuple #[.slice c (digs 4294967296 iv).length c1,.bool ib]∧RU X c c1 (digs 4294967296 iv)
        | 6=>∃ c c1,f 6=.slice c (digs 4294967296 iv).length c1∧RU X c c1 (digs 4294967296 iv)
        | 7=>f 7=.bool ib
        | 8=>∃ c c1,f 8=.slice c (digs 4294967296 iv).length c1∧RU X c c1 (digs 4294967296 iv)
        | 9=>f 9=.bool ib
        | _=>True) (by kernel_rfl) [(39,0),(40,1),(41,2),(42,3),(43,4),(38,5),(44,6),(45,7),(9,8),(10,9)] (by kernel_rfl) ?_
       refine zJ 1 9 ?_;refine qC 2 8 0 (d.cell s2) ?_;refine zJ 3 7 ?_;refine qC 4 6 2 (d.cell bS) ?_;refine qK 5 5 (fun f=>#[f 1,f 3]) (F':=43) (fun f X a hR=>?_) ?_
       · have H:f 1=_:=hR.out 1 rfl;have l:f 3=_:=hR.out 3 rfl;simp only[H,l];refine(bX E3 Ap d3 cp sz C.M X (zN bD.out (d.trans a)) (zN az.out (d.trans a)) (by have:=I.out.len' b3.out;omega) (by have:=I.out.len;omega) (by have:=I.out.three;omega)).mono ?_;rw[a0.out,bL.out];rintro e w2 ⟨c,c1,rfl,hO,N⟩;exact⟨_,rfl,N,fun Y m=>⟨c,c1,rfl,zN hO m⟩⟩
       refine zv 6 4 [(39,0),(40,1),(41,2),(42,3),(43,4)] (fun f X a hR K g=>?_) ?_
       · obtain⟨A4,c4,(u:f 4=_),o4⟩:=hR.out 4 rfl;simp only[yZ,u];refine⟨?_⟩;go_simp;exact g.out _ _ _ (by simp only[yZ,u]) (zT _) trivial (fun Y m=>⟨A4,c4,rfl,zN o4 m⟩)
       refine zv 7 3 [(39,0),(40,1),(41,2),(42,3),(43,4),(38,5),(45,7)] (fun f X a hR K g=>?_) ?_
       · obtain⟨A5,c5,(L:f 5=_),o5⟩:=hR.out 5 rfl;simp only[yZ,L];refine⟨?_⟩;go_simp;exact g.out _ _ _ (by simp only[yZ,L]) (zT _) trivial (fun Y m=>⟨A5,c5,rfl,zN o5 m⟩)
       refine zv 8 2 [(39,0),(40,1),(41,2),(42,3),(43,4),(38,5),(44,6),(9,8)] (fun f X a hR K g=>?_) ?_
       · obtain⟨A5,c5,(L:f 5=_),o5⟩:=hR.out 5 rfl;simp only[yZ,L];refine⟨?_⟩;go_simp;exact qY g (s:=by simp only[yZ,L])
       refine zv 9 1 [(39,0),(40,1),(41,2),(42,3),(43,4),(38,5),(44,6),(45,7)] (fun f X a hR K g=>?_) ?_
       · obtain⟨A6,c6,(e6:f 6=_),o6⟩:=hR.out 6 rfl;simp only[yZ,e6];refine⟨?_⟩;go_simp;exact g.out _ _ _ (by simp only[yZ,e6]) (zT _) trivial (fun Y m=>⟨A6,c6,rfl,zN o6 m⟩)
       refine zt 10 0 7 ?_;refine yF ⟨fun f X a hR A D=>?_⟩;obtain⟨A4,c4,(u:f 4=_),o4⟩:=hR 4 (by decide);obtain⟨A5,c5,(L:f 5=_),o5⟩:=hR 5 (by decide);obtain⟨A6,c6,(e6:f 6=_),o6⟩:=hR 6 (by decide);obtain⟨A8,c8,(e8:f 8=_),o8⟩:=hR 8 (by decide);simp only[yZ,u,L,e6,e8];clear hR A D u L e6 e8;refine zI ?_;replace d:=d.trans a;have N9:=zF o8;clear a o4 o5 o6 o8;rename World=>X12;go_upto_region 13 with fail
       refine zR 5 [0,0,0,7,15] [] (fun j f X=>match j with
        | 0=>f 0=.agg y
        | 1=>f 1=.slice A8 (digs 4294967296 iv).length c8
        | 2=>f 2=.slice A8 (digs 4294967296 iv).length c8
        | 3=>∃ c c1,f 3=.slice c (digs 4294967296 u1).length c1∧RU X c c1 (digs 4294967296 u1)
        | 4=>∃ c c1,f 4=.slice c (digs 4294967296 u1).length c1∧RU X c c1 (digs 4294967296 u1)
        | _=>True) (by kernel_rfl) [(46,0),(47,1),(48,2),(49,3),(11,4)] (by kernel_rfl) ?_
       refine lV0 1 4 (d.at_ aj) (by rw[af.out];exact jG) ?_;refine zJ 2 3 ?_;refine zJ 3 2 ?_;refine rc 4 1 0 1 2 (fun _ _ a h=>⟨_,_,h,(zN N9.out a)⟩) (fun _ _ a h=>⟨_,_,h,(zN N9.out a)⟩) (fun X a _ _ _ _ h U=>jl X I.out (aa.out.ext (d.trans a)) h U aK.out aK.out) aS.out ?_;refine zv 5 0 [(46,0),(47,1),(48,2),(49,3)] (fun f X a hR K g=>?_) ?_
       · obtain⟨aQ,a5,(l:f 3=_),aP⟩:=hR.out 3 rfl;simp only[yZ,l];refine⟨?_⟩;go_simp;exact g.out _ _ _ (by simp only[yZ,l]) (zT _) trivial (fun Y m=>⟨aQ,a5,rfl,zN aP m⟩)
       refine yF ⟨fun f X a hR A D=>?_⟩;obtain⟨aQ,a5,(l:f 3=_),aP⟩:=hR 3 (by decide);obtain⟨aR,a6,(u:f 4=_),bp⟩:=hR 4 (by decide);simp only[yZ,l,u];clear hR A D l u;refine zI ?_;replace d:=d.trans a;replace N9:=zF (zN N9.out a);have a4:=zF bp;clear a aP bp;rename World=>X13_k;have hb1:=d.at_ aM;go_upto_region 14 with fail
       refine zZ (by kernel_rfl) 14 [0,0,2,0,15,0,0,64,0,0,0,1823,4095,8191,16383] [] (fun j f X=>match j with
        | 0=>f 0=.agg y
        | 1=>f 1=.pointer (some ⟨G,0,none⟩)
        | 2=>f 2=.slice E1 (digs 4294967296 sx).length d1
        | 3=>f 3=.slice aR (digs 4294967296 u1).length a6
        | 4=>∃ c c1,f 4=.slice c (digs 4294967296 u2).length c1∧RU X c c1 (digs 4294967296 u2)
        | 5=>f 5=.agg y
        | 6=>f 6=.pointer (some ⟨G,1,none⟩)
        | 7=>f 7=.slice E2 (digs 4294967296 sy).length d2
        | 8=>f 8=.agg y
        | 9=>f 9=.slice aR (digs 4294967296 u1).length a6
        | 10=>f 10=.slice A8 (digs 4294967296 iv).length c8
        | 11=>∃ c c1,f 11=.slice c (digs 4294967296 u3).length c1∧RU X c c1 (digs 4294967296 u3)
        | 12=>∃ c c1,f 12=.slice c (digs 4294967296 u4).length c1∧RU X c c1 (digs 4294967296 u4)
        | 13=>∃ c c1 A2 O,f 13=.agg #[.bool false,.slice c (digs 4294967296 u2).length c1,.slice A2 (digs 4294967296 u4).length O]∧RU X c c1 (digs 4294967296 u2)∧RU X A2 O (digs 4294967296 u4)
        | _=>True) (by kernel_rfl) [(50,0),(51,1),(52,2),(53,3),(54,4),(55,5),(56,6),(57,7),(58,8),(59,9),(60,10),(61,11),(62,12),(63,13)] (by kernel_rfl) ?_
       refine lV0 1 13 (d.at_ aj) (by rw[af.out];exact jG) ?_;refine zJ 2 12 ?_;refine qC 3 11 1 (d.cell s0) ?_;refine zJ 4 10 ?_;refine rc 5 9 0 2 3 (fun _ _ a h=>⟨_,_,h,(zN bB.out (d.trans a))⟩) (fun _ _ a h=>⟨_,_,h,(zN a4.out a)⟩) (fun X a _ _ _ _ h U=>jl X I.out (aa.out.ext (d.trans a)) h U b1.out a3.out) aT.out ?_;refine lV0 6 8 (d.at_ aj) (by rw[af.out];exact jG) ?_;refine zJ 7 7 ?_;refine qC 8 6 6 (d.cell s1) ?_;refine lV0 9 5 (d.at_ aj) (by rw[af.out];exact jG) ?_;refine zJ 10 4 ?_;refine zJ 11 3 ?_;refine rc 12 2 8 9 10 (fun _ _ a h=>⟨_,_,h,(zN a4.out a)⟩) (fun _ _ a h=>⟨_,_,h,(zN N9.out a)⟩) (fun X a _ _ _ _ h U=>jl X I.out (aa.out.ext (d.trans a)) h U a3.out aK.out) aU.out ?_;refine rc 13 1 5 7 11 (fun _ _ a h=>⟨_,_,h,(zN bC.out (d.trans a))⟩) (fun _ _ _ h=>h) (fun X a _ _ _ _ h U=>jl X I.out (aa.out.ext (d.trans a)) h U b2.out bP.out) aV.out ?_;refine zv 14 0 [(50,0),(51,1),(52,2),(53,3),(54,4),(55,5),(56,6),(57,7),(58,8),(59,9),(60,10),(61,11),(62,12)] (fun f X a hR K g=>?_) ?_
       · obtain⟨bu,bR,(u:f 4=_),br⟩:=hR.out 4 rfl;obtain⟨bs,bQ,(am:f 12=_),bq⟩:=hR.out 12 rfl;simp only[yZ,u,am];refine⟨?_⟩;go_simp;exact g.out _ _ _ (by simp only[yZ,u,am]) (zT _) trivial (fun Y m=>⟨_,_,_,_,rfl,zN br m,zN bq m⟩)
       refine yF ⟨fun f X a hR A D=>?_⟩;obtain⟨bu,bR,(u:f 4=_),br⟩:=hR 4 (by decide);obtain⟨ca,ch,(a7:f 11=_),cm⟩:=hR 11 (by decide);obtain⟨bs,bQ,(am:f 12=_),bq⟩:=hR 12 (by decide);obtain⟨bv,bT,bw,bU,(a8:f 13=_),b8,b9⟩:=hR 13 (by decide);simp only[yZ,u,a7,am,a8];clear hR A D u a7 am a8;refine zO (fun K g=>⟨zU (by kernel_rfl) (jX (cs':=#[.bool false,.slice bv (digs 4294967296 u2).length bT,.slice bw (digs 4294967296 u4).length bU]) (t:=45) 45 (.tmp 6) (.tmp 63) rfl rfl rfl rfl (a.at_ hb1) di rfl (ur _ _ _ _ _ _ _) (fun Y F r ar=>g.out _ _ ?_))⟩);refine zI ?_;go_wp2;exact bH rfl rfl rfl F ⟨_,rfl,⟨_,_,_,_,rfl,b8.offJ r (a.at_ hb1) (by kernel_rfl),b9.offJ r (a.at_ hb1) (by kernel_rfl)⟩,r.ext (aX.out.trans (d.trans a)) (by have:=Hq.out;omega)⟩
end Go.Proofs.YtaemogcomplhiaaGreatDoor
namespace Go.Proofs.YtaemogcomplhiaaGreatDoor.Ec
open Go.RowKit Go.Shelf
attribute [local go_sem] Oper.semAt_some
theorem bf {w:World}{b:Bool}{p1 p2:Value} : ∃(W0:World) (q:Nat),w.alloc (.cells #[.bool b,p1,p2] 33)=W0∧w.heap.size=q∧W0.heap[q]?=some (.cells #[.bool b,p1,p2] 33 (0,0))∧Ext w W0 :=
 ⟨_,_,rfl,rfl,zS w _,zL _ _⟩
theorem zAO {W:World}{g:Nat}{ty:TypeId}{x0 x1 x2 x3 x4 x5:Value}(h:W.heap[g]?=some (.cells #[x0,x1,x2,x3,x4,x5] ty (0,0))) :
 W.cell? ⟨g,0,none⟩=some x0∧W.cell? ⟨g,1,none⟩=some x1∧W.cell? ⟨g,2,none⟩=some x2∧W.cell? ⟨g,3,none⟩=some x3∧W.cell? ⟨g,4,none⟩=some x4∧W.cell? ⟨g,5,none⟩=some x5 :=
 ⟨zP h 0,zP h 1,zP h 2,zP h 3,zP h 4,zP h 5⟩
theorem om {w:World}{b:Bool}{p1 p2:Value} : ∃(W0:World) (q:Nat),w.alloc (.cells #[.bool b,p1,p2] 45)=W0∧w.heap.size=q∧W0.heap[q]?=some (.cells #[.bool b,p1,p2] 45 (0,0))∧Ext w W0 :=
 ⟨_,_,rfl,rfl,zS w _,zL _ _⟩
theorem mS {w:World}{x0 x1 x2 x3 x4 x5:Value} : ∃(W0:World) (q:Nat),w.alloc (.cells #[x0,x1,x2,x3,x4,x5] 30)=W0∧w.heap.size=q∧W0.heap[q]?=some (.cells #[x0,x1,x2,x3,x4,x5] 30 (0,0))∧Ext w W0 :=
 ⟨_,_,rfl,rfl,zS w _,zL _ _⟩
theorem ba {W:World}{C:Crv}{v:Value}{t:Nat}(h:RC W C v)(j:C.size=t):∃ a k c1 b l f c m c3 d n g e o i,v=.agg #[.slice a k c1,.slice b l f,.slice c m c3,.slice d n g,.slice e o i,.int .i64 (t:Int)]:=by
 subst j;obtain⟨Ap,p,Ab,Ax,Ay,cp,cn,q,cx,cy,rfl,_⟩:=h;exact⟨_,_,_,_,_,_,_,_,_,_,_,_,_,_,_,rfl⟩
theorem oo {c:Int}{C:Crv}(d:IsU c C){A:Option Addr}{a x b:Nat}{m:Bool}(w:World)(h:RU w A a (digs 4294967296 x))(f:(digs 4294967296 x).length=b)(g:vX C x=m) :
 Calls Tryz.prog 14 #[.int .i64 c,.slice A b a] w fun e w'=>e=.returned (.bool m)∧Ext w w':=by
 subst f g
 exact zAV d _ A a x w h (fun _ h=>h)
theorem zAU {c:Int}{C:Crv}(g:IsC c C){f:Array Value}{A a b:Option Addr}{d k i l m x y j ly:Nat}{S:Option (Nat×Nat)}(w:World)(q:RC w C (.agg f))(u:RU w A d (digs 4294967296 k))(z:RU w a l (digs 4294967296 x))(B:RU w b m (digs 4294967296 y))(v:onQ C false x y=true)(r:(digs 4294967296 k).length=i)(s:(digs 4294967296 x).length=j)(t:(digs 4294967296 y).length=ly)(p:fJ C.M false x y k=S) :
 Calls Tryz.prog 16 #[.agg f,.slice A i d,.agg #[.bool false,.slice a j l,.slice b ly m]] w fun e w'=>∃ o,e=.returned o∧RPv w' o S.isNone (S.elim 0 (·.1)) (S.elim 0 (·.2))∧Ext w w':=by
 subst r s t p
 have n:8<C.M:=by
  rcases g with⟨_,rfl⟩|⟨_,rfl⟩<;>decide +kernel
 refine(zDp g.fine n w q u z B (fun _=>pL v rfl)).mono ?_
 rintro e w' ⟨o,rfl,h,E⟩
 exact⟨o,rfl,h.pv,E⟩
end Go.Proofs.YtaemogcomplhiaaGreatDoor.Ec
namespace Go.Proofs.YtaemogcomplhiaaGreatDoor.Ec
open Go.RowKit Go.Shelf
open Sha
attribute [local go_sem] Oper.semAt_some
theorem zB4 {l:Nat}(w:World)(a:(digs 4294967296 1).length=l):Calls Tryz.prog 48 #[.int .u64 1] w fun e w'=>∃ A c,e=.returned (.slice A l c)∧RU w' A c (digs 4294967296 1)∧Ext w w':=by
 subst a;refine(gu 1 w (by omega)).mono ?_;rintro e w' ⟨A,c,rfl,o,E⟩;exact⟨A,c,rfl,o.ru,E⟩
theorem mh {c:Int}{C:Crv}(a:IsC c C){x:Nat}(b:x≤ks C):(digs 4294967296 x).length≤20:=by
 refine qR (by omega) (jh b ?_);rcases a with⟨_,rfl⟩|⟨_,rfl⟩<;>decide +kernel
theorem zAT {c:Int}{C:Crv}(i:IsC c C){cv:Value}{b x lx:Nat}{k v:List Nat}{num:Int}(w:World)(hc:RC w C cv)(I:ER w b k v num)(hn:0≤num)(af:num<1000000000)(N:yR C k v=x)(ae:(digs 4294967296 x).length=lx) :
 Calls Tryz.prog 45 #[cv,.pointer (some ⟨b,0,none⟩)] w fun e w'=>∃ A Z,e=.returned (.slice A lx Z)∧RU w' A Z (digs 4294967296 x)∧Fr b w.heap.size w w':=by
 obtain⟨n1,n2,n3,n4,n5,n6⟩:=bu i
 have ai:x<ks C:=by
  rw[←N];unfold yR;have:=qP (kO ((kQ k v ((cK C+31)/32)).take (cK C))) (show ks C-1>0 by omega);omega
 have W:=mh i (x:=1) (by omega)
 have L2:=mh i (zG (ks C))
 obtain⟨Ap,An,Ab,Ax,Ay,cp,cn,cb,cx,cy,rfl,hP,hN,g,an,ao⟩:=hc
 obtain⟨l1,aa⟩:=eV ((digs 4294967296 C.M).length)
 obtain⟨y,J⟩:=eV ((digs 4294967296 (val 18446744073709551616 C.nl)).length)
 obtain⟨l3,ab⟩:=eV ((digs 4294967296 C.bb).length)
 obtain⟨l4,ac⟩:=eV ((digs 4294967296 (val 18446744073709551616 C.xl)).length)
 obtain⟨l5,ad⟩:=eV ((digs 4294967296 (val 18446744073709551616 C.yl)).length)
 obtain⟨n,u⟩:=eV ((digs 4294967296 1).length)
 obtain⟨p,L⟩:=eV ((digs 4294967296 (ks C-1)).length)
 rw[aa,J,ab,ac,ad]
 obtain⟨W0,q,am,hq,ag,l⟩:=mS (w:=w) (x0:=.slice Ap l1 cp) (x1:=.slice An y cn) (x2:=.slice Ab l3 cb) (x3:=.slice Ax l4 cx) (x4:=.slice Ay l5 cy) (x5:=.int .i64 (C.size:Int))
 have U:=zF (fun X=>zB4 X u)
 have al:=zF (fun X (a:Ext W0 X) A' c' (h:RU X A' c' (digs 4294967296 1))=>show Calls Tryz.prog 81 #[.slice An y cn,.slice A' n c'] X fun e w'=>∃ d c1,e=.returned (.slice d p c1)∧OB w' W0.heap.size d c1 (digs 4294967296 (ks C-1))∧Ext X w' from by
  subst J u L
  refine(fN _ _ An A' cn c' (ks C) 1 X (zN (zN hN l) a) h (fun _ h=>h) (fun _ h=>h) (by omega) (by omega)).mono ?_
  rintro e w' ⟨d,c1,rfl,o,E⟩
  exact⟨d,c1,rfl,o.mono a.bsize,E⟩)
 have ar:=I.lt
 have aj:=zF (fun X (a:Ext W0 X) A' c' (h:OB X W0.heap.size A' c' (digs 4294967296 (ks C-1)))=>show Calls Tryz.prog 83 #[.pointer (some ⟨b,0,none⟩),.slice A' p c'] X fun e w'=>∃(r:Nat) (d:Option Addr) (c1:Nat),e=.returned (.slice d (digs 4294967296 r).length c1)∧r+1=x∧RU w' d c1 (digs 4294967296 r)∧Fr b X.heap.size X w' from by
  subst L
  refine(pC (q:=qD (ks C-1)) X ((I.ext l).ext a) h.rn (fun _ h=>h.2) (fun hb=>by have:=hb.1;have:=l.bsize;omega) rfl n2 (by omega) (by omega) hn af).mono ?_
  rintro e w' ⟨d,c1,r,m,hm,hr,rfl,hu,-,hf⟩
  refine⟨r,d,c1,rfl,?_,hu,hf⟩
  rw[←N,hr,hm]
  rfl)
 have HX:=zF ai
 have F:=zF (And.intro W (And.intro u ae))
 have HC:=zF i
 have T:=zF l
 have Hq:=zF hq
 clear hP hN g an ao I hn af N ae n1 n2 n3 n4 n5 n6 ai W L2 aa J ab ac ad u L l ar i
 go_enter Tryz.func45,Tryz.ntmps45
 go_upto_region 1 with fail
 clear am hq
 obtain⟨y0,y1,y2,y3,y4,y5⟩:=zAO ag
 clear ag
 refine zZ (by kernel_rfl) 5 [0,0,2,0,14,31,63] [] (fun j f X=>match j with
  | 0=>f 0=.pointer (some ⟨b,0,none⟩)
  | 1=>f 1=.pointer (some ⟨q,1,none⟩)
  | 2=>f 2=.slice An y cn
  | 3=>∃ A k,f 3=.slice A n k∧RU X A k (digs 4294967296 1)
  | 4=>∃ A k,f 4=.slice A p k∧OB X W0.heap.size A k (digs 4294967296 (ks C-1))
  | _=>True) (by kernel_rfl) [(6,0),(7,1),(8,2),(9,3),(10,4)] (by kernel_rfl) ?_
 refine zJ 1 4 ?_
 refine zJ 2 3 ?_
 refine qC 3 2 1 y1 ?_
 refine qK 4 1 (fun _=>#[Value.int IntKind.u64 1]) (F':=48) (fun f X a hR=>?_) ?_
 · refine(U.out X).mono ?_;rintro e w2 ⟨A,c,rfl,h,g⟩;exact⟨(.slice A n c),rfl,g,fun Y H=>⟨A,c,rfl,zN h H⟩⟩
 refine qK 5 0 (fun f=>#[f 2,f 3]) (F':=81) (fun f X a hR=>?_) ?_
 · have e2:f 2=.slice An y cn:=hR.out 2 rfl;obtain⟨P,k3,s,O⟩:∃ A k,f 3=.slice A n k∧RU X A k (digs 4294967296 1):=hR.out 3 rfl;simp only[e2,s];refine(al.out X a P k3 O).mono ?_;rintro e w2 ⟨A,c,rfl,h,g⟩;exact⟨(.slice A p c),rfl,g,fun Y H=>⟨A,c,rfl,h.below H (zG _)⟩⟩
 refine yF ⟨fun f X a hR ap aq=>?_⟩
 have e0:f 0=.pointer (some ⟨b,0,none⟩):=hR 0 (by decide)
 obtain⟨P,k3,s,O⟩:∃ A k,f 3=.slice A n k∧RU X A k (digs 4294967296 1):=hR 3 (by decide)
 obtain⟨A4,k4,e4,o4⟩:∃ A k,f 4=.slice A p k∧OB X W0.heap.size A k (digs 4294967296 (ks C-1)):=hR 4 (by decide)
 simp only[Par.vE,Act.put,jn,List.set_cons_succ,vQ,e0,s,e4]
 clear hR ap aq e0 s e4
 refine zO (fun K t=>⟨zU (by kernel_rfl) ?_⟩)
 go_simp
 refine(aj.out X a A4 k4 o4).mono ?_
 rintro e w5 ⟨r,A5,c5,rfl,ah,r5,f5⟩
 refine t.out _ _ ?_
 refine zO (fun K t=>⟨zU (by kernel_rfl) ?_⟩)
 go_simp
 refine t.out _ _ ?_
 refine zI ?_
 have B:=zF ((jc (b:=b) (T.out.trans a) (zG _)).trans (f5.mono (T.out.trans a).bsize))
 have R5:=zF r5
 have V:=zF ah
 clear y0 y1 y2 y3 y4 y5 a O o4 r5 f5 ah t
 have R:=zF (U.out w5)
 go_wp2_with fail
 refine R.out.mono ?_
 rintro e w6 ⟨A6,c6,rfl,r6,z⟩
 have G:=uq _ _ A5 A6 c5 c6 r 1 w6 (zN R5.out z) r6 (fun _ h=>h) (fun _ h=>h) (by have:=mh HC.out (x:=r) (by have:=HX.out;have:=V.out;omega);omega) (by have:=F.out.1;omega)
 rw[V.out,F.out.2.1,F.out.2.2]at G
 have S:=zF G
 have D:=zF (B.out.trans (jc (b:=b) z B.out.size))
 clear G r6 z R B
 go_wp2_with fail
 refine S.out.mono ?_
 rintro e w7 ⟨A7,c7,rfl,o7,Q⟩
 have R7:=zF o7.ru
 have ak:=zF (D.out.trans (jc (b:=b) Q D.out.size))
 clear o7 Q S D
 go_wp2
 go_ret
 exact⟨A7,c7,rfl,R7.out,ak.out⟩
theorem zEW {fn:Func}{R:Ending→World→Prop}{a:Act}{W:World}{p u:Tmp}{g:Nat}{ty:TypeId}{fr:Nat×Nat}{x0 x1 x2 v:Value}(f:fn.results=#[.tmp u,.cell p 45])(d:a.tmps.getD p undef=.pointer (some ⟨g,0,none⟩))(h:a.tmps.getD u undef=v)(b:a.defers=[])
 (c:W.heap[g]?=some (.cells #[x0,x1,x2] ty fr)) (hR:R (.returned (.tuple #[v,.agg #[x0,x1,x2]])) W):bodyPost Tryz.prog fn R .ret a W:=by
 refine vg (v:=.tuple #[v,.agg #[x0,x1,x2]]) ?_ b hR
 have e:a.tmps[p]?.getD undef=.pointer (some ⟨g,0,none⟩):=by simpa using d
 have i:a.tmps[u]?.getD undef=v:=by simpa using h
 simp[results,f,e,i,asAddr,run_loadVar_row W g ty 45 #[x0,x1,x2] fr _ c Tryz.underlying45 rfl di,Result.andThen]
theorem zCF {W X:World}{C:Crv}{v:Value}{b base:Nat}(h:RC W C v)(g:Fr b W.heap.size W X)(G:∃(k v:List Nat) (n:Int),ER W b k v n):RC X C v:=by
 obtain⟨k,L,n,m,p,o,cv,F,-⟩:=G;have d:∀ {A:Option Addr} {c:Nat} {l:List Nat},RU W A c l→RU X A c l:=fun {A c l} h=>by
  obtain⟨⟨q,r,s,t⟩,w⟩:=h;refine⟨⟨q,r,s,fun H=>?_⟩,w⟩;obtain⟨ad,e,J,K⟩:=t H;refine⟨ad,e,zH J g.size,fun j u f=>?_⟩;have a:=K j u f;by_cases hne:(ad.add j).block=b
  · exfalso;rw[nts,yw]at f;obtain⟨y,_,rfl⟩:=Option.map_eq_some_iff.1 f;unfold World.cell? at a;rw[hne,F]at a;simp only at a;split at a
    · cases a
    · have I:=xC (l:=[Value.slice m 32 p,.slice o 32 cv,.int .i64 n]) (i:=(ad.add j).off) (by simpa using a);simp at I
  · exact(qB (g.block _ (wE W _ a) hne)).trans a
 obtain⟨Ap,An,Ab,Ax,Ay,cp,cn,cb,cx,cy,rfl,B,z,x,D,E⟩:=h;exact⟨Ap,An,Ab,Ax,Ay,cp,cn,cb,cx,cy,rfl,d B,d z,d x,d D,d E⟩
end Go.Proofs.YtaemogcomplhiaaGreatDoor.Ec
namespace Go.Proofs.YtaemogcomplhiaaGreatDoor
namespace Kr
structure Op (α:Type) where
 add:α→α→α
 sub:α→α→α
 mul:α→α→α
 int:Int→α
structure Rel {α β:Type} (O:Op α) (U:Op β) (R:α→β→Prop):Prop where
 add:∀ {a b c d},R a c→R b d→R (O.add a b) (U.add c d)
 sub:∀ {a b c d},R a c→R b d→R (O.sub a b) (U.sub c d)
 mul:∀ {a b c d},R a c→R b d→R (O.mul a b) (U.mul c d)
 int:∀ n,R (O.int n) (U.int n)
def ext {α:Type} (O:Op α) (c:α):Op (α×α) :=
 ⟨fun a b=>(O.add a.1 b.1,O.add a.2 b.2),fun a b=>(O.sub a.1 b.1,O.sub a.2 b.2),fun a b=>(O.add (O.mul a.1 b.1) (O.mul (O.mul a.2 b.2) c),O.add (O.mul a.1 b.2) (O.mul a.2 b.1)),fun n=>(O.int n,O.int 0)⟩
def two {α β:Type} (R:α→β→Prop):α×α→β×β→Prop:=fun a b=>R a.1 b.1∧R a.2 b.2
theorem Rel.ext {α β:Type}{O:Op α}{U:Op β}{R:α→β→Prop}{c:α}{d:β}(h:Rel O U R)(e:R c d):Rel (ext O c) (ext U d) (two R) :=
 ⟨fun a b => ⟨h.add a.1 b.1, h.add a.2 b.2⟩, fun a b => ⟨h.sub a.1 b.1, h.sub a.2 b.2⟩,
  fun a b=>⟨h.add (h.mul a.1 b.1) (h.mul (h.mul a.2 b.2) e),h.add (h.mul a.1 b.2) (h.mul a.2 b.1)⟩,fun n=>⟨h.int n,h.int 0⟩⟩
structure Pr (α:Type) where
 x:α
 y:α
 z:α
structure aQ {α β:Type} (R:α→β→Prop) (P:Pr α) (Q:Pr β):Prop where
 x:R P.x Q.x
 y:R P.y Q.y
 z:R P.z Q.z
section
variable {α β:Type}
def fx (O:Op α) (b:α) (P Q:Pr α):α:=O.sub (O.mul (O.add (O.mul P.x Q.y) (O.mul Q.x P.y)) (O.sub (O.mul P.y Q.y) (O.mul (O.int 3) (O.sub (O.mul b (O.mul P.z Q.z)) (O.add (O.mul P.x Q.z) (O.mul Q.x P.z)))))) (O.mul (O.add (O.mul P.y Q.z) (O.mul Q.y P.z)) (O.mul (O.int 3) (O.sub (O.sub (O.mul b (O.add (O.mul P.x Q.z) (O.mul Q.x P.z))) (O.mul P.x Q.x)) (O.mul (O.int 3) (O.mul P.z Q.z)))))
def fy (O:Op α) (b:α) (P Q:Pr α):α:=O.add (O.mul (O.mul (O.int 3) (O.sub (O.mul P.x Q.x) (O.mul P.z Q.z))) (O.mul (O.int 3) (O.sub (O.sub (O.mul b (O.add (O.mul P.x Q.z) (O.mul Q.x P.z))) (O.mul P.x Q.x)) (O.mul (O.int 3) (O.mul P.z Q.z))))) (O.mul (O.add (O.mul P.y Q.y) (O.mul (O.int 3) (O.sub (O.mul b (O.mul P.z Q.z)) (O.add (O.mul P.x Q.z) (O.mul Q.x P.z))))) (O.sub (O.mul P.y Q.y) (O.mul (O.int 3) (O.sub (O.mul b (O.mul P.z Q.z)) (O.add (O.mul P.x Q.z) (O.mul Q.x P.z))))))
def fz (O:Op α) (b:α) (P Q:Pr α):α:=O.add (O.mul (O.add (O.mul P.y Q.z) (O.mul Q.y P.z)) (O.add (O.mul P.y Q.y) (O.mul (O.int 3) (O.sub (O.mul b (O.mul P.z Q.z)) (O.add (O.mul P.x Q.z) (O.mul Q.x P.z)))))) (O.mul (O.add (O.mul P.x Q.y) (O.mul Q.x P.y)) (O.mul (O.int 3) (O.sub (O.mul P.x Q.x) (O.mul P.z Q.z))))
def aX (O:Op α) (b:α) (P Q:Pr α):Pr α:=⟨fx O b P Q,fy O b P Q,fz O b P Q⟩
theorem dE {O:Op α}{U:Op β}{R:α→β→Prop}(h:Rel O U R){b:α}{c:β}{P Q:Pr α}{S T:Pr β}(i:R b c)(a:aQ R P S)(d:aQ R Q T):aQ R (aX O b P Q) (aX U c S T):=by
 have m:=h.add (h.mul a.x d.y) (h.mul d.x a.y);have o:=h.add (h.mul a.y d.z) (h.mul d.y a.z);have n:=h.add (h.mul a.x d.z) (h.mul d.x a.z);have l:=h.mul a.x d.x;have f:=h.mul a.y d.y;have g:=h.mul a.z d.z;have e:=h.mul (h.int 3) (h.sub (h.mul i g) n);have k:=h.mul (h.int 3) (h.sub (h.sub (h.mul i n) l) (h.mul (h.int 3) g));have j:=h.mul (h.int 3) (h.sub l g);exact⟨h.sub (h.mul m (h.sub f e)) (h.mul o k),h.add (h.mul j k) (h.mul (h.add f e) (h.sub f e)),h.add (h.mul o (h.add f e)) (h.mul m j)⟩
def cz (O:Op α) (T V:Pr α):α×α:=(O.sub (O.mul T.x V.z) (O.mul T.z V.x),O.sub (O.mul T.y V.z) (O.mul T.z V.y))
theorem zEX {O:Op α}{U:Op β}{R:α→β→Prop}(h:Rel O U R){P Q:Pr α}{S T:Pr β}(a:aQ R P S)(b:aQ R Q T):two R (cz O P Q) (cz U S T) :=
 ⟨h.sub (h.mul a.x b.z) (h.mul a.z b.x),h.sub (h.mul a.y b.z) (h.mul a.z b.y)⟩
def assoc (O:Op α) (b:α) (P Q S:Pr α):α×α:=cz O (aX O b (aX O b P Q) S) (aX O b P (aX O b Q S))
theorem mJ {O:Op α}{U:Op β}{R:α→β→Prop}(h:Rel O U R){b:α}{c:β}{P Q S:Pr α}{P' d e:Pr β}(a:R b c)(f:aQ R P P')(g:aQ R Q d)(i:aQ R S e):two R (assoc O b P Q S) (assoc U c P' d e) :=
 zEX h (dE h a (dE h a f g) i) (dE h a f (dE h a g i))
def pj (O:Op α) (b x:α):α:=O.add (O.sub (O.mul (O.mul x x) x) (O.mul (O.int 3) x)) b
theorem dG {O:Op α}{U:Op β}{R:α→β→Prop}(h:Rel O U R){b x:α}{c y:β}(d:R b c)(a:R x y):R (pj O b x) (pj U c y):=h.add (h.sub (h.mul (h.mul a a) a) (h.mul (h.int 3) a)) d
def lift (O:Op α) (a:α):α×α:=(a,O.int 0)
theorem xK {O:Op α}{U:Op β}{R:α→β→Prop}(h:Rel O U R){a:α}{b:β}(c:R a b):two R (lift O a) (lift U b):=⟨c,h.int 0⟩
def O1 (O:Op α) (b x1:α):=ext O (pj O b x1)
def O2 (O:Op α) (b x1 x2:α):=ext (O1 O b x1) (lift O (pj O b x2))
def O3 (O:Op α) (b x1 x2 x3:α):=ext (O2 O b x1 x2) (lift (O1 O b x1) (lift O (pj O b x3)))
def aE (O:Op α) (b x1 x2:α) (a:α):((α×α)×(α×α))×((α×α)×(α×α)):=lift (O2 O b x1 x2) (lift (O1 O b x1) (lift O a))
def p1 (O:Op α) (b x1 x2 x3:α):Pr (((α×α)×(α×α))×((α×α)×(α×α))):=⟨aE O b x1 x2 x1,lift (O2 O b x1 x2) (lift (O1 O b x1) (O.int 0,O.int 1)),(O3 O b x1 x2 x3).int 1⟩
def p2 (O:Op α) (b x1 x2 x3:α):Pr (((α×α)×(α×α))×((α×α)×(α×α))):=⟨aE O b x1 x2 x2,lift (O2 O b x1 x2) ((O1 O b x1).int 0,(O1 O b x1).int 1),(O3 O b x1 x2 x3).int 1⟩
def p3 (O:Op α) (b x1 x2 x3:α):Pr (((α×α)×(α×α))×((α×α)×(α×α))):=⟨aE O b x1 x2 x3,((O2 O b x1 x2).int 0,(O2 O b x1 x2).int 1),(O3 O b x1 x2 x3).int 1⟩
def fE (O:Op α) (b x1 x2 x3:α):=assoc (O3 O b x1 x2 x3) (aE O b x1 x2 b) (p1 O b x1 x2 x3) (p2 O b x1 x2 x3) (p3 O b x1 x2 x3)
theorem aG {O:Op α}{U:Op β}{R:α→β→Prop}(h:Rel O U R){b x1 x2 x3:α}{c y1 y2 k:β}(g:R b c)(l:R x1 y1)(m:R x2 y2)(n:R x3 k):two (two (two (two R))) (fE O b x1 x2 x3) (fE U c y1 y2 k):=by
 have e:Rel (O1 O b x1) (O1 U c y1) (two R):=h.ext (dG h g l);have f:Rel (O2 O b x1 x2) (O2 U c y1 y2) (two (two R)):=e.ext (xK h (dG h g m));have j:Rel (O3 O b x1 x2 x3) (O3 U c y1 y2 k) (two (two (two R))):=f.ext (xK e (xK h (dG h g n)));have i:∀ {a:α} {d:β},R a d→two (two (two R)) (aE O b x1 x2 a) (aE U c y1 y2 d):=fun o=>xK f (xK e (xK h o));exact mJ j (i g) ⟨i l,xK f (xK e ⟨h.int 0,h.int 1⟩),j.int 1⟩ ⟨i m,xK f ⟨e.int 0,e.int 1⟩,j.int 1⟩ ⟨i n,⟨f.int 0,f.int 1⟩,j.int 1⟩
end
def vf {α:Type} (p:α→Prop):α×α→Prop:=fun a=>p a.1∧p a.2
theorem dN {α:Type}{p q r:α→Prop}(h:∀ x,p x→q x→r x){a:α×α}(b:vf p a)(c:vf q a):vf r a:=⟨h _ b.1 c.1,h _ b.2 c.2⟩
theorem dM {α β:Type}{R:α→β→Prop}{p:β→Prop}{q:α→Prop}(h:∀ x y,R x y→p y→q x){a:α×α}{b:β×β}(c:two R a b)(d:vf p b):vf q a:=⟨h _ _ c.1 d.1,h _ _ c.2 d.2⟩
theorem fX {α β:Type}{R:α→β→Prop}{p:α→Prop}{q:β→Prop}(h:∀ x y,R x y→p x→q y){a:α×α}{b:β×β}(c:two R a b)(d:vf p a):vf q b:=⟨h _ _ c.1 d.1,h _ _ c.2 d.2⟩
def mI {α:Type} (p:α→Bool):α×α→Bool:=fun a=>p a.1&&p a.2
theorem dO {α:Type}{p:α→Bool}{q:α→Prop}(h:∀ x,p x=true→q x){a:α×α}(b:mI p a=true):vf q a:=by
 unfold mI at b;rw[jp]at b;exact⟨h _ b.1,h _ b.2⟩
abbrev al {α:Type} (p:α→Prop):=vf (vf (vf (vf p)))
abbrev alB {α:Type} (p:α→Bool):=mI (mI (mI (mI p)))
theorem nC {α:Type}{p q r:α→Prop}(h:∀ x,p x→q x→r x){a}(b:al p a)(c:al q a):al r a:=dN (fun _=>dN (fun _=>dN (fun _=>dN h))) b c
theorem rC {α β:Type}{R:α→β→Prop}{p:β→Prop}{q:α→Prop}(h:∀ x y,R x y→p y→q x){a b}(c:two (two (two (two R))) a b)(d:al p b):al q a:=dM (p:=vf (vf (vf p))) (q:=vf (vf (vf q))) (fun _ _=>dM (p:=vf (vf p)) (q:=vf (vf q)) (fun _ _=>dM (p:=vf p) (q:=vf q) (fun _ _=>dM h))) c d
theorem zDe {α β:Type}{R:α→β→Prop}{p:α→Prop}{q:β→Prop}(h:∀ x y,R x y→p x→q y){a b}(c:two (two (two (two R))) a b)(d:al p a):al q b:=fX (p:=vf (vf (vf p))) (q:=vf (vf (vf q))) (fun _ _=>fX (p:=vf (vf p)) (q:=vf (vf q)) (fun _ _=>fX (p:=vf p) (q:=vf q) (fun _ _=>fX h))) c d
theorem aN {α:Type}{p:α→Bool}{q:α→Prop}(h:∀ x,p x=true→q x){a}(b:alB p a=true):al q a:=dO (fun _=>dO (fun _=>dO (fun _=>dO h))) b
structure Tm where
 c:Int
 e:Nat→Nat
abbrev MP:=List Tm
def mono (v:Nat→Int) (e:Nat→Nat):Int:=v 0^e 0*v 1^e 1*v 2^e 2*v 3^e 3
def ev (v:Nat→Int):MP→Int
 | []=>0
 | t::l=>t.c*mono v t.e+ev v l
def oc (s t:Tm):Tm:=⟨s.c*t.c,fun i=>s.e i+t.e i⟩
def opM:Op MP:=⟨fun P Q=>P++Q,fun P Q=>P++Q.map (fun t=>⟨-t.c,t.e⟩),fun P Q=>P.flatMap (fun s=>Q.map (oc s)),fun n=>if n=0 then []else [⟨n,fun _=>0⟩]⟩
def var (i:Nat):MP:=[⟨1,fun j=>if j=i then 1 else 0⟩]
theorem du (v:Nat→Int)(P Q:MP):ev v (P++Q)=ev v P+ev v Q:=by
 induction P with
 | nil=>simp[ev]
 | cons t l ih=>simp only[ul,ev,ih];omega
theorem zEU (v:Nat→Int)(Q:MP):ev v (Q.map (fun t=>⟨-t.c,t.e⟩))=- ev v Q:=by
 induction Q with
 | nil=>rfl
 | cons t l ih=>simp only[List.map_cons,ev,ih,Int.neg_mul];omega
theorem zA0 (v:Nat→Int)(e f:Nat→Nat):mono v (fun i=>e i+f i)=mono v e*mono v f:=by
 simp only[mono,Int.pow_add];grind
theorem zCr (v:Nat→Int)(s:Tm)(Q:MP):ev v (Q.map (oc s))=s.c*mono v s.e*ev v Q:=by
 induction Q with
 | nil=>simp[ev]
 | cons t l ih =>
   simp only[List.map_cons,ev,ih,oc,zA0];grind
theorem zEV (v:Nat→Int)(P Q:MP):ev v (P.flatMap (fun s=>Q.map (oc s)))=ev v P*ev v Q:=by
 induction P with
 | nil=>simp[ev]
 | cons t l ih=>simp only[List.flatMap_cons,du,ev,ih,zCr,Int.add_mul]
def opI:Op Int:=⟨fun a b=>a+b,fun a b=>a-b,fun a b=>a*b,fun n=>n⟩
theorem zDu (v:Nat→Int):Rel opM opI (fun P z=>ev v P=z) :=
 ⟨fun a b => by rw [← a, ← b]; exact du v _ _, fun a b => by rw [← a, ← b]; show ev v (_ ++ _) = _; rw [du, zEU]; rfl, fun a b => by rw [← a, ← b]; exact zEV v _ _, fun n => by
  show ev v (if n=0 then []else _)=n
  split
  · rename_i h;rw[h];rfl
  · simp[ev,mono]⟩
theorem mq (v:Nat→Int):ev v (var 0)=v 0∧ev v (var 1)=v 1∧ev v (var 2)=v 2∧ev v (var 3)=v 3:=by simp[ev,var,mono,Int.pow_succ]
def nrm:MP→Nat
 | []=>0
 | t::l=>t.c.natAbs+nrm l
theorem fQ (P Q:MP):nrm (P++Q)=nrm P+nrm Q:=by
 induction P with
 | nil=>simp[nrm]
 | cons t l ih=>simp only[ul,nrm,ih];omega
theorem zCX (Q:MP):nrm (Q.map (fun t=>⟨-t.c,t.e⟩))=nrm Q:=by
 induction Q with
 | nil=>rfl
 | cons t l ih=>simp only[List.map_cons,nrm,ih,Int.natAbs_neg]
theorem zAs (s:Tm)(Q:MP):nrm (Q.map (oc s))=s.c.natAbs*nrm Q:=by
 induction Q with
 | nil=>rfl
 | cons t l ih=>simp only[List.map_cons,nrm,ih,oc,Int.natAbs_mul,zl]
theorem zCY (P Q:MP):nrm (P.flatMap (fun s=>Q.map (oc s)))=nrm P*nrm Q:=by
 induction P with
 | nil=>simp[nrm]
 | cons t l ih=>simp only[List.flatMap_cons,fQ,nrm,ih,zAs,qb]
def opN:Op Nat:=⟨fun a b=>a+b,fun a b=>a+b,fun a b=>a*b,fun n=>n.natAbs⟩
theorem zCE:Rel opM opN (fun P z=>nrm P=z) :=
 ⟨fun a b => by rw [← a, ← b]; exact fQ _ _, fun a b => by rw [← a, ← b]; show nrm (_ ++ _) = _; rw [fQ, zCX]; rfl, fun a b => by rw [← a, ← b]; exact zCY _ _, fun n => by
  show nrm (if n=0 then []else _)=n.natAbs
  split
  · rename_i h;rw[h];rfl
  · simp[nrm]⟩
def dg (i:Nat) (P:MP) (d:Nat):Prop:=∀ t∈P,t.e i<d
def opD:Op Nat:=⟨fun a b=>max a b,fun a b=>max a b,fun a b=>match a,b with|0,_=>0|_,0=>0|a+1,b+1=>a+b+1,fun n=>if n=0 then 0 else 1⟩
theorem zDv (i:Nat):Rel opM opD (dg i):=by
 refine⟨fun {a b c d} g j t f=>?_,fun {a b c d} g j t f=>?_,fun {a b c d} g j t f=>?_,fun n t f=>?_⟩
 · show _<max c d;rcases List.mem_append.1 f with h|h
   · have:=g t h;omega
   · have:=j t h;omega
 · show _<max c d;rcases List.mem_append.1 f with h|h
   · have:=g t h;omega
   · obtain⟨s,l,rfl⟩:=List.mem_map.1 h;have:=j s l;show s.e i<_;omega
 · obtain⟨s,l,h⟩:=List.mem_flatMap.1 f;obtain⟨r,m,rfl⟩:=List.mem_map.1 h;have:=g s l;have:=j r m;show s.e i+r.e i<opD.mul c d;match c,d with
   | 0,_=>omega
   | _+1,0=>omega
   | c+1,d+1=>show _<c+d+1;omega
 · have k:t∈(if n=0 then []else [⟨n,fun _=>0⟩]:MP):=f;show t.e i<if n=0 then 0 else 1
   split
   · rename_i h;rw[qg h]at k;cases k
   · rename_i h;rw[qo h]at k;have:t=⟨n,fun _=>0⟩:=List.mem_singleton.1 k;subst this;show 0<1;omega
def S (f:Nat→Int):List (Int×Nat)→Int
 | []=>0
 | t::l=>t.1*f t.2+S f l
def n1:List (Int×Nat)→Nat
 | []=>0
 | t::l=>t.1.natAbs+n1 l
def c0:List (Int×Nat)→Int
 | []=>0
 | (c,0)::l=>c+c0 l
 | (_,_+1)::l=>c0 l
def dn:List (Int×Nat)→List (Int×Nat)
 | []=>[]
 | (_,0)::l=>dn l
 | (c,k+1)::l=>(c,k)::dn l
theorem zDE (f:Nat→Int):∀ l,S f l=c0 l*f 0+S (fun k=>f (k+1)) (dn l)
 | []=>by simp[S,c0,dn]
 | (c,0)::l=>by simp only[S,c0,dn];rw[zDE f l,Int.add_mul];omega
 | (c,k+1)::l=>by simp only[S,c0,dn];rw[zDE f l];omega
theorem zAv:∀ l,(c0 l).natAbs+n1 (dn l)≤n1 l
 | []=>by simp[n1,c0,dn]
 | (c, 0) :: l => by
   have:=zAv l;simp only[n1,c0,dn];have:=Int.natAbs_add_le c (c0 l);omega
 | (c, k + 1) :: l => by
   have:=zAv l;simp only[n1,c0,dn];omega
theorem zBS {M:Nat} : ∀ {l:List (Int×Nat)},(∀ t∈l,t.2<M+1)→∀ t∈dn l,t.2<M
 | [],_,t,ht=>by cases ht
 | (c,0)::l,h,t,ht=>zBS (fun s a=>h s (List.mem_cons_of_mem _ a)) t ht
 | (c, k + 1) :: l, h, t, ht => by
   rcases List.mem_cons.1 ht with rfl|ht
   · have:=h (c,k+1) List.mem_cons_self;show k<M;simp only at this;omega
   · exact zBS (fun s a=>h s (List.mem_cons_of_mem _ a)) t ht
theorem sU (B:Int)(f:Nat→Int):∀ l,S (fun k=>B*f k) l=B*S f l
 | []=>by simp[S]
 | t::l=>by simp only[S];rw[sU B f l];grind
theorem zBk {B:Nat} : ∀(M:Nat) (l:List (Int×Nat)),(∀ t∈l,t.2<M)→n1 l<B→S (fun k=>(B:Int)^k) l=0→∀ f,S f l=0
 | 0,[],_,_,_,_=>rfl
 | 0,t::l,h,_,_,_=>absurd (h t List.mem_cons_self) (by omega)
 | M + 1, l, h, hn, hz, f => by
   have i:=zAv l;rw[zDE]at hz;have e:(fun k=>(B:Int) ^(k+1))=fun k=>(B:Int)*(B:Int)^k:=by
     funext k;rw[Int.pow_succ,Int.mul_comm]
   rw[e,show S (fun k=>(B:Int)*(B:Int)^k) (dn l)=(B:Int)*S (fun k=>(B:Int)^k) (dn l)from sU _ _ _,Int.pow_zero,Int.mul_one]at hz;have j:0<(B:Int):=by omega
   have d:(B:Int)∣c0 l:=⟨- S (fun k=>(B:Int)^k) (dn l),by rw[Int.mul_neg];omega⟩
   have b:c0 l=0:=by
     have c:B∣(c0 l).natAbs:=by have:=Int.natAbs_dvd_natAbs.2 d;rwa [Int.natAbs_natCast]at this
     rcases za (c0 l).natAbs with a|a
     · exact Int.natAbs_eq_zero.1 a
     · have:=Nat.le_of_dvd a c;omega
   rw[b,Int.zero_add]at hz;have g:S (fun k=>(B:Int)^k) (dn l)=0:=by
     rcases Int.mul_eq_zero.1 hz with h|h
     · omega
     · exact h
   rw[zDE,b,zBk M (dn l) (zBS h) (by omega) g,Int.zero_mul,Int.zero_add]
section
variable (B d0 d1 d2:Nat)
def dI (e:Nat→Nat):Nat:=e 0+d0*(e 1+d1*(e 2+d2*e 3))
def gp:Nat→Int
 | 0=>(B:Int)
 | 1=>(B:Int)^d0
 | 2=>(B:Int) ^(d0*d1)
 | _=>(B:Int) ^(d0*d1*d2)
def unc (v:Nat→Int) (k:Nat):Int:=v 0 ^(k%d0)*v 1 ^(k/d0%d1)*v 2 ^(k/d0/d1%d2)*v 3 ^(k/d0/d1/d2)
def cl (P:MP):List (Int×Nat):=P.map fun t=>(t.c,dI d0 d1 d2 t.e)
theorem zCd (e:Nat→Nat):mono (gp B d0 d1 d2) e=(B:Int)^dI d0 d1 d2 e:=by
 simp only[mono,gp,dI,←Int.pow_mul,←Int.pow_add];congr 1;grind
theorem zDS:∀ P:MP,ev (gp B d0 d1 d2) P=S (fun k=>(B:Int)^k) (cl d0 d1 d2 P)
 | []=>rfl
 | t :: l => by
   show _=t.c*(B:Int)^dI d0 d1 d2 t.e+S _ (cl d0 d1 d2 l);rw[←zDS l,←zCd];rfl
theorem zAz (v:Nat→Int){e:Nat→Nat}(a:e 0<d0)(b:e 1<d1)(c:e 2<d2):mono v e=unc d0 d1 d2 v (dI d0 d1 d2 e):=by
 have d:dI d0 d1 d2 e%d0=e 0:=by unfold dI;rw[qw,qF a]
 have f:dI d0 d1 d2 e/d0=e 1+d1*(e 2+d2*e 3):=by unfold dI;rw[ka _ _ (by omega),ql a,jL]
 have g:(e 1+d1*(e 2+d2*e 3))%d1=e 1:=by rw[qw,qF b]
 have a3:(e 1+d1*(e 2+d2*e 3))/d1=e 2+d2*e 3:=by rw[ka _ _ (by omega),ql b,jL]
 have a4:(e 2+d2*e 3)%d2=e 2:=by rw[qw,qF c]
 have a5:(e 2+d2*e 3)/d2=e 3:=by rw[ka _ _ (by omega),ql c,jL]
 unfold unc mono;rw[d,f,g,a3,a4,a5]
theorem zBG (v:Nat→Int):∀ P:MP,dg 0 P d0→dg 1 P d1→dg 2 P d2→ev v P=S (unc d0 d1 d2 v) (cl d0 d1 d2 P)
 | [],_,_,_=>rfl
 | t :: l, h0, h1, h2 => by
   show _=t.c*unc d0 d1 d2 v (dI d0 d1 d2 t.e)+S _ (cl d0 d1 d2 l);rw[←zBG v l (fun s a=>h0 s (List.mem_cons_of_mem _ a)) (fun s a=>h1 s (List.mem_cons_of_mem _ a)) (fun s a=>h2 s (List.mem_cons_of_mem _ a)),←zAz d0 d1 d2 v (h0 t List.mem_cons_self) (h1 t List.mem_cons_self) (h2 t List.mem_cons_self)];rfl
theorem zDN:∀ P:MP,n1 (cl d0 d1 d2 P)=nrm P
 | []=>rfl
 | t::l=>by show t.c.natAbs+n1 (cl d0 d1 d2 l)=_;rw[zDN l];rfl
theorem bound:∀ l:List (Int×Nat),∃ M,∀ t∈l,t.2<M
 | []=>⟨0,fun t a=>by cases a⟩
 | s :: l => by
   obtain⟨M,b⟩:=bound l;refine⟨max M (s.2+1),fun t a=>?_⟩;rcases List.mem_cons.1 a with rfl|a
   · omega
   · have:=b t a;omega
theorem zCq {P:MP}(a:dg 0 P d0)(b:dg 1 P d1)(c:dg 2 P d2)(e:nrm P<B)(f:ev (gp B d0 d1 d2) P=0)(v:Nat→Int):ev v P=0:=by
 rw[zBG d0 d1 d2 v P a b c];obtain⟨M,d⟩:=bound (cl d0 d1 d2 P);exact zBk (B:=B) M _ d (by rw[zDN];exact e) (by rw[←zDS];exact f) _
end
def zb (z:Int):Bool:=match z with | .ofNat 0=>true|_=>false
theorem zb_ok:∀ z:Int,zb z=true→z=0
 | .ofNat 0,_=>rfl
 | .ofNat (_+1),h=>by cases h
 | .negSucc _,h=>by cases h
def DV (i:Nat):Nat→Nat:=fun j=>if j=i then 2 else 1
theorem mv (i j:Nat):dg i (var j) (DV i j):=by
 intro t a;have:t=⟨1,fun k=>if k=j then 1 else 0⟩:=List.mem_singleton.1 a;subst this;show(if i=j then 1 else 0)<if j=i then 2 else 1
 split<;>split<;>omega
theorem chk_n:alB (fun n=>Nat.ble (n+1) (2^42)) (fE opN 1 1 1 1)=true:=by kernel_rfl
theorem chk_0:alB (fun n=>Nat.ble n 10) (fE opD (DV 0 3) (DV 0 0) (DV 0 1) (DV 0 2))=true:=by kernel_rfl
theorem chk_1:alB (fun n=>Nat.ble n 13) (fE opD (DV 1 3) (DV 1 0) (DV 1 1) (DV 1 2))=true:=by kernel_rfl
theorem chk_k:alB zb (fE opI (gp (2^42) 10 13 10 3) (gp (2^42) 10 13 10 0) (gp (2^42) 10 13 10 1) (gp (2^42) 10 13 10 2))=true:=by kernel_rfl
theorem chk_2:alB (fun n=>Nat.ble n 10) (fE opD (DV 2 3) (DV 2 0) (DV 2 1) (DV 2 2))=true:=by kernel_rfl
theorem tT (b x1 x2 x3:Int):al (fun z=>z=0) (fE opI b x1 x2 x3):=by
 obtain⟨v,e⟩:∃ v:Nat→Int,v=fun i=>match i with|0=>x1|1=>x2|2=>x3|_=>b:=⟨_,rfl⟩
 have g:v 0=x1:=by rw[e];rfl
 have j:v 1=x2:=by rw[e];rfl
 have k:v 2=x3:=by rw[e];rfl
 have l:v 3=b:=by rw[e];rfl
 have rv:∀ u:Nat→Int,two (two (two (two (fun P z=>ev u P=z)))) (fE opM (var 3) (var 0) (var 1) (var 2)) (fE opI (u 3) (u 0) (u 1) (u 2)):=fun u=>aG (zDu u) (mq u).2.2.2 (mq u).1 (mq u).2.1 (mq u).2.2.1
 have w:al (fun P=>nrm P<2^42) (fE opM (var 3) (var 0) (var 1) (var 2)) :=
  rC (fun x y c d=>by rw[c];exact d) (aG zCE (b:=var 3) (x1:=var 0) (x2:=var 1) (x3:=var 2) rfl rfl rfl rfl) (aN (q:=fun n=>n<2^42) (fun _ h=>ju h) chk_n)
 have f:∀ i m,al (fun n=>n≤m) (fE opD (DV i 3) (DV i 0) (DV i 1) (DV i 2))→al (fun P=>dg i P m) (fE opM (var 3) (var 0) (var 1) (var 2)):=fun i m h =>
  rC (fun x y c d t A=>zH (c t A) d) (aG (zDv i) (mv i 3) (mv i 0) (mv i 1) (mv i 2)) h
 have r:=f 0 10 (aN (fun _ h=>ju h) chk_0);have c:=f 1 13 (aN (fun _ h=>ju h) chk_1);have d:=f 2 10 (aN (fun _ h=>ju h) chk_2)
 have s:al (fun P=>ev (gp (2^42) 10 13 10) P=0) (fE opM (var 3) (var 0) (var 1) (var 2)) :=
  rC (fun x y c d=>by rw[c];exact d) (rv _) (aN zb_ok chk_k)
 have B:al (fun P=>ev v P=0) (fE opM (var 3) (var 0) (var 1) (var 2)):=by
  refine nC (p:=fun P=>dg 0 P 10∧dg 1 P 13∧dg 2 P 10∧nrm P<2^42) (fun P h o=>zCq (2^42) 10 13 10 h.1 h.2.1 h.2.2.1 h.2.2.2 o v) ?_ s;exact nC (fun _ a b=>⟨a,b⟩) r (nC (fun _ a b=>⟨a,b⟩) c (nC (fun _ a b=>⟨a,b⟩) d w))
 have:=zDe (fun x y (c:ev v x=y) (d:ev v x=0)=>c.symm.trans d) (rv v) B;rwa [g,j,k,l]at this
end Kr
namespace Pm
def jK (p:Nat):Prop:=2≤p∧∀ d,d∣p→d=1∨d=p
theorem jK.two {p:Nat}(h:jK p):2≤p:=h.1
theorem jK.coprime {p a:Nat}(h:jK p)(c:¬ p∣a):Nat.gcd p a=1:=by
 rcases h.2 _ (Nat.gcd_dvd_left p a)with b|b
 · exact b
 · exact absurd (b▸Nat.gcd_dvd_right p a) c
theorem jK.dvd_mul {p a b:Nat}(h:jK p)(d:p∣a*b):p∣a∨p∣b:=by
 rcases Nat.decEq (a%p) 0 with c|c
 · exact Or.inr (Nat.Coprime.dvd_of_dvd_mul_left (h.coprime (fun e=>c (Nat.mod_eq_zero_of_dvd e))) d)
 · exact Or.inl (yL c)
def ch:Nat→Nat→Nat
 | _,0=>1
 | 0,_+1=>0
 | n+1,k+1=>ch n k+ch n (k+1)
theorem m7 (n:Nat):ch n 0=1:=by cases n<;>rfl
theorem mH:∀ {n k:Nat},n<k→ch n k=0
 | 0,k+1,_=>rfl
 | n + 1, k + 1, h => by
   show ch n k+ch n (k+1)=0;rw[mH (by omega),mH (by omega)]
theorem sL:∀ n,ch n n=1
 | 0=>rfl
 | n + 1 => by
   show ch n n+ch n (n+1)=1;rw[sL n,mH (by omega)]
theorem m8:∀ n k,(k+1)*ch (n+1) (k+1)=(n+1)*ch n k
 | 0,0=>rfl
 | 0, k + 1 => by
   show(k+1+1)*(ch 0 (k+1)+ch 0 (k+1+1))=_;rw[mH (by omega),mH (by omega)];simp
 | n + 1, 0 => by
   have:=m8 n 0;show 1*(ch (n+1) 0+ch (n+1) 1)=_;rw[m7]at *;simp only[kH,jM]at *;simp only[jL,kH]at this;omega
 | n + 1, k + 1 => by
   have a:=m8 n k;have b:=m8 n (k+1);show(k+1+1)*(ch (n+1) (k+1)+ch (n+1) (k+1+1))=(n+1+1)*ch (n+1) (k+1);have e:ch (n+1) (k+1)=ch n k+ch n (k+1):=rfl;rw[zl,b,Nat.succ_mul (k+1),a,Nat.succ_mul (n+1),e,zl];omega
def sm (f:Nat→Nat):Nat→Nat
 | 0=>0
 | n+1=>sm f n+f n
theorem zAL (f g:Nat→Nat):∀ n,sm (fun i=>f i+g i) n=sm f n+sm g n
 | 0=>rfl
 | n+1=>by simp only[sm];rw[zAL f g n];omega
theorem zAJ (f:Nat→Nat)(c:Nat):∀ n,sm (fun i=>f i*c) n=sm f n*c
 | 0=>by simp[sm]
 | n+1=>by simp only[sm];rw[zAJ f c n,qb]
theorem bC (f:Nat→Nat):∀ n,sm f (n+1)=f 0+sm (fun i=>f (i+1)) n
 | 0=>by simp[sm]
 | n + 1 => by
   have:=bC f n;simp only[sm]at *;omega
theorem nL {f g:Nat→Nat} : ∀ {n:Nat},(∀ i,i<n→f i=g i)→sm f n=sm g n
 | 0,_=>rfl
 | n+1,h=>by simp only[sm];rw[nL (fun i a=>h i (by omega)),h n (by omega)]
theorem zAK {f:Nat→Nat}{p:Nat} : ∀ {n:Nat},(∀ i,i<n→p∣f i)→p∣sm f n
 | 0,_=>⟨0,rfl⟩
 | n+1,h=>by simp only[sm];exact Nat.dvd_add (zAK (fun i a=>h i (by omega))) (h n (by omega))
theorem zDW (a:Nat):∀ n,(a+1)^n=sm (fun k=>ch n k*a^k) (n+1)
 | 0=>by simp[sm,ch]
 | n + 1 => by
   rw[zx,zDW a n,bC (fun k=>ch (n+1) k*a^k) (n+1)];have e:sm (fun i=>ch (n+1) (i+1)*a ^(i+1)) (n+1)=sm (fun i=>ch n i*a^i*a+ch n (i+1)*a ^(i+1)) (n+1):=by
     refine nL (fun i _=>?_);show(ch n i+ch n (i+1))*a ^(i+1)=_;rw[qb,zx a i,zd]
   rw[e,zAL,zAJ,zl,jM];have b:=bC (fun k=>ch n k*a^k) (n+1);simp only[sm]at b ⊢;rw[mH (show n<n+1 by omega)]at *;rw[m7]at *;simp only[Nat.zero_mul,jF,Nat.pow_zero]at *;omega
theorem zEY {p k:Nat}(d:jK p)(e:0<k)(f:k<p):p∣ch p k:=by
 obtain⟨q,rfl⟩:∃ q,p=q+1:=⟨p-1,by have:=d.two;omega⟩
 obtain⟨j,rfl⟩:∃ j,k=j+1:=⟨k-1,by omega⟩
 have h:=m8 q j;rcases d.dvd_mul (a:=j+1) (b:=ch (q+1) (j+1)) ⟨_,h⟩with c|c
 · exact absurd (Nat.le_of_dvd (by omega) c) (by omega)
 · exact c
theorem frob {p:Nat}(b:jK p)(a:Nat):(a+1)^p%p=(a^p+1)%p:=by
 obtain⟨q,rfl⟩:∃ q,p=q+1:=⟨p-1,by have:=b.two;omega⟩
 rw[zDW a (q+1),bC];show(ch (q+1) 0*a^0+(sm (fun i=>ch (q+1) (i+1)*a ^(i+1)) q+ch (q+1) (q+1)*a ^(q+1)))%(q+1)=_;obtain⟨m,c⟩:=zAK (f:=fun i=>ch (q+1) (i+1)*a ^(i+1)) (p:=q+1) (n:=q) (fun i d=>Nat.dvd_trans (zEY b (by omega) (by omega)) (Nat.dvd_mul_right _ _));rw[c,m7,sL,Nat.pow_zero,kH,kH];have:1+((q+1)*m+a ^(q+1))=a ^(q+1)+1+(q+1)*m:=by omega
 rw[this,qw]
theorem mn {p:Nat}(b:jK p):∀ a,a^p%p=a%p
 | 0=>by rw[Nat.zero_pow (by have:=b.two;omega)]
 | a+1=>by rw[frob b a,wG,mn b a,←wG]
theorem pN {p a b:Nat}(e:b≤a)(h:a%p=b%p):p∣a-b:=by
 have c:=jj a p;have d:=jj b p;refine⟨a/p-b/p,?_⟩;rw[Nat.mul_sub];omega
theorem pX {p a b:Nat}(d:b≤a)(h:p∣a-b):a%p=b%p:=by
 obtain⟨k,c⟩:=h;have:a=b+p*k:=by omega
 rw[this,qw]
theorem zBF {p a:Nat}(c:jK p)(d:¬ p∣a):a ^(p-1)%p=1:=by
 have i:=c.two
 have f:1≤a ^(p-1):=qS (by
  rcases za a with h|h
  · exact absurd ⟨0,by omega⟩ d
  · exact h)
 have h:=mn c a;have e:a^p=a*a ^(p-1):=by
  conv=>lhs;rw[show p=p-1+1 by omega]
  rw[zx,zp]
 have g:p∣a*(a ^(p-1)-1):=by
  rw[Nat.mul_sub,jM,←e];refine pN ?_ h;rw[e];exact Nat.le_mul_of_pos_right _ f
 rcases c.dvd_mul g with b|b
 · exact absurd b d
 · have:=pX f b;rw[this,qF (by omega)]
theorem rm {p a:Nat}(b:jK p)(c:¬ p∣a):a*(a ^(p-2)%p)%p=1:=by
 have d:=b.two;rw[vC,wF,←vC,zp,←zx,show(p-2).succ=p-1 by omega];exact zBF b c
theorem mo:∀ n,2≤n→∃ r,jK r∧r∣n:=by
 intro n;induction n using Nat.strongRecOn with
 | ind n ih =>
   intro f;rcases Classical.em (jK n)with h|h
   · exact⟨n,h,Nat.dvd_refl n⟩
   · have:∃ d,d∣n∧d≠1∧d≠n:=Classical.byContradiction fun c=>h ⟨f,fun d a=>Classical.byContradiction fun b=>c ⟨d,a,fun e=>b (Or.inl e),fun e=>b (Or.inr e)⟩⟩;obtain⟨d,a,l,b⟩:=this;have o:=Nat.le_of_dvd (by omega) a;have j:d≠0:=by rintro rfl;obtain⟨k,m⟩:=a;omega
     obtain⟨r,g,i⟩:=ih d (by omega) (by omega);exact⟨r,g,Nat.dvd_trans i a⟩
theorem bg {n:Nat}(m:2≤n)(h:∀ r,jK r→r∣n→r*r≤n→False):jK n:=by
 refine⟨m,fun d l=>Classical.byContradiction fun g=>?_⟩;have p:d≠1:=fun e=>g (Or.inl e);have q:d≠n:=fun e=>g (Or.inr e);obtain⟨e,i⟩:=l;have s:d≠0:=by rintro rfl;omega
 have t:e≠0:=by rintro rfl;omega
 have u:e≠1:=by rintro rfl;omega
 have key:∀ a b:Nat,n=a*b→a≤b→2≤a→False:=by
  intro a b f c k;obtain⟨r,o,j⟩:=mo a k;have:=Nat.le_of_dvd (by omega) j;exact h r o (f▸Nat.dvd_trans j (Nat.dvd_mul_right _ _)) (by rw[f];exact xn this (by omega))
 rcases Nat.le_total d e with c|c
 · exact key d e i c (by omega)
 · exact key e d (by rw[i,zp]) c (by omega)
def pw (m a:Nat):Nat→Nat→Nat
 | 0,_=>1%m
 | k+1,e=>if e%2=1 then pw m a k (e/2)*pw m a k (e/2)%m*a%m else pw m a k (e/2)*pw m a k (e/2)%m
theorem zAf {m a:Nat} : ∀ k e,e<2^k→pw m a k e=a^e%m
 | 0, e, h => by
   have:e=0:=by omega
   subst this;rfl
 | k + 1, e, h => by
   have c:e/2<2^k:=by rw[zx]at h;omega
   have d:=jj e 2;simp only[pw];rw[zAf k (e/2) c];have b:a ^(e/2)%m*(a ^(e/2)%m)%m=a ^(2*(e/2))%m:=by
     rw[←vC,←qQ];congr 2;omega
   split
   · rename_i ho;rw[b,ye,←zx];congr 2;omega
   · rw[b];congr 2;omega
theorem zCN {r b:Nat} : ∀(n q s:Nat),q+s≤n→b^q%r=1%r→b^s%r=1%r→b^Nat.gcd q s%r=1%r:=by
 intro n;induction n with
 | zero =>
   intro q s h _ c;have:q=0:=by omega
   have:s=0:=by omega
   subst q s;rfl
 | succ n ih =>
   intro q s j d c;rcases za q with rfl|g
   · rw[Nat.gcd_zero_left];exact c
   rcases za s with rfl|i
   · rw[Nat.gcd_zero_right];exact d
   have sub:∀ x y,x≤y→b^x%r=1%r→b^y%r=1%r→b ^(y-x)%r=1%r:=by
     intro x y k f e;have:b^y=b^x*b ^(y-x):=by rw[←qQ];congr 1;omega
     rw[this,vC,f,←vC,kH]at e;exact e
   rcases Nat.le_total q s with a|a
   · have:=ih q (s-q) (by omega) d (sub q s a d c);rwa [Nat.gcd_sub_self_right a]at this
   · have:=ih (q-s) s (by omega) (sub s q a c d) c;rwa [Nat.gcd_sub_self_left a]at this
theorem part {n q a r:Nat}(z:2≤n)(e:jK q)(k:jK r)(y:r∣n)(w:q∣n-1)(l:a ^(n-1)%n=1)(f:Nat.gcd (a ^((n-1)/q)%n+(n-1)) n=1):q∣r-1:=by
 have A:=k.two;refine Classical.byContradiction fun v=>?_;have s:=e.coprime v;obtain⟨m,j⟩:=w;have u:(n-1)/q=m:=by rw[j];exact Nat.mul_div_cancel_left _ (by have:=e.two;omega)
 rw[u]at f;obtain⟨c,b⟩:=y;have o:a ^(n-1)%r=1%r:=by
  have h:a ^(n-1)%n%r=1%r:=by rw[l]
  rwa [show a ^(n-1)%n%r=a ^(n-1)%r by rw[b,Nat.mod_mul_right_mod]]at h
 have i:(a^m)^q%r=1%r:=by rw[←vW,zp,←j];exact o
 have x:¬ r∣a^m:=by
  intro d;have:r∣(a^m)^q:=by
   obtain⟨t,rfl⟩:∃ t,q=t+1:=⟨q-1,by have:=e.two;omega⟩
   exact Nat.dvd_trans d (Nat.dvd_mul_left _ _)
  rw[Nat.mod_eq_zero_of_dvd this,qF (by omega)]at i;omega
 have p:=zBF k x;have g:=zCN _ q (r-1) (zG _) i (by rw[p];exact(qF (by omega)).symm);rw[s,Nat.pow_one]at g;have d:r∣a^m%n+(n-1):=by
  refine yL ?_;rw[wG,show a^m%n%r=1%r by rw[b,Nat.mod_mul_right_mod];exact g,←wG,show 1+(n-1)=n by omega,b];exact Nat.mul_mod_right r c
 have:=Nat.dvd_gcd d ⟨c,b⟩;rw[f]at this;have:=Nat.le_of_dvd (by omega) this;omega
theorem pock1 {n q a:Nat}(b:2≤n)(g:jK q)(h:q∣n-1)(d:a ^(n-1)%n=1)(e:Nat.gcd (a ^((n-1)/q)%n+(n-1)) n=1)(k:n<(q+1)*(q+1)):jK n:=by
 refine bg b fun r c i j=>?_;have f:=part b g c i h d e;have:=c.two;have:=Nat.le_of_dvd (by omega) f;have:=xn (show q+1≤r by omega) (show q+1≤r by omega);omega
theorem pock2 {n q s a:Nat}(b:2≤n)(c:jK q)(g:jK s)(o:q≠s)(p:q∣n-1)(t:s∣n-1)(e:a ^(n-1)%n=1)(i:Nat.gcd (a ^((n-1)/q)%n+(n-1)) n=1)(j:Nat.gcd (a ^((n-1)/s)%n+(n-1)) n=1)
 (u:n<(q*s+1)*(q*s+1)):jK n:=by
 refine bg b fun r d f v=>?_
 have k:=part b c d f p e i
 have l:=part b g d f t e j
 have:=d.two
 have m:Nat.gcd q s=1:=c.coprime fun h=>by
  rcases g.2 q h with h|h
  · have:=c.two;omega
  · exact o h
 have:=Nat.le_of_dvd (by omega) (Nat.Coprime.mul_dvd_of_dvd_of_dvd m k l)
 have:=xn (show q*s+1≤r by omega) (show q*s+1≤r by omega)
 omega
def rI (n:Nat):Nat→Nat→Bool
 | 0,_=>true
 | k+1,d=>n%d != 0&&rI n k (d+1)
theorem nI {n:Nat} : ∀ {k d:Nat},rI n k d=true→∀ e,d≤e→e<d+k→¬ e∣n
 | 0,_,_,_,_,_=>by omega
 | k + 1, d, h, e, h1, h2 => by
   simp only[rI,jp,bne_iff_ne]at h;rcases qH d e with b|c
   · exact nI h.2 e b (by omega)
   · have:e=d:=by omega
     subst this;exact fun a=>h.1 (Nat.mod_eq_zero_of_dvd a)
theorem vS {n k:Nat}(a:2≤n)(h:rI n k 2=true)(d:n<(k+2)*(k+2)):jK n :=
 bg a fun r b c e=>nI h r b.two (by
  rcases qH r (2+k)with h|h
  · exact h
  · have:=xn (show k+2≤r by omega) (show k+2≤r by omega)
    omega) c
end Pm
namespace Gl
open Kr
section
variable {p:Nat} [NeZero p]
structure Cv (iv:Fin p→Fin p) (b:Fin p):Prop where
 dom:∀ x y:Fin p,x*y=0→x=0∨y=0
 inv:∀ x:Fin p,x≠0→x*iv x=1
 one:(1:Fin p)≠0
 two:(2:Fin p)≠0
 root:∀ x:Fin p,x*x*x-3*x+b≠0
abbrev Pt (p:Nat):=Option (Fin p×Fin p)
def Oc (b x y:Fin p):Prop:=y*y=x*x*x-3*x+b
def On (b:Fin p):Pt p→Prop
 | none=>True
 | some P=>Oc b P.1 P.2
def thr (x1 y1 x2 l:Fin p):Fin p×Fin p:=(l*l-x1-x2,l*(x1-(l*l-x1-x2))-y1)
def ad (iv:Fin p→Fin p):Pt p→Pt p→Pt p
 | none,Q=>Q
 | some P,none=>some P
 | some P,some Q=>if P.1=Q.1 then(if P.2=Q.2 then some (thr P.1 P.2 Q.1 ((3*(P.1*P.1)-3)*iv (2*P.2)))else none)else some (thr P.1 P.2 Q.1 ((Q.2-P.2)*iv (Q.1-P.1)))
def ng:Pt p→Pt p
 | none=>none
 | some P=>some (P.1,0-P.2)
structure Ln (b x1 y1 x2 y2 l:Fin p):Prop where
 on:Oc b x1 y1
 hd:y2=y1+l*(x2-x1)
 r:2*y1*l+l*l*(x2-x1)=x1*x1+x1*x2+x2*x2-3
theorem via {a c k u v:Fin p}(h:u=v)(e:a-c=k*(u-v)):a=c:=by subst h;grind
theorem Ln.close {b x1 y1 x2 y2 l:Fin p}(h:Ln b x1 y1 x2 y2 l):Oc b (thr x1 y1 x2 l).1 (thr x1 y1 x2 l).2:=by
 obtain⟨c,-,a⟩:=h;unfold Oc thr at *;have d:b=y1*y1-x1*x1*x1+3*x1:=by grind
 clear c;subst d;exact via a (k:=l*l-2*x1-x2) (by clear a;grind)
def f1 (b x1 y1 x2 y2:Fin p):Fin p:=(x1*y2+x2*y1)*(y1*y2-3*(b-(x1+x2)))-(y1+y2)*(3*(b*(x1+x2)-x1*x2-3))
def f2 (b x1 y1 x2 y2:Fin p):Fin p:=3*(x1*x2-1)*(3*(b*(x1+x2)-x1*x2-3))+(y1*y2+3*(b-(x1+x2)))*(y1*y2-3*(b-(x1+x2)))
def f3 (b x1 y1 x2 y2:Fin p):Fin p:=(y1+y2)*(y1*y2+3*(b-(x1+x2)))+(x1*y2+x2*y1)*(3*(x1*x2-1))
theorem Ln.fx {b x1 y1 x2 y2 l:Fin p}(h:Ln b x1 y1 x2 y2 l):f1 b x1 y1 x2 y2=f3 b x1 y1 x2 y2*(thr x1 y1 x2 l).1:=by
 obtain⟨a,d,c⟩:=h;unfold Oc at a;unfold thr f1 f3;have e:b=y1*y1-x1*x1*x1+3*x1:=by grind
 clear a;subst d e;exact via c (k:=l*l*x1*y1-l*l*x2*y1+3*l*x1*x1*x1-3*l*x1*x1*x2-3*l*x1+3*l*x2-4*l*y1*y1-3*x1*x1*y1-3*x1*x2*y1+6*y1) (by clear c;grind)
theorem Ln.fy {b x1 y1 x2 y2 l:Fin p}(h:Ln b x1 y1 x2 y2 l):f2 b x1 y1 x2 y2=f3 b x1 y1 x2 y2*(thr x1 y1 x2 l).2:=by
 obtain⟨a,d,c⟩:=h;unfold Oc at a;unfold thr f2 f3;have e:b=y1*y1-x1*x1*x1+3*x1:=by grind
 clear a;subst d e;exact via c (k:=0-l*l*l*x1*y1+l*l*l*x2*y1-3*l*l*x1*x1*x1+3*l*l*x1*x1*x2+3*l*l*x1-3*l*l*x2+4*l*l*y1*y1+3*l*x1*x1*y1+3*l*x1*x2*y1-6*l*y1+9*x1*x1*x1*x1-18*x1*x1-12*x1*y1*y1+9) (by clear c;grind)
theorem Ln.fn {b x1 y1 x2 y2 l:Fin p}(h:Ln b x1 y1 x2 y2 l):f3 b x1 y1 x2 y2=(0-(y1+y2))*((x2-x1)*(x2-x1)*(2*x1+x2)-(y1+y2)*(y1+y2))-(x2-x1)*(x2-x1)*(x2-x1)*y1:=by
 obtain⟨a,d,c⟩:=h;unfold Oc at a;unfold f3;have e:b=y1*y1-x1*x1*x1+3*x1:=by grind
 clear a;subst d e;exact via c (k:=0-(x1-x2)*(l*x1-l*x2-3*y1)) (by clear c;grind)
variable {iv:Fin p→Fin p} {b:Fin p}
theorem Cv.y0 (h:Cv iv b){x y:Fin p}(a:Oc b x y):y≠0:=by
 rintro rfl;unfold Oc at a;have:=h.root x;grind
theorem Cv.y2 (h:Cv iv b){x y:Fin p}(a:Oc b x y):2*y≠0:=fun e=>(h.dom _ _ e).elim h.two (h.y0 a)
theorem Cv.cancel (h:Cv iv b){d a c:Fin p}(f:d≠0)(e:d*a=d*c):a=c:=by
 have:=h.dom d (a-c) (by grind);grind
theorem Cv.chord (h:Cv iv b){x1 y1 x2 y2:Fin p}(a:Oc b x1 y1)(e:Oc b x2 y2)(i:x1≠x2):Ln b x1 y1 x2 y2 ((y2-y1)*iv (x2-x1)):=by
 have f:x2-x1≠0:=by grind
 have g:=h.inv _ f;have c:((y2-y1)*iv (x2-x1))*(x2-x1)=y2-y1:=by grind
 generalize(y2-y1)*iv (x2-x1)=l at *;refine⟨a,by grind,h.cancel f ?_⟩;unfold Oc at a e;have d:(x2-x1)*(2*y1*l+l*l*(x2-x1))=2*y1*(l*(x2-x1))+(l*(x2-x1))*(l*(x2-x1)):=by clear c g a e;grind
 rw[d,c];clear c g d;grind
theorem Cv.tang (h:Cv iv b){x y:Fin p}(a:Oc b x y):Ln b x y x y ((3*(x*x)-3)*iv (2*y)):=by
 have c:=h.inv _ (h.y2 a);refine⟨a,by grind,?_⟩;have e:2*y*((3*(x*x)-3)*iv (2*y))+((3*(x*x)-3)*iv (2*y))*((3*(x*x)-3)*iv (2*y))*(x-x)=(2*y*iv (2*y))*(3*(x*x)-3):=by clear c a;grind
 rw[e,c];grind
theorem Oc.neg {x y:Fin p}(h:Oc b x y):Oc b x (0-y):=by unfold Oc at *;grind
theorem Cv.chord0 (h:Cv iv b){x1 y1 x2 y2:Fin p}(f:Oc b x1 y1)(g:Oc b x2 y2)(k:x1≠x2):f3 b x1 y1 x2 y2≠0:=by
 intro e;rw[(h.chord f g k).fn]at e;have i:=h.chord f g.neg k;have c:x2-x1≠0:=by grind
 have d:=h.y0 i.close;have m:=i.hd;generalize(0-y2-y1)*iv (x2-x1)=l at *;unfold thr at d;simp only at d;have j:y1+y2=0-l*(x2-x1):=by grind
 rw[j]at e;have a:(x2-x1)*((x2-x1)*((x2-x1)*(l*(x1-(l*l-x1-x2))-y1)))=0:=by
  rw[←e];clear e d c m j i f g;grind
 exact(h.dom _ _ a).elim c fun a=>(h.dom _ _ a).elim c fun a=>(h.dom _ _ a).elim c d
theorem Cv.tang0 (h:Cv iv b){x y:Fin p}(a:Oc b x y):f3 b x y x y≠0:=by
 intro e;have c:2*y*((2*y)*(2*y))=0:=by
  rw[←e];unfold f3;unfold Oc at a;have d:b=y*y-x*x*x+3*x:=by grind
  rw[d];clear a d e;grind
 exact(h.dom _ _ c).elim (h.y2 a) fun c=>(h.dom _ _ c).elim (h.y2 a) (h.y2 a)
theorem Cv.opp (h:Cv iv b){x y:Fin p}(c:Oc b x y):f1 b x y x (0-y)=0∧f3 b x y x (0-y)=0∧f2 b x y x (0-y)≠0:=by
 refine⟨by unfold f1;grind,by unfold f3;grind,fun e=>?_⟩;have g:=h.tang c;have f:=h.y0 g.close;have m:=g.r;generalize(3*(x*x)-3)*iv (2*y)=l at *;have d:=h.y2 c;unfold thr at f;simp only at f;unfold Oc at c;have i:b=y*y-x*x*x+3*x:=by grind
 have j:2*y*l=3*(x*x)-3:=by grind
 have a:2*y*(2*y*(2*y*(l*(x-(l*l-x-x))-y)))=0:=by
  have k:2*y*(2*y*(2*y*(l*(x-(l*l-x-x))-y)))=(2*y*l)*(3*x*(2*y)*(2*y)-(2*y*l)*(2*y*l))-2*y*(2*y)*(2*y)*y:=by clear e g f m d c i j;grind
  rw[k,j,←e];unfold f2;rw[i];clear e g f m d c i j k;grind
 exact(h.dom _ _ a).elim d fun a=>(h.dom _ _ a).elim d fun a=>(h.dom _ _ a).elim d f
theorem Cv.on_ad (h:Cv iv b){P Q:Pt p}(a:On b P)(c:On b Q):On b (ad iv P Q):=by
 match P,Q with
 | none,Q=>exact c
 | some P,none=>exact a
 | some (x1, y1), some (x2, y2) =>
   show On b (if x1=x2 then _ else _);by_cases hx:x1=x2
   · subst hx;rw[qg rfl];show On b (if y1=y2 then _ else _);by_cases hy:y1=y2
     · rw[qg hy];exact(h.tang a).close
     · rw[qo hy];trivial
   · rw[qo hx];exact(h.chord a c hx).close
theorem On.neg {P:Pt p}(h:On b P):On b (ng P):=by
 match P with
 | none=>exact h
 | some (x,y)=>exact Oc.neg h
theorem Cv.same (h:Cv iv b){x y z:Fin p}(a:Oc b x y)(c:Oc b x z):y=z∨z=0-y:=by
 unfold Oc at a c;have:=h.dom (y-z) (y+z) (by grind);grind
def pr:Pt p→Pr (Fin p)
 | none=>⟨0,1,0⟩
 | some P=>⟨P.1,P.2,1⟩
def sc (u:Fin p) (P:Pr (Fin p)):Pr (Fin p):=⟨u*P.x,u*P.y,u*P.z⟩
theorem NeZero.lt:0<p:=Nat.pos_of_ne_zero (NeZero.ne p)
def cst (n:Int):Fin p:=⟨(n%(p:Int)).toNat,by have h:=Int.emod_lt_of_pos n (Int.ofNat_lt.2 (NeZero.lt (p:=p)));have:=Int.emod_nonneg n (show(p:Int)≠0 by have:=NeZero.lt (p:=p);omega);omega⟩
def opK:Kr.Op (Fin p):=⟨fun a b=>a+b,fun a b=>a-b,fun a b=>a*b,cst⟩
theorem bI (n:Nat):cst (p:=p) (n:Int)=Fin.ofNat p n:=by
 apply Fin.ext;show((n:Int)%(p:Int)).toNat=n%p;rw[←Int.natCast_emod];rfl
theorem zCz:cst (p:=p) 3=3:=bI 3
theorem zC0:cst (p:=p) 1=1:=bI 1
theorem tZ:cst (p:=p) 0=0:=bI 0
omit [NeZero p]in
theorem Pr.ext' {P Q:Pr (Fin p)}(g:P.x=Q.x)(h:P.y=Q.y)(i:P.z=Q.z):P=Q:=by
 obtain⟨a,b,c⟩:=P;obtain⟨d,e,f⟩:=Q;cases g;cases h;cases i;rfl
theorem tV (x1 y1 x2 y2:Fin p):aX opK b (pr (some (x1,y1))) (pr (some (x2,y2)))=⟨f1 b x1 y1 x2 y2,f2 b x1 y1 x2 y2,f3 b x1 y1 x2 y2⟩:=by
 apply Pr.ext'
 · show(x1*y2+x2*y1)*(y1*y2-cst 3*(b*(1*1)-(x1*1+x2*1)))-(y1*1+y2*1)*(cst 3*(b*(x1*1+x2*1)-x1*x2-cst 3*(1*1)))=_;rw[zCz];unfold f1;grind
 · show cst 3*(x1*x2-1*1)*(cst 3*(b*(x1*1+x2*1)-x1*x2-cst 3*(1*1)))+(y1*y2+cst 3*(b*(1*1)-(x1*1+x2*1)))*(y1*y2-cst 3*(b*(1*1)-(x1*1+x2*1)))=_;rw[zCz];unfold f2;grind
 · show(y1*1+y2*1)*(y1*y2+cst 3*(b*(1*1)-(x1*1+x2*1)))+(x1*y2+x2*y1)*(cst 3*(x1*x2-1*1))=_;rw[zCz];unfold f3;grind
theorem sA (u v:Fin p)(P Q:Pr (Fin p)):aX opK b (sc u P) (sc v Q)=sc (u*u*(v*v)) (aX opK b P Q):=by
 obtain⟨x1,y1,z1⟩:=P;obtain⟨x2,y2,a⟩:=Q;apply Pr.ext'
 · show(u*x1*(v*y2)+v*x2*(u*y1))*(u*y1*(v*y2)-cst 3*(b*(u*z1*(v*a))-(u*x1*(v*a)+v*x2*(u*z1))))-(u*y1*(v*a)+v*y2*(u*z1))*(cst 3*(b*(u*x1*(v*a)+v*x2*(u*z1))-u*x1*(v*x2)-cst 3*(u*z1*(v*a))))=u*u*(v*v)*((x1*y2+x2*y1)*(y1*y2-cst 3*(b*(z1*a)-(x1*a+x2*z1)))-(y1*a+y2*z1)*(cst 3*(b*(x1*a+x2*z1)-x1*x2-cst 3*(z1*a))));generalize(cst 3:Fin p)=t;grind
 · show cst 3*(u*x1*(v*x2)-u*z1*(v*a))*(cst 3*(b*(u*x1*(v*a)+v*x2*(u*z1))-u*x1*(v*x2)-cst 3*(u*z1*(v*a))))+(u*y1*(v*y2)+cst 3*(b*(u*z1*(v*a))-(u*x1*(v*a)+v*x2*(u*z1))))*(u*y1*(v*y2)-cst 3*(b*(u*z1*(v*a))-(u*x1*(v*a)+v*x2*(u*z1))))=u*u*(v*v)*(cst 3*(x1*x2-z1*a)*(cst 3*(b*(x1*a+x2*z1)-x1*x2-cst 3*(z1*a)))+(y1*y2+cst 3*(b*(z1*a)-(x1*a+x2*z1)))*(y1*y2-cst 3*(b*(z1*a)-(x1*a+x2*z1))));generalize(cst 3:Fin p)=t;grind
 · show(u*y1*(v*a)+v*y2*(u*z1))*(u*y1*(v*y2)+cst 3*(b*(u*z1*(v*a))-(u*x1*(v*a)+v*x2*(u*z1))))+(u*x1*(v*y2)+v*x2*(u*y1))*(cst 3*(u*x1*(v*x2)-u*z1*(v*a)))=u*u*(v*v)*((y1*a+y2*z1)*(y1*y2+cst 3*(b*(z1*a)-(x1*a+x2*z1)))+(x1*y2+x2*y1)*(cst 3*(x1*x2-z1*a)));generalize(cst 3:Fin p)=t;grind
theorem Cv.lemA (h:Cv iv b){P Q:Pt p}(a:On b P)(d:On b Q):∃ u:Fin p,u≠0∧aX opK b (pr P) (pr Q)=sc u (pr (ad iv P Q)):=by
 match P,Q with
 | none, none =>
   refine⟨1,h.one,Pr.ext' ?_ ?_ ?_⟩
   · show((0:Fin p)*1+0*1)*(1*1-cst 3*(b*(0*0)-(0*0+0*0)))-(1*0+1*0)*(cst 3*(b*(0*0+0*0)-0*0-cst 3*(0*0)))=1*0;generalize(cst 3:Fin p)=t;grind
   · show cst 3*((0:Fin p)*0-0*0)*(cst 3*(b*(0*0+0*0)-0*0-cst 3*(0*0)))+(1*1+cst 3*(b*(0*0)-(0*0+0*0)))*(1*1-cst 3*(b*(0*0)-(0*0+0*0)))=1*1;generalize(cst 3:Fin p)=t;grind
   · show((1:Fin p)*0+1*0)*(1*1+cst 3*(b*(0*0)-(0*0+0*0)))+(0*1+0*1)*(cst 3*(0*0-0*0))=1*0;generalize(cst 3:Fin p)=t;grind
 | none, some (x, y) =>
   refine⟨y,h.y0 d,Pr.ext' ?_ ?_ ?_⟩
   · show((0:Fin p)*y+x*1)*(1*y-cst 3*(b*(0*1)-(0*1+x*0)))-(1*1+y*0)*(cst 3*(b*(0*1+x*0)-0*x-cst 3*(0*1)))=y*x;generalize(cst 3:Fin p)=t;grind
   · show cst 3*((0:Fin p)*x-0*1)*(cst 3*(b*(0*1+x*0)-0*x-cst 3*(0*1)))+(1*y+cst 3*(b*(0*1)-(0*1+x*0)))*(1*y-cst 3*(b*(0*1)-(0*1+x*0)))=y*y;generalize(cst 3:Fin p)=t;grind
   · show((1:Fin p)*1+y*0)*(1*y+cst 3*(b*(0*1)-(0*1+x*0)))+(0*y+x*1)*(cst 3*(0*x-0*1))=y*1;generalize(cst 3:Fin p)=t;grind
 | some (x, y), none =>
   refine⟨y,h.y0 a,Pr.ext' ?_ ?_ ?_⟩
   · show((x:Fin p)*1+0*y)*(y*1-cst 3*(b*(1*0)-(x*0+0*1)))-(y*0+1*1)*(cst 3*(b*(x*0+0*1)-x*0-cst 3*(1*0)))=y*x;generalize(cst 3:Fin p)=t;grind
   · show cst 3*((x:Fin p)*0-1*0)*(cst 3*(b*(x*0+0*1)-x*0-cst 3*(1*0)))+(y*1+cst 3*(b*(1*0)-(x*0+0*1)))*(y*1-cst 3*(b*(1*0)-(x*0+0*1)))=y*y;generalize(cst 3:Fin p)=t;grind
   · show((y:Fin p)*0+1*1)*(y*1+cst 3*(b*(1*0)-(x*0+0*1)))+(x*1+0*y)*(cst 3*(x*0-1*0))=y*1;generalize(cst 3:Fin p)=t;grind
 | some (x1, y1), some (x2, y2) =>
   rw[tV];show ∃ u:Fin p,u≠0∧_=sc u (pr (if x1=x2 then(if y1=y2 then _ else _)else _));by_cases hx:x1=x2
   · subst hx;rw[qg rfl];by_cases hy:y1=y2
     · subst hy;rw[qg rfl];have c:=h.tang a;exact⟨_,h.tang0 a,Pr.ext' c.fx c.fy (Fin.mul_one _).symm⟩
     · rw[qo hy];obtain rfl:=(h.same a d).resolve_left hy;obtain⟨e,f,g⟩:=h.opp a;exact⟨_,g,Pr.ext' (e.trans (Fin.mul_zero _).symm) (Fin.mul_one _).symm (f.trans (Fin.mul_zero _).symm)⟩
   · rw[qo hx];have c:=h.chord a d hx;exact⟨_,h.chord0 a d hx,Pr.ext' c.fx c.fy (Fin.mul_one _).symm⟩
def R0 (a:Int) (k:Fin p):Prop:=cst a=k
theorem dH (a:Int):((cst (p:=p) a).val:Int)=a%(p:Int):=by
 have:=Int.emod_nonneg a (show(p:Int)≠0 by have:=NeZero.lt (p:=p);omega);show(((a%(p:Int)).toNat:Nat):Int)=_;omega
theorem sI {a:Int}{k:Fin p}(h:a%(p:Int)=(k.val:Int)):cst a=k:=Fin.ext (by have:=dH (p:=p) a;omega)
theorem sJ (a c:Int):cst (p:=p) (a+c)=cst a+cst c:=sI (by rw[Fin.val_add,Int.natCast_emod,vj,dH,dH,←Int.add_emod])
theorem zCy (a c:Int):cst (p:=p) (a*c)=cst a*cst c:=sI (by rw[Fin.val_mul,Int.natCast_emod,vi,dH,dH,←Int.mul_emod])
theorem zCx (a c:Int):cst (p:=p) (a-c)=cst a-cst c:=by
 have:=sJ (p:=p) (a-c) c;rw[Int.sub_add_cancel]at this;grind
theorem ot:Rel opI (opK (p:=p)) R0 :=
 ⟨fun {a b c d} e f=>by cases e;cases f;exact sJ _ _,fun {a b c d} e f=>by cases e;cases f;exact zCx _ _,fun {a b c d} e f=>by cases e;cases f;exact zCy _ _,fun n=>rfl⟩
def Rx {α:Type} (R:α→Fin p→Prop) (y:Fin p) (a:α×α) (k:Fin p):Prop:=∃ u v,R a.1 u∧R a.2 v∧k=u+v*y
theorem zAZ {α:Type}{O:Kr.Op α}{R:α→Fin p→Prop}{c:α}{y:Fin p}(h:Rel O opK R)(j:R c (y*y)):Rel (ext O c) opK (Rx R y) :=
 ⟨fun ⟨u, v, b, f, e⟩ ⟨u', a, d, g, i⟩ => ⟨u + u', v + a, h.add b d, h.add f g, by rw [e, i]; show u + v * y + (u' + a * y) = _; grind⟩,
  fun⟨u,v,b,f,e⟩ ⟨u',a,d,g,i⟩=>⟨u-u',v-a,h.sub b d,h.sub f g,by rw[e,i];show u+v*y-(u'+a*y)=_;grind⟩,
  fun⟨u,v,b,f,e⟩ ⟨u',a,d,g,i⟩=>⟨u*u'+v*a*(y*y),u*a+v*u',h.add (h.mul b d) (h.mul (h.mul f g) j),h.add (h.mul b g) (h.mul f d),by rw[e,i];show(u+v*y)*(u'+a*y)=_;grind⟩,
  fun n=>⟨cst n,cst 0,h.int n,h.int 0,by rw[tZ];show cst n=_;grind⟩⟩
theorem gC {α:Type}{O:Kr.Op α}{R:α→Fin p→Prop}{y:Fin p}(h:Rel O opK R){a:α}{k:Fin p}(b:R a k):Rx R y (lift O a) k:=⟨k,cst 0,b,h.int 0,by rw[tZ];grind⟩
theorem Rx.zero {α:Type}{R:α→Fin p→Prop}{y:Fin p}{q:α→Prop}(c:∀ a k,R a k→q a→k=0){a:α×α}{k:Fin p}(h:Rx R y a k)(b:vf q a):k=0:=by
 obtain⟨u,v,d,e,rfl⟩:=h;rw[c _ _ d b.1,c _ _ e b.2];grind
theorem R0.lift (x:Fin p):R0 (x.val:Int) x:=by show cst _=_;rw[bI];exact Fin.ofNat_val_eq_self x
theorem zBb {x1 y1 x2 y2 x3 c:Fin p}(o:Oc b x1 y1)(q:Oc b x2 y2)(r:Oc b x3 c):assoc opK b (pr (some (x1,y1))) (pr (some (x2,y2))) (pr (some (x3,c)))=(0,0):=by
 have cb:∀ {x y:Fin p},Oc b x y→R0 (pj opI (b.val:Int) (x.val:Int)) (y*y):=fun {x y} j=>by
  have:=dG ot (R0.lift b) (R0.lift x);have e:y*y=pj opK b x:=by
   unfold Oc at j;rw[j];show _=x*x*x-cst 3*x+b;rw[zCz]
  rw[e];exact this
 have f:Rel (O1 opI (b.val:Int) (x1.val:Int)) opK (Rx R0 y1):=zAZ ot (cb o);have g:Rel (O2 opI (b.val:Int) (x1.val:Int) (x2.val:Int)) opK (Rx (Rx R0 y1) y2):=zAZ f (gC ot (cb q));have n:Rel (O3 opI (b.val:Int) (x1.val:Int) (x2.val:Int) (x3.val:Int)) opK (Rx (Rx (Rx R0 y1) y2) c):=zAZ g (gC f (gC ot (cb r)));have i:∀ {a:Int} {d:Fin p},R0 a d→Rx (Rx (Rx R0 y1) y2) c (aE opI (b.val:Int) (x1.val:Int) (x2.val:Int) a) d:=fun s=>gC g (gC f (gC ot s));have one:Rx (Rx (Rx R0 y1) y2) c ((O3 opI (b.val:Int) (x1.val:Int) (x2.val:Int) (x3.val:Int)).int 1) 1:=by have:=n.int 1;rwa [show(opK (p:=p)).int 1=1 from zC0]at this
 have t:aQ (Rx (Rx (Rx R0 y1) y2) c) (p1 opI (b.val:Int) (x1.val:Int) (x2.val:Int) (x3.val:Int)) (pr (some (x1,y1))) :=
  ⟨i (R0.lift x1),gC g (gC f ⟨cst 0,cst 1,ot.int 0,ot.int 1,by rw[tZ,zC0];show y1=_;grind⟩),one⟩
 have u:aQ (Rx (Rx (Rx R0 y1) y2) c) (p2 opI (b.val:Int) (x1.val:Int) (x2.val:Int) (x3.val:Int)) (pr (some (x2,y2))) :=
  ⟨i (R0.lift x2),gC g ⟨cst 0,cst 1,f.int 0,f.int 1,by rw[tZ,zC0];show y2=_;grind⟩,one⟩
 have v:aQ (Rx (Rx (Rx R0 y1) y2) c) (p3 opI (b.val:Int) (x1.val:Int) (x2.val:Int) (x3.val:Int)) (pr (some (x3,c))) :=
  ⟨i (R0.lift x3),⟨cst 0,cst 1,g.int 0,g.int 1,by rw[tZ,zC0];show c=_;grind⟩,one⟩
 have m:=tT (b.val:Int) (x1.val:Int) (x2.val:Int) (x3.val:Int);have l:=mJ n (i (R0.lift b)) t u v;have w:∀(a:Int) (k:Fin p),R0 a k→a=0→k=0:=fun a k h e=>by subst e;exact h.symm.trans tZ
 have z1:=fun a k=>Rx.zero (y:=y1) w (a:=a) (k:=k);have z:=fun a k=>Rx.zero (y:=y2) z1 (a:=a) (k:=k);have z3:=fun a k=>Rx.zero (y:=c) z (a:=a) (k:=k);exact Prod.ext (z3 _ _ l.1 m.1) (z3 _ _ l.2 m.2)
theorem zDy {P Q:Pt p}{u v:Fin p}(b:∀ x y:Fin p,x*y=0→x=0∨y=0)(g:u≠0)(i:v≠0)(h:cz opK (sc u (pr P)) (sc v (pr Q))=(0,0)):P=Q:=by
 have j:=congrArg Prod.fst h;have c:=congrArg Prod.snd h;have a:u*v≠0:=fun e=>(b _ _ e).elim g i;match P,Q with
 | none,none=>rfl
 | none, some (x, y) =>
   have e:u*1*(v*1)-u*0*(v*y)=0:=c;exact absurd (show u*v=0 by grind) a
 | some (x, y), none =>
   have e:u*y*(v*0)-u*1*(v*1)=0:=c;exact absurd (show u*v=0 by grind) a
 | some (x, y), some (x', y') =>
   have m:u*x*(v*1)-u*1*(v*x')=0:=j;have n:u*y*(v*1)-u*1*(v*y')=0:=c;have k:=(b (u*v) (x-x') (by grind)).resolve_left a;have l:=(b (u*v) (y-y') (by grind)).resolve_left a;have d:x=x':=by grind
   have f:y=y':=by grind
   rw[d,f]
theorem zDJ (u v:Fin p)(P:Pr (Fin p)):sc u (sc v P)=sc (u*v) P:=by
 apply Pr.ext'
 · show u*(v*P.x)=u*v*P.x;grind
 · show u*(v*P.y)=u*v*P.y;grind
 · show u*(v*P.z)=u*v*P.z;grind
theorem zAR (P:Pr (Fin p)):sc 1 P=P:=by
 apply Pr.ext'
 · show 1*P.x=P.x;grind
 · show 1*P.y=P.y;grind
 · show 1*P.z=P.z;grind
theorem Cv.assoc (h:Cv iv b){P Q S:Pt p}(c:On b P)(a:On b Q)(d:On b S):ad iv (ad iv P Q) S=ad iv P (ad iv Q S):=by
 match P,Q,S with
 | none,Q,S=>rfl
 | some P,none,S=>rfl
 | some P, some Q, none =>
   show ad iv (ad iv (some P) (some Q)) none=ad iv (some P) (some Q);cases ad iv (some P) (some Q)<;>rfl
 | some (x1, y1), some (x2, y2), some (x3, y3) =>
   have f:=zBb c a d;obtain⟨u1,g1,k⟩:=h.lemA c a;obtain⟨u2,o,l⟩:=h.lemA (h.on_ad c a) d;obtain⟨u3,g,m⟩:=h.lemA a d;obtain⟨u4,q,n⟩:=h.lemA c (h.on_ad a d);unfold Kr.assoc at f;rw[k,m]at f;have i:=sA (b:=b) u1 1 (pr (ad iv (some (x1,y1)) (some (x2,y2)))) (pr (some (x3,y3)));rw[zAR,l,zDJ]at i;have j:=sA (b:=b) 1 u3 (pr (some (x1,y1))) (pr (ad iv (some (x2,y2)) (some (x3,y3))));rw[zAR,n,zDJ]at j;rw[i,j]at f;have nz:∀ {x y:Fin p},x≠0→y≠0→x*y≠0:=fun r s e=>(h.dom _ _ e).elim r s;exact zDy h.dom (nz (nz (nz g1 g1) (nz h.one h.one)) o) (nz (nz (nz h.one h.one) (nz g g)) q) f
def nm (iv:Fin p→Fin p) (P:Pt p):Nat→Pt p
 | 0=>none
 | n+1=>ad iv (nm iv P n) P
theorem Cv.on_nm (h:Cv iv b){P:Pt p}(a:On b P):∀ n,On b (nm iv P n)
 | 0=>trivial
 | n+1=>h.on_ad (h.on_nm a n) a
theorem sS (P:Pt p):ad iv P none=P:=by cases P<;>rfl
theorem Cv.nm_add (h:Cv iv b){P:Pt p}(a:On b P)(m:Nat):∀ n,nm iv P (m+n)=ad iv (nm iv P m) (nm iv P n)
 | 0=>(sS _).symm
 | n + 1 => by
   show ad iv (nm iv P (m+n)) P=ad iv _ (ad iv (nm iv P n) P);rw[h.nm_add a m n,h.assoc (h.on_nm a m) (h.on_nm a n) a]
theorem Cv.nm_two (h:Cv iv b){P:Pt p}(a:On b P)(n:Nat):nm iv P (2*n)=ad iv (nm iv P n) (nm iv P n):=by rw[show 2*n=n+n by omega,h.nm_add a]
end
end Gl
theorem xx:type_of% @Gl.NeZero.lt:=@Gl.NeZero.lt
namespace Pm
theorem xj {n q a k:Nat}(f:2≤n)(g:jK q)(h:(n-1)%q=0)(d:Nat.ble n (2^k)=true)(b:pw n a k (n-1)=1)(c:Nat.gcd (pw n a k ((n-1)/q)+(n-1)) n=1)(i:n<(q+1)*(q+1)):jK n:=by
 have j:(n-1)/q≤n-1:=vD _ _;have e:=ju d;have e:=ju d;rw[zAf k _ (by omega)]at b c;exact pock1 f g (yL h) b c i
theorem dZ {n q s a k:Nat}(h:2≤n)(j:jK q)(m:jK s)(i:q≠s)(l:(n-1)%q=0)(o:(n-1)%s=0)(e:Nat.ble n (2^k)=true)(b:pw n a k (n-1)=1)(c:Nat.gcd (pw n a k ((n-1)/q)+(n-1)) n=1)(d:Nat.gcd (pw n a k ((n-1)/s)+(n-1)) n=1)
 (f:n<(q*s+1)*(q*s+1)):jK n:=by
 have p:(n-1)/q≤n-1:=vD _ _
 have r:(n-1)/s≤n-1:=vD _ _
 have g:=ju e
 have g:=ju e
 rw[zAf k _ (by omega)]at b c d
 exact pock2 h j m i (yL l) (yL o) b c d f
theorem zCP:jK 704251:=vS (k:=839) (by decide) (by kernel_rfl) (by decide)
theorem zD1:jK 78283:=vS (k:=279) (by decide) (by kernel_rfl) (by decide)
theorem nY:jK 46076956964474543:=dZ (q:=704251) (s:=78283) (a:=2) (k:=56) (by decide) zCP zD1 (by decide) (by kernel_rfl) (by kernel_rfl) (by kernel_rfl) (by kernel_rfl) (by kernel_rfl) (by kernel_rfl) (by decide)
theorem p3677:jK 3677:=vS (k:=60) (by decide) (by kernel_rfl) (by decide)
theorem p197:jK 197:=vS (k:=14) (by decide) (by kernel_rfl) (by decide)
theorem mX:jK 66417393611:=dZ (q:=3677) (s:=197) (a:=2) (k:=36) (by decide) p3677 p197 (by decide) (by kernel_rfl) (by kernel_rfl) (by kernel_rfl) (by kernel_rfl) (by kernel_rfl) (by kernel_rfl) (by decide)
theorem ns:jK 11290956913871:=xj (q:=66417393611) (a:=2) (k:=44) (by decide) mX (by kernel_rfl) (by kernel_rfl) (by kernel_rfl) (by kernel_rfl) (by decide)
theorem nW:jK 774023187263532362759620327192479577272145303:=dZ (q:=46076956964474543) (s:=11290956913871) (a:=2) (k:=150) (by decide) nY ns (by decide) (by kernel_rfl) (by kernel_rfl) (by kernel_rfl) (by kernel_rfl) (by kernel_rfl) (by kernel_rfl) (by decide)
theorem nV:jK 835945042244614951780389953367877943453916927241:=xj (q:=774023187263532362759620327192479577272145303) (a:=2) (k:=160) (by decide) nW (by kernel_rfl) (by kernel_rfl) (by kernel_rfl) (by kernel_rfl) (by decide)
theorem p256:jK 115792089210356248762697446949407573530086143415290314195533631308867097853951:=xj (q:=835945042244614951780389953367877943453916927241) (a:=2) (k:=256) (by decide) nV (by kernel_rfl) (by kernel_rfl) (by kernel_rfl) (by kernel_rfl) (by decide)
theorem zCQ:jK 363557:=vS (k:=602) (by decide) (by kernel_rfl) (by decide)
theorem pG:jK 532247449:=xj (q:=363557) (a:=2) (k:=29) (by decide) zCQ (by kernel_rfl) (by kernel_rfl) (by kernel_rfl) (by kernel_rfl) (by decide)
theorem nZ:jK 44925942675193:=xj (q:=532247449) (a:=2) (k:=46) (by decide) pG (by kernel_rfl) (by kernel_rfl) (by kernel_rfl) (by kernel_rfl) (by decide)
theorem ni:jK 35581458644053887931343:=xj (q:=44925942675193) (a:=2) (k:=75) (by decide) nZ (by kernel_rfl) (by kernel_rfl) (by kernel_rfl) (by kernel_rfl) (by decide)
theorem nj:jK 23964610537191310276190549303:=xj (q:=35581458644053887931343) (a:=2) (k:=95) (by decide) ni (by kernel_rfl) (by kernel_rfl) (by kernel_rfl) (by kernel_rfl) (by decide)
theorem nU:jK 862725979338887169942859774909:=xj (q:=23964610537191310276190549303) (a:=2) (k:=100) (by decide) nj (by kernel_rfl) (by kernel_rfl) (by kernel_rfl) (by kernel_rfl) (by decide)
theorem nk:jK 20705423504133292078628634597817:=xj (q:=862725979338887169942859774909) (a:=2) (k:=105) (by decide) nU (by kernel_rfl) (by kernel_rfl) (by kernel_rfl) (by kernel_rfl) (by decide)
theorem nf:jK 413244619895455989650825325680172591660047:=xj (q:=20705423504133292078628634597817) (a:=2) (k:=139) (by decide) nk (by kernel_rfl) (by kernel_rfl) (by kernel_rfl) (by kernel_rfl) (by decide)
theorem nr:jK 12397338596863679689524759770405177749801411:=xj (q:=413244619895455989650825325680172591660047) (a:=2) (k:=144) (by decide) nf (by kernel_rfl) (by kernel_rfl) (by kernel_rfl) (by kernel_rfl) (by decide)
theorem zD2:jK 21407:=vS (k:=146) (by decide) (by kernel_rfl) (by decide)
theorem pH:jK 246608641:=xj (q:=21407) (a:=2) (k:=28) (by decide) zD2 (by kernel_rfl) (by kernel_rfl) (by kernel_rfl) (by kernel_rfl) (by decide)
theorem p881:jK 881:=vS (k:=29) (by decide) (by kernel_rfl) (by decide)
theorem p211:jK 211:=vS (k:=14) (by decide) (by kernel_rfl) (by decide)
theorem pI:jK 105957871:=dZ (q:=881) (s:=211) (a:=2) (k:=27) (by decide) p881 p211 (by decide) (by kernel_rfl) (by kernel_rfl) (by kernel_rfl) (by kernel_rfl) (by kernel_rfl) (by kernel_rfl) (by decide)
theorem nX:jK 529709925838459440593:=dZ (q:=246608641) (s:=105957871) (a:=2) (k:=69) (by decide) pH pI (by decide) (by kernel_rfl) (by kernel_rfl) (by kernel_rfl) (by kernel_rfl) (by kernel_rfl) (by kernel_rfl) (by decide)
theorem np:jK 19173790298027098165721053155794528970226934547887232785722672956982046098136719667167519737147526097:=dZ (q:=12397338596863679689524759770405177749801411) (s:=529709925838459440593) (a:=2) (k:=334) (by decide) nr nX (by decide) (by kernel_rfl) (by kernel_rfl) (by kernel_rfl) (by kernel_rfl) (by kernel_rfl) (by kernel_rfl) (by decide)
theorem p384:jK 39402006196394479212279040100143613805079739270465446667948293404245721771496870329047266088258938001861606973112319:=xj (q:=19173790298027098165721053155794528970226934547887232785722672956982046098136719667167519737147526097) (a:=2) (k:=384) (by decide) np (by kernel_rfl) (by kernel_rfl) (by kernel_rfl) (by kernel_rfl) (by decide)
end Pm
namespace Gl
section
variable {p:Nat} [NeZero p]
def ph (n:Nat):Fin p:=Fin.ofNat p n
theorem xH (n:Nat):(ph (p:=p) n).val=n%p:=rfl
theorem uu (a b:Nat):ph (p:=p) (a+b)=ph a+ph b:=Fin.ext (by rw[Fin.val_add,xH,xH,xH,←wG])
theorem ut (a b:Nat):ph (p:=p) (a*b)=ph a*ph b:=Fin.ext (by rw[Fin.val_mul,xH,xH,xH,←vC])
theorem wP (a:Nat):ph (p:=p) (a%p)=ph a:=Fin.ext (by rw[xH,xH,wF])
theorem gy:ph (p:=p) p=0:=Fin.ext (by rw[xH,Nat.mod_self];rfl)
theorem bk {a b:Nat}(h:b≤a):ph (p:=p) (a-b)=ph a-ph b:=by
 have:=uu (p:=p) (a-b) b;rw[Nat.sub_add_cancel h]at this;grind
theorem ph0:ph (p:=p) 0=0:=rfl
theorem ph1:ph (p:=p) 1=1:=rfl
theorem uD {a:Nat} : ph (p:=p) a=0↔a%p=0:=⟨fun h=>by have:=congrArg Fin.val h;rw[xH]at this;rw[this];exact kS p,fun h=>Fin.ext (by rw[xH,h];exact(kS p).symm)⟩
def ivp (x:Fin p):Fin p:=ph (x.val ^(p-2))
abbrev T3:=Nat×Nat×Nat
def cm (M q:Nat) (a c:T3):T3:=((a.1*c.1+(a.2.1*c.2.2+a.2.2*c.2.1)*(M-q))%M,(a.1*c.2.1+a.2.1*c.1+3*(a.2.1*c.2.2+a.2.2*c.2.1)+a.2.2*c.2.2*(M-q))%M,(a.1*c.2.2+a.2.1*c.2.1+a.2.2*c.1+3*(a.2.2*c.2.2))%M)
def cpw (M q:Nat):Nat→Nat→T3
 | 0,_=>(1,0,0)
 | k+1,e=>if e%2=1 then cm M q (cm M q (cpw M q k (e/2)) (cpw M q k (e/2))) (0,1,0)else cm M q (cpw M q k (e/2)) (cpw M q k (e/2))
def cZ (M:Nat) (r:T3):T3:=(r.1,r.2.1+(M-1),r.2.2)
def fi (M q k:Nat) (U:T3):Bool:=Nat.ble q M&&Nat.ble (M+1) (2^k)&&(cm M q U (cZ M (cpw M q k M))==(1,0,0))
def ev (x:Fin p) (a:T3):Fin p:=ph a.1+ph a.2.1*x+ph a.2.2*(x*x)
theorem sB {q:Nat}(e:q≤p){x:Fin p}(d:x*x*x-3*x+ph q=0)(a c:T3):ev x (cm p q a c)=ev x a*ev x c:=by
 unfold ev cm;simp only[wP,uu,ut,bk e,gy];rw[show(ph (p:=p) 3)=3 from rfl];generalize(ph a.1:Fin p)=a0,(ph a.2.1:Fin p)=a1,(ph a.2.2:Fin p)=a2,(ph c.1:Fin p)=c0,(ph c.2.1:Fin p)=c1,(ph c.2.2:Fin p)=c2,(ph q:Fin p)=b at *;exact via d (k:=0-(a1*c2+a2*c1)-a2*c2*x) (by clear d;grind)
def pf (x:Fin p):Nat→Fin p
 | 0=>1
 | n+1=>pf x n*x
theorem zAk (x:Fin p)(m:Nat):∀ n,pf x (m+n)=pf x m*pf x n
 | 0=>(Fin.mul_one _).symm
 | n+1=>by show pf x (m+n)*x=pf x m*(pf x n*x);rw[zAk x m n];grind
theorem zAj (x:Fin p):∀ n,(pf x n).val=x.val^n%p
 | 0=>rfl
 | n+1=>by show(pf x n*x).val=_;rw[Fin.val_mul,zAj x n,zx,ye]
theorem zBH {q:Nat}(a:q≤p){x:Fin p}(b:x*x*x-3*x+ph q=0):∀ k e,e<2^k→ev x (cpw p q k e)=pf x e
 | 0, e, h => by
   have:e=0:=by omega
   subst this;show ph 1+ph 0*x+ph 0*(x*x)=1;rw[ph0,ph1];grind
 | k + 1, e, h => by
   have d:e/2<2^k:=by rw[zx]at h;omega
   have f:=jj e 2;simp only[cpw];have c:ev x (cpw p q k (e/2))*ev x (cpw p q k (e/2))=pf x (e/2+e/2):=by rw[zBH a b k _ d,zAk]
   split
   · rename_i ho;rw[sB a b,sB a b,c,show e=(e/2+e/2)+1 by omega];show _=pf x (e/2+e/2)*x;rw[show(e/2+e/2+1)/2=e/2 by omega];have:ev x (0,1,0)=x:=by
       show ph 0+ph 1*x+ph 0*(x*x)=x;rw[ph0,ph1];grind
     rw[this]
   · rw[sB a b,c];congr 1;omega
theorem zCZ (a:Pm.jK p){q k:Nat}{U:T3}(h:fi p q k U=true)(x:Fin p):x*x*x-3*x+ph q≠0:=by
 intro c;unfold fi at h;rw[jp,jp]at h;obtain⟨⟨i,l⟩,m⟩:=h;have b:=ju i;have n:p<2^k:=ju l;have e:=sB b c U (cZ p (cpw p q k p));rw[eq_of_beq m]at e;have g:ev x (cZ p (cpw p q k p))=ev x (cpw p q k p)-x:=by
  unfold ev cZ;simp only[uu,bk (show 1≤p from xx),gy,ph1];grind
 have f:pf x p=x:=Fin.ext (by rw[zAj,Pm.mn a,qF x.isLt]);rw[g,zBH b c k p n,f]at e;have d:ev x (1,0,0)=1:=by
  show ph 1+ph 0*x+ph 0*(x*x)=1;rw[ph0,ph1];grind
 rw[d]at e;have j:(1:Fin p)=0:=by grind
 have:=congrArg Fin.val j;have o:=a.two;rw[show((1:Fin p)).val=1%p from rfl,show((0:Fin p)).val=0%p from rfl,kS,qF (by omega)]at this;omega
theorem zDU (b:Pm.jK p)(d:2<p){q k:Nat}{U:T3}(h:fi p q k U=true):Cv ivp (ph (p:=p) q):=by
 have nz:∀ {x:Fin p},x≠0→¬ p∣x.val:=fun {x} c f=>c (Fin.ext (by have:=Nat.eq_zero_of_dvd_of_lt f x.isLt;rw[this];exact(kS p).symm));refine⟨fun x y e=>?_,fun x c=>?_,fun e=>?_,fun e=>?_,zCZ b h⟩
 · have:=congrArg Fin.val e;rw[Fin.val_mul,show((0:Fin p)).val=0%p from rfl,kS]at this;refine Decidable.byContradiction fun a=>?_;have a:=not_or.1 a;exact(b.dvd_mul (yL this)).elim (nz a.1) (nz a.2)
 · refine Fin.ext ?_;rw[Fin.val_mul];show x.val*(x.val ^(p-2)%p)%p=1%p;rw[Pm.rm b (nz c),qF (by omega)]
 · have:=congrArg Fin.val e;rw[show((1:Fin p)).val=1%p from rfl,show((0:Fin p)).val=0%p from rfl,kS,qF (by omega)]at this;omega
 · have:=congrArg Fin.val e;rw[show((2:Fin p)).val=2%p from rfl,show((0:Fin p)).val=0%p from rfl,kS,qF d]at this;omega
end
theorem zB3:fi 115792089210356248762697446949407573530086143415290314195533631308867097853951 41058363725152142129326129780047268409114441015993725554835256314039467401291 256 (76626890310466861426869089647039036757962535851890885406097439786770458211455,74462945259064871768191128030512052509059297803194871526163573358218695456204,34768139465301476436978405170953382516735956999154666452188405812258086013549)=true:=by kernel_rfl
theorem zB2:fi 39402006196394479212279040100143613805079739270465446667948293404245721771496870329047266088258938001861606973112319 27580193559959705877849011840389048093056905856361568521428707301988689241309860865136260764883745107765439761230575 384 (23037766613497683937702734290281044719364893268180251583910224888989381657771069200037813904257325918671976092329602,8235438212423615602427778915669574859600037698862346933589434399495169446996583974901273360826717582835190849638831,12157362177932134139146813183752135342286725243554133716818896354380897714709611791313184492360272402950851405460538)=true:=by kernel_rfl
end Gl
namespace Gl
section
variable {p:Nat} [NeZero p] {iv:Fin p→Fin p} {b:Fin p}
def Rp (X Y Z:Fin p) (P:Pt p):Prop:=(Z=0∧P=none)∨(Z≠0∧∃ x y,P=some (x,y)∧X=x*(Z*Z)∧Y=y*(Z*Z*Z))
theorem Cv.nz (h:Cv iv b){x y:Fin p}(a:x≠0)(c:y≠0):x*y≠0:=fun e=>(h.dom _ _ e).elim a c
theorem Rp.some_ {X Y Z x y:Fin p}(c:Z≠0)(a:X=x*(Z*Z))(b:Y=y*(Z*Z*Z)):Rp X Y Z (some (x,y)):=Or.inr ⟨c,x,y,rfl,a,b⟩
theorem zDD (x y:Fin p):ad iv (some (x,y)) (some (x,y))=some (thr x y x ((3*(x*x)-3)*iv (2*y))):=by
 show(if x=x then(if y=y then _ else _)else _)=_;rw[qg rfl,qg rfl]
theorem zBf {x y z:Fin p}(a:y≠z):ad iv (some (x,y)) (some (x,z))=none:=by
 show(if x=x then(if y=z then _ else _)else _)=_;rw[qg rfl,qo a]
theorem zBg {x1 y1 x2 y2:Fin p}(a:x1≠x2):ad iv (some (x1,y1)) (some (x2,y2))=some (thr x1 y1 x2 ((y2-y1)*iv (x2-x1))):=by
 show(if x1=x2 then _ else _)=_;rw[qo a]
theorem zBV {x y l Z A:Fin p}(b:2*y*l=3*(x*x)-3)(a:A=3*((x*(Z*Z)-Z*Z)*(x*(Z*Z)+Z*Z))) :
 A*A-8*(x*(Z*Z)*((y*(Z*Z*Z))*(y*(Z*Z*Z))))=(thr x y x l).1*((2*(y*(Z*Z*Z))*Z)*(2*(y*(Z*Z*Z))*Z)) ∧
 A*(4*(x*(Z*Z)*((y*(Z*Z*Z))*(y*(Z*Z*Z))))-(thr x y x l).1*((2*(y*(Z*Z*Z))*Z)*(2*(y*(Z*Z*Z))*Z)))-8*(((y*(Z*Z*Z))*(y*(Z*Z*Z)))*((y*(Z*Z*Z))*(y*(Z*Z*Z))))=(thr x y x l).2*((2*(y*(Z*Z*Z))*Z)*(2*(y*(Z*Z*Z))*Z)*(2*(y*(Z*Z*Z))*Z)):=by
 have e:A=(2*y*l)*(Z*Z*(Z*Z)):=by rw[b,a];clear b a;grind
 clear b a
 subst e
 unfold thr
 exact⟨by grind,by grind⟩
theorem Cv.dbl (h:Cv iv b){X Y Z X' Y' Z' A:Fin p}{P:Pt p}(g:Rp X Y Z P)(f:On b P)(i:A=3*((X-Z*Z)*(X+Z*Z)))
 (j:X'=A*A-8*(X*(Y*Y))) (k:Y'=A*(4*(X*(Y*Y))-X')-8*(Y*Y*(Y*Y))) (e:Z'=2*Y*Z):Rp X' Y' Z' (ad iv P P):=by
 rcases g with⟨rfl,rfl⟩|⟨c,x,y,rfl,rfl,rfl⟩
 · exact Or.inl ⟨by rw[e];exact Fin.mul_zero _,rfl⟩
 · rw[zDD];have g:=(h.tang f).r;have m:=h.y0 f;generalize(3*(x*x)-3)*iv (2*y)=l at *;obtain⟨a,d⟩:=zBV (x:=x) (y:=y) (l:=l) (Z:=Z) (A:=A) (by grind) i;rw[←j]at a;rw[←a,←k]at d;rw[←e]at a d;exact Rp.some_ (by rw[e];exact h.nz (h.nz h.two (h.nz m (h.nz (h.nz c c) c))) c) a d
theorem zBd {x1 y1 x2 l W H R:Fin p}(a:H=(x2-x1)*(W*W))(hR:R=l*(x2-x1)*(W*W*W)) :
 R*R-H*H*H-(x1*(W*W)*(H*H)+x1*(W*W)*(H*H))=(thr x1 y1 x2 l).1*(H*W*(H*W)) ∧
 R*(x1*(W*W)*(H*H)-(thr x1 y1 x2 l).1*(H*W*(H*W)))-y1*(W*W*W)*(H*H*H)=(thr x1 y1 x2 l).2*(H*W*(H*W)*(H*W)):=by
 subst a hR
 unfold thr
 exact⟨by grind,by grind⟩
theorem Cv.add (h:Cv iv b){X1 Y1 Z1 X2 Y2 Z2 H R U S X' Y' Z':Fin p}{x1 y1 x2 y2:Fin p}(w:Z1≠0)(x:Z2≠0)
 (f:X1=x1*(Z1*Z1)) (i:Y1=y1*(Z1*Z1*Z1)) (g:X2=x2*(Z2*Z2)) (j:Y2=y2*(Z2*Z2*Z2)) (q:Oc b x1 y1) (r:Oc b x2 y2)
 (d:U=X1*(Z2*Z2)) (c:S=Y1*(Z2*Z2*Z2)) (a:H=X2*(Z1*Z1)-U) (hR:R=Y2*(Z1*Z1*Z1)-S) :
 (H=0↔x1=x2)∧(R=0↔y1=y2)∧(H≠0→X'=R*R-H*H*H-(U*(H*H)+U*(H*H))→Y'=R*(U*(H*H)-X')-S*(H*H*H)→Z'=H*(Z1*Z2)→Rp X' Y' Z' (ad iv (some (x1,y1)) (some (x2,y2)))):=by
 have k:Z1*Z2≠0:=h.nz w x
 have o:U=x1*(Z1*Z2*(Z1*Z2)):=by rw[d,f];clear d c a hR f g i j q r;grind
 have eS:S=y1*(Z1*Z2*(Z1*Z2)*(Z1*Z2)):=by rw[c,i];clear d c a hR f g i j q r o;grind
 have s:H=(x2-x1)*(Z1*Z2*(Z1*Z2)):=by rw[a,o,g];clear d c a hR f g i j q r o eS;grind
 have eR:R=(y2-y1)*(Z1*Z2*(Z1*Z2)*(Z1*Z2)):=by rw[hR,eS,j];clear d c a hR f g i j q r o eS s;grind
 clear d c a hR f g i j w x
 generalize Z1*Z2=W at *
 have t:H=0↔x1=x2:=by
  constructor
  · intro e;rw[s]at e;have:=(h.dom _ _ e).resolve_right (h.nz k k);grind
  · rintro rfl;rw[s];grind
 refine⟨t,?_,fun a y z u=>?_⟩
 · constructor
   · intro e;rw[eR]at e;have:=(h.dom _ _ e).resolve_right (h.nz (h.nz k k) k);grind
   · rintro rfl;rw[eR];grind
 · have v:x1≠x2:=fun e=>a (t.2 e);rw[zBg v];have A:=(h.chord q r v).hd;generalize(y2-y1)*iv (x2-x1)=l at *;have eR':R=l*(x2-x1)*(W*W*W):=by rw[eR,A];grind
   obtain⟨m,n⟩:=zBd (x1:=x1) (y1:=y1) (x2:=x2) (l:=l) (W:=W) s eR';rw[←o]at m n;rw[←eS]at n;rw[←y]at m;rw[←m,←z]at n;rw[←u]at m n;exact Rp.some_ (by rw[u];exact h.nz a k) m n
theorem Rp.back {X Y Z x y v:Fin p}(h:Rp X Y Z (some (x,y)))(a:Z*v=1):X*(v*v)=x∧Y*(v*v*v)=y:=by
 rcases h with⟨-,h⟩|⟨g,d,f,e,rfl,rfl⟩
 · exact absurd h (by simp)
 · obtain⟨rfl,rfl⟩:x=d∧y=f:=by simpa using e
   have b:x*(Z*Z)*(v*v)=x*((Z*v)*(Z*v)):=by clear a e;grind
   have c:y*(Z*Z*Z)*(v*v*v)=y*((Z*v)*(Z*v)*(Z*v)):=by clear a e;grind
   rw[b,c,a];exact⟨by grind,by grind⟩
theorem Rp.none_iff {X Y Z:Fin p}{P:Pt p}(h:Rp X Y Z P):Z=0↔P=none:=by
 rcases h with⟨a,b⟩|⟨a,x,y,rfl,-⟩
 · exact⟨fun _=>b,fun _=>a⟩
 · exact⟨fun e=>absurd e a,fun e=>by simp at e⟩
theorem Rp.up (a:(1:Fin p)≠0)(x y:Fin p):Rp x y 1 (some (x,y)):=Rp.some_ a (by grind) (by grind)
end
end Gl
namespace Gl
section
variable {M:Nat} [NeZero M] {b:Fin M}
theorem wN (x y:Nat):ph (p:=M) (mm M x y)=ph x*ph y:=by rw[mm,wP,ut]
theorem bm (x y:Nat):ph (p:=M) (am M x y)=ph x+ph y:=by rw[am,wP,uu]
theorem uE (x y:Nat):ph (p:=M) (sm M x y)=ph x-ph y:=by
 rw[sm,wP,bk (by have:=qP y (xx (p:=M));omega),uu,gy,wP];grind
theorem yQ (x y:Nat):sm M x y<M:=qP _ xx
theorem kh (x y:Nat):mm M x y<M:=qP _ xx
theorem pD {x:Nat}(a:x<M):ph (p:=M) x=0↔x=0:=by rw[uD,qF a]
def RpN (J:Nat×Nat×Nat) (P:Pt M):Prop:=Rp (ph J.1) (ph J.2.1) (ph J.2.2) P
theorem RpN.zero (x y:Nat):RpN (M:=M) (x,y,0) none:=Or.inl ⟨ph0,rfl⟩
theorem RpN.of_zero {J:Nat×Nat×Nat}{P:Pt M}(h:RpN J P)(a:J.2.2%M=0):P=none:=h.none_iff.1 (uD.2 a)
theorem sH (h:Cv ivp b){x y z:Nat}{P:Pt M}(c:RpN (x,y,z) P)(a:On b P):RpN (gj M x y z) (ad ivp P P):=by
 refine h.dbl c a rfl ?_ ?_ ?_
 · simp only[gj,wN,bm,uE];rw[show(ph (p:=M) 3)=3 from rfl];grind
 · simp only[gj,wN,bm,uE];rw[show(ph (p:=M) 3)=3 from rfl];grind
 · simp only[gj,wN,bm,uE];grind
theorem Rp.split {X Y Z:Fin M}{P:Pt M}(h:Rp X Y Z P)(a:Z≠0):∃ x y,P=some (x,y)∧X=x*(Z*Z)∧Y=y*(Z*Z*Z):=h.elim (fun e=>absurd e.1 a) (·.2)
theorem zDB (h:Cv ivp b){x1 y1 z1 x2 y2 a:Nat}{P Q:Pt M}(j:RpN (x1,y1,z1) P)(y:RpN (x2,y2,a) Q)(i:On b P)(x:On b Q)(z:¬ z1%M=0)(A:¬ a%M=0):RpN (fG M x1 y1 z1 x2 y2 a) (ad ivp P Q):=by
 have n1:ph (p:=M) z1≠0:=fun e=>z (uD.1 e);have k:ph (p:=M) a≠0:=fun e=>A (uD.1 e);obtain⟨l,m,rfl,o,q⟩:=Rp.split j n1;obtain⟨qx,qy,rfl,r,s⟩:=Rp.split y k;obtain⟨d,n,a3⟩:=h.add (X':=ph (fG M x1 y1 z1 x2 y2 a).1) (Y':=ph (fG M x1 y1 z1 x2 y2 a).2.1) (Z':=ph (fG M x1 y1 z1 x2 y2 a).2.2) n1 k o q r s i x rfl rfl rfl rfl;have c1:∀ u3 u4:Nat,ph (p:=M) u3=ph x1*(ph a*ph a)→ph (p:=M) u4=ph x2*(ph z1*ph z1)→(sm M u4 u3%M=0↔l=qx):=fun u3 u4 t u=>by rw[←d,←t,←u,←uD,uE]
 have f:∀ u6 u8:Nat,ph (p:=M) u6=ph y1*(ph a*ph a*ph a)→ph (p:=M) u8=ph y2*(ph z1*ph z1*ph z1)→(sm M u8 u6%M=0↔m=qy):=fun u6 u8 v w=>by rw[←n,←v,←w,←uD,uE]
 have d1:=c1 (mm M x1 (mm M a a)) (mm M x2 (mm M z1 z1)) (by simp only[wN]) (by simp only[wN]);have d2:=f (mm M y1 (mm M (mm M a a) a)) (mm M y2 (mm M (mm M z1 z1) z1)) (by simp only[wN]) (by simp only[wN]);clear c1 f;by_cases hx:l=qx
 · by_cases hy:m=qy
   · subst hx hy;have e:fG M x1 y1 z1 x2 y2 a=gj M x1 y1 z1:=by
      simp only[fG];rw[qg (d1.2 rfl),qg (d2.2 rfl)]
     rw[e];exact sH h j i
   · subst hx;have e:fG M x1 y1 z1 x2 y2 a=(1,1,0):=by
      simp only[fG];rw[qg (d1.2 rfl),qo (fun g=>hy (d2.1 g))]
     rw[e,zBf hy];exact RpN.zero _ _
 · have c:¬ sm M (mm M x2 (mm M z1 z1)) (mm M x1 (mm M a a))%M=0:=fun g=>hx (d1.1 g);refine a3 (fun g=>hx (d.1 g)) ?_ ?_ ?_
   · simp only[fG];rw[qo c];simp only[wN,bm,uE]
   · simp only[fG];rw[qo c];simp only[wN,bm,uE]
   · simp only[fG];rw[qo c];simp only[wN,uE]
theorem sR (h:Cv ivp b){p q:Nat×Nat×Nat}{P Q:Pt M}(a:RpN p P)(c:RpN q Q)(d:On b P)(e:On b Q):RpN (gL M p q) (ad ivp P Q):=by
 unfold gL aO;by_cases h1:p.2.2%M=0
 · rw[qg h1,a.of_zero h1];exact c
 · rw[qo h1];by_cases h2:q.2.2%M=0
   · rw[qg h2,c.of_zero h2,sS];exact a
   · rw[qo h2];exact zDB h a c d e h1 h2
theorem zCv (h:Cv ivp b){p:Nat×Nat×Nat}{P:Pt M}(c:RpN p P)(a:On b P):RpN (fF M p) (ad ivp P P):=sH h c a
theorem rJ (h:Cv ivp b){p:Nat×Nat×Nat}{P:Pt M}(c:RpN p P)(a:On b P):∀ k,RpN (og M p k) (nm ivp P k)
 | 0=>RpN.zero _ _
 | 1=>c
 | k+2=>sR h (rJ h c a (k+1)) c (h.on_nm a _) a
theorem rY (h:Cv ivp b){p:Nat×Nat×Nat}{P:Pt M}(e:RpN p P)(c:On b P)(E:Nat):∀ k,k≤qD E→∃ a,RpN (kP M p E k).1 (nm ivp P a)∧kT E k=a+(kP M p E k).2
 | 0,_=>⟨0,RpN.zero _ _,by rw[gN];rfl⟩
 | k + 1, hk => by
   obtain⟨a,f,g⟩:=rY h e c E k (by omega);have d:=zCv h f (h.on_nm c a);rw[←h.nm_two c]at d;have i:=uA (E:=E) (k:=k) (by omega);simp only[kP];split
   · refine⟨2*a+(2*(kP M p E k).2+(jw E k).2),?_,?_⟩
     · rw[h.nm_add c];exact sR h d (rJ h e c _) (h.on_nm c _) (h.on_nm c _)
     · show kT E (k+1)=_+0;omega
   · exact⟨2*a,d,by show kT E (k+1)=2*a+(2*(kP M p E k).2+(jw E k).2);omega⟩
theorem zAx (M:Nat)(p:Nat×Nat×Nat)(E:Nat):(kP M p E (qD E)).2=0:=by
 obtain⟨n,a⟩:=eV (qD E);rw[a];match n with
 | 0=>rfl
 | k + 1 =>
   simp only[kP];rw[qg (by show(qD E-1-k)%4=0;rw[a,show k+1-1-k=0 by omega])]
theorem zAw (h:Cv ivp b){p:Nat×Nat×Nat}{P:Pt M}(f:RpN p P)(e:On b P)(E:Nat):RpN (kP M p E (qD E)).1 (nm ivp P E):=by
 obtain⟨a,d,c⟩:=rY h f e E _ (zG _);rw[fL,zAx]at c;obtain rfl:E=a:=c;exact d
theorem zAH (h:Cv ivp b){x y z:Nat}{P:Pt M}(a:RpN (x,y,z) P)(f:On b P)(_hy:y<M)(g:z<M):RpN (twP M x y z) (ad ivp P P)∧(twP M x y z).2.1<M∧(twP M x y z).2.2<M:=by
 unfold twP;have d:0<M:=xx;by_cases h1:z=0
 · rw[qg h1];have:=a.of_zero (by show z%M=0;rw[h1];exact kS _);subst this;exact⟨RpN.zero _ _,d,d⟩
 · rw[qo h1];have n1:ph (p:=M) z≠0:=fun e=>h1 ((pD g).1 e);by_cases h2:y=0
   · exfalso;obtain⟨j,k,rfl,i,c⟩:=Rp.split a n1;have:ph (p:=M) y=0:=by rw[h2];exact ph0
     rw[show ph (x,y,z).2.1=ph (p:=M) y from rfl,this]at c;exact h.nz (h.y0 f) (h.nz (h.nz n1 n1) n1) c.symm
   · rw[qo h2];refine⟨h.dbl a f rfl ?_ ?_ ?_,yQ _ _,kh _ _⟩
     · simp only[wN,bm,uE];rw[show(ph (p:=M) 3)=3 from rfl,show(ph (p:=M) 4)=4 from rfl];grind
     · simp only[wN,bm,uE];rw[show(ph (p:=M) 3)=3 from rfl,show(ph (p:=M) 4)=4 from rfl,show(ph (p:=M) 8)=8 from rfl]
     · simp only[wN];rw[show(ph (p:=M) 2)=2 from rfl];grind
theorem zCg (h:Cv ivp b){x y z qx qy:Nat}{P:Pt M}(j:RpN (x,y,z) P)(l:On b P)(s:Oc b (ph qx) (ph qy))(w:y<M)(n:z<M)(t:qy<M)(r:1<M):RpN (uP M x y z qx qy) (ad ivp P (some (ph qx,ph qy)))∧(uP M x y z qx qy).2.1<M∧(uP M x y z qx qy).2.2<M:=by
 have k:0<M:=xx;unfold uP;by_cases h1:z=0
 · rw[qg h1];have:=j.of_zero (by show z%M=0;rw[h1];exact kS _);subst this;exact⟨Rp.up h.one _ _,t,r⟩
 · rw[qo h1];have n1:ph (p:=M) z≠0:=fun e=>h1 ((pD n).1 e);obtain⟨o,q,rfl,d,f⟩:=Rp.split j n1;have c0:∀ u v:Nat,(sm M u v=0↔ph (p:=M) u-ph v=0):=fun u v=>by rw[←uE,pD (yQ u v)]
   obtain⟨a,c,a3⟩:=h.add (X1:=ph x) (Y1:=ph y) (Z1:=ph z) (X2:=ph qx) (Y2:=ph qy) (Z2:=1) (x2:=ph qx) (y2:=ph qy) (X':=ph (uP M x y z qx qy).1) (Y':=ph (uP M x y z qx qy).2.1) (Z':=ph (uP M x y z qx qy).2.2) n1 h.one d f (by grind) (by grind) l s rfl rfl rfl rfl;have d1:sm M (mm M qx (mm M z z)) x=0↔o=ph qx:=by
    rw[←a,c0];simp only[wN];rw[show ph (p:=M) x*(1*1)=ph x by grind]
   have d2:sm M (mm M qy (mm M (mm M z z) z)) y=0↔q=ph qy:=by
    rw[←c,c0];simp only[wN];rw[show ph (p:=M) y*(1*1*1)=ph y by grind]
   simp only;by_cases hx:o=ph qx
   · rw[qg (d1.2 hx)];by_cases hyy:q=ph qy
     · rw[qg (d2.2 hyy)];subst hx hyy;exact zAH h j l w n
     · rw[qo (fun g=>hyy (d2.1 g))];subst hx;rw[zBf hyy];exact⟨RpN.zero _ _,k,k⟩
   · have m:¬ sm M (mm M qx (mm M z z)) x=0:=fun g=>hx (d1.1 g);rw[qo m];refine⟨?_,yQ _ _,kh _ _⟩
     have i:uP M x y z qx qy=(sm M (sm M (sm M (mm M (sm M (mm M qy (mm M (mm M z z) z)) y) (sm M (mm M qy (mm M (mm M z z) z)) y)) (mm M (mm M (sm M (mm M qx (mm M z z)) x) (sm M (mm M qx (mm M z z)) x)) (sm M (mm M qx (mm M z z)) x))) (mm M x (mm M (sm M (mm M qx (mm M z z)) x) (sm M (mm M qx (mm M z z)) x)))) (mm M x (mm M (sm M (mm M qx (mm M z z)) x) (sm M (mm M qx (mm M z z)) x))),
      sm M (mm M (sm M (mm M qy (mm M (mm M z z) z)) y) (sm M (mm M x (mm M (sm M (mm M qx (mm M z z)) x) (sm M (mm M qx (mm M z z)) x))) (sm M (sm M (sm M (mm M (sm M (mm M qy (mm M (mm M z z) z)) y) (sm M (mm M qy (mm M (mm M z z) z)) y)) (mm M (mm M (sm M (mm M qx (mm M z z)) x) (sm M (mm M qx (mm M z z)) x)) (sm M (mm M qx (mm M z z)) x))) (mm M x (mm M (sm M (mm M qx (mm M z z)) x) (sm M (mm M qx (mm M z z)) x)))) (mm M x (mm M (sm M (mm M qx (mm M z z)) x) (sm M (mm M qx (mm M z z)) x)))))) (mm M y (mm M (mm M (sm M (mm M qx (mm M z z)) x) (sm M (mm M qx (mm M z z)) x)) (sm M (mm M qx (mm M z z)) x))),mm M z (sm M (mm M qx (mm M z z)) x)):=by
      unfold uP;rw[qo h1];simp only;rw[qo m]
     rw[i]at a3;refine a3 (fun g=>hx (a.1 g)) ?_ ?_ ?_
     · simp only[wN,uE];clear a c a3 d1 d2 d f i;grind
     · simp only[wN,uE];clear a c a3 d1 d2 d f i;grind
     · simp only[wN,uE];clear a c a3 d1 d2 d f i;grind
theorem zAW (h:Cv ivp b){qx qy:Nat}(c:Oc b (ph qx) (ph qy))(f:qy<M)(e:1<M)(E:Nat):∀ k,k≤qD E→RpN (M:=M) (rmS M qx qy E k) (nm ivp (some (ph qx,ph qy)) (kT E k))∧(rmS M qx qy E k).2.1<M∧(rmS M qx qy E k).2.2<M
 | 0,_=>⟨by rw[gN];exact RpN.zero _ _,xx,xx⟩
 | k + 1, hk => by
   obtain⟨g1,i,j⟩:=zAW h c f e E k (by omega);have a:On b (some (ph qx,ph qy)):=c;obtain⟨d1,d2,d⟩:=zAH h g1 (h.on_nm a _) i j;rw[←h.nm_two a]at d1;have g:=uA (E:=E) (k:=k) (by omega);have l:(jw E k).2<2:=qP _ (by omega);simp only[rmS];split
   · rename_i hb1;rw[g,hb1];exact zCg h d1 (h.on_nm a _) c d2 d f e
   · rename_i hb1;rw[g,show(jw E k).2=0 by omega];exact⟨d1,d2,d⟩
def zAu (P:Pt M):Option (Nat×Nat):=P.map fun q=>(q.1.val,q.2.val)
def toP (a:Bool) (x y:Nat):Pt M:=if a then none else some (ph x,ph y)
omit [NeZero M]in
theorem zEK {z:Nat}(a:¬ z%M=0):¬ M∣z:=fun h=>a (Nat.mod_eq_zero_of_dvd h)
theorem zBP (g:Pm.jK M){J:Nat×Nat×Nat}{P:Pt M}(a:RpN J P):uI M J=zAu P:=by
 unfold uI aK;by_cases h1:J.2.2%M=0
 · rw[qg h1,a.of_zero h1];rfl
 · rw[qo h1];have n1:ph (p:=M) J.2.2≠0:=fun e=>h1 (uD.1 e);obtain⟨x,y,rfl,-,-⟩:=Rp.split a n1;have h:ph (p:=M) J.2.2*ph (J.2.2 ^(M-2))=1:=by
    have:=Pm.rm g (zEK h1);rw[←wP (J.2.2 ^(M-2)),←ut,←wP (J.2.2*_),this];exact ph1
   obtain⟨b,c⟩:=Rp.back a h;show some (_,_)=some (x.val,y.val);have d:ph (p:=M) (mm M J.1 (mm M (J.2.2 ^(M-2)) (J.2.2 ^(M-2))))=x:=by simp only[wN];exact b
   have f:ph (p:=M) (mm M J.2.1 (mm M (mm M (J.2.2 ^(M-2)) (J.2.2 ^(M-2))) (J.2.2 ^(M-2))))=y:=by simp only[wN];exact c
   rw[←d,←f,xH,xH]
theorem pR (x:Nat):∀(n r s t u:Nat),s≤n→ph (p:=M) r=ph t*ph x→ph (p:=M) s=ph u*ph x→(jt M r s t u).1=Nat.gcd r s∧ph (p:=M) (jt M r s t u).1=ph (jt M r s t u).2*ph x:=by
 intro n;induction n with
 | zero =>
   intro r s t u g a b;obtain rfl:s=0:=by omega
   rw[vV,Nat.gcd_zero_right];exact⟨rfl,a⟩
 | succ n ih =>
   intro r s t u g a b;rcases za s with rfl|e
   · rw[vV,Nat.gcd_zero_right];exact⟨rfl,a⟩
   · rw[xL (by omega)];have f:ph (p:=M) (r%s)=ph ((t+M-r/s*u%M)%M)*ph x:=by
       have c:=jj r s;have h:ph (p:=M) r=ph s*ph (r/s)+ph (r%s):=by rw[←ut,←uu,c]
       rw[wP,bk (by have:=qP (r/s*u) (xx (p:=M));omega),uu,gy,wP,ut];clear ih c;grind
     obtain⟨g1,d⟩:=ih s (r%s) u _ (by have:=qP r e;omega) b f;refine⟨?_,d⟩;rw[g1,Nat.gcd_comm r s];rw[Nat.gcd_comm s (r%s),←Nat.gcd_rec]
theorem zEQ (d:Pm.jK M){z:Nat}(e:¬ z%M=0):ph (p:=M) z*ph (ws z M).1=1:=by
 obtain⟨g1,a⟩:=pR (M:=M) z (z%M) M (z%M) 0 1 (zG _) (by rw[gy,ph0];grind) (by rw[wP,ph1];grind);have c:Nat.gcd M (z%M)=1:=d.coprime (fun b=>e (by have:=Nat.eq_zero_of_dvd_of_lt b (qP _ xx);exact this));rw[c]at g1;unfold ws;rw[qg g1];rw[g1,ph1]at a;show ph z*ph (jt M M (z%M) 0 1).2=1;rw[a];grind
theorem zAb (i:Pm.jK M){J:Nat×Nat×Nat}{P:Pt M}(a:RpN J P)(j:J.2.2<M):cJ M J.1 J.2.1 J.2.2=zAu P:=by
 unfold cJ;by_cases h1:J.2.2=0
 · rw[qg h1,a.of_zero (by rw[h1];exact kS _)];rfl
 · rw[qo h1];have n0:¬ J.2.2%M=0:=by rwa [qF j]
   have n1:ph (p:=M) J.2.2≠0:=fun e=>n0 (uD.1 e);obtain⟨x,y,rfl,-,-⟩:=Rp.split a n1;have b:=zEQ i n0;obtain⟨iv,h⟩:=eV ((ws J.2.2 M).1);rw[h]at b ⊢;obtain⟨c,d⟩:=Rp.back a b;show some (_,_)=some (x.val,y.val);have f:ph (p:=M) (mm M J.1 (mm M iv iv))=x:=by simp only[wN];exact c
   have g:ph (p:=M) (mm M J.2.1 (mm M (mm M iv iv) iv))=y:=by simp only[wN];exact d
   have f1:=congrArg Fin.val f;have f2:=congrArg Fin.val g;rw[xH,qF (kh _ _)]at f1 f2;rw[←f1,←f2]
theorem zDc (b:(1:Fin M)≠0)(a:Bool)(x y:Nat):RpN (M:=M) (upP a x y) (toP a x y):=by
 cases a
 · exact Rp.up b _ _
 · exact RpN.zero _ _
theorem zEI (d:Pm.jK M)(h:Cv ivp b){a:Bool}{x y:Nat}(c:On b (toP a x y))(E:Nat):uI M (kP M (upP a x y) E (qD E)).1=zAu (M:=M) (nm ivp (toP a x y) E) :=
 zBP d (zAw h (zDc h.one a x y) c E)
theorem zCa (n:Nat):nm ivp (none:Pt M) n=none:=by
 induction n with
 | zero=>rfl
 | succ n ih=>show ad ivp (nm ivp none n) none=none;rw[ih];rfl
theorem zB5 (d:Pm.jK M)(h:Cv ivp b){a:Bool}{x y:Nat}(f:On b (toP a x y))(g:a=false→y<M)(E:Nat):fJ M a x y E=zAu (M:=M) (nm ivp (toP a x y) E):=by
 unfold fJ;cases a
 · obtain⟨c,i,e⟩:=zAW h f (g rfl) d.two E _ (zG _);rw[fL]at c;exact zAb d c e
 · show none=zAu (nm ivp none E);rw[zCa];rfl
theorem zD9 {bb:Nat}(a:b=ph bb){x y:Nat}(h:onB M bb x y=true):Oc b (ph x) (ph y):=by
 unfold onB at h;rw[jp,jp]at h;have e:=congrArg (ph (p:=M)) (xA h.2);rw[wP,ut,wP,uu,wP,bk (by have:=qP (3*x) (xx (p:=M));omega),uu,gy,wP,ut,wP,ut,wP,ut]at e;rw[show(ph (p:=M) 3)=3 from rfl]at e;unfold Oc;rw[e,a];grind
theorem zD8 {bb:Nat}(c:b=ph bb){a:Bool}{x y:Nat}(h:a=false→onB M bb x y=true):On b (toP a x y):=by
 cases a
 · exact zD9 c (h rfl)
 · trivial
end
end Gl
end Go.Proofs.YtaemogcomplhiaaGreatDoor
namespace Go.Proofs.YtaemogcomplhiaaGreatDoor
open Gl
theorem IsC.cv {c:Int}{C:Crv}(h:IsC c C):∃ _:NeZero C.M,Pm.jK C.M∧Cv (p:=C.M) ivp (ph C.bb):=by
 rcases h with⟨_,rfl⟩|⟨_,rfl⟩
 · have e:vH.M=115792089210356248762697446949407573530086143415290314195533631308867097853951:=by decide +kernel
   have a:vH.bb=41058363725152142129326129780047268409114441015993725554835256314039467401291:=by decide +kernel
   rw[e,a];exact⟨⟨by decide⟩,Pm.p256,zDU Pm.p256 (by decide) zB3⟩
 · have e:tf.M=39402006196394479212279040100143613805079739270465446667948293404245721771496870329047266088258938001861606973112319:=by decide +kernel
   have a:tf.bb=27580193559959705877849011840389048093056905856361568521428707301988689241309860865136260764883745107765439761230575:=by decide +kernel
   rw[e,a];exact⟨⟨by decide⟩,Pm.p384,zDU Pm.p384 (by decide) zB2⟩
theorem zCT {C:Crv}{a:Bool}{x y:Nat}(b:onQ C a x y=true):a=false→onB C.M C.bb x y=true:=by
 rintro rfl;exact b
theorem aw {c:Int}{C:Crv}(i:IsC c C){a:Bool}{x y E:Nat}(f:onQ C a x y=true)(j:qD E≤4096):uO C a x y E=some (fJ C.M a x y E):=by
 obtain⟨_,g,h⟩:=i.cv;have d:=zCT f;have e:=zD8 (M:=C.M) (b:=ph C.bb) rfl d;unfold uO;rw[qg f,qg j,zEI g h e,zB5 g h e (fun k=>(zAn (d k)).2)]
end Go.Proofs.YtaemogcomplhiaaGreatDoor
namespace Go.Proofs.YtaemogcomplhiaaGreatDoor
open Go.RowKit
def Apart (A B:Option Addr) (m n:Nat):Prop:=∀ a b,A=some a→B=some b→0<m→0<n→a.block<b.block
theorem OB.apart {X Y:World}{base:Nat}{A B:Option Addr}{c d:Nat}{l m:List Nat}(h:OB X base A c l)(k:OB Y X.heap.size B d m):Apart A B l.length m.length:=by
 intro a b i j n o;obtain⟨g,r,e,_,p,_⟩:=h.2.2.2 n;obtain⟨t,s,f,q,_,_⟩:=k.2.2.2 o;rw[i]at e;rw[j]at f;injection e with e;injection f with f
 subst e f;exact zH (qd p) q
theorem OB.ext {X Y:World}{base:Nat}{A:Option Addr}{c:Nat}{l:List Nat}(h:OB X base A c l)(a:Ext X Y):OB Y base A c l:=h.below a (zG _)
end Go.Proofs.YtaemogcomplhiaaGreatDoor
namespace Go.Proofs.YtaemogcomplhiaaGreatDoor.Ec
open Go.RowKit Go.Shelf
attribute [local go_sem] Oper.semAt_some
theorem zDP (P:Nat→Prop)(A:Option Addr)(c:Nat)(l:List Nat){t:List Nat}{n m:Nat}(w:World)(h:RL w P A c l)(g:l.length=n)(i:l.take 6=t)(f:t.length=m) :
 Calls Tryz.prog 8 #[.slice A n c] w fun e w'=>∃ a c1,e=.returned (.slice a m c1)∧RU w' a c1 t∧Ext w w':=by
 have b:=zCw P A c l 6 w h (by omega)
 rw[i,g,f]at b
 have d:=zF b
 clear b h g i f
 go_enter Tryz.func8,Tryz.ntmps8
 go_wp2_with fail
 refine d.out.mono ?_
 rintro e w2 ⟨a,c1,rfl,o,E⟩
 have k:=zF o
 have j:=zF E
 clear o E d
 go_wp2
 go_ret
 exact⟨a,c1,rfl,k.out.ru,j.out⟩
theorem zBD {A:Option Addr}{c n x b:Nat}{l:List Nat}(w:World)(h:RU w A c l)(g:l.length=n)(d:n<100000)(i:val 18446744073709551616 l=x)(f:(digs 4294967296 x).length=b) :
 Calls Tryz.prog 13 #[.slice A n c] w fun e w'=>∃ a c1,e=.returned (.slice a b c1)∧RU w' a c1 (digs 4294967296 x)∧Ext w w':=by
 subst g i f
 refine(vY _ A c l w h (fun _ h=>h) d).mono ?_
 rintro e w' ⟨a,c1,rfl,o,E⟩
 exact⟨a,c1,rfl,o.ru,E⟩
theorem rR {C:Crv}{v:Value}{x y c ly:Nat}(w:World)(g:RC w C v)(j:val 18446744073709551616 C.xl=x)(k:val 18446744073709551616 C.yl=y)(h:(digs 4294967296 x).length=c)(i:(digs 4294967296 y).length=ly) :
 Calls Tryz.prog 17 #[v] w fun e w'=>∃ A a B b,e=.returned (.agg #[.bool false,.slice A c a,.slice B ly b])∧RU w' A a (digs 4294967296 x)∧RU w' B b (digs 4294967296 y)∧Ext w w':=by
 subst h i j k
 refine(zCH w g).mono ?_
 rintro e w' ⟨o,rfl,⟨A,B,a,b,rfl,d,f⟩,E⟩
 exact⟨A,a,B,b,rfl,d,f,E⟩
theorem zEL {C:Crv}{x:Nat}(h:vX C x=true):0<x∧x<val 18446744073709551616 C.nl:=by
 unfold vX at h;rw[jp]at h;exact⟨xA h.1,xA h.2⟩
theorem oF {c:Int}{C:Crv}(d:IsC c C){x:Nat}(h:vX C x=true):qD x≤4096:=by
 have a:=zEL h;have b:val 18446744073709551616 C.nl<2^4096:=by
  rcases d with⟨_,rfl⟩|⟨_,rfl⟩<;>decide +kernel
 exact aB (Nat.lt_trans a.2 b)
end Go.Proofs.YtaemogcomplhiaaGreatDoor.Ec
namespace Go.Proofs.YtaemogcomplhiaaGreatDoor.Ec
open Go.RowKit Go.Shelf
open Sha
attribute [local go_sem] Oper.semAt_some
theorem nQ {c:Int}{C:Crv}(hC:IsC c C){b x l:Nat}{k v:List Nat}{num:Int}{S:Option (Nat×Nat)}(w:World)(hd:ER w b k v num)(hn:0≤num)(aA:num<1000000000)(hx:yR C k v=x)(al:(digs 4294967296 x).length=l)(ho:onQ C false (val 18446744073709551616 C.xl) (val 18446744073709551616 C.yl)=true)(hS:fJ C.M false (val 18446744073709551616 C.xl) (val 18446744073709551616 C.yl) x=S) :
 Calls Tryz.prog 18 #[.int .i64 c,.pointer (some ⟨b,0,none⟩)] w fun e w'=>∃ U c1 p,e=.returned (.tuple #[.slice U l c1,p])∧RU w' U c1 (digs 4294967296 x)∧RPv w' p S.isNone (S.elim 0 (·.1)) (S.elim 0 (·.2))∧Fr b w.heap.size w w':=by
 obtain⟨R,ap⟩:=eV (val 18446744073709551616 C.xl)
 obtain⟨T,aq⟩:=eV (val 18446744073709551616 C.yl)
 obtain⟨bx,ai⟩:=eV ((digs 4294967296 R).length)
 obtain⟨bY,aj⟩:=eV ((digs 4294967296 T).length)
 obtain⟨t,ht⟩:=eV C.size
 obtain⟨sb,aE⟩:=eV S.isNone
 obtain⟨d1,aw⟩:=eV (S.elim 0 (·.1))
 obtain⟨d2,ax⟩:=eV (S.elim 0 (·.2))
 rw[ap,aq]at hS ho
 have ah:=fun X cs A' c' U c1 g c2 (hc:RC X C (.agg cs)) (h:RU X A' c' (digs 4294967296 x)) (y:RU X U c1 (digs 4294967296 R)) (D:RU X g c2 (digs 4294967296 T))=>zAU hC X hc h y D ho al ai aj hS
 rw[aE,aw,ax]at ah ⊢
 have aF:=zF ah
 obtain⟨W0,q,aJ,hq,aB,ag⟩:=om (w:=w) (b:=false) (p1:=.slice none 0 0) (p2:=.slice none 0 0)
 have ar:=zF (mR hC W0)
 have HC:=zF hC
 have HD:=zF (hd.ext ag)
 have av:=zF hd.lt
 have Z:=zF (And.intro hn (And.intro aA (And.intro hx al)))
 have HB:=zF (And.intro ap (And.intro aq (And.intro ai aj)))
 have Ht:=zF ht
 have ab:=zF ag
 have Hq:=zF hq
 clear ap aq ai aj ht aE aw ax hC hd hn aA hx al ho hS ag ah
 go_enter Tryz.func18,Tryz.ntmps18
 go_upto_region 1 with fail
 clear aJ hq
 go_wp2_with fail
 refine ar.out.mono ?_
 rintro e w1 ⟨cv,rfl,ao,V⟩
 obtain⟨m,L,F,n,N,G,r,O,H,s,P,I,u,Q,J,rfl⟩:=ba ao Ht.out
 obtain⟨w2,g2,aM,az,am,g⟩:=mS (w:=w1) (x0:=.slice m L F) (x1:=.slice n N G) (x2:=.slice r O H) (x3:=.slice s P I) (x4:=.slice u Q J) (x5:=.int .i64 (t:Int))
 have aC:=(V.trans g).at_ aB
 have W:=zF (V.trans g)
 have ad:=zF (ao.ext g)
 have aG:=zF (show b<g2 from by rw[←az];have:=V.bsize;have:=ab.out.bsize;have:=av.out;omega)
 clear V g ao aB ar
 go_upto_region 2 with fail
 clear aM az
 have H3:=zF (zAT HC.out w2 ad.out (HD.out.ext W.out) Z.out.1 Z.out.2.1 Z.out.2.2.1 Z.out.2.2.2)
 have af:=zF aC
 have ae:=zF am
 obtain⟨z0,z1,z2,z3,z4,z5⟩:=zAO am
 clear aC am
 go_wp2_with fail
 refine H3.out.mono ?_
 rintro e w3 ⟨i,c3,rfl,r3,f3⟩
 have an:=f3.at_ (qd af.out) (by have:=av.out;have:=Hq.out;omega) af.out
 have ak:=f3.at_ (qd ae.out) (by have:=aG.out;omega) ae.out
 have aD:=zCF (base:=0) ad.out f3 ⟨_,_,_,HD.out.ext W.out⟩
 have ay:=(jc (b:=b) (ab.out.trans W.out) (zG _)).trans (f3.mono (ab.out.trans W.out).bsize)
 have ac:=zF ay
 have R3:=zF r3
 have au:=zF aD
 clear r3 f3 ay aD H3 ad af ae HD z0 z1 z2 z3 z4 z5
 go_upto_region 3 with fail
 refine zZ (by kernel_rfl) 6 [0,0,0,0,8,30,63,127] [] (fun j f X=>match j with
  | 0=>f 0=.slice i l c3
  | 1=>f 1=.agg #[.slice m L F,.slice n N G,.slice r O H,.slice s P I,.slice u Q J,.int .i64 (t:Int)]
  | 2=>f 2=.slice i l c3
  | 3=>f 3=.agg #[.slice m L F,.slice n N G,.slice r O H,.slice s P I,.slice u Q J,.int .i64 (t:Int)]
  | 4=>∃ A a B b,f 4=.agg #[.bool false,.slice A bx a,.slice B bY b]∧RU X A a (digs 4294967296 R)∧RU X B b (digs 4294967296 T)
  | 5=>∃ A a B b,f 5=.agg #[.bool sb,.slice A (digs 4294967296 d1).length a,.slice B (digs 4294967296 d2).length b]∧RU X A a (digs 4294967296 d1)∧RU X B b (digs 4294967296 d2)
  | _=>True) (by kernel_rfl) [(13,0),(14,1),(15,2),(16,3),(17,4),(18,5)] (by kernel_rfl) ?_
 refine zJ 1 5 ?_
 refine lV0 2 4 ak jG ?_
 refine zJ 3 3 ?_
 refine lV0 4 2 ak jG ?_
 refine qK 5 1 (fun f=>#[f 3]) (F':=17) (fun f X d hR=>?_) ?_
 · have e3:f 3=.agg #[.slice m L F,.slice n N G,.slice r O H,.slice s P I,.slice u Q J,.int .i64 (t:Int)]:=hR.out 3 rfl;simp only[e3];refine(rR X (au.out.ext d) HB.out.1 HB.out.2.1 HB.out.2.2.1 HB.out.2.2.2).mono ?_;rintro e w2 ⟨A,a,B,b,rfl,y,D,hB⟩;exact⟨(.agg #[.bool false,.slice A bx a,.slice B bY b]),rfl,hB,fun Y E=>⟨A,a,B,b,rfl,zN y E,zN D E⟩⟩
 refine qK 6 0 (fun f=>#[f 1,f 2,f 4]) (F':=16) (fun f X d hR=>?_) ?_
 · have e1:f 1=.agg #[.slice m L F,.slice n N G,.slice r O H,.slice s P I,.slice u Q J,.int .i64 (t:Int)]:=hR.out 1 rfl;have e2:f 2=.slice i l c3:=hR.out 2 rfl;obtain⟨D4,a4,F4,b4,e4,r4,s4⟩:∃ A a B b,f 4=.agg #[.bool false,.slice A bx a,.slice B bY b]∧RU X A a (digs 4294967296 R)∧RU X B b (digs 4294967296 T):=hR.out 4 rfl;simp only[e1,e2,e4];refine(aF.out X _ i c3 D4 a4 F4 b4 (au.out.ext d) (zN R3.out d) r4 s4).mono ?_;rintro e w2 ⟨o,rfl,⟨A,B,a,b,rfl,y,D⟩,hB⟩;exact⟨(.agg #[.bool sb,.slice A (digs 4294967296 d1).length a,.slice B (digs 4294967296 d2).length b]),rfl,hB,fun Y E=>⟨A,a,B,b,rfl,zN y E,zN D E⟩⟩
 refine yF ⟨fun f X d hR aK aL=>?_⟩
 have e0:f 0=.slice i l c3:=hR 0 (by decide)
 obtain⟨D4,a4,F4,b4,e4,r4,s4⟩:∃ A a B b,f 4=.agg #[.bool false,.slice A bx a,.slice B bY b]∧RU X A a (digs 4294967296 R)∧RU X B b (digs 4294967296 T):=hR 4 (by decide)
 obtain⟨D5,a5,F5,b5,e5,r5,s5⟩:∃ A a B b,f 5=.agg #[.bool sb,.slice A (digs 4294967296 d1).length a,.slice B (digs 4294967296 d2).length b]∧RU X A a (digs 4294967296 d1)∧RU X B b (digs 4294967296 d2):=hR 5 (by decide)
 simp only[Par.vE,Act.put,jn,List.set_cons_succ,vQ,e0,e4,e5]
 clear hR aK aL e0 e4 e5
 refine zO (fun K hK=>⟨zU (by kernel_rfl) ?_⟩)
 go_simp
 refine hK.out _ _ ?_
 refine zO (fun K hK=>⟨zU (by kernel_rfl) (jX (cs':=#[.bool sb,.slice D5 (digs 4294967296 d1).length a5,.slice F5 (digs 4294967296 d2).length b5]) (t:=45) 45 (.tmp 5) (.tmp 18) rfl rfl rfl rfl (d.at_ an) di rfl (ur _ _ _ _ _ _ _) (fun Y1 aH z aI=>hK.out _ _ ?_))⟩)
 refine zI ?_
 have aa:=d.at_ an
 have HY:=zF (And.intro (RN.offJ (zN R3.out d) z aa (by kernel_rfl)) (And.intro (RN.offJ r5 z aa (by kernel_rfl)) (RN.offJ s5 z aa (by kernel_rfl))))
 have HF:=zF (ac.out.trans ((jc (b:=b) d ac.out.size).trans (Fr.justTo (b:=b) z (by rw[Hq.out];exact zG _) (zK ac.out.size d.bsize))))
 clear r4 s4 r5 s5 d aa z aI an ak
 go_wp2
 try rw[uU]
 exact zEW rfl rfl rfl rfl aH ⟨i,c3,_,rfl,HY.out.1,⟨D5,F5,a5,b5,rfl,HY.out.2.1,HY.out.2.2⟩,HF.out⟩
end Go.Proofs.YtaemogcomplhiaaGreatDoor.Ec
namespace Go.Proofs.YtaemogcomplhiaaGreatDoor
theorem IsC.base_on {c:Int}{C:Crv}(h:IsC c C):onQ C false (val 18446744073709551616 C.xl) (val 18446744073709551616 C.yl)=true:=by
 rcases h with⟨_,rfl⟩|⟨_,rfl⟩<;>kernel_rfl
end Go.Proofs.YtaemogcomplhiaaGreatDoor
namespace Go.Proofs.YtaemogcomplhiaaGreatDoor.Ec
open Go.RowKit Go.Shelf
open Sha
attribute [local go_sem] Oper.semAt_some
theorem zAX {a:Bool}{x y:Nat}{p r:Value}(w:World)(b:APn w p a (digs 18446744073709551616 x) (digs 18446744073709551616 y))(c:RPv w r a x y):Calls Tryz.prog 15 #[p,r] w fun e w'=>e=.returned (.bool true)∧Ext w w':=by
 have h:=ris_n w b c;rw[qm rfl,qm rfl,beq_self_eq_true]at h;exact h
theorem rM {P:Nat→Prop}{A:Option Addr}{c n m:Nat}{bs a:List Nat}(w:World)(h:RB w P A c bs)(d:bs.length=n)(f:bs.take 40=a)(b:a.length=m) :
 Calls Tryz.prog 7 #[.slice A n c,.int .i64 40] w fun e w'=>(∃ c',e=.returned (.slice A m c')∧RB w P A c' a)∧w=w':=by
 subst d f b
 exact si P A c bs 40 w h (by omega)
theorem tR {c:Int}{C:Crv}(Q:IsC c C){P:Nat→Prop}{A B:Option Addr}{ca cb:Nat}{bs l:List Nat}(w:World)(hk:KW w)(hb:RB w P A ca bs)(hl:RL w P B cb l)(hP:∀ q,P q→q<w.heap.size) :
 Calls Tryz.prog 3 #[.int .i64 c,.slice A bs.length ca,.slice B l.length cb] w fun e w'=>e=.returned (.bool true)∧Ext w w':=by
 obtain⟨us,bb⟩:=eV (bs.take 40)
 obtain⟨nu,a2⟩:=eV us.length
 obtain⟨nb,a1⟩:=eV bs.length
 obtain⟨ll,aY⟩:=eV l.length
 obtain⟨ky,aV⟩:=eV (l.take 6)
 obtain⟨n3,ay⟩:=eV ky.length
 have bD:us.length≤200000:=by rw[←bb,zh];omega
 have bz:n3<100000:=by rw[←ay,←aV,zh];omega
 obtain⟨y,bI⟩:=eV (val 18446744073709551616 ky)
 obtain⟨my,bC⟩:=eV ((digs 4294967296 y).length)
 obtain⟨x,hx⟩:=eV (yR C (yH us).1 (yH us).2)
 obtain⟨mx,bB⟩:=eV ((digs 4294967296 x).length)
 obtain⟨px,bF⟩:=eV ((digs 18446744073709551616 x).length)
 have az:=Q.base_on
 have bA:vX C x=true:=by rw[←hx];exact ap Q _ _
 have aO:=aw Q az (oF Q bA)
 obtain⟨S,hS⟩:=eV (fJ C.M false (val 18446744073709551616 C.xl) (val 18446744073709551616 C.yl) x)
 rw[hS]at aO
 obtain⟨T,hT⟩:=eV (fJ C.M false (val 18446744073709551616 C.xl) (val 18446744073709551616 C.yl) y)
 obtain⟨m,hm⟩:=eV (vX C y)
 have bE:cX C y=if m=true then some T else none:=by
  unfold cX;rw[hm];split
  · rename_i h;rw[aw Q az (oF Q (hm.trans h)),hT]
  · rfl
 obtain⟨t,ht⟩:=eV C.size
 have bS:((t:Int)==0)=false:=by
  have:=Q.fine.pos;simp;omega
 have bh:=zF (cS w hk)
 have br:=zF (fun X (d:Ext w X)=>rM X (hb.below d hP) a1 bb a2)
 have aK:=zF (fun X (d:Ext w X) (q:Nat) (hq:P q)=>zH (hP q hq) d.bsize)
 have bk:=zF (fun X (d:Ext w X)=>zDP P B cb l X (hl.below d hP) aY aV ay)
 rw[a1,aY]
 have U:=zF Q
 have HK:=zF hk
 have O:=zF (And.intro ay (And.intro bz (And.intro bI bC)))
 have k:=zF (And.intro hx (And.intro aO (And.intro hS (And.intro bB bF))))
 have ar:=zF (And.intro bE (And.intro hm hT))
 have ae:=zF (And.intro a2 bD)
 have Ht:=zF ht
 have aG:=zF az
 clear Q hk hb hl hP bb a2 a1 aY aV ay bD bz bI bC hx bB bF az bA aO hS hT hm bE ht
 go_enter Tryz.func3,Tryz.ntmps3
 go_wp2_with fail
 refine bh.out.mono ?_
 rintro e w1 ⟨rfl,E1⟩
 have af:=zF E1
 clear E1 bh
 have bq:=zF (br.out w1 af.out)
 clear br
 go_wp2_with fail
 refine bq.out.mono ?_
 rintro e bT ⟨⟨cu,rfl,ru⟩,rfl⟩
 have bp:=zF ru
 have bj:=zF (bk.out w1 af.out)
 clear ru bq bk
 go_wp2_with fail
 refine bj.out.mono ?_
 rintro e w2 ⟨A2,c2,rfl,r2,D⟩
 have aF:=zF (af.out.trans D)
 have i:=zF (fun X (d:Ext w2 X)=>bp.out.below (D.trans d) (aK.out w1 af.out))
 have bo:=zF (fun X (d:Ext w2 X)=>aK.out X (aF.out.trans d))
 have HS:=zF (fun X (d:Ext w2 X)=>zN r2 d)
 have bn:=zF (mR U.out w2)
 clear r2 D af bj bp aK
 go_wp2_with fail
 refine bn.out.mono ?_
 rintro e w3 ⟨cv,rfl,a5,E3⟩
 obtain⟨B1,l1,k1,B2,l2,k2,B3,l3,k3,B4,l4,k4,B5,l5,k5,rfl⟩:=ba a5 Ht.out
 obtain⟨w4,g4,bQ,bO,bG,A4⟩:=mS (w:=w3) (x0:=.slice B1 l1 k1) (x1:=.slice B2 l2 k2) (x2:=.slice B3 l3 k3) (x3:=.slice B4 l4 k4) (x4:=.slice B5 l5 k5) (x5:=.int .i64 (t:Int))
 have ao:=zF (aF.out.trans (E3.trans A4))
 have bH:=a5.ext A4
 replace HS:=zF (fun X (d:Ext w4 X)=>And.intro (Ext.at_ d bG) (And.intro (bH.ext d) (HS.out X (E3.trans (A4.trans d)))))
 replace i:=zF (fun X (d:Ext w4 X)=>And.intro (i.out X (E3.trans (A4.trans d))) (bo.out X (E3.trans (A4.trans d))))
 clear a5 bH bG E3 A4 aF bn bo
 go_upto_region 4 with fail
 clear bQ bO
 have a3:=ma w4 (HK.out.ext ao.out) (i.out w4 (zT _)).1 (i.out w4 (zT _)).2 ae.out.2
 rw[ae.out.1]at a3
 have bm:=zF a3
 clear a3
 go_wp2_with fail
 refine bm.out.mono ?_
 rintro e w5 ⟨b,rfl,bu,bv,I⟩
 have h6:=zDQ U.out w5 (HK.out.ext (ao.out.trans I)) bv (by omega) (by omega) k.out.1 k.out.2.1
 rw[k.out.2.2.2.2]at h6
 obtain⟨G,a6⟩:=eV S.isNone
 obtain⟨d1,aS⟩:=eV (S.elim 0 (·.1))
 obtain⟨d2,aT⟩:=eV (S.elim 0 (·.2))
 obtain⟨ld1,aW⟩:=eV ((digs 18446744073709551616 d1).length)
 obtain⟨bg,aX⟩:=eV ((digs 18446744073709551616 d2).length)
 rw[a6,aS,aT,aW,aX]at h6
 have H6:=zF h6
 have H:=zF (And.intro a6 (And.intro aS (And.intro aT (And.intro aW aX))))
 have av:=zF (And.intro bu I)
 clear h6 a6 aS aT aW aX bu bv I bm
 go_wp2_with fail
 refine H6.out.mono ?_
 rintro e w6 ⟨P1,p1,P2,p2,P3,p3,rfl,o1,o2,o3,-,f6⟩
 have an:=f6.ext' av.out.2 av.out.1 av.out.2.bsize
 obtain⟨w7,g7,bR,bP,Z,A7⟩:=bf (w:=w6) (b:=G) (p1:=.slice P2 ld1 p2) (p2:=.slice P3 bg p3)
 have aq:=zF (ao.out.trans (an.trans A7))
 have r1:=zN o1.ru A7
 have r2:=zN o2.ru A7
 have r3:=zN o3.ru A7
 replace HS:=zF (fun X (d:Ext w7 X)=>And.intro (Ext.at_ d Z) (And.intro (zN r1 d) (And.intro (zN r2 d) (And.intro (zN r3 d) (HS.out X (an.trans (A7.trans d)))))))
 replace i:=zF (fun X (d:Ext w7 X)=>i.out X (an.trans (A7.trans d)))
 clear o1 o2 o3 f6 an A7 r1 r2 r3 Z H6 av ao
 go_upto_region 5 with fail
 clear bR bP
 have bw:=(HS.out w7 (zT _)).2.2.2.2.2.2
 have h8:=fO (.inl U.out) _ A2 c2 ky w7 bw (fun _ h=>h)
 rw[O.out.1,O.out.2.2.1,ar.out.1]at h8
 have H8:=zF h8
 have bi:=zF (fun X (h:RU X A2 c2 ky)=>zBD X h O.out.1 O.out.2.1 O.out.2.2.1 O.out.2.2.2)
 clear h8 bw
 cases m
 · rw[qo (by decide)]at H8;go_wp2_with fail;refine H8.out.mono ?_;rintro e w8 ⟨o,rfl,hv,J⟩;obtain rfl:o=yU:=hv;obtain⟨w9,gq,aC,ax,am,g⟩:=bf (w:=w8) (b:=true) (p1:=.slice none 0 0) (p2:=.slice none 0 0);have aL:=zF (And.intro aC ax);clear aC ax;have F:=zF (aq.out.trans (J.trans g));replace HS:=zF (fun X (d:Ext w9 X)=>HS.out X (J.trans (g.trans d)));replace i:=zF (fun X (d:Ext w9 X)=>i.out X (J.trans (g.trans d)));have r:=zF am;clear am J g H8 aq;unfold yU;go_upto_region 6 with fail;rw[aL.out.1,aL.out.2];clear aL;have ag:=zF (bi.out w9 (HS.out w9 (zT _)).2.2.2.2.2.2);go_wp2_with fail;refine ag.out.mono ?_;rintro e aa ⟨N1,n1,rfl,rn,u⟩;have ah:=zF (oo (.inl U.out) aa rn O.out.2.2.2 ar.out.2.1);have L:=zF (F.out.trans u);replace HS:=zF (fun X (d:Ext aa X)=>HS.out X (u.trans d));replace i:=zF (fun X (d:Ext aa X)=>i.out X (u.trans d));replace r:=zF (u.at_ r.out);clear rn u ag F;go_wp2_with fail;refine ah.out.mono ?_;rintro e n ⟨rfl,z⟩;have V:=zF (L.out.trans z);replace HS:=zF (fun X (d:Ext n X)=>HS.out X (z.trans d));replace i:=zF (fun X (d:Ext n X)=>i.out X (z.trans d));obtain⟨q0,q1,q2,i0,i1,i2⟩:=jQ (z.at_ r.out);clear z ah L r;obtain⟨a4,-,-,-,hq,-⟩:=HS.out n (zT _);obtain⟨z0,z1,z2,z3,z4,z5⟩:=zAO hq;have ad:=nP n (i.out n (zT _)).1 (i.out n (zT _)).2 ae.out.2;rw[ae.out.1]at ad;have aj:=zF ad;clear a4 hq ad;go_wp2_with fail;refine aj.out.mono ?_;rintro e v1 ⟨b2,rfl,ak,he,F1⟩;have ai:=zF (nQ U.out v1 he (by omega) (by omega) k.out.1 k.out.2.2.2.1 aG.out k.out.2.2.1);have N:=zF (And.intro ak F1);clear he ak F1 aj z0 z1 z2 z3 z4 z5;go_wp2_with fail;refine ai.out.mono ?_;rintro e v2 ⟨R1,k6,p,rfl,rr,⟨R2,R3,k7,k8,rfl,rs,rt⟩,f2⟩;have D:=f2.ext' N.out.2 N.out.1 N.out.2.bsize;rw[H.out.2.1]at rs ⊢;rw[H.out.2.2.1]at rt ⊢;rw[H.out.1];obtain⟨m1,ab⟩:=eV ((digs 4294967296 d1).length);obtain⟨m2,ac⟩:=eV ((digs 4294967296 d2).length);rw[ab,ac];obtain⟨v3,g9,bc,aU,al,g⟩:=om (w:=v2) (b:=G) (p1:=.slice R2 m1 k7) (p2:=.slice R3 m2 k8);have F:=zF (V.out.trans (D.trans g));obtain⟨Z,ra,rb,rd,-⟩:=HS.out v3 (D.trans g);have hi:=zA8 _ _ P1 R1 p1 k6 x v3 ra (zN rr g) (fun _ h=>h) (fun _ h=>h);rw[k.out.2.2.2.1,k.out.2.2.2.2]at hi;have HI:=zF hi
   have HR:=zF (fun X (d:Ext v3 X)=>zAX X (show APn X (.agg #[.bool G,.slice P2 ld1 p2,.slice P3 bg p3]) G (digs 18446744073709551616 d1) (digs 18446744073709551616 d2)from by
    rw[←H.out.2.2.2.1,←H.out.2.2.2.2]
    exact⟨P2,P3,p2,p3,rfl,zN rb d,zN rd d⟩) (show RPv X (.agg #[.bool G,.slice R2 m1 k7,.slice R3 m2 k8]) G d1 d2 from by
    rw[←ab,←ac]
    exact⟨R2,R3,k7,k8,rfl,zN (zN rs g) d,zN (zN rt g) d⟩))
   have HQ:=zF (And.intro Z al);clear rr rs rt f2 D g Z al ra rb rd hi ab ac ai N HS;go_upto_region 15 with fail;clear bc aU;go_wp2_with fail;refine HI.out.mono ?_;rintro e v4 ⟨rfl,E⟩;obtain⟨y0,y1,y2,f0,f1,f2⟩:=jQ (Ext.at_ E HQ.out.1);obtain⟨x0,x1,x2,h0,h1,h2⟩:=jQ (Ext.at_ E HQ.out.2);have aI:=zF (HR.out v4 E);have L:=zF (F.out.trans E);clear E HI HR HQ F;go_wp2_with fail;refine aI.out.mono ?_;rintro e v5 ⟨rfl,I⟩;have V:=zF (L.out.trans I);clear I;go_wp2;go_ret;exact⟨rfl,V.out⟩
 · rw[qg rfl]at H8;obtain⟨tb,a9⟩:=eV T.isNone;obtain⟨t1,aA⟩:=eV (T.elim 0 (·.1));obtain⟨t2,aB⟩:=eV (T.elim 0 (·.2));obtain⟨aD,aZ⟩:=eV ((digs 18446744073709551616 t1).length);obtain⟨aE,a0⟩:=eV ((digs 18446744073709551616 t2).length);go_wp2_with fail;refine H8.out.mono ?_;rintro e w8 ⟨o,rfl,hv,J⟩;obtain⟨Q1,Q2,v1,v2,rfl,ru,rv⟩:=hv.pn;rw[show(some T).join=T from rfl,aA]at ru;rw[show(some T).join=T from rfl,aB]at rv;rw[show(some T).join=T from rfl,a9,aA,aB,aZ,a0,show(some T).isSome=true from rfl];obtain⟨w9,gq,aC,ax,am,g⟩:=bf (w:=w8) (b:=tb) (p1:=.slice Q1 aD v1) (p2:=.slice Q2 aE v2);have F:=zF (aq.out.trans (J.trans g));replace HS:=zF (fun X (d:Ext w9 X)=>HS.out X (J.trans (g.trans d)));replace i:=zF (fun X (d:Ext w9 X)=>i.out X (J.trans (g.trans d)));have bJ:=zN ru g;have bK:=zN rv g
   have r:=zF (fun X (d:Ext w9 X)=>And.intro (Ext.at_ d am) (show APn X (.agg #[.bool tb,.slice Q1 aD v1,.slice Q2 aE v2]) tb (digs 18446744073709551616 t1) (digs 18446744073709551616 t2)from by
    rw[←aZ,←a0]
    exact⟨Q1,Q2,v1,v2,rfl,zN bJ d,zN bK d⟩))
   have au:=zF (And.intro a9 (And.intro aA aB));clear am J g H8 aq ru rv bJ bK hv a9 aA aB aZ a0;go_upto_region 6 with fail;clear aC ax;have ag:=zF (bi.out w9 (HS.out w9 (zT _)).2.2.2.2.2.2);go_wp2_with fail;refine ag.out.mono ?_;rintro e aa ⟨N1,n1,rfl,rn,u⟩;have ah:=zF (oo (.inl U.out) aa rn O.out.2.2.2 ar.out.2.1);have L:=zF (F.out.trans u);replace HS:=zF (fun X (d:Ext aa X)=>And.intro (zN rn d) (HS.out X (u.trans d)));replace i:=zF (fun X (d:Ext aa X)=>i.out X (u.trans d));replace r:=zF (fun X (d:Ext aa X)=>r.out X (u.trans d));clear rn u ag F;go_upto_region 8 with(go_at_call 14;refine ah.out.mono ?_;rintro e n ⟨rfl,z⟩);have V:=zF (L.out.trans z);replace HS:=zF (fun X (d:Ext n X)=>HS.out X (z.trans d));replace i:=zF (fun X (d:Ext n X)=>i.out X (z.trans d));replace r:=zF (fun X (d:Ext n X)=>r.out X (z.trans d));clear z ah L;have HX:=zF (fun X (d:Ext n X)=>(HS.out X d).2.2.2.2.2.1);have aH:=zF (fun X (d:Ext n X)=>(HS.out X d).2.2.2.2.2.2.1);have HN:=zF (fun X (d:Ext n X)=>(HS.out X d).1);obtain⟨xb,bd⟩:=eV (val 18446744073709551616 C.xl);obtain⟨yb,be⟩:=eV (val 18446744073709551616 C.yl);obtain⟨bx,aQ⟩:=eV ((digs 4294967296 xb).length);obtain⟨bY,aR⟩:=eV ((digs 4294967296 yb).length);have aP:=ar.out.2.2;have aN:=aG.out;rw[bd,be]at aP aN;have aM:=fun X cs A' c' A1 c1 A2 c2 (hc:RC X C (.agg cs)) (h:RU X A' c' (digs 4294967296 y)) (h1:RU X A1 c1 (digs 4294967296 xb)) (h2:RU X A2 c2 (digs 4294967296 yb))=>zAU U.out X hc h h1 h2 aN O.out.2.2.2 aQ aR aP;rw[au.out.1,au.out.2.1,au.out.2.2]at aM;have bl:=zF aM;have HB:=zF (And.intro bd (And.intro be (And.intro aQ aR)));clear bd be aQ aR aP aN aM
   refine zZ (by kernel_rfl) 12 [0,1,3,7,7,7,7,71,247,511,1023,2047] [] (fun j f X=>match j with
    | 0=>f 0=.bool true
    | 1=>f 1=.bool false
    | 2=>f 2=.bool false
    | 3=>f 3=.agg #[.bool tb,.slice Q1 aD v1,.slice Q2 aE v2]
    | 4=>f 4=.agg #[.slice B1 l1 k1,.slice B2 l2 k2,.slice B3 l3 k3,.slice B4 l4 k4,.slice B5 l5 k5,.int .i64 (t:Int)]
    | 5=>f 5=.slice N1 my n1
    | 6=>f 6=.agg #[.slice B1 l1 k1,.slice B2 l2 k2,.slice B3 l3 k3,.slice B4 l4 k4,.slice B5 l5 k5,.int .i64 (t:Int)]
    | 7=>∃ A a B b,f 7=.agg #[.bool false,.slice A bx a,.slice B bY b]∧RU X A a (digs 4294967296 xb)∧RU X B b (digs 4294967296 yb)
    | 8=>∃ A a B b,f 8=.agg #[.bool tb,.slice A (digs 4294967296 t1).length a,.slice B (digs 4294967296 t2).length b]∧RU X A a (digs 4294967296 t1)∧RU X B b (digs 4294967296 t2)
    | 9=>f 9=.bool true
    | 10=>f 10=.bool false
    | 11=>f 11=.bool false
    | _=>True) (by kernel_rfl) [(43,0),(44,1),(45,2),(46,3),(47,4),(48,5),(49,6),(50,7),(51,8),(52,9),(53,10),(54,11)] (by kernel_rfl) ?_
   refine zJ 1 11 ?_;refine zt 2 10 0 ?_;refine zt 3 9 1 ?_;refine zv 4 8 [(43,0),(44,1),(45,2),(47,4),(48,5),(49,6),(50,7),(51,8)] (fun f X d hR K hK=>?_) ?_
   · have W:f 2=_:=hR.out 2 rfl;simp only[yZ,W];refine⟨zU (by kernel_rfl) (vp (v:=.agg #[.bool tb,.slice Q1 aD v1,.slice Q2 aE v2]) (t:=33) 33 (.tmp 12) rfl rfl (r.out X d).1 Tryz.underlying33 rfl vl rfl ?_)⟩;exact qY hK (s:=by simp only[yZ,W])
   refine zv 5 7 [(43,0),(44,1),(45,2),(46,3),(48,5),(49,6),(50,7)] (fun f X d hR K hK=>?_) ?_
   · have W:f 2=_:=hR.out 2 rfl;simp only[yZ,W];refine⟨zU (by kernel_rfl) (vp (v:=.agg #[.slice B1 l1 k1,.slice B2 l2 k2,.slice B3 l3 k3,.slice B4 l4 k4,.slice B5 l5 k5,.int .i64 (t:Int)]) (t:=30) 30 (.tmp 8) rfl rfl (HX.out X d) Tryz.underlying30 rfl jG rfl ?_)⟩;exact qY hK (s:=by simp only[yZ,W])
   refine zt 6 6 2 ?_;refine zv 7 5 [(43,0),(44,1),(45,2),(46,3),(47,4),(48,5)] (fun f X d hR K hK=>?_) ?_
   · have W:f 2=_:=hR.out 2 rfl;simp only[yZ,W];refine⟨zU (by kernel_rfl) (vp (v:=.agg #[.slice B1 l1 k1,.slice B2 l2 k2,.slice B3 l3 k3,.slice B4 l4 k4,.slice B5 l5 k5,.int .i64 (t:Int)]) (t:=30) 30 (.tmp 8) rfl rfl (HX.out X d) Tryz.underlying30 rfl jG rfl ?_)⟩;exact qY hK (s:=by simp only[yZ,W])
   refine Par.c1 8 4 2 (fun f=>#[f 6]) (F':=17) (fun f X d hR=>?_) ?_
   · have e6:f 6=_:=hR.out 6 rfl;simp only[e6];refine(rR X (aH.out X d) HB.out.1 HB.out.2.1 HB.out.2.2.1 HB.out.2.2.2).mono ?_;rintro e w2 ⟨A,a,B,b,rfl,h1,h2,hB⟩;exact⟨(.agg #[.bool false,.slice A bx a,.slice B bY b]),rfl,hB,fun Y R=>⟨A,a,B,b,rfl,zN h1 R,zN h2 R⟩⟩
   refine Par.c1 9 3 2 (fun f=>#[f 4,f 5,f 7]) (F':=16) (fun f X d hR=>?_) ?_
   · have e4:f 4=_:=hR.out 4 rfl;have e5:f 5=_:=hR.out 5 rfl;obtain⟨D7,a7,F7,b7,(e7:f 7=_),r7,s7⟩:=hR.out 7 rfl;simp only[e4,e5,e7];refine(bl.out X _ N1 n1 D7 a7 F7 b7 (aH.out X d) (HN.out X d) r7 s7).mono ?_;rintro e w2 ⟨o,rfl,⟨A,B,a,b,rfl,h1,h2⟩,hB⟩;exact⟨(.agg #[.bool tb,.slice A (digs 4294967296 t1).length a,.slice B (digs 4294967296 t2).length b]),rfl,hB,fun Y R=>⟨A,a,B,b,rfl,zN h1 R,zN h2 R⟩⟩
   refine Par.c1 10 2 2 (fun f=>#[f 3,f 8]) (F':=15) (fun f X d hR=>?_) ?_
   · have e3:f 3=_:=hR.out 3 rfl;obtain⟨D8,a8,F8,b8,(e8:f 8=_),r8,s8⟩:=hR.out 8 rfl;simp only[e3,e8];refine(zAX X (r.out X d).2 ⟨D8,F8,a8,b8,rfl,r8,s8⟩).mono ?_;rintro e w2 ⟨rfl,hB⟩;exact⟨_,rfl,hB,fun _ _=>rfl⟩
   refine qj 11 1 2 9 ?_;refine qj 12 0 2 10 ?_;refine yF ⟨fun f X d hR bM bN=>?_⟩;obtain⟨D7,a7,F7,b7,(e7:f 7=_),r7,s7⟩:=hR 7 (by decide);obtain⟨D8,a8,F8,b8,(e8:f 8=_),r8,s8⟩:=hR 8 (by decide);have bt:f 11=_:=hR 11 (by decide);simp only[yZ,e7,e8,bt];clear hR bM bN e7 e8 bt;refine zI ?_;have bL:=zF (V.out.trans d);have aJ:=zF (fun Y (R:Ext X Y)=>(HS.out Y (d.trans R)).2);replace i:=zF (fun Y (R:Ext X Y)=>i.out Y (d.trans R));clear d HX aH HN bl HB r HS V au;obtain⟨a4,-,-,-,hq,-⟩:=aJ.out X (zT _);obtain⟨z0,z1,z2,z3,z4,z5⟩:=zAO hq;have ad:=nP X (i.out X (zT _)).1 (i.out X (zT _)).2 ae.out.2;rw[ae.out.1]at ad;have aj:=zF ad;clear a4 hq ad;go_wp2_with fail;refine aj.out.mono ?_;rintro e v1 ⟨b2,rfl,ak,he,F1⟩;have ai:=zF (nQ U.out v1 he (by omega) (by omega) k.out.1 k.out.2.2.2.1 aG.out k.out.2.2.1);have N:=zF (And.intro ak F1);clear he ak F1 aj z0 z1 z2 z3 z4 z5;go_wp2_with fail;refine ai.out.mono ?_;rintro e v2 ⟨R1,k6,p,rfl,rr,⟨R2,R3,k7,k8,rfl,rs,rt⟩,f2⟩;have D:=f2.ext' N.out.2 N.out.1 N.out.2.bsize;rw[H.out.2.1]at rs ⊢;rw[H.out.2.2.1]at rt ⊢;rw[H.out.1];obtain⟨m1,ab⟩:=eV ((digs 4294967296 d1).length);obtain⟨m2,ac⟩:=eV ((digs 4294967296 d2).length);rw[ab,ac];obtain⟨v3,g9,bc,aU,al,g⟩:=om (w:=v2) (b:=G) (p1:=.slice R2 m1 k7) (p2:=.slice R3 m2 k8);have F:=zF (bL.out.trans (D.trans g));obtain⟨Z,ra,rb,rd,-⟩:=aJ.out v3 (D.trans g);have hi:=zA8 _ _ P1 R1 p1 k6 x v3 ra (zN rr g) (fun _ h=>h) (fun _ h=>h);rw[k.out.2.2.2.1,k.out.2.2.2.2]at hi;have HI:=zF hi
   have HR:=zF (fun X (d:Ext v3 X)=>zAX X (show APn X (.agg #[.bool G,.slice P2 ld1 p2,.slice P3 bg p3]) G (digs 18446744073709551616 d1) (digs 18446744073709551616 d2)from by
    rw[←H.out.2.2.2.1,←H.out.2.2.2.2]
    exact⟨P2,P3,p2,p3,rfl,zN rb d,zN rd d⟩) (show RPv X (.agg #[.bool G,.slice R2 m1 k7,.slice R3 m2 k8]) G d1 d2 from by
    rw[←ab,←ac]
    exact⟨R2,R3,k7,k8,rfl,zN (zN rs g) d,zN (zN rt g) d⟩))
   have HQ:=zF (And.intro Z al);clear rr rs rt f2 D g Z al ra rb rd hi ab ac ai N aJ;go_upto_region 15 with fail;clear bc aU;go_wp2_with fail;refine HI.out.mono ?_;rintro e v4 ⟨rfl,E⟩;obtain⟨y0,y1,y2,f0,f1,f2⟩:=jQ (Ext.at_ E HQ.out.1);obtain⟨x0,x1,x2,h0,h1,h2⟩:=jQ (Ext.at_ E HQ.out.2);have aI:=zF (HR.out v4 E);have L:=zF (F.out.trans E);clear E HI HR HQ F;go_wp2_with fail;refine aI.out.mono ?_;rintro e v5 ⟨rfl,I⟩;have V:=zF (L.out.trans I);clear I;go_wp2;go_ret;exact⟨rfl,V.out⟩
theorem tQ {c:Int}(g1:c≠1)(N:c≠2){P:Nat→Prop}{A B:Option Addr}{ca cb:Nat}{bs l:List Nat}(w:World)(Q:KW w)(hb:RB w P A ca bs)(hl:RL w P B cb l)(p:∀ q,P q→q<w.heap.size) :
 Calls Tryz.prog 3 #[.int .i64 c,.slice A bs.length ca,.slice B l.length cb] w fun e w'=>e=.returned (.bool true)∧Ext w w':=by
 have hU:IsU c c0:=.inr ⟨g1,N,rfl⟩
 obtain⟨us,aa⟩:=eV (bs.take 40)
 obtain⟨nu,V⟩:=eV us.length
 obtain⟨nb,U⟩:=eV bs.length
 obtain⟨ll,S⟩:=eV l.length
 obtain⟨s,R⟩:=eV (l.take 6)
 obtain⟨n3,r⟩:=eV s.length
 have az:us.length≤200000:=by rw[←aa,zh];omega
 have ax:n3<100000:=by rw[←r,←R,zh];omega
 obtain⟨y,aC⟩:=eV (val 18446744073709551616 s)
 obtain⟨my,ay⟩:=eV ((digs 4294967296 y).length)
 have T:vX c0 y=false:=by simp[vX,c0]
 have aA:cX c0 y=none:=by unfold cX;rw[T];rfl
 obtain⟨t,Z⟩:=eV c0.size
 have aL:((t:Int)==0)=true:=by rw[←Z];rfl
 have ab:=zF (cS w Q)
 have aq:=zF (fun X (a:Ext w X)=>rM X (hb.below a p) U aa V)
 have K:=zF (fun X (a:Ext w X) (q:Nat) (hq:P q)=>zH (p q hq) a.bsize)
 have ai:=zF (fun X (a:Ext w X)=>zDP P B cb l X (hl.below a p) S R r)
 rw[U,S]
 have J:=zF hU
 have HG:=zF (And.intro g1 N)
 have HK:=zF Q
 have d:=zF (And.intro r (And.intro ax (And.intro aC ay)))
 have ar:=zF (And.intro aA T)
 have ak:=zF (And.intro V az)
 have Ht:=zF Z
 clear hU g1 N Q hb hl p aa V U S R r az ax aC ay T aA Z
 go_enter Tryz.func3,Tryz.ntmps3
 go_wp2_with fail
 refine ab.out.mono ?_
 rintro e w1 ⟨rfl,E1⟩
 have i:=zF E1
 clear E1 ab
 have ap:=zF (aq.out w1 i.out)
 clear aq
 go_wp2_with fail
 refine ap.out.mono ?_
 rintro e aM ⟨⟨cu,rfl,ru⟩,rfl⟩
 have ao:=zF ru
 have ah:=zF (ai.out w1 i.out)
 clear ru ap ai
 go_wp2_with fail
 refine ah.out.mono ?_
 rintro e w2 ⟨A2,c2,rfl,r2,C⟩
 have H:=zF (i.out.trans C)
 have j:=zF (fun X (a:Ext w2 X)=>ao.out.below (C.trans a) (K.out w1 i.out))
 have an:=zF (fun X (a:Ext w2 X)=>K.out X (H.out.trans a))
 have HS:=zF (fun X (a:Ext w2 X)=>zN r2 a)
 have am:=zF (rQ J.out w2)
 clear r2 C i ah ao K
 go_wp2_with fail
 refine am.out.mono ?_
 rintro e w3 ⟨cv,rfl,Y,g⟩
 obtain⟨B1,l1,k1,B2,l2,k2,B3,l3,k3,B4,l4,k4,B5,l5,k5,rfl⟩:=ba Y Ht.out
 obtain⟨w4,g4,aJ,aI,k,f⟩:=mS (w:=w3) (x0:=.slice B1 l1 k1) (x1:=.slice B2 l2 k2) (x2:=.slice B3 l3 k3) (x3:=.slice B4 l4 k4) (x4:=.slice B5 l5 k5) (x5:=.int .i64 (t:Int))
 have I:=zF (H.out.trans (g.trans f))
 have aB:=Y.ext f
 replace HS:=zF (fun X (a:Ext w4 X)=>And.intro (Ext.at_ a k) (And.intro (aB.ext a) (HS.out X (g.trans (f.trans a)))))
 replace j:=zF (fun X (a:Ext w4 X)=>And.intro (j.out X (g.trans (f.trans a))) (an.out X (g.trans (f.trans a))))
 clear Y aB k g f H am an
 go_upto_region 4 with fail
 clear aJ aI
 have W:=ma w4 (HK.out.ext I.out) (j.out w4 (zT _)).1 (j.out w4 (zT _)).2 ak.out.2
 rw[ak.out.1]at W
 have al:=zF W
 clear W
 go_wp2_with fail
 refine al.out.mono ?_
 rintro e w5 ⟨b,rfl,-,-,D⟩
 have G:=zF (zCn HG.out.1 HG.out.2 (.pointer (some ⟨b,0,none⟩)) w5)
 have ad:=zF (I.out.trans D)
 replace HS:=zF (fun X (a:Ext w5 X)=>HS.out X (jb D a))
 clear D al I j
 unfold yU at G
 go_wp2_with fail
 refine G.out.mono ?_
 rintro e w6 ⟨rfl,E⟩
 obtain⟨w7,g7,aD,au,m,u⟩:=bf (w:=w6) (b:=true) (p1:=.slice none 0 0) (p2:=.slice none 0 0)
 have L:=zF (And.intro aD au)
 have ae:=zF (ad.out.trans (E.trans u))
 replace HS:=zF (fun X (a:Ext w7 X)=>And.intro (Ext.at_ a m) (HS.out X (E.trans (u.trans a))))
 clear aD au m E u G ad
 go_upto_region 5 with fail
 rw[L.out.1,L.out.2]
 clear L
 have aw:=(HS.out w7 (zT _)).2.2.2
 have O:=fO J.out _ A2 c2 s w7 aw (fun _ h=>h)
 rw[d.out.1,d.out.2.2.1,ar.out.1]at O
 have H8:=zF O
 have aH:=zF (fun X (h:RU X A2 c2 s)=>zBD X h d.out.1 d.out.2.1 d.out.2.2.1 d.out.2.2.2)
 clear O aw
 go_wp2_with fail
 refine H8.out.mono ?_
 rintro e w8 ⟨o,rfl,hv,F⟩
 obtain rfl:o=yU:=hv
 obtain⟨w9,gq,aE,av,n,v⟩:=bf (w:=w8) (b:=true) (p1:=.slice none 0 0) (p2:=.slice none 0 0)
 have M:=zF (And.intro aE av)
 have af:=zF (ae.out.trans (F.trans v))
 replace HS:=zF (fun X (a:Ext w9 X)=>And.intro (Ext.at_ a n) (HS.out X (F.trans (v.trans a))))
 clear aE av n F v H8 ae
 unfold yU
 go_upto_region 6 with fail
 rw[M.out.1,M.out.2]
 clear M
 have ag:=zF (aH.out w9 (HS.out w9 (zT _)).2.2.2.2)
 go_wp2_with fail
 refine ag.out.mono ?_
 rintro e aF ⟨N1,n1,rfl,rn,x⟩
 have aj:=zF (oo J.out aF rn d.out.2.2.2 ar.out.2)
 have ac:=zF (af.out.trans x)
 replace HS:=zF (fun X (a:Ext aF X)=>HS.out X (x.trans a))
 clear rn x ag af
 go_wp2_with fail
 refine aj.out.mono ?_
 rintro e aK ⟨rfl,z⟩
 have aG:=zF (ac.out.trans z)
 obtain⟨n,m,k,-⟩:=HS.out aK z
 obtain⟨q0,q1,q2,i0,i1,i2⟩:=jQ n
 obtain⟨y0,y1,y2,f0,f1,f2⟩:=jQ m
 obtain⟨z0,z1,z2,z3,z4,z5⟩:=zAO k
 clear z aj ac n m k
 go_wp2
 go_ret
 exact⟨rfl,aG.out⟩
theorem zCo {c:Int}{P:Nat→Prop}{A B:Option Addr}{a cb:Nat}{bs l:List Nat}(w:World)(f:KW w)(d:RB w P A a bs)(g:RL w P B cb l)(b:∀ q,P q→q<w.heap.size) :
 Calls Tryz.prog 3 #[.int .i64 c,.slice A bs.length a,.slice B l.length cb] w fun e w'=>e=.returned (.bool true)∧Ext w w':=by
 obtain⟨C,h|⟨g1,i,_⟩⟩:=isU c
 · exact tR h w f d g b
 · exact tQ g1 i w f d g b
end Go.Proofs.YtaemogcomplhiaaGreatDoor.Ec
namespace Go.Proofs.YtaemogcomplhiaaGreatDoor
open Go.ChangeShapes Go.WideShapes Go.ChangeAt Go.RowKit
open Sha
theorem gK:Tryz.prog.globalNamed "bailey/hashes.k" = some 3:=by kernel_rfl
theorem tK:(Tryz.prog.globals[3]?).map (·.type)=some 211:=by kernel_rfl
def kOk (n:Nat) (i:Nat):Bool:=decide (n<18446744073709551616∧n/4294967296=(wd kk i).toNat)
theorem k_all:(List.range 64).all (fun i=>match(Rows.laid_bailey_hashes_k (H:=Unit))with | .agg l=>(match l[i]? with|some (.lit (.int .u64 n))=>decide (0≤n)&&kOk n.toNat i|_=>false)|_=>false)=true:=by decide +kernel
theorem zCV {W:World}(h:laidMetH Tryz.prog [("bailey/hashes.k", Rows.laid_bailey_hashes_k)] W):KW W:=by
 rw[MakeChecks.laidMetH_plain _ _ _ (by kernel_rfl)]at h;obtain⟨ps,⟨g0,E,b,y,C,D,e,s,t,p,_⟩,_,_⟩:=h;obtain rfl:=jU (gK.symm.trans e);obtain rfl:=jU (tK.symm.trans s);obtain⟨x,m,rfl,u,A,B,q⟩:=DataW.trod_array Tryz.underlying211 p;have c1:Tryz.prog.cellsOf 65=1:=by kernel_rfl
 intro i r;have f:i<x.length:=by omega
 have d:=q i (by omega);rw[qL f]at d;obtain⟨k,c,j,_⟩:=DataW.trod_int Tryz.underlying65 d;rw[c1,jM]at c;have a:=List.all_eq_true.1 k_all i (List.mem_range.2 r);have g:=congrArg (fun z:DataW Unit×List MemPlace=>z.1) u;simp only at g;rw[g]at a;simp only[yw,qL f,yc,j,jp,kOk,decide_eq_true_eq]at a;obtain⟨k0,v,w⟩:=a;have o:b[i]?=some (.int .u64 k):=by
  have:(b.toList.drop i)[0]?=some (Value.int .u64 k):=by
   have n:=congrArg (fun l:List Value=>l[0]?) c;simpa using n
  simpa using this
 refine⟨k.toNat,?_,v,w⟩;rw[World.var?_cell e t i,o,Int.toNat_of_nonneg k0]
theorem zBR (os:Os)(args:Array Value):laidMetH Tryz.prog [("bailey/hashes.k", Rows.laid_bailey_hashes_k)] ((World.doorLaid Tryz.prog 14 os).forCall (fun _ _=>0) ⟨#[],args,[]⟩).memory :=
 laidMetH_of_parts3 (fuel:=8) (laidMet_of_run' 8 (by kernel_rfl) (by kernel_rfl)) (by kernel_rfl) (by kernel_rfl)
end Go.Proofs.YtaemogcomplhiaaGreatDoor
