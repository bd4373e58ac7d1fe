/- Laws that the proof rests on. -/
import Derived.Test.YtaemogcomplhiaaGreatDoorQ7499c4ad72b9
set_option maxRecDepth 100000
set_option maxHeartbeats 16000000
namespace Go.Proofs.YtaemogcomplhiaaGreatDoor
open Go.RowKit
def aZ (C:Crv) (a:Bool) (x y:Nat) (b:Bool) (u v:Nat):Option (Option (Nat×Nat)) :=
 if onQ C a x y=true then(if onQ C b u v=true then some (uI C.M (gL C.M (upP a x y) (upP b u v)))else none)else none
theorem ak {X:World}{base b:Nat}{v:Value}{o:Option (Nat×Nat)}(h:PtV X base v o):∃ x0 x1 x2,v=.agg #[x0,x1,x2]∧(#[x0,x1,x2]:Array Value).all (·.oneCell')=true∧∀ Y,jE b X Y→(∃ cs,X.heap[b]?=some (.cells cs 33 (0,0)))→PtV Y base v o:=by
 cases o with
 | none=>cases h;exact⟨_,_,_,rfl,ur _ _ _ _ _ _ _,fun _ _ _=>rfl⟩
 | some p =>
  obtain⟨A,c,A',c',rfl,e,f⟩:=h;exact⟨_,_,_,rfl,ur _ _ _ _ _ _ _,fun Y d ⟨cs,a⟩=>⟨A,c,A',c',rfl,e.just d a (by decide),f.just d a (by decide)⟩⟩
theorem bL {w:World}{v:Value}{i:Bool}{x y:Nat}(h:APt w v i x y):∃ x1 x2,v=.agg #[.bool i,x1,x2]:=by
 obtain⟨A,A',c,c',a,b,rfl,_⟩:=h;exact⟨_,_,rfl⟩
theorem zBx (w:World)(a o2 o3:Obj):(((w.alloc a).alloc o2).alloc o3).heap[w.heap.size]?=some a∧(((w.alloc a).alloc o2).alloc o3).heap[w.heap.size+1]?=some o2∧(((w.alloc a).alloc o2).alloc o3).heap[w.heap.size+2]?=some o3∧(((w.alloc a).alloc o2).alloc o3).heap.size=w.heap.size+3:=nJ w a o2 o3
theorem add_c {c:Int}{C:Crv}(hC:IsC c C){p r:Value}{g h:Bool}{x y u v:Nat}(w:World)(hp:APt w p g x y)(hr:APt w r h u v) :
 Calls Tryz.prog 57 #[.int .i64 c,p,r] w fun e w'=>∃ o,e=.returned (.tuple #[o,.bool (aZ C g x y h u v).isSome])∧PtV w' w.heap.size o (aZ C g x y h u v).join∧Ext w w':=by
 obtain⟨p1,p2,rfl⟩:=bL hp
 obtain⟨R,S,rfl⟩:=bL hr
 obtain⟨W0,aa⟩:=eW (((w.alloc (.cells #[.bool g,p1,p2] 33)).alloc (.cells #[.bool h,R,S] 33)).alloc (.cells #[.bool false,.slice none 0 0,.slice none 0 0] 33))
 obtain⟨q,hq⟩:=eV w.heap.size
 have Z:Ext w W0:=by rw[aa];exact((zL _ _).trans (zL _ _)).trans (zL _ _)
 obtain⟨n,A,s,ah⟩:=zBx w (.cells #[.bool g,p1,p2] 33) (.cells #[.bool h,R,S] 33) (.cells #[.bool false,.slice none 0 0,.slice none 0 0] 33)
 rw[←aa,hq]at n A s ah
 have ab:=zF (hp.ext Z)
 have af:=zF (hr.ext Z)
 have ac:=zF Z
 have aq:=zF ah
 have B:=zF hC
 rw[hq]
 obtain⟨res,ag⟩:=eV (aZ C g x y h u v)
 rw[ag]
 have ad:=zF ag
 clear hp hr Z ah hC ag
 go_enter Tryz.func57,Tryz.ntmps57
 go_upto_region 1 with fail
 rw[←aa]
 have T:=zF hq
 clear aa hq
 obtain⟨o1,al⟩:=eV (onQ C g x y)
 obtain⟨o2,am⟩:=eV (onQ C h u v)
 have D:=zF al
 have J:=zF am
 clear al am
 go_upto_region 2 with(go_at_call 64;refine(pM B.out _).mono ?_;rintro e wa ⟨k,rfl,z,O⟩)
 have l:=zF O
 replace n:=O.at_ n
 replace A:=O.at_ A
 replace s:=O.at_ s
 clear O
 cases o1
 case false =>
  obtain rfl:res=none:=by rw[←ad.out,aZ,qo (by rw[D.out];decide)]
  refine zR 10 [0,0,3,7,15,31,31,127,255,511] [] (fun j f X=>match j with
   | 0=>f 0=.pointer (some ⟨k,0,none⟩)
   | 1=>f 1=.agg #[.bool g,p1,p2]
   | 2=>f 2=.bool false
   | 3=>f 3=.bool true
   | 4=>f 4=.bool true
   | 5=>f 5=undef
   | 6=>f 6=undef
   | 7=>f 7=undef
   | 8=>f 8=undef
   | 9=>f 9=.bool true
   | _=>True) (by kernel_rfl) [(11,0),(12,1),(13,2),(14,3),(15,4),(16,5),(17,6),(18,7),(19,8),(20,9)] (by kernel_rfl) ?_
  refine zJ 1 9 ?_;refine lV0 2 8 n vl ?_;refine qK 3 7 (fun f=>#[f 0,f 1]) (F':=72) (fun f X a hR=>?_) ?_
  · have E:f 0=_:=hR.out 0 rfl;have F:f 1=_:=hR.out 1 rfl;simp only[E,F];refine(mZ (z.ext a) B.out.fine (ab.out.ext (l.out.trans a))).mono ?_;rw[D.out];rintro e w2 ⟨rfl,d⟩;exact⟨_,rfl,d,fun _ _=>rfl⟩
  refine zt 4 6 2 ?_;refine zt 5 5 3 ?_;refine kZ 6 4 4 ?_;refine kZ 7 3 4 ?_;refine kZ 8 2 4 ?_;refine kZ 9 1 4 ?_;refine qj 10 0 4 8 ?_;refine yF ⟨fun f X a hR G H=>?_⟩;have i:f 9=_:=hR 9 (by decide);simp only[yZ,i];clear hR G H i;refine zI ?_;have ae:=a.at_ s;go_wp2_with (go_at_call 73;refine(yo _).mono ?_;rintro e wb ⟨rfl,P⟩;have Q:=P.at_ ae;obtain⟨z0,z1,z2,f0,f1,f2⟩:=jQ Q);exact gh rfl rfl rfl rfl (xG Q _ _ _) ⟨_,by rfl,by rfl,xi (((ac.out.trans l.out).trans a).trans P) (by have:=T.out;omega) _ _ _⟩
 case true =>
  cases o2;case false =>
   obtain rfl:res=none:=by rw[←ad.out,aZ,qg D.out,qo (by rw[J.out];decide)]
   refine zR 10 [0,0,3,7,15,31,31,127,255,511] [] (fun j f X=>match j with
    | 0=>f 0=.pointer (some ⟨k,0,none⟩)
    | 1=>f 1=.agg #[.bool g,p1,p2]
    | 2=>f 2=.bool true
    | 3=>f 3=.bool false
    | 4=>f 4=.bool false
    | 5=>f 5=.pointer (some ⟨k,0,none⟩)
    | 6=>f 6=.agg #[.bool h,R,S]
    | 7=>f 7=.bool false
    | 8=>f 8=.bool true
    | 9=>f 9=.bool true
    | _=>True) (by kernel_rfl) [(11,0),(12,1),(13,2),(14,3),(15,4),(16,5),(17,6),(18,7),(19,8),(20,9)] (by kernel_rfl) ?_
   refine zJ 1 9 ?_;refine lV0 2 8 n vl ?_;refine qK 3 7 (fun f=>#[f 0,f 1]) (F':=72) (fun f X a hR=>?_) ?_
   · have E:f 0=_:=hR.out 0 rfl;have F:f 1=_:=hR.out 1 rfl;simp only[E,F];refine(mZ (z.ext a) B.out.fine (ab.out.ext (l.out.trans a))).mono ?_;rw[D.out];rintro e w2 ⟨rfl,d⟩;exact⟨_,rfl,d,fun _ _=>rfl⟩
   refine zt 4 6 2 ?_;refine zt 5 5 3 ?_;refine zt 6 4 4 ?_;refine lV1 7 3 4 A vl ?_;refine Par.c1 8 2 4 (fun f=>#[f 5,f 6]) (F':=72) (fun f X a hR=>?_) ?_
   · have L:f 5=_:=hR.out 5 rfl;have N:f 6=_:=hR.out 6 rfl;simp only[L,N];refine(mZ (z.ext a) B.out.fine (af.out.ext (l.out.trans a))).mono ?_;rw[J.out];rintro e w2 ⟨rfl,d⟩;exact⟨_,rfl,d,fun _ _=>rfl⟩
   refine qj 9 1 4 7 ?_;refine qj 10 0 4 8 ?_;refine yF ⟨fun f X a hR G H=>?_⟩;have i:f 9=_:=hR 9 (by decide);simp only[yZ,i];clear hR G H i;refine zI ?_;have ae:=a.at_ s;go_wp2_with (go_at_call 73;refine(yo _).mono ?_;rintro e wb ⟨rfl,P⟩;have Q:=P.at_ ae;obtain⟨z0,z1,z2,f0,f1,f2⟩:=jQ Q);exact gh rfl rfl rfl rfl (xG Q _ _ _) ⟨_,by rfl,by rfl,xi (((ac.out.trans l.out).trans a).trans P) (by have:=T.out;omega) _ _ _⟩
  case true =>
   obtain rfl:res=some (uI C.M (gL C.M (upP g x y) (upP h u v))):=by rw[←ad.out,aZ,qg D.out,qg J.out]
   refine zR 10 [0,0,3,7,15,31,31,127,255,511] [] (fun j f X=>match j with
    | 0=>f 0=.pointer (some ⟨k,0,none⟩)
    | 1=>f 1=.agg #[.bool g,p1,p2]
    | 2=>f 2=.bool true
    | 3=>f 3=.bool false
    | 4=>f 4=.bool false
    | 5=>f 5=.pointer (some ⟨k,0,none⟩)
    | 6=>f 6=.agg #[.bool h,R,S]
    | 7=>f 7=.bool true
    | 8=>f 8=.bool false
    | 9=>f 9=.bool false
    | _=>True) (by kernel_rfl) [(11,0),(12,1),(13,2),(14,3),(15,4),(16,5),(17,6),(18,7),(19,8),(20,9)] (by kernel_rfl) ?_
   refine zJ 1 9 ?_;refine lV0 2 8 n vl ?_;refine qK 3 7 (fun f=>#[f 0,f 1]) (F':=72) (fun f X a hR=>?_) ?_
   · have E:f 0=_:=hR.out 0 rfl;have F:f 1=_:=hR.out 1 rfl;simp only[E,F];refine(mZ (z.ext a) B.out.fine (ab.out.ext (l.out.trans a))).mono ?_;rw[D.out];rintro e w2 ⟨rfl,d⟩;exact⟨_,rfl,d,fun _ _=>rfl⟩
   refine zt 4 6 2 ?_;refine zt 5 5 3 ?_;refine zt 6 4 4 ?_;refine lV1 7 3 4 A vl ?_;refine Par.c1 8 2 4 (fun f=>#[f 5,f 6]) (F':=72) (fun f X a hR=>?_) ?_
   · have L:f 5=_:=hR.out 5 rfl;have N:f 6=_:=hR.out 6 rfl;simp only[L,N];refine(mZ (z.ext a) B.out.fine (af.out.ext (l.out.trans a))).mono ?_;rw[J.out];rintro e w2 ⟨rfl,d⟩;exact⟨_,rfl,d,fun _ _=>rfl⟩
   refine qj 9 1 4 7 ?_;refine qj 10 0 4 8 ?_;refine yF ⟨fun f X a hR G H=>?_⟩;have i:f 9=_:=hR 9 (by decide);simp only[yZ,i];clear hR G H i;refine zI ?_;have m:=zF a;rename World=>X2;replace n:=m.out.at_ n;replace A:=m.out.at_ A;replace s:=m.out.at_ s;have ai:=zF ((ac.out.trans l.out).trans m.out);clear a;go_upto_region 4 with fail
   refine zZ (by kernel_rfl) 10 [0,0,0,0,12,0,0,124,254,511,1023,2047] [] (fun j f X=>match j with
    | 0=>f 0=.pointer (some ⟨k,0,none⟩)
    | 1=>f 1=.pointer (some ⟨k,0,none⟩)
    | 2=>f 2=.pointer (some ⟨k,0,none⟩)
    | 3=>f 3=.agg #[.bool g,p1,p2]
    | 4=>∃ o,f 4=o∧JAt C o (upP g x y)
    | 5=>f 5=.pointer (some ⟨k,0,none⟩)
    | 6=>f 6=.agg #[.bool h,R,S]
    | 7=>∃ o,f 7=o∧JAt C o (upP h u v)
    | 8=>∃ o,f 8=o∧JAt C o (gL C.M (upP g x y) (upP h u v))
    | 9=>∃ o,f 9=o∧PtV X q o (uI C.M (gL C.M (upP g x y) (upP h u v)))
    | _=>True) (by kernel_rfl) [(22,0),(23,1),(24,2),(25,3),(26,4),(27,5),(28,6),(29,7),(30,8),(31,9)] (by kernel_rfl) ?_
   refine zJ 1 9 ?_;refine zJ 2 8 ?_;refine zJ 3 7 ?_;refine lV0 4 6 n vl ?_;refine qK 5 5 (fun f=>#[f 2,f 3]) (F':=74) (fun f X a hR=>?_) ?_
   · have e2:f 2=_:=hR.out 2 rfl;have e3:f 3=_:=hR.out 3 rfl;simp only[e2,e3];refine(zBu (z.ext (m.out.trans a)) (ab.out.ext ((l.out.trans m.out).trans a)) D.out).mono ?_;rintro e w2 ⟨o,rfl,I,d⟩;exact⟨_,rfl,d,fun _ _=>⟨_,rfl,I⟩⟩
   refine zJ 6 4 ?_;refine lV0 7 3 A vl ?_;refine qK 8 2 (fun f=>#[f 5,f 6]) (F':=74) (fun f X a hR=>?_) ?_
   · have L:f 5=_:=hR.out 5 rfl;have N:f 6=_:=hR.out 6 rfl;simp only[L,N];refine(zBu (z.ext (m.out.trans a)) (af.out.ext ((l.out.trans m.out).trans a)) J.out).mono ?_;rintro e w2 ⟨o,rfl,I,d⟩;exact⟨_,rfl,d,fun _ _=>⟨_,rfl,I⟩⟩
   refine qK 9 1 (fun f=>#[f 1,f 4,f 7]) (F':=75) (fun f X a hR=>?_) ?_
   · have F:f 1=_:=hR.out 1 rfl;obtain⟨v4,(U:f 4=_),j4⟩:=hR.out 4 rfl;obtain⟨v7,(V:f 7=_),j7⟩:=hR.out 7 rfl;simp only[F,U,V];refine(zBe (z.ext (m.out.trans a)) j4 j7).mono ?_;rintro e w2 ⟨o,rfl,I,d⟩;exact⟨_,rfl,d,fun _ _=>⟨_,rfl,I⟩⟩
   refine qK 10 0 (fun f=>#[f 0,f 8]) (F':=78) (fun f X a hR=>?_) ?_
   · have E:f 0=_:=hR.out 0 rfl;obtain⟨v8,(W:f 8=_),j8⟩:=hR.out 8 rfl;simp only[E,W];refine(zBN (z.ext (m.out.trans a)) B.out.plen j8).mono ?_;rintro e w2 ⟨o,rfl,I,d⟩;exact⟨_,rfl,d,fun Y hY=>⟨_,rfl,(I.mono (by have:=ai.out.bsize;have:=a.bsize;have:=T.out;omega)).ext hY⟩⟩
   refine yF ⟨fun f X a hR G H=>?_⟩;obtain⟨v4,(U:f 4=_),j4⟩:=hR 4 (by decide);obtain⟨v7,(V:f 7=_),j7⟩:=hR 7 (by decide);obtain⟨v8,(W:f 8=_),j8⟩:=hR 8 (by decide);obtain⟨v9,(i:f 9=_),j9⟩:=hR 9 (by decide);simp only[yZ,U,V,W,i];clear hR G H U V W i;obtain⟨x0,x1,x2,ev,ao,ap⟩:=ak (b:=q+1+1) j9;subst ev;refine zO (fun K hK=>⟨zU (by kernel_rfl) (jX (cs':=#[x0,x1,x2]) (t:=33) 33 (.tmp 6) (.tmp 31) rfl rfl rfl rfl (a.at_ s) vl rfl ao (fun Y an aj ar=>hK.out _ _ ?_))⟩);refine zO (fun K hK=>⟨zU (by kernel_rfl) ?_⟩);go_simp;refine hK.out _ _ ?_;refine zI ?_;go_wp2;exact gh rfl rfl rfl rfl an ⟨_,rfl,ap Y aj ⟨_,a.at_ s⟩,aj.ext (ai.out.trans a) (by have:=T.out;omega)⟩
end Go.Proofs.YtaemogcomplhiaaGreatDoor
namespace Go.Proofs.YtaemogcomplhiaaGreatDoor
open Go.RowKit Go.Shelf
attribute [local go_sem] Oper.semAt_some
def og (M:Nat) (p:Nat×Nat×Nat):Nat→Nat×Nat×Nat
 | 0=>(1,1,0)
 | 1=>p
 | k+2=>gL M (og M p (k+1)) p
def kP (M:Nat) (p:Nat×Nat×Nat) (E:Nat):Nat→(Nat×Nat×Nat)×Nat
 | 0=>((1,1,0),0)
 | k+1=>if(jw E k).1%4=0 then(gL M (fF M (kP M p E k).1) (og M p (2*(kP M p E k).2+(jw E k).2)),0)else(fF M (kP M p E k).1,2*(kP M p E k).2+(jw E k).2)
def uO (C:Crv) (a:Bool) (x y E:Nat):Option (Option (Nat×Nat)):=if onQ C a x y=true then(if qD E≤4096 then some (uI C.M (kP C.M (upP a x y) E (qD E)).1)else none)else none
theorem rT {X:World}{b:Nat}{u:Value}{T:TypeId}(h:X.heap[b]?=some (.cells #[u] T (0,0)))(v:Value):(X.setCell ⟨b,0,none⟩ v).heap[b]?=some (.cells #[v] T (0,0))∧jE b X (X.setCell ⟨b,0,none⟩ v) :=
 ⟨by simpa using jA h 0 v,(q9 b X).set 0 v⟩
def gM (C:Crv) (X:World) (b:Nat) (p:Nat×Nat×Nat):Prop:=∃ x y z,kI X b x y z∧FJ C.M C.n x y z p.1 p.2.1 p.2.2
theorem kI.lt' {X:World}{b:Nat}{x y z:List Nat}(h:kI X b x y z):b<X.heap.size:=qd h
theorem gM.ext {C:Crv}{X Y:World}{b:Nat}{p:Nat×Nat×Nat}(h:gM C X b p)(a:Ext X Y):gM C Y b p:=let ⟨x,y,z,h1,h2⟩:=h;⟨x,y,z,a.at_ h1,h2⟩
theorem zBU (M:Nat)(p:Nat×Nat×Nat)(E:Nat):∀ k,k<qD E→(kP M p E k).2*2 ^((qD E-1-k)%4)<8
 | 0,_=>by rw[show(kP M p E 0).2=0 from rfl];omega
 | k+1,h=>by
  have b:=zBU M p E k (by omega);have e:(jw E k).2<2:=qP _ (by omega);have c:(jw E k).1=qD E-1-k:=rfl;simp only[kP];split
  · simp
  · rename_i hne;rw[c]at hne;obtain⟨i,d⟩:=eV (qD E-1-k);rw[d]at b hne;rw[show qD E-1-(k+1)=i-1 by omega];have a:i%4=1∨i%4=2∨i%4=3:=by omega
    show(2*(kP M p E k).2+(jw E k).2)*_<8;rcases a with a|a|a
    · rw[a]at b;rw[show(i-1)%4=0 by omega];omega
    · rw[a]at b;rw[show(i-1)%4=1 by omega];omega
    · rw[a]at b;rw[show(i-1)%4=2 by omega];omega
theorem zCt {M:Nat}{p:Nat×Nat×Nat}{E k:Nat}(h:k<qD E):(kP M p E k).2<8:=jh (Nat.le_mul_of_pos_right _ (qS (by omega))) (zBU M p E k h)
theorem zDt {fn:Func}{a:Array Value}{W:World}{p u:Tmp}{g:Nat}{ty:TypeId}{fr:Nat×Nat}{x0 x1 x2 v:Value}(e:fn.results=#[.cell p 33,.tmp u])(d:a.getD p undef=.pointer (some ⟨g,0,none⟩))(f:a.getD u undef=v)
 (c:W.heap[g]?=some (.cells #[x0,x1,x2] ty fr)):(results fn a).run Tryz.prog W=.ok (.tuple #[.agg #[x0,x1,x2],v]) W:=by
 rw[results_cell_tmp e,d]
 have b:(asAddr (.pointer (some ⟨g,0,none⟩)):Sem Addr).run Tryz.prog W=.ok ⟨g,0,none⟩ W:=rfl
 rw[b,jC,run_loadVar_row W g ty 33 #[x0,x1,x2] fr _ c Tryz.underlying33 rfl vl,jC,f]
theorem gM.just {C:Crv}{X Y:World}{b g:Nat}{p:Nat×Nat×Nat}(h:gM C X b p)(c:jE g X Y)(a:b≠g):gM C Y b p:=let ⟨x,y,z,h1,h2⟩:=h;⟨x,y,z,c.at_ a h1,h2⟩
theorem OB.putC {X:World}{base D:Nat}{A:Option Addr}{c:Nat}{l:List Nat}{o o':Obj}(h:OB X base A c l)(k:X.heap[D]?=some o)(m:o.isCells=false):OB (X.putObj D o') base A c l:=by
 obtain⟨d,f,i,j⟩:=h;refine⟨d,f,i,fun p=>?_⟩;obtain⟨g,b,e,n,a,q⟩:=j p;refine⟨g,b,e,n,(qM (fun e=>?_)).trans a,q⟩;subst e;rw[k]at a;cases a;cases m
theorem PtV.put {X:World}{base D:Nat}{v:Value}{p:Option (Nat×Nat)}{o':Obj}(h:PtV X base v p)(a:X.heap[D]?=some (.deferred (some []))):PtV (X.putObj D o') base v p:=by
 cases p with
 | none=>exact h
 | some p =>
  obtain⟨A,c,A',c',rfl,b,d⟩:=h;exact⟨A,c,A',c',rfl,b.putC a rfl,d.putC a rfl⟩
structure MK (n0 t bo be:Nat) (w3 V Z:World):Prop where
 keeps:jS n0 (n0+2) 0 V Z
 stay:yy t n0 V Z
 below:Below bo w3 Z
 tab:Z.heap[be]?=V.heap[be]?
 size:n0≤Z.heap.size
theorem MK.ext {n0 t b be:Nat}{w3 V Z Z':World}(h:MK n0 t b be w3 V Z)(a:Ext Z Z')(c:be<n0)(d:b≤n0):MK n0 t b be w3 V Z' :=
 ⟨h.keeps.trans (jS.below a (zG _)),yy.trans h.stay (a.stay h.size),h.below.trans (Below.mono a (by have:=h.size;omega)),(Below.block a be (by have:=h.size;omega)).trans h.tab,zK h.size a.bsize⟩
theorem MK.just {n0 t b be g:Nat}{w3 V Z Z':World}{cs:Array Value}{T:TypeId}{fr:Nat×Nat}(h:MK n0 t b be w3 V Z)(a:jE g Z Z')(c:Z.heap[g]?=some (.cells cs T fr))(e:g<t)(d:b≤g)(f:be≠g)(i:be<n0)(j:b≤n0):MK n0 t b be w3 V Z' :=
 ⟨h.keeps.trans (jS.just a c),yy.trans h.stay (a.stay e h.size),h.below.trans (a.below d (by have:=h.size;omega)),(a.block be (by have:=h.size;omega) f).trans h.tab,zK h.size a.size⟩
theorem gM.below {C:Crv}{X Y:World}{b B:Nat}{p:Nat×Nat×Nat}(h:gM C X b p)(a:Below B X Y)(c:b<B):gM C Y b p:=let ⟨x,y,z,h1,h2⟩:=h;⟨x,y,z,(a.block b c).trans h1,h2⟩
theorem rX {c:Int}{C:Crv}(hC:IsC c C){p:Value}{F:Bool}{x y E:Nat}{An:Option Addr}{cn:Nat}{n:List Nat}(w:World)(hp:APt w p F x y)(hn:RU w An cn n)(hE:val 18446744073709551616 n=E) :
 Calls Tryz.prog 35 #[.int .i64 c,.slice An n.length cn,p] w fun e w'=>∃ o,e=.returned (.tuple #[o,.bool (uO C F x y E).isSome])∧PtV w' w.heap.size o (uO C F x y E).join∧Ext w w':=by
 obtain⟨A,A',ca,cb,a,b,rfl,ha,hb,hx,hy⟩:=hp
 have hp:APt w (.agg #[.bool F,.slice A a.length ca,.slice A' b.length cb]) F x y:=⟨A,A',ca,cb,a,b,rfl,ha,hb,hx,hy⟩
 obtain⟨W0,am⟩:=eW ((w.alloc (.cells #[.bool F,.slice A a.length ca,.slice A' b.length cb] 33)).alloc (.cells #[.bool false,.slice none 0 0,.slice none 0 0] 33))
 obtain⟨q,hq⟩:=eV w.heap.size
 have aS:Ext w W0:=by rw[am];exact(zL _ _).trans (zL _ _)
 obtain⟨Z,U,bs⟩:=wV w (.cells #[.bool F,.slice A a.length ca,.slice A' b.length cb] 33) (.cells #[.bool false,.slice none 0 0,.slice none 0 0] 33)
 rw[←am,hq]at Z U bs
 have a1:=zF (hp.ext aS)
 have a4:=zF aS
 have aP:=zF bs
 have HC:=zF hC
 have HN:=zF (zN hn aS)
 have HE:=zF hE
 rw[hq]
 obtain⟨res,bn⟩:=eV (uO C F x y E)
 rw[bn]
 have a8:=zF bn
 clear hp aS bs hC bn ha hb hx hy hn hE
 obtain⟨o1,bY⟩:=eV (onQ C F x y)
 have ar:=zF bY
 obtain⟨nb,bX⟩:=eV (qD E)
 have al:=zF bX
 clear bY bX
 cases o1
 case false =>
  obtain rfl:res=none:=by rw[←a8.out,uO,qo (by rw[ar.out];decide)]
  go_enter Tryz.func35,Tryz.ntmps35;go_upto_region 1 with fail;rw[←am];have Hq:=zF hq;clear am hq;go_upto_region 2 with(go_at_call 64;refine(pM HC.out _).mono ?_;rintro e wa ⟨L,rfl,ao,ag⟩);obtain⟨N,ae⟩:=eV wa.heap.size;have h2:=zS wa (.cells #[.pointer (some ⟨L,0,none⟩)] 105);have hA:=zL wa (.cells #[.pointer (some ⟨L,0,none⟩)] 105);rw[ae]at h2;have ap:(wa.alloc (.cells #[.pointer (some ⟨L,0,none⟩)] 105)).heap.size=N+1:=by rw[zz,ae]
  generalize aD:wa.alloc (.cells #[.pointer (some ⟨L,0,none⟩)] 105)=W1 at *;rw[ae];have af:=zF (ao.ext hA);have Q:=zF (ag.trans hA);have aA:=zF ap;have bw:=zF (show q+2≤N by have:=ag.bsize;have:=aP.out;omega);replace Z:=Q.out.at_ Z;replace U:=Q.out.at_ U;have S:=zP h2 0;simp only[zQ,ze]at S;clear ao ag hA ap ae aD
  refine zR 9 [0,0,3,7,15,31,63,127,255] [] (fun j f X=>match j with
   | 0=>f 0=.pointer (some ⟨L,0,none⟩)
   | 1=>f 1=.agg #[.bool F,.slice A a.length ca,.slice A' b.length cb]
   | 2=>f 2=.bool false
   | 3=>f 3=.bool true
   | 4=>f 4=.bool true
   | 5=>f 5=undef
   | 6=>f 6=undef
   | 7=>f 7=undef
   | 8=>f 8=.bool true
   | _=>True) (by kernel_rfl) [(17,0),(18,1),(19,2),(20,3),(21,4),(22,5),(23,6),(24,7),(25,8)] (by kernel_rfl) ?_
  refine Par.ld0 1 8 S ?_;refine lV0 2 7 Z vl ?_;refine qK 3 6 (fun f=>#[f 0,f 1]) (F':=72) (fun f X g hR=>?_) ?_
  · have G:f 0=_:=hR.out 0 rfl;have J:f 1=_:=hR.out 1 rfl;simp only[G,J];refine(mZ (af.out.ext g) HC.out.fine (a1.out.ext (Q.out.trans g))).mono ?_;rw[ar.out];rintro e w2 ⟨rfl,H⟩;exact⟨_,rfl,H,fun _ _=>rfl⟩
  refine zt 4 5 2 ?_;refine zt 5 4 3 ?_;refine kZ 6 3 4 ?_;refine kZ 7 2 4 ?_;refine kZ 8 1 4 ?_;refine qj 9 0 4 7 ?_;refine yF ⟨fun f X g hR ac ad=>?_⟩;have e8:f 8=_:=hR 8 (by decide);simp only[yZ,e8];clear hR ac ad e8;refine zI ?_;have bf:=g.at_ U;go_wp2_with (go_at_call 73;refine(yo _).mono ?_;rintro e wb ⟨rfl,aB⟩;have aK:=aB.at_ bf;obtain⟨z0,z1,z2,f0,f1,f2⟩:=jQ aK);exact gh rfl rfl rfl rfl (xG aK _ _ _) ⟨_,rfl,rfl,xi (((a4.out.trans Q.out).trans g).trans aB) (by have:=Hq.out;omega) _ _ _⟩
 case true =>
  by_cases hbits:nb≤4096;case neg =>
   obtain rfl:res=none:=by rw[←a8.out,uO,qg ar.out,qo (by rw[al.out];exact hbits)]
   have ay:=zF (show(4096:Int)<(nb:Int) by omega);go_enter Tryz.func35,Tryz.ntmps35;go_upto_region 1 with fail;rw[←am];have Hq:=zF hq;clear am hq;go_upto_region 2 with(go_at_call 64;refine(pM HC.out _).mono ?_;rintro e wa ⟨L,rfl,ao,ag⟩);obtain⟨N,ae⟩:=eV wa.heap.size;have h2:=zS wa (.cells #[.pointer (some ⟨L,0,none⟩)] 105);have hA:=zL wa (.cells #[.pointer (some ⟨L,0,none⟩)] 105);rw[ae]at h2;have ap:(wa.alloc (.cells #[.pointer (some ⟨L,0,none⟩)] 105)).heap.size=N+1:=by rw[zz,ae]
   generalize aD:wa.alloc (.cells #[.pointer (some ⟨L,0,none⟩)] 105)=W1 at *;rw[ae];have af:=zF (ao.ext hA);have Q:=zF (ag.trans hA);have aA:=zF ap;have bw:=zF (show q+2≤N by have:=ag.bsize;have:=aP.out;omega);replace Z:=Q.out.at_ Z;replace U:=Q.out.at_ U;have S:=zP h2 0;simp only[zQ,ze]at S;clear ao ag hA ap ae aD
   refine zR 9 [0,0,3,7,15,31,63,127,255] [] (fun j f X=>match j with
    | 0=>f 0=.pointer (some ⟨L,0,none⟩)
    | 1=>f 1=.agg #[.bool F,.slice A a.length ca,.slice A' b.length cb]
    | 2=>f 2=.bool true
    | 3=>f 3=.bool false
    | 4=>f 4=.bool false
    | 5=>f 5=.slice An n.length cn
    | 6=>f 6=.int .i64 (nb:Int)
    | 7=>f 7=.bool true
    | 8=>f 8=.bool true
    | _=>True) (by kernel_rfl) [(17,0),(18,1),(19,2),(20,3),(21,4),(22,5),(23,6),(24,7),(25,8)] (by kernel_rfl) ?_
   refine Par.ld0 1 8 S ?_;refine lV0 2 7 Z vl ?_;refine qK 3 6 (fun f=>#[f 0,f 1]) (F':=72) (fun f X g hR=>?_) ?_
   · have G:f 0=_:=hR.out 0 rfl;have J:f 1=_:=hR.out 1 rfl;simp only[G,J];refine(mZ (af.out.ext g) HC.out.fine (a1.out.ext (Q.out.trans g))).mono ?_;rw[ar.out];rintro e w2 ⟨rfl,H⟩;exact⟨_,rfl,H,fun _ _=>rfl⟩
   refine zt 4 5 2 ?_;refine zt 5 4 3 ?_;refine zt 6 3 4 ?_;refine Par.c1 7 2 4 (fun f=>#[f 5]) (F':=62) (fun f X g hR=>?_) ?_
   · have e5:f 5=_:=hR.out 5 rfl;simp only[e5];refine(vO _ An cn n X (zN HN.out (Q.out.trans g))).mono ?_;rw[HE.out,al.out];rintro e w2 ⟨rfl,rfl⟩;exact⟨_,rfl,(zT _),fun _ _=>rfl⟩
   refine zv 8 1 [(17,0),(18,1),(19,2),(20,3),(21,4),(22,5),(23,6)] (fun f X g hR K u=>?_) ?_
   · have e4:f 4=_:=hR.out 4 rfl;have e6:f 6=_:=hR.out 6 rfl;have cL:decide ((4096:Int)<(nb:Int))=true:=qm (by have:=ay.out;omega);have cK:decide (4096<nb)=true:=qm (by have:=ay.out;omega);simp only[yZ,e4,e6];refine⟨zU (by kernel_rfl) ?_⟩;go_simp;exact qY u (s:=by simp only[yZ,e4,e6])
   refine qj 9 0 4 7 ?_;refine yF ⟨fun f X g hR ac ad=>?_⟩;have e8:f 8=_:=hR 8 (by decide);simp only[yZ,e8];clear hR ac ad e8;refine zI ?_;have bf:=g.at_ U;go_wp2_with (go_at_call 73;refine(yo _).mono ?_;rintro e wb ⟨rfl,aB⟩;have aK:=aB.at_ bf;obtain⟨z0,z1,z2,f0,f1,f2⟩:=jQ aK);exact gh rfl rfl rfl rfl (xG aK _ _ _) ⟨_,rfl,rfl,xi (((a4.out.trans Q.out).trans g).trans aB) (by have:=Hq.out;omega) _ _ _⟩
  case pos =>
   obtain rfl:res=some (uI C.M (kP C.M (upP F x y) E nb).1):=by rw[←a8.out,uO,qg ar.out,qg (by rw[al.out];exact hbits),al.out]
   have ay:=zF (show ¬(4096:Int)<(nb:Int) by omega);refine(callsIn_wide (n:=6)).1 ?_;refine callsIn_of_wp_marks Tryz.func35 rfl trivial ?_ rfl;simp only[Tryz.ntmps35,qZ,jP,jk,Nat.reduceAdd,Nat.reduceSub,Array.replicate_succ,Array.replicate_zero,List.push_toArray,List.append_toArray,vh,ul];refine wpIn_wide.2 ?_;go_upto_region 1 with fail;rw[←am];have Hq:=zF hq;clear am hq;go_upto_region 2 with(go_at_call 64;refine(pM HC.out _).mono ?_;rintro e wa ⟨L,rfl,ao,ag⟩);obtain⟨N,ae⟩:=eV wa.heap.size;have h2:=zS wa (.cells #[.pointer (some ⟨L,0,none⟩)] 105);have hA:=zL wa (.cells #[.pointer (some ⟨L,0,none⟩)] 105);rw[ae]at h2;have ap:(wa.alloc (.cells #[.pointer (some ⟨L,0,none⟩)] 105)).heap.size=N+1:=by rw[zz,ae]
   generalize aD:wa.alloc (.cells #[.pointer (some ⟨L,0,none⟩)] 105)=W1 at *;rw[ae];have af:=zF (ao.ext hA);have Q:=zF (ag.trans hA);have aA:=zF ap;have bw:=zF (show q+2≤N by have:=ag.bsize;have:=aP.out;omega);replace Z:=Q.out.at_ Z;replace U:=Q.out.at_ U;have S:=zP h2 0;simp only[zQ,ze]at S;clear ao ag hA ap ae aD
   refine zR 9 [0,0,3,7,15,31,63,127,255] [] (fun j f X=>match j with
    | 0=>f 0=.pointer (some ⟨L,0,none⟩)
    | 1=>f 1=.agg #[.bool F,.slice A a.length ca,.slice A' b.length cb]
    | 2=>f 2=.bool true
    | 3=>f 3=.bool false
    | 4=>f 4=.bool false
    | 5=>f 5=.slice An n.length cn
    | 6=>f 6=.int .i64 (nb:Int)
    | 7=>f 7=.bool false
    | 8=>f 8=.bool false
    | _=>True) (by kernel_rfl) [(17,0),(18,1),(19,2),(20,3),(21,4),(22,5),(23,6),(24,7),(25,8)] (by kernel_rfl) ?_
   refine Par.ld0 1 8 S ?_;refine lV0 2 7 Z vl ?_;refine qK 3 6 (fun f=>#[f 0,f 1]) (F':=72) (fun f X g hR=>?_) ?_
   · have G:f 0=_:=hR.out 0 rfl;have J:f 1=_:=hR.out 1 rfl;simp only[G,J];refine(mZ (af.out.ext g) HC.out.fine (a1.out.ext (Q.out.trans g))).mono ?_;rw[ar.out];rintro e w2 ⟨rfl,H⟩;exact⟨_,rfl,H,fun _ _=>rfl⟩
   refine zt 4 5 2 ?_;refine zt 5 4 3 ?_;refine zt 6 3 4 ?_;refine Par.c1 7 2 4 (fun f=>#[f 5]) (F':=62) (fun f X g hR=>?_) ?_
   · have e5:f 5=_:=hR.out 5 rfl;simp only[e5];refine(vO _ An cn n X (zN HN.out (Q.out.trans g))).mono ?_;rw[HE.out,al.out];rintro e w2 ⟨rfl,rfl⟩;exact⟨_,rfl,(zT _),fun _ _=>rfl⟩
   refine zv 8 1 [(17,0),(18,1),(19,2),(20,3),(21,4),(22,5),(23,6)] (fun f X g hR K u=>?_) ?_
   · have e4:f 4=_:=hR.out 4 rfl;have e6:f 6=_:=hR.out 6 rfl;have cL:decide ((4096:Int)<(nb:Int))=false:=jT (by have:=ay.out;omega);have cK:decide (4096<nb)=false:=jT (by have:=ay.out;omega);simp only[yZ,e4,e6];refine⟨zU (by kernel_rfl) ?_⟩;go_simp;exact qY u (s:=by simp only[yZ,e4,e6])
   refine qj 9 0 4 7 ?_;refine yF ⟨fun f X g hR ac ad=>?_⟩;have e8:f 8=_:=hR 8 (by decide);simp only[yZ,e8];clear hR ac ad e8;refine zI ?_;have HX:=zF g;rename World=>X2;replace S:=g.cell S;replace Z:=g.at_ Z;replace U:=g.at_ U;clear g h2;go_upto_region 4 with fail;obtain⟨pt,aJ⟩:=eV (og C.M (upP F x y));have b3:pt 0=(1,1,0):=by rw[←aJ];rfl
   have b4:pt 1=upP F x y:=by rw[←aJ];rfl
   have b6:∀ k,1≤k→pt (k+1)=gL C.M (pt k) (pt 1):=by
    intro k hk;obtain⟨k,rfl⟩:∃ m,k=m+1:=⟨k-1,by omega⟩
    rw[←aJ];rfl
   have co:=zF aJ;have bH:=zF b3;have cr:=zF b4;have ct:=zF b6;clear aJ b3 b4 b6
   refine zZ (by kernel_rfl) 4 [0,0,3,0,15] [3] (fun j f X=>match j with
    | 0=>f 0=.pointer (some ⟨L,0,none⟩)
    | 1=>f 1=yU
    | 2=>∃ v,f 2=v∧JAt C v (1,1,0)
    | 3=>∃ b,f 3=.pointer (some ⟨b,0,none⟩)∧X2.heap.size≤b∧X.heap[b]?=some (.cells #[.int .u64 0,.int .u64 0,.int .u64 0,.int .u64 0,.int .u64 0,.int .u64 0,.int .u64 0,.int .u64 0,.int .u64 0,.int .u64 0,.int .u64 0,.int .u64 0,.int .u64 0,.int .u64 0,.int .u64 0,.int .u64 0,.int .u64 0,.int .u64 0] 123 (0,0))
    | _=>True) (by kernel_rfl) [(27,0),(28,1),(29,2),(9,3)] (by kernel_rfl) ?_
   refine Par.ld0 1 3 S ?_;refine qK 2 2 (fun _=>#[]) (F':=73) (fun f X g hR=>?_) ?_
   · refine(yo X).mono ?_;rintro e w2 ⟨rfl,H⟩;exact⟨yU,rfl,H,fun _ _=>rfl⟩
   refine qK 3 1 (fun f=>#[f 0,f 1]) (F':=74) (fun f X g hR=>?_) ?_
   · have G:f 0=_:=hR.out 0 rfl;have J:f 1=_:=hR.out 1 rfl;simp only[G,J];refine(zBu (af.out.ext (HX.out.trans g)) (APt.inf_ X) rfl).mono ?_;rintro e w2 ⟨o,rfl,hj,H⟩;exact⟨_,rfl,H,fun _ _=>⟨_,rfl,hj⟩⟩
   refine kr 4 0 ?_;refine yF ⟨fun f X g hR ac ad=>?_⟩;obtain⟨v2,(T:f 2=_),j2⟩:=hR 2 (by decide);obtain⟨O,(e3:f 3=_),bv,bZ⟩:=hR 3 (by decide);simp only[yZ,T,e3];clear hR ac ad T e3;obtain⟨ox,oy,oz,ev,hf⟩:=j2;subst ev;refine zO (fun K u=>⟨zU (by kernel_rfl) (vM (x:=ox) (y:=oy) (z:=oz) (.tmp 9) (.tmp 29) rfl rfl rfl rfl bZ rfl hf.x.elt.six hf.y.elt.six hf.z.elt.six (fun Y aa P ah=>u.out _ _ ?_))⟩);refine zI ?_;have aE:=P.ext g bv;have c0:q+2≤O:=by have:=HX.out.bsize;have:=Q.out.bsize;have:=aP.out;omega
   have aC:gM C Y O (pt 0):=⟨ox,oy,oz,aa,by rw[bH.out];exact hf⟩
   replace S:=aE.cell S;replace Z:=aE.at_ Z;replace U:=aE.at_ U;have aO:=zF (HX.out.trans aE);have lo:=zK HX.out.bsize bv;have zY:O<Y.heap.size:=aa.lt';clear g aa P ah bZ bv hf aE;rename World=>V4;go_upto_region 5 with fail
   refine zZ (by kernel_rfl) 6 [0,0,0,6,15,0,63] [5] (fun j f X=>match j with
    | 0=>∃ v,f 0=v∧JAt C v (pt 0)
    | 1=>f 1=.pointer (some ⟨L,0,none⟩)
    | 2=>f 2=.agg #[.bool F,.slice A a.length ca,.slice A' b.length cb]
    | 3=>∃ v,f 3=v∧JAt C v (pt 1)
    | 4=>∃ cs:Array Value,f 4=.agg cs∧cs.size=288∧cs.all (·.oneCell')=true∧(∀(W:World) (b:Nat),W.heap[b]?=some (.cells cs 125 (0,0))→wO C W b pt 2)
    | 5=>∃ b,f 5=.pointer (some ⟨b,0,none⟩)∧V4.heap.size≤b∧X.heap[b]?=some (.cells z85 125 (0,0))
    | _=>True) (by kernel_rfl) [(30,0),(31,1),(32,2),(33,3),(34,4),(10,5)] (by kernel_rfl) ?_
   refine zv 1 5 [(31,1),(32,2),(33,3),(10,5)] (fun f X g hR K u=>?_) ?_
   · obtain⟨jx,jy,jz,an,ai⟩:=aC.ext g;simp only[yZ];refine⟨vp (v:=JV jx jy jz) (t:=123) 123 (.tmp 9) rfl rfl an Tryz.underlying123 rfl (by rw[ai.sz];exact gg) rfl ?_⟩;exact u.out _ (JV jx jy jz) _ (by simp only[yZ]) (zT _) trivial (fun _ _=>⟨_,rfl,⟨jx,jy,jz,rfl,ai⟩⟩)
   refine Par.ld0 2 4 S ?_;refine lV0 3 3 Z vl ?_;refine qK 4 2 (fun f=>#[f 1,f 2]) (F':=74) (fun f X g hR=>?_) ?_
   · have J:f 1=_:=hR.out 1 rfl;have T:f 2=_:=hR.out 2 rfl;simp only[J,T];refine(zBu (af.out.ext (aO.out.trans g)) (a1.out.ext ((Q.out.trans aO.out).trans g)) ar.out).mono ?_;rintro e w2 ⟨o,rfl,hj,H⟩;exact⟨o,rfl,H,fun _ _=>⟨_,rfl,by rw[cr.out];exact hj⟩⟩
   refine zv 5 1 [(30,0),(31,1),(32,2),(33,3),(10,5)] (fun f X g hR K u=>?_) ?_
   · obtain⟨v0,(G:f 0=_),j0⟩:=hR.out 0 rfl;obtain⟨v3,(e3:f 3=_),j3⟩:=hR.out 3 rfl;simp only[yZ,G,e3];refine⟨oX (.tmp 30) (.tmp 33) rfl rfl rfl j0 j3 (fun cs Z h2 U=>?_)⟩;exact u.out _ (.agg cs) _ (by simp only[yZ,G,e3]) (zT _) trivial (fun _ _=>⟨cs,rfl,Z,h2,fun W b hb=>U W b hb pt rfl rfl⟩)
   refine kr 6 0 ?_;refine yF ⟨fun f X g hR ac ad=>?_⟩;obtain⟨v0,(G:f 0=_),j0⟩:=hR 0 (by decide);obtain⟨v3,(e3:f 3=_),j3⟩:=hR 3 (by decide);obtain⟨cs,(e4:f 4=_),bp,b0,b5⟩:=hR 4 (by decide);obtain⟨R,(e5:f 5=_),b7,bU⟩:=hR 5 (by decide);simp only[yZ,G,e3,e4,e5];clear hR ac ad G e3 e4 e5;refine zO (fun K u=>⟨zU (by kernel_rfl) (jX (cs':=cs) (t:=125) 125 (.tmp 10) (.tmp 34) rfl rfl rfl rfl bU (by rw[bp];exact zCm) (by rw[bp,t7]) b0 (fun Y aa P ah=>u.out _ _ ?_))⟩);refine zI ?_;have cA:wO C Y R pt 2:=b5 Y R aa;have aF:=P.ext g b7;have zE:R<Y.heap.size:=qd aa;have cX:O<R:=by omega
   have bD:=zF (aO.out.trans aF);replace S:=aF.cell S;replace aC:=aC.ext aF;replace U:=aF.at_ U;clear g aa P ah bU b7 aF j0 j3 b5 bp b0 Z zY aO;rename World=>V5;have cY:N<O:=by have:=aA.out;omega
   go_wp2;go_loopw [11] (fun iv wr=>∃ k:Nat,iv=.int .i64 (k:Int)∧2≤k∧k≤16∧wO C wr R pt k∧Below R V5 wr) (fun iv _=>(16-intOf iv).toNat);case atStart=>exact⟨2,by go_num,by omega,by omega,cA,zo _ _⟩
   case round =>
    obtain⟨k,rfl,cO,cN,hT,H⟩:=hrel;by_cases hlt:k<16
    · obtain⟨m,hm⟩:∃ m,k=m+1:=⟨k-1,by omega⟩
      have J:(k:Int)-1=(m:Int):=by omega
      have cW:(k:Int)<16:=by omega
      have c7:(m:Int)<16:=by omega
      have au:=(H.cell (p:=⟨N,0,none⟩) (by show N<R;omega)).trans S;have aM:=zF (show Ext W1 wr from jJ bD.out (Below.mono H (by have:=aA.out;omega)));have c6:=hT.lt;have cm:=zF (show pt k=gL C.M (pt m) (pt 1) by rw[hm];exact ct.out m (by omega));clear hm;go_upto_region 9 with fail
      refine zZ (by kernel_rfl) 10 [0,0,0,4,12,28,0,64,254,511,1023] [] (fun j f X=>match j with
       | 0=>f 0=.int .i64 (k:Int)
       | 1=>f 1=.pointer (some ⟨L,0,none⟩)
       | 2=>f 2=.int .i64 (k:Int)
       | 3=>f 3=.int .i64 (m:Int)
       | 4=>f 4=.pointer (some ⟨R,m*18,none⟩)
       | 5=>∃ v,f 5=v∧JAt C v (pt m)
       | 6=>f 6=.pointer (some ⟨R,18,none⟩)
       | 7=>∃ v,f 7=v∧JAt C v (pt 1)
       | 8=>∃ v,f 8=v∧JAt C v (pt k)
       | 9=>f 9=.pointer (some ⟨R,k*18,none⟩)
       | _=>True) (by kernel_rfl) [(39,0),(40,1),(41,2),(42,3),(43,4),(44,5),(45,6),(46,7),(47,8),(48,9)] (by kernel_rfl) ?_
      refine zJ 1 9 ?_;refine Par.ld0 2 8 au ?_;refine zJ 3 7 ?_;refine zv 4 6 [(39,0),(40,1),(41,2),(45,6),(46,7)] (fun f X g hR K u=>?_) ?_
      · have T:f 2=_:=hR.out 2 rfl;have ew:IntKind.i64.wrap (m:Int)=(m:Int):=qu _ (by omega);simp only[yZ,T];refine⟨?_⟩;go_simp;exact qY u (s:=by simp only[yZ,T])
      refine zv 5 5 [(39,0),(40,1),(41,2),(42,3),(45,6),(46,7)] (fun f X g hR K u=>?_) ?_
      · have e3:f 3=_:=hR.out 3 rfl;simp only[yZ,e3];refine⟨?_⟩;go_simp;exact qY u (s:=by simp only[yZ,e3])
      refine zv 6 4 [(39,0),(40,1),(41,2),(42,3),(43,4),(45,6),(46,7)] (fun f X g hR K u=>?_) ?_
      · have e4:f 4=_:=hR.out 4 rfl;simp only[yZ,e4];refine⟨bP (.tmp 43) rfl (hT.ext g) (i:=m) (by omega) (zp _ _) rfl (fun v hv=>?_)⟩;exact u.out _ v _ (by simp only[yZ,e4]) (zT _) trivial (fun _ _=>⟨_,rfl,hv⟩)
      refine zJ 7 3 ?_;refine zv 8 2 [(39,0),(40,1),(41,2),(42,3),(43,4),(44,5),(45,6)] (fun f X g hR K u=>?_) ?_
      · have e6:f 6=_:=hR.out 6 rfl;simp only[yZ,e6];refine⟨bP (.tmp 45) rfl (hT.ext g) (i:=1) (by omega) rfl rfl (fun v hv=>?_)⟩;exact u.out _ v _ (by simp only[yZ,e6]) (zT _) trivial (fun _ _=>⟨_,rfl,hv⟩)
      refine qK 9 1 (fun f=>#[f 1,f 5,f 7]) (F':=75) (fun f X g hR=>?_) ?_
      · have J:f 1=_:=hR.out 1 rfl;obtain⟨v5,(e5:f 5=_),j5⟩:=hR.out 5 rfl;obtain⟨v7,(e7:f 7=_),j7⟩:=hR.out 7 rfl;simp only[J,e5,e7];refine(zBe (af.out.ext (aM.out.trans g)) j5 j7).mono ?_;rintro e w2 ⟨o,rfl,hj,H⟩;exact⟨o,rfl,H,fun _ _=>⟨_,rfl,by rw[cm.out];exact hj⟩⟩
      refine zv 10 0 [(39,0),(40,1),(41,2),(42,3),(43,4),(44,5),(45,6),(46,7),(47,8)] (fun f X g hR K u=>?_) ?_
      · have G:f 0=_:=hR.out 0 rfl;simp only[yZ,G];refine⟨?_⟩;go_simp;exact qY u (s:=by simp only[yZ,G])
      refine yF ⟨fun f X g hR ac ad=>?_⟩;obtain⟨v5,(e5:f 5=_),j5⟩:=hR 5 (by decide);obtain⟨v7,(e7:f 7=_),j7⟩:=hR 7 (by decide);obtain⟨v8,(e8:f 8=_),j8⟩:=hR 8 (by decide);have e9:f 9=_:=hR 9 (by decide);simp only[yZ,e5,e7,e8,e9];clear hR ac ad e5 e7 e8 e9;refine zO (fun K u=>⟨sW (.tmp 48) (.tmp 47) rfl rfl (hT.ext g) hlt j8 (zp _ _) rfl rfl (fun Y aa P ah=>u.out _ _ ?_)⟩);refine zI ?_;have bJ:Below R V5 Y:=(H.trans (Below.mono g (by omega))).trans (P.below (zG _) (by have:=g.bsize;omega));have b9:=zF bJ;have ci:=zF aa;have c5:IntKind.i64.wrap ((k:Int)+1)=(k:Int)+1:=qu _ (by omega);clear g aa P ah j5 j7 j8 bJ hT H au;go_wp2;go_roundw;case rel=>exact⟨k+1,by go_num,by omega,by omega,ci.out,b9.out⟩
      case measure=>simp[intOf];omega
    · have bV:k=16:=by omega
      rw[show(k:Int)=16 by omega];rw[bV]at hT;have cW:¬(16:Int)<16:=by omega
      clear hlt cO cN bV;have HT:=zF hT;have bx:=zF H;have aT:gM C wr O (pt 0):=aC.below H cX;have aQ:=(H.block (q+1) (by omega)).trans U;have au:=(H.cell (p:=⟨N,0,none⟩) (by show N<R;omega)).trans S;clear hT H aC U S;have aM:=zF (show Ext W1 wr from jJ bD.out (Below.mono bx.out (by have:=aA.out;omega)));obtain⟨bd,bg⟩:=eV wr.heap.size;have d0:=zS wr (.cells #[.int .u64 0] 81);have ax:=zL wr (.cells #[.int .u64 0] 81);rw[bg]at d0;have bu:(wr.alloc (.cells #[.int .u64 0] 81)).heap.size=bd+1:=by rw[zz,bg]
      have c8:R<bd:=by have:=HT.out.lt;omega
      go_upto_region 11 with fail;generalize cE:wr.alloc (.cells #[.int .u64 0] 81)=W6 at *;replace au:=ax.cell au;replace aQ:=ax.at_ aQ;replace aT:=aT.ext ax;have bC:=zF (HT.out.ext ax);have bz:=zF (aM.out.trans ax);have bj:=oN _ An cn n W6 (zN HN.out (Q.out.trans bz.out)) (fun b hb=>hb);rw[HE.out,bu]at bj;have bF:=zF bj;have cF:=zF bu;clear bj ax bg bu cE HT bx aM;go_wp2_with (go_at_call 76;refine bF.out.mono ?_;rintro e' w3 ⟨b8,cu,rfl,be,bc,aR⟩);obtain⟨t,ht⟩:=eV (bd+1);rw[ht]at be bc aR;rw[ht];have cZ:bd<t:=by omega
      have c2:O<t:=by omega
      have zn:t<w3.heap.size:=qd be;have bh:=zP be 0;simp only[zQ,ze]at bh;have bq:=oM t t w3.heap.size (In t w3.heap.size) b8 cu (digs 18446744073709551616 E) w3 (fun b hb=>hb) (zG _) zn (zG _) bh bc.rn;rw[zi (by omega),al.out]at bq;have cq:=zF bq;have av:Ext W6 w3:=by rw[←ht,←cF.out]at aR;exact aR
      have a5:=zF (bz.out.trans av);have c3:=av.cell au;have cy:=aT.ext av;have cB:=bC.out.ext av;have cI:=av.at_ d0;have cv:=av.at_ aQ;clear bq bF bh be bc aR av au aT d0 aQ bC ht;have cx:gM C w3 O (kP C.M (upP F x y) E 0).1:=by rw[show(kP C.M (upP F x y) E 0).1=pt 0 by rw[bH.out];rfl];exact cy
      have ba:OwnFrom w3.heap.size (fun(k:Nat) X=>gM C X O (kP C.M (upP F x y) E k).1∧X.heap[bd]?=some (.cells #[.int .u64 ((kP C.M (upP F x y) E k).2:Int)] 81 (0,0))∧wO C X R pt 16∧Below O w3 X):=by
       rintro k X X' row ⟨⟨jx,jy,jz,g1,g2⟩,g3,g4,g5⟩ aY hr;have bm:=fun r e=>(hr r e).2;obtain⟨cs',g6,g7⟩:=g4.blk;exact⟨⟨jx,jy,jz,(yS aY bm g1 rfl).trans g1,g2⟩,(yS aY bm g3 rfl).trans g3,g4.same (yS aY bm g6 rfl),ownFrom_below (by omega) (by omega) k X X' row g5 aY hr⟩
      refine(wpIn_wide (n:=6)).1 ?_
      refine' ab (by omega) (gf:=106) (lb:=#[.pointer (some ⟨t,0,none⟩)]) rfl (enters_of Tryz.func106 (by kernel_rfl) rfl)
       cq.out (fun h k=>yy.trans h k) (fun X l o o' hl ho _ _=>⟨by simp,fun i _ hi=>qM (by omega)⟩) fY (zo _ _) (fun _=>rfl)
       (fun k X=>gM C X O (kP C.M (upP F x y) E k).1∧X.heap[bd]?=some (.cells #[.int .u64 ((kP C.M (upP F x y) E k).2:Int)] 81 (0,0))∧wO C X R pt 16∧Below O w3 X) (fun k X=>gM C X O (kP C.M (upP F x y) E k).1∧X.heap[bd]?=some (.cells #[.int .u64 ((kP C.M (upP F x y) E k).2:Int)] 81 (0,0))∧wO C X R pt 16∧Below O w3 X) (fun _ _ _=>False)
       ba ba (fun _ _ _ _ _ h=>h.elim) (fun _ _ _ _=>trivial) (fun B k A C' _ _ hi ht=>?hIT) (fun h=>by cases h) ⟨cx,cI,cB,zo _ _⟩ _ ?assign ?body ?done ?stop
      case hIT=>exact fK (I:=fun k X=>gM C X O (kP C.M (upP F x y) E k).1∧X.heap[bd]?=some (.cells #[.int .u64 ((kP C.M (upP F x y) E k).2:Int)] 81 (0,0))∧wO C X R pt 16∧Below O w3 X) (B:=w3.heap.size) ba hi ht
      case assign =>
       intro l k X K u;gi_wp2;exact u
      case body =>
       rintro l k V ⟨⟨jx,jy,jz,an,ai⟩,aH,aV,h5⟩ hlt _;have zV:=h5.size;have cJ:=zCt (M:=C.M) (p:=upP F x y) (E:=E) (k:=k) (by rw[al.out];exact hlt);have a3:kP C.M (upP F x y) E (k+1)=if(jw E k).1%4=0 then(gL C.M (fF C.M (kP C.M (upP F x y) E k).1) (og C.M (upP F x y) (2*(kP C.M (upP F x y) E k).2+(jw E k).2)),0)else(fF C.M (kP C.M (upP F x y) E k).1,2*(kP C.M (upP F x y) E k).2+(jw E k).2):=rfl
       rw[co.out]at a3;have cG:(jw E k).2<2:=qP _ (by omega);have cM:(jw E k).1≤4096:=by show qD E-1-k≤4096;rw[al.out];omega
       obtain⟨so,br⟩:=eV ((kP C.M (upP F x y) E k).1);obtain⟨d,hd⟩:=eV ((kP C.M (upP F x y) E k).2);obtain⟨bt,aW⟩:=eV ((jw E k).2);obtain⟨ii,aZ⟩:=eV ((jw E k).1);obtain⟨d2,bi⟩:=eV (2*d+bt);rw[br,hd,aW,aZ,bi]at a3;rw[br]at ai;rw[hd]at aH cJ;rw[aW]at cG;rw[aZ]at cM;rw[aW,aZ];have bG:=zF a3;have cj:=zF bi;have aL:=zF (show Ext W1 V from jJ a5.out (Below.mono h5 lo));have cH:d2<16:=by omega
       have bN:MK w3.heap.size t O R w3 V V:=⟨jS.refl _ _ _ _,yy.refl _ _ _,h5,rfl,zV⟩
       have cg:=zF bN;have aq:=zF ai;have a6:=zF aV;have cV:V.cell? ⟨N,0,none⟩=some (.pointer (some ⟨L,0,none⟩)):=(h5.cell (p:=⟨N,0,none⟩) (by show N<O;omega)).trans c3;clear a3 bi br hd aW aZ bN ai aV h5;gi_upto_region 14 with fail
       refine Par.wU 3 [0,0,3,7] [] (fun j f X=>match j with
        | 0=>f 0=.pointer (some ⟨L,0,none⟩)
        | 1=>f 1=JV jx jy jz
        | 2=>∃ v,f 2=v∧JAt C v (fF C.M so)
        | _=>True) (by kernel_rfl) [(53,0),(54,1),(55,2)] (by kernel_rfl) (by kernel_rfl) ?_
       refine zv 1 2 [(54,1)] (fun f X g hR K u=>?_) ?_
       · have x0:=g.cell cV;simp only[yZ];refine⟨?_⟩;go_simp;exact qY u (s:=by simp only[yZ])
       refine zv 2 1 [(53,0)] (fun f X g hR K u=>?_) ?_
       · simp only[yZ];refine⟨vp (v:=JV jx jy jz) (t:=123) 123 (.tmp 9) rfl rfl (g.at_ an) Tryz.underlying123 rfl (by rw[aq.out.sz];exact gg) rfl ?_⟩;exact u.out _ (JV jx jy jz) _ (by simp only[yZ]) (zT _) trivial (fun _ _=>rfl)
       refine zv 3 0 [(53,0),(54,1)] (fun f X g hR K u=>?_) ?_
       · have G:f 0=_:=hR.out 0 rfl;have J:f 1=_:=hR.out 1 rfl;simp only[yZ,G,J];refine⟨?_⟩;go_simp;refine(zBQ (af.out.ext (aL.out.trans g)) ⟨jx,jy,jz,rfl,aq.out⟩).mono ?_;rintro e w2 ⟨o,rfl,hj,H⟩;exact u.out _ o _ (by simp only[yZ,G,J]) H trivial (fun _ _=>⟨_,rfl,hj⟩)
       refine yF ⟨fun f X g hR ac ad=>?_⟩;have G:f 0=_:=hR 0 (by decide);have J:f 1=_:=hR 1 (by decide);obtain⟨v2,(T:f 2=_),j2⟩:=hR 2 (by decide);simp only[yZ,G,J,T];clear hR ac ad G J T;obtain⟨ox,oy,oz,ev,hf⟩:=j2;subst ev;refine zO (fun K u=>⟨zU (by kernel_rfl) (vM (x:=ox) (y:=oy) (z:=oz) (.tmp 9) (.tmp 55) rfl rfl rfl rfl (g.at_ an) aq.out.sz hf.x.elt.six hf.y.elt.six hf.z.elt.six (fun Y aa P ah=>u.out _ _ ?_))⟩);refine zI ?_;refine⟨nofun,?_⟩;have bO:=(cg.out.ext g (by omega) (by omega)).just P (g.at_ an) (by omega) (zG _) (by omega) (by omega) (by omega);have aX:=P.at_ (by omega) (g.at_ aH);have ch:=zF bO;have ce:=zF (show gM C Y O (fF C.M so)from⟨ox,oy,oz,aa,hf⟩);have bE:=zF aX;have cd:=zP aX 0;have fd:=qz aX 0;simp only[zQ,ze]at cd;have cT:IntKind.u64.wrap (2*(d:Int))=2*(d:Int):=qf _ (by omega);have cU:IntKind.u64.wrap (2*(d:Int)+(bt:Int))=(d2:Int):=by rw[qf _ (by omega)];have:=cj.out;omega
       clear bO aX g aa P ah hf an aH cV;gi_upto_region 16 with fail
       obtain⟨aI,bk⟩:=rT bE.out (.int .u64 (d2:Int));have bQ:=ch.out.just bk bE.out (by omega) (by omega) (by omega) (by omega) (by omega);have bK:=ce.out.just bk (by omega);generalize cD:Y.setCell ⟨bd,0,none⟩ (.int .u64 (d2:Int))=V2 at *;have aj:=zF bQ;have bB:=zF bK;have cl:=zF aI;clear bQ bK bk cD cd fd cT cU;by_cases hi4:ii%4=0
       · have aw:kP C.M (upP F x y) E (k+1)=(gL C.M (fF C.M so) (pt d2),0):=by rw[bG.out,qg hi4]
         have az:=zF aw;have a2:(ii:Int)%4=0:=by omega
         have b1:(ii:Int).tmod 4=0:=by rw[IntWalk.rem_in _ _ (by omega)];exact a2
         have cC:=zF (a6.out.same aj.out.tab);have bI:V2.cell? ⟨N,0,none⟩=some (.pointer (some ⟨L,0,none⟩)):=(aj.out.below.cell (p:=⟨N,0,none⟩) (by show N<O;omega)).trans c3;have a9:=zP aI 0;simp only[zQ,ze]at a9;have cc:=zF (show Ext W1 V2 from jJ a5.out (Below.mono aj.out.below lo));obtain⟨mx,my,mz,a0,bW⟩:=bB.out;have a7:=zF bW;clear aw bW;gi_upto_region 17 with fail
         clear a2 b1
         refine Par.aU (by kernel_rfl) 6 [0,0,0,4,12,31,63] [] (fun j f X=>match j with
          | 0=>f 0=.pointer (some ⟨L,0,none⟩)
          | 1=>f 1=JV mx my mz
          | 2=>f 2=.int .u64 (d2:Int)
          | 3=>f 3=.pointer (some ⟨R,d2*18,none⟩)
          | 4=>∃ v,f 4=v∧JAt C v (pt d2)
          | 5=>∃ v,f 5=v∧JAt C v (gL C.M (fF C.M so) (pt d2))
          | _=>True) (by kernel_rfl) [(63,0),(64,1),(65,2),(66,3),(67,4),(68,5)] (by kernel_rfl) (by kernel_rfl) ?_
         refine zv 1 5 [(64,1),(65,2),(66,3),(67,4)] (fun f X g hR K u=>?_) ?_
         · have x0:=g.cell bI;simp only[yZ];refine⟨?_⟩;go_simp;exact qY u (s:=by simp only[yZ])
         refine zv 2 4 [(63,0),(65,2),(66,3),(67,4)] (fun f X g hR K u=>?_) ?_
         · simp only[yZ];refine⟨vp (v:=JV mx my mz) (t:=123) 123 (.tmp 9) rfl rfl (g.at_ a0) Tryz.underlying123 rfl (by rw[a7.out.sz];exact gg) rfl ?_⟩;exact u.out _ (JV mx my mz) _ (by simp only[yZ]) (zT _) trivial (fun _ _=>rfl)
         refine zv 3 3 [(63,0),(64,1)] (fun f X g hR K u=>?_) ?_
         · have x0:=g.cell a9;simp only[yZ];refine⟨?_⟩;go_simp;exact qY u (s:=by simp only[yZ])
         refine zv 4 2 [(63,0),(64,1),(65,2)] (fun f X g hR K u=>?_) ?_
         · have T:f 2=_:=hR.out 2 rfl;have c4:(d2:Int)<16:=by omega
           simp only[yZ,T];refine⟨?_⟩;go_simp;exact qY u (s:=by simp only[yZ,T])
         refine zv 5 1 [(63,0),(64,1),(65,2),(66,3)] (fun f X g hR K u=>?_) ?_
         · have e3:f 3=_:=hR.out 3 rfl;simp only[yZ,e3];refine⟨bP (.tmp 66) rfl (cC.out.ext g) (i:=d2) cH (zp _ _) rfl (fun v hv=>?_)⟩;exact u.out _ v _ (by simp only[yZ,e3]) (zT _) trivial (fun _ _=>⟨_,rfl,hv⟩)
         refine zv 6 0 [(63,0),(64,1),(65,2),(66,3),(67,4)] (fun f X g hR K u=>?_) ?_
         · have G:f 0=_:=hR.out 0 rfl;have J:f 1=_:=hR.out 1 rfl;obtain⟨v4,(e4:f 4=_),j4⟩:=hR.out 4 rfl;simp only[yZ,G,J,e4];refine⟨?_⟩;go_simp;refine(zBe (af.out.ext (cc.out.trans g)) ⟨mx,my,mz,rfl,a7.out⟩ j4).mono ?_;rintro e w2 ⟨o,rfl,hj,H⟩;exact u.out _ o _ (by simp only[yZ,G,J,e4]) H trivial (fun _ _=>⟨_,rfl,hj⟩)
         refine yF ⟨fun f X g hR ac ad=>?_⟩;have G:f 0=_:=hR 0 (by decide);have J:f 1=_:=hR 1 (by decide);have T:f 2=_:=hR 2 (by decide);have e3:f 3=_:=hR 3 (by decide);obtain⟨v4,(e4:f 4=_),j4⟩:=hR 4 (by decide);obtain⟨v5,(e5:f 5=_),j5⟩:=hR 5 (by decide);simp only[yZ,G,J,T,e3,e4,e5];clear hR ac ad G J T e3 e4 e5;obtain⟨ux,uy,uz,ev,hf⟩:=j5;subst ev;refine zO (fun K u=>⟨zU (by kernel_rfl) (vM (x:=ux) (y:=uy) (z:=uz) (.tmp 9) (.tmp 68) rfl rfl rfl rfl (g.at_ a0) a7.out.sz hf.x.elt.six hf.y.elt.six hf.z.elt.six (fun Y aa P ah=>u.out _ _ ?_))⟩);refine zI ?_;refine⟨nofun,?_⟩;have bR:=(aj.out.ext g (by omega) (by omega)).just P (g.at_ a0) (by omega) (zG _) (by omega) (by omega) (by omega);have aG:=P.at_ (by omega) (g.at_ aI);have bL:gM C Y O (gL C.M (fF C.M so) (pt d2)):=⟨ux,uy,uz,aa,hf⟩
         obtain⟨bT,bl⟩:=rT aG (.int .u64 0);have bS:=bR.just bl aG (by omega) (by omega) (by omega) (by omega) (by omega);have bM:=bL.just bl (by omega);have cd:=zP aG 0;have fd:=qz aG 0;simp only[zQ,ze]at cd;have aN:=zF bS;have cf:=zF bM;have ck:=zF bT;clear bR bS bL bM aG bT bl g aa P ah hf a0 bI a9 aI;gi_wp2;exact⟨aN.out.keeps,aN.out.stay,by rw[az.out];exact cf.out,by rw[az.out];exact ck.out,a6.out.same aN.out.tab,aN.out.below⟩
       · have aw:kP C.M (upP F x y) E (k+1)=(fF C.M so,d2):=by rw[bG.out,qo hi4]
         have az:=zF aw;have a2:¬(ii:Int)%4=0:=by omega
         have b1:¬(ii:Int).tmod 4=0:=by rw[IntWalk.rem_in _ _ (by omega)];exact a2
         clear aw aI;gi_wp2;exact⟨aj.out.keeps,aj.out.stay,by rw[az.out];exact bB.out,by rw[az.out];exact cl.out,a6.out.same aj.out.tab,aj.out.below⟩
      case done =>
       rintro D V hD ⟨⟨jx,jy,jz,an,ai⟩,aH,aV,h5⟩ cz;have aL:=zF (show Ext W1 V from jJ a5.out (Below.mono h5 lo));have cV:V.cell? ⟨N,0,none⟩=some (.pointer (some ⟨L,0,none⟩)):=(h5.cell (p:=⟨N,0,none⟩) (by show N<O;omega)).trans c3;have b2:=(h5.block (q+1) (by omega)).trans cv;have aq:=zF ai;have bA:=zF ((a4.out.trans Q.out).trans aL.out);obtain⟨rs,bo⟩:=eV ((kP C.M (upP F x y) E nb).1);rw[bo]at aq;have cp:=zF bo;clear ai aV aH bo h5;go_upto_region 19 with fail
       refine zR 3 [0,0,3,7,15] [] (fun j f X=>match j with
        | 0=>f 0=.pointer (some ⟨L,0,none⟩)
        | 1=>f 1=JV jx jy jz
        | 2=>∃ v,f 2=v∧PtV X q v (uI C.M rs)
        | _=>True) (by kernel_rfl) [(69,0),(70,1),(71,2)] (by kernel_rfl) ?_
       refine Par.ld0 1 2 cV ?_;refine zv 2 1 [(69,0)] (fun f X g hR K u=>?_) ?_
       · simp only[yZ];refine⟨vp (v:=JV jx jy jz) (t:=123) 123 (.tmp 9) rfl rfl (g.at_ an) Tryz.underlying123 rfl (by rw[aq.out.sz];exact gg) rfl ?_⟩;exact u.out _ (JV jx jy jz) _ (by simp only[yZ]) (zT _) trivial (fun _ _=>rfl)
       refine qK 3 0 (fun f=>#[f 0,f 1]) (F':=78) (fun f X g hR=>?_) ?_
       · have G:f 0=_:=hR.out 0 rfl;have J:f 1=_:=hR.out 1 rfl;simp only[G,J];refine(zBN (af.out.ext (aL.out.trans g)) HC.out.plen ⟨jx,jy,jz,rfl,aq.out⟩).mono ?_;rintro e w2 ⟨o,rfl,hj,H⟩;exact⟨o,rfl,H,fun Y hY=>⟨_,rfl,(hj.mono (by have:=bA.out.bsize;have:=g.bsize;have:=Hq.out;omega)).ext hY⟩⟩
       refine yF ⟨fun f X g hR ac ad=>?_⟩;obtain⟨v2,(T:f 2=_),j2⟩:=hR 2 (by decide);simp only[yZ,T];clear hR ac ad T;obtain⟨x0,x1,x2,ev,cP,aw⟩:=ak (b:=q+1) j2;subst ev;refine zO (fun K u=>⟨zU (by kernel_rfl) (jX (cs':=#[x0,x1,x2]) (t:=33) 33 (.tmp 6) (.tmp 71) rfl rfl rfl rfl (g.at_ b2) vl rfl cP (fun Y aa P ah=>u.out _ _ ?_))⟩);refine zO (fun K u=>⟨zU (by kernel_rfl) ?_⟩);go_simp;refine u.out _ _ ?_;refine zI ?_;go_wp2;have bb:Y.heap[D]?=some (.deferred (some [])):=P.at_ (by omega) (g.at_ cz);have cR:(Y.putObj D (.deferred none)).heap[q+1]?=some (.cells #[x0,x1,x2] 33 (0,0)):=(qM (by omega)).trans aa;have cw:Ext w Y:=P.ext (bA.out.trans g) (by have:=Hq.out;omega);have cS:PtV Y q (.agg #[x0,x1,x2]) (uI C.M rs):=aw Y P ⟨_,g.at_ b2⟩;have cQ:PtV (Y.putObj D (.deferred none)) q (.agg #[x0,x1,x2]) (uI C.M rs):=cS.put bb;refine⟨by simp,.inl ⟨_,_,rfl,run_takeDeferred bb,_,zDt rfl rfl rfl cR,⟨_,rfl,by rw[cp.out];exact cQ,jJ cw (belowK_b (w:=w) (zG _) Y D _ _ (by have:=Hq.out;omega) bb rfl rfl)⟩⟩⟩
      case stop=>exact fun _ _ _ _ _ _ _ h _=>h.elim
end Go.Proofs.YtaemogcomplhiaaGreatDoor
namespace Go.Proofs.YtaemogcomplhiaaGreatDoor.Ec
open Go.RowKit
def vX (C:Crv) (x:Nat):Bool:=decide (0<x)&&decide (x<val 18446744073709551616 C.nl)
theorem yg {x:Nat} : (0:Int)<(qD x:Int)↔0<x:=by
 by_cases h:x=0
 · subst h;simp[xk]
 · have:=(wJ h).2.2;omega
theorem aJ {c:Int}{C:Crv}(u:IsU c C)(P:Nat→Prop)(A:Option Addr)(cap:Nat)(l:List Nat)(w:World)(h:RN w P A cap l)(m:∀ b,P b→b<w.heap.size) :
 Calls Tryz.prog 34 #[.int .i64 c,.slice A l.length cap] w fun e w'=>e=.returned (.bool (vX C (val 18446744073709551616 l)))∧Ext w w':=by
 have HB:=zF (vO P A cap l w h)
 have r:=zF (zCS u w)
 have f:=zF (fun X (v:Ext w X) A' c'=>fun(a:RU X A' c' C.nl)=>xO P (fun b=>b<X.heap.size) A A' cap c' l C.nl X (h.below v m) a)
 unfold vX
 obtain⟨x,o⟩:=eV (val 18446744073709551616 l)
 rw[o]at HB f ⊢
 obtain⟨n,i⟩:=eV (val 18446744073709551616 C.nl)
 simp only[i]at f
 rw[i]
 clear o i h m
 by_cases h0:0<x
 · have k0:(0:Int)<(qD x:Int):=yg.2 h0;have s:=zF h0;clear h0;go_enter Tryz.func34,Tryz.ntmps34;go_wp2_with fail;refine HB.out.mono ?_;rintro e k ⟨rfl,rfl⟩;go_wp2_with fail;refine r.out.mono ?_;rintro e k ⟨A',c',rfl,a,g⟩;have p:=zF (f.out k g A' c' a);have q:=zF g;clear a g;go_wp2_with fail;refine p.out.mono ?_;rintro e w2 ⟨rfl,d,rfl⟩;obtain⟨z,j⟩:=eV (wK x n)
   have t:=zF (show(decide (0<x)&&decide (x<n))=decide (z<0) by
    rw[←j,qm s.out,Bool.true_and]
    unfold wK
    by_cases h1:x<n
    · rw[qg h1,qm h1];rfl
    · rw[qo h1,jT h1];split<;>rfl)
   rw[j];clear j;go_wp2;go_ret;exact⟨by rw[t.out];rfl,q.out.trans (kE _ _)⟩
 · obtain rfl:x=0:=by omega
   have k0:¬(0:Int)<(qD 0:Int):=by simp[xk]
   clear h0;go_enter Tryz.func34,Tryz.ntmps34;go_wp2_with fail;refine HB.out.mono ?_;rintro e k ⟨rfl,rfl⟩;go_wp2;go_ret;exact⟨rfl,zT _⟩
def cX (C:Crv) (x:Nat):Option (Option (Nat×Nat)):=if vX C x=true then uO C false (val 18446744073709551616 C.xl) (val 18446744073709551616 C.yl) x else none
theorem cM (w:World):Calls Tryz.prog 30 #[] w fun e w'=>e=.returned yU∧Ext w w':=by
 go_enter Tryz.func30,Tryz.ntmps30;go_wp2;exact oL rfl rfl rfl (zS w _) ⟨rfl,zL _ _⟩
theorem PtV.mono {w:World}{base base':Nat}{v:Value}{o:Option (Nat×Nat)}(h:PtV w base v o)(a:base'≤base):PtV w base' v o:=by
 cases o with
 | none=>exact h
 | some p=>obtain⟨A,c,A',c',b,d,e⟩:=h;exact⟨A,c,A',c',b,d.mono a,e.mono a⟩
theorem fO {c:Int}{C:Crv}(j:IsU c C)(P:Nat→Prop)(A:Option Addr)(cap:Nat)(l:List Nat)(w:World)(h:RN w P A cap l)(t:∀ b,P b→b<w.heap.size) :
   Calls Tryz.prog 12 #[.int .i64 c,.slice A l.length cap] w fun e w'=>∃ o,e=.returned (.tuple #[o,.bool (cX C (val 18446744073709551616 l)).isSome])∧PtV w' w.heap.size o (cX C (val 18446744073709551616 l)).join∧Ext w w':=by
 obtain⟨W0,k⟩:=eW (w.alloc (.cells #[.bool false,.slice none 0 0,.slice none 0 0] 33));have n:=zS w (.cells #[.bool false,.slice none 0 0,.slice none 0 0] 33);have s:=zL w (.cells #[.bool false,.slice none 0 0,.slice none 0 0] 33);have Q:W0.heap.size=w.heap.size+1:=by rw[k];simp
 rw[←k]at n s;have B:=zF (aJ j P A cap l W0 (h.below s t) (fun b f=>zH (t b f) s.bsize));have I:=zF (fun X (D:Ext w X)=>(show RU X A cap l from(h.below D t).ru (fun b f=>zH (t b f) D.bsize)));obtain⟨x,O⟩:=eV (val 18446744073709551616 l);rw[O]at B ⊢;have Hx:=zF O;have F:vX C x=false→cX C x=none:=fun h=>by unfold cX;rw[h];rfl
 have G:vX C x=true→cX C x=uO C false (val 18446744073709551616 C.xl) (val 18446744073709551616 C.yl) x:=fun h=>by unfold cX;rw[h];rfl
 have E:vX C x=true→IsC c C:=fun h=>by
   rcases j with h1|⟨_,_,rfl⟩
   · exact h1
   · simp[vX,c0]at h
 obtain⟨m,hm⟩:=eV (vX C x);rw[hm]at B F G E;obtain⟨q,N⟩:=eV w.heap.size;rw[N]at n Q ⊢;have i:=zF N;have S:=zF s;have Hz:=zF Q;clear h t O hm N s Q;cases m
 · rw[F rfl];clear F G E I;go_enter Tryz.func12,Tryz.ntmps12;go_upto_region 1 with fail;rw[←k,i.out];clear k;go_wp2_with fail;refine B.out.mono ?_;rintro e w1 ⟨rfl,a⟩;have u:=a.at_ n;have H:=zF (S.out.trans a);clear n a;go_wp2_with fail;refine(cM _).mono ?_;rintro e w2 ⟨rfl,d⟩;have y:=d.at_ u;obtain⟨z0,z1,z2,f0,f1,f2⟩:=jQ y;have r:=zF (H.out.trans d);clear u d;unfold yU;go_wp2;exact gh rfl rfl rfl rfl (xG y _ _ _) ⟨_,rfl,rfl,xi r.out (by rw[i.out];exact zG _) _ _ _⟩
 · rw[G rfl];have j:=E rfl;have ab:=zF (fun X=>pu j X);have W:=zF (fun X (D:Ext w X) v (g:APt X v false (val 18446744073709551616 C.xl) (val 18446744073709551616 C.yl))=>rX j X g (I.out X D) Hx.out);obtain⟨R,M⟩:=eV (uO C false (val 18446744073709551616 C.xl) (val 18446744073709551616 C.yl) x);simp only[M]at W;rw[M];clear F G E j I M;go_enter Tryz.func12,Tryz.ntmps12;go_upto_region 1 with fail;rw[←k,i.out];clear k;go_wp2_with fail;refine B.out.mono ?_;rintro e w1 ⟨rfl,a⟩;have u:=a.at_ n;have H:=zF (S.out.trans a);clear n a;go_wp2_with fail;refine(ab.out _).mono ?_;rintro e w2 ⟨A2,c2,A3,c3,rfl,Z,h3,d⟩;have y:=d.at_ u;have r:=zF (H.out.trans d);have V:=zF (W.out w2 r.out _ ⟨A2,A3,c2,c3,C.xl,C.yl,rfl,Z,h3,rfl,rfl⟩);clear u d Z h3;go_wp2_with fail;refine V.out.mono ?_;rintro e w3 ⟨o,rfl,g,K⟩;have z:=K.at_ y;have aa:q≤w2.heap.size:=by have:=r.out.bsize;have:=i.out;omega
   obtain⟨z0,z1,z2,f0,f1,f2⟩:=jQ z;have T:=zF (r.out.trans K);have g:=PtV.mono g aa;clear y K V aa;obtain⟨b,f⟩:=eV R.isSome;obtain⟨J,L⟩:=eV R.join;rw[f];rw[L]at g;have Y:=zF f;have U:=zF L;clear f L;cases J with
   | none =>
     obtain rfl:o=yU:=g;unfold yU;go_wp2;exact gh rfl rfl rfl rfl (xG z _ _ _) ⟨_,by rw[Y.out];rfl,by rw[U.out];rfl,xi T.out (by rw[i.out];exact zG _) _ _ _⟩
   | some p =>
     obtain⟨A5,c5,A6,c6,rfl,h5,h6⟩:=g;have H5:=zF h5;have H6:=zF h6;clear h5 h6;go_wp2;exact gh rfl rfl rfl rfl (xG z _ _ _) ⟨_,by rw[Y.out];rfl,by rw[U.out];exact⟨A5,c5,A6,c6,rfl,H5.out.just (mU _ _ _ _ _) z (by decide),H6.out.just (mU _ _ _ _ _) z (by decide)⟩,xi T.out (by rw[i.out];exact zG _) _ _ _⟩
end Go.Proofs.YtaemogcomplhiaaGreatDoor.Ec
namespace Go.Proofs.YtaemogcomplhiaaGreatDoor.Sha
abbrev W:=BitVec 32
def rr (n:Nat) (x:W):W:=(x <<<(32-n)) ||| (x >>> n)
def g0 (x:W):W:=rr 7 x ^^^ rr 18 x ^^^(x >>> 3)
def g1 (x:W):W:=rr 17 x ^^^ rr 19 x ^^^(x >>> 10)
def S1 (x:W):W:=rr 6 x ^^^ rr 11 x ^^^ rr 25 x
def S0 (x:W):W:=rr 2 x ^^^ rr 13 x ^^^ rr 22 x
def ch (x y z:W):W:=(x &&& y) ^^^(~~~x &&& z)
def mj (x y z:W):W:=(x &&& y) ^^^(x &&& z) ^^^(y &&& z)
def wd (l:List W) (i:Nat):W:=l.getD i 0
def o (n:Nat):W:=BitVec.ofNat 32 n
def be (l:List Nat) (i:Nat):W:=(o (l.getD i 0) <<< 24) ||| (o (l.getD (i+1) 0) <<< 16) ||| (o (l.getD (i+2) 0) <<< 8) ||| o (l.getD (i+3) 0)
def nxt (l:List W):W:=wd l (l.length-16)+g0 (wd l (l.length-15))+wd l (l.length-7)+g1 (wd l (l.length-2))
def sch (p:List Nat):Nat→List W
 | 0=>[]
 | k+1=>sch p k++[if k<16 then be p (4*k)else nxt (sch p k)]
def kk:List W:=[
 0x428a2f98,0x71374491,0xb5c0fbcf,0xe9b5dba5,0x3956c25b,0x59f111f1,0x923f82a4,0xab1c5ed5,
 0xd807aa98,0x12835b01,0x243185be,0x550c7dc3,0x72be5d74,0x80deb1fe,0x9bdc06a7,0xc19bf174,
 0xe49b69c1,0xefbe4786,0x0fc19dc6,0x240ca1cc,0x2de92c6f,0x4a7484aa,0x5cb0a9dc,0x76f988da,
 0x983e5152,0xa831c66d,0xb00327c8,0xbf597fc7,0xc6e00bf3,0xd5a79147,0x06ca6351,0x14292967,
 0x27b70a85,0x2e1b2138,0x4d2c6dfc,0x53380d13,0x650a7354,0x766a0abb,0x81c2c92e,0x92722c85,
 0xa2bfe8a1,0xa81a664b,0xc24b8b70,0xc76c51a3,0xd192e819,0xd6990624,0xf40e3585,0x106aa070,
 0x19a4c116,0x1e376c08,0x2748774c,0x34b0bcb5,0x391c0cb3,0x4ed8aa4a,0x5b9cca4f,0x682e6ff3,
 0x748f82ee,0x78a5636f,0x84c87814,0x8cc70208,0x90befffa,0xa4506ceb,0xbef9a3f7,0xc67178f2]
structure St where
 (a b c d e f g h:W)
def rnd (s:St) (k w:W):St :=
 let t:=s.h+S1 s.e+ch s.e s.f s.g+k+w
 ⟨t+(S0 s.a+mj s.a s.b s.c),s.a,s.b,s.c,s.d+t,s.e,s.f,s.g⟩
def uY (L:List W) (s:St):Nat→St
 | 0=>s
 | k+1=>rnd (uY L s k) (wd kk k) (wd L k)
def St.add (s t:St):St:=⟨s.a+t.a,s.b+t.b,s.c+t.c,s.d+t.d,s.e+t.e,s.f+t.f,s.g+t.g,s.h+t.h⟩
def pk (s:St) (p:List Nat):St:=s.add (uY (sch p 64) s 64)
def kK (s:St) (m:List Nat):Nat→St
 | 0=>s
 | k+1=>pk (kK s m k) ((m.drop (64*k)).take 64)
def yG:St:=⟨0x6a09e667,0xbb67ae85,0x3c6ef372,0xa54ff53a,0x510e527f,0x9b05688c,0x1f83d9ab,0x5be0cd19⟩
def byt (n:Nat):List Nat:=[n/16777216%256,n/65536%256,n/256%256,n%256]
def St.list (s:St):List W:=[s.a,s.b,s.c,s.d,s.e,s.f,s.g,s.h]
def St.out (s:St):List Nat:=s.list.flatMap fun x=>byt x.toNat
def bT (n:Nat):List Nat:=[128]++List.replicate ((119-n%64)%64) 0++byt (n*8/4294967296)++byt (n*8%4294967296)
def pad (m:List Nat):List Nat:=m++bT m.length
def sha (m:List Nat):List Nat:=(kK yG (pad m) ((pad m).length/64)).out
def qh (k:List Nat) (c:Nat):List Nat:=(List.range 64).map fun i=>k.getD i 0 ^^^ c
def xY (k m:List Nat):List Nat:=sha (qh k 92++sha (qh k 54++m))
theorem ym (p:List Nat):∀ k,(sch p k).length=k
 | 0=>rfl
 | k+1=>by simp[sch,ym p k]
theorem gr (p:List Nat):∀(k j:Nat),j<k→wd (sch p k) j=if j<16 then be p (4*j)else nxt (sch p j)
 | 0,j,h=>by omega
 | k + 1, j, h => by
   have b:=ym p k;unfold wd;rw[sch,zy];rcases qH j k with a|a
   · rw[wv (by omega),←zy];exact gr p k j a
   · obtain rfl:j=k:=by omega
     rw[uS (by omega),b,uk];rfl
theorem fe (p:List Nat){k a j:Nat}(h:j<k)(b:j<a):wd (sch p k) j=wd (sch p a) j:=by rw[gr p k j h,gr p a j b]
theorem nN (p:List Nat){n j:Nat}(b:16≤j)(a:j<n) :
 wd (sch p n) j=wd (sch p n) (j-16)+g0 (wd (sch p n) (j-15))+wd (sch p n) (j-7)+g1 (wd (sch p n) (j-2)):=by
 rw[gr p n j a,qo (by omega)]
 unfold nxt
 rw[ym]
 rw[fe p (show j-16<j by omega) (show j-16<n by omega),fe p (show j-15<j by omega) (show j-15<n by omega),fe p (show j-7<j by omega) (show j-7<n by omega),fe p (show j-2<j by omega) (show j-2<n by omega)]
theorem gF (n:Nat):(byt n).length=4:=rfl
theorem pq (n:Nat):∀ x∈byt n,x<256:=by
 intro x a;simp only[byt,List.mem_cons,List.not_mem_nil,or_false]at a;omega
theorem zD6 (s:St):∀ x∈s.out,x<256:=by
 intro x a;obtain⟨y,_,b⟩:=List.mem_flatMap.1 a;exact pq _ x b
theorem fM (m:List Nat):(sha m).length=32:=rfl
theorem zDj (m:List Nat):∀ x∈sha m,x<256:=zD6 _
theorem gP (n:Nat):(bT n).length=9+(119-n%64)%64:=by simp[bT,byt];omega
theorem pF (m:List Nat):(pad m).length%64=0:=by
 rw[pad,zf,gP];omega
theorem cE (s:St)(m a:List Nat):∀ k,(∀ j,j<k→(m.drop (64*j)).take 64=(a.drop (64*j)).take 64)→kK s m k=kK s a k
 | 0,_=>rfl
 | k + 1, h => by
   rw[kK,kK,cE s m a k (fun j b=>h j (by omega)),h k (by omega)]
theorem mN (s:St)(m t:List Nat)(k:Nat)(b:64*k≤m.length):kK s (m++t) k=kK s m k :=
 cE s _ _ k fun j a=>by
  rw[List.drop_append_of_le_length (by omega),List.take_append_of_le_length (by rw[qa];omega)]
end Go.Proofs.YtaemogcomplhiaaGreatDoor.Sha
namespace Go.Proofs.YtaemogcomplhiaaGreatDoor
open Go.RowKit
namespace Par
section
variable {P:Program} {ops:Array Oper} {Q:Exit→Act→World→Prop}
theorem zBh {M:Nat→Nat}{n:Nat}(d:cq ops M n){D:Nat→Bool}{f:Nat→Value}{a:Act}{i:Nat}(o:∀ j,j<n→D j=true→nd M i j=true) :
   ∃ g, (∀ j, D j = true → g j = f j) ∧ put ops D f (List.range n) a = put ops (nd M i) g (List.range n) a ∧
     (i<n→∀ v,(put ops (nd M i) g (List.range n) a).put (dst ops i) v=put ops (fun j=>D j||j==i) (upd g i v) (List.range n) a):=by
 refine⟨fun j=>if D j=true then f j else((dst ops j).map fun t=>a.tmps.getD t undef).getD undef,fun j c=>by simp only[c,if_true],?_,fun m v=>?_⟩
 · exact gS a List.nodup_range (fun p h q k=>d.own p q (List.mem_range.1 h) (List.mem_range.1 k)) (fun j c b=>⟨o j (List.mem_range.1 c) b,by simp only[b,if_true]⟩) a
     (fun j _ b t l=>by simp only[b,yO,ya,l,yc,vP])
 · rw[bc (List.mem_range.2 m) List.nodup_range (fun j c e=>d.own i j m (List.mem_range.1 c) (xa e)) (by simp[nd])];refine(gS a List.nodup_range (fun p h q k=>d.own p q (List.mem_range.1 h) (List.mem_range.1 k)) (fun j c b=>⟨?_,rfl⟩) a (fun j c b t l=>?_)).symm
   · rw[qn,jm]at b;rw[qn,jm];exact b.imp (o j (List.mem_range.1 c)) id
   · rw[Bool.or_eq_false_iff]at b;have e:j≠i:=by simpa using b.2
     simp only[upd,e,ya,b.1,yO,l,yc,vP]
theorem fA {M:Nat→Nat}{j:Nat}{f g:Nat→Value}(h:∀ k,(k=j∨(M j).testBit k=true)→f k=g k):qh M j f=qh M j g:=by
 funext k;unfold qh;split
 · rename_i hk;rw[qn,jm]at hk;exact h k hk
 · rfl
theorem bZ {M:Nat→Nat}{n:Nat}(a:cq ops M n){listed:Array Bool}(q:listed.size=ops.size){j:Nat}(o:j<n)(d:listed.getD j false=false):Region.ready .any ops listed≠[]:=by
 intro h;have:∀ k,k≤n→(∀ i,i<k→listed.getD i false=true):=by
   intro k;induction k with
   | zero=>intro _ i l;omega
   | succ k ihk =>
     intro p i l;by_cases hik:i<k
     · exact ihk (by omega) i hik
     · obtain rfl:i=k:=by omega
       cases hd:listed.getD i false
       · exfalso;have b:i<ops.size:=by have:=a.le;omega
         have c:i∈Region.ready .any ops listed:=by
           rw[mem_ready];have m:i<listed.size:=by omega
           exact⟨by simpa[m]using hd,_,qJ b,fun e g f=>ihk (by omega) _ (a.up i _ (qJ b) e g f)⟩
         rw[h]at c;cases c
       · rfl
 rw[this n (zG _) j o]at d;cases d
theorem aD {n:Nat}{listed:Array Bool}(d:listed.size=ops.size)(b:∀ j,j<n→listed.getD j false=true)(c:∀ j,listed.getD j false=true→j<n):listed=wm ops.size n:=by
 apply Array.ext
 · simp[wm,d]
 · intro k a e;simp only[wm,List.getElem_toArray,List.getElem_map,List.getElem_range];by_cases hk:k<n
   · have:=b k hk;simpa[a,hk]using this
   · cases hd:listed[k]
     · simp[hk]
     · exact absurd (c k (by simp[a,hd])) hk
theorem rO {listed:Array Bool}{i:Nat}(a:i<listed.size)(j:Nat):(listed.setIfInBounds i true).getD j false=(listed.getD j false||j==i):=by
 by_cases hji:j=i
 · subst hji;simp[a]
 · rw[Go.getD_set_ne false (fun e=>hji e.symm)];simp[hji]
theorem zBA (f:Nat→Value)(i:Nat)(v:Value)(j:Nat)(a:j≠i):upd f i v j=f j:=by simp only[upd,a,ya]
theorem parB {E:World→World→Prop}{n s u:Nat}{M:Nat→Nat}{R:Nat→(Nat→Value)→World→Prop}{S:(Nat→Value)→World→Prop}{cv:Value}{a:Act}{w:World}(q:cq ops M n)(x:u<n)(ao:u≠s)
   (T:∀ j,j<n→(M j).testBit u=false)
   (an:∀ f X0 X,E w X0→(∀ j,(M u).testBit j=true→R j (qh M j f) X0)→∀ K:Act→World→Prop,K ((put ops (nd M u) f (List.range n) a).put (dst ops u) cv) X→wpOp P ops Q u K (put ops (nd M u) f (List.range n) a) X)
   (ac:∀ f Y,f u=cv→S (qh M s f) Y→wpAny P .any ops Q (ops.size-n) (wm ops.size n) (put ops (fun _=>true) f (List.range n) a) Y) (hs:s<n) :
   ∀ (fuel : Nat) (listed : Array Bool) (f : Nat → Value) (a' : Act) (X0 Y : World), listed.size = ops.size →
     (∀ j o,ops[j]?=some o→listed.getD j false=true→∀ e∈o.after,binds e=true→listed.getD e.on false=true) →
     (∀ j,listed.getD j false=true→j<n)→(∀ j,j<n→j≠u→listed.getD j false=true)→fuel+cnt (fun j=>listed.getD j false) n=ops.size →
     E w X0→(∀ j,j<s→j≠u→R j (qh M j f) X0)→(listed.getD u false=true→f u=cv)→S (qh M s f) Y→a'=put ops (fun j=>listed.getD j false) f (List.range n) a →
     (∀ j,(M u).testBit j=true→j<s)→wpAny P .any ops Q fuel listed a' Y:=by
 intro fuel;induction fuel with
 | zero =>
   intro listed f a' X0 Y B N H p hc L hR O C F U;have ae:cnt (fun j=>listed.getD j false) n≤n:=m5 _ _;have ap:n=ops.size:=by have:=q.le;omega
   have l:listed.getD u false=true:=by
     cases h:listed.getD u false
     · have:=mw (D:=fun j=>listed.getD j false) (i:=u) h x;omega
     · rfl
   have y:=aD (ops:=ops) B (fun j b=>by by_cases h:j=u;(rw[h];exact l);exact p j b h) H;have z:=ac f Y (O l) C;have I:ops.size-n=0:=by omega
   rw[I]at z;rw[y,F];have J:put ops (fun j=>listed.getD j false) f (List.range n) a=put ops (fun _=>true) f (List.range n) a:=xh (fun j b=>⟨by by_cases h:j=u;(rw[h];exact l);exact p j (List.mem_range.1 b) h,rfl⟩) _;rw[J];exact z
 | succ fuel ih =>
   intro listed f a' X0 Y B N H p hc L hR O C F U;cases l:listed.getD u false
   · refine⟨fun h=>absurd h (bZ q B x l),fun i hi=>?_⟩;obtain⟨ai,o,A,Z⟩:=mem_ready.1 hi;have aj:i<ops.size:=(Array.getElem?_eq_some_iff.1 A).1;have ab:i<listed.size:=by omega
     have G:listed.getD i false=false:=by simpa[ab]using ai
     have anc:=fun i o A d k t r=>anc q N i i o (zG _) A d k t r;have ak:i=u:=by
       rcases qH i n with h|h
       · exact Decidable.byContradiction fun c=>by rw[p i h c]at G;cases G
       · have:=anc i o A Z u (by have:=q.le;omega) (q.late i h aj u (by omega));rw[l]at this;cases this
     subst ak;have am:∀ j,j<n→listed.getD j false=true→nd M i j=true:=fun j b d=>by
       have y:j≠i:=fun e=>by rw[e,G]at d;cases d
       simp[nd,y,T j b]
     obtain⟨g,af,ag,ah⟩:=zBh (M:=M) (a:=a) (f:=f) (D:=fun j=>listed.getD j false) q am;rw[F,ag];have aa:∀ j,j<n→j≠i→g j=f j:=fun j b c=>af j (p j b c);have V:∀ h:Nat→Value,(∀ j,j<n→j≠i→h j=f j)→∀ j,j<n→j≠i→qh M j h=qh M j f:=fun h hh j b c=>fA fun k t=>by
       rcases t with rfl|t
       · exact hh k b c
       · have al:j<ops.size:=by have:=q.le;omega
         have:=q.bit j al k t;exact hh k (by omega) (fun e=>by rw[e,T j b]at t;cases t)
     refine an g X0 Y L (fun j r=>?_) _ ?_
     · have b:=U j r;have c:j≠i:=fun e=>by rw[e,T i x]at r;cases r
       rw[V g aa j (by omega) c];exact hR j b c
     · rw[ah x];have v:=rO ab;have ad:∀ j,j<n→j≠i→upd g i cv j=f j:=fun j b c=>by simp only[upd,c,ya];exact aa j b c
       refine ih _ (upd g i cv) _ X0 Y (by simpa using B) (fun j oj W d e he r=>?_) (fun j d=>?_) (fun j b c=>?_) ?_ L (fun j b c=>?_) (fun _=>by simp[upd]) ?_ ?_ U
       · rw[v]at d ⊢;rw[qn,jm]at d ⊢;rcases d with d|rfl
         · exact .inl (N j oj W d e he r)
         · rw[A]at W;cases W;exact .inl (Z e he r)
       · rw[v,qn,jm]at d;rcases d with d|rfl
         · exact H j d
         · exact x
       · rw[v,p j b c];rfl
       · rw[dJ (D:=fun j=>listed.getD j false) (D':=fun j=>(listed.setIfInBounds i true).getD j false) G (by rw[v];simp) (fun j b=>by show(listed.setIfInBounds i true).getD j false=listed.getD j false;rw[v];simp[b]) x];omega
       · rw[V _ ad j (by omega) c];exact hR j b c
       · rw[V _ ad s hs (xa ao)];exact C
       · exact xh (fun j _=>⟨(v j).symm,rfl⟩) _
   · have y:=aD (ops:=ops) B (fun j b=>by by_cases h:j=u;(rw[h];exact l);exact p j b h) H;have J:put ops (fun j=>listed.getD j false) f (List.range n) a=put ops (fun _=>true) f (List.range n) a:=xh (fun j b=>⟨by by_cases h:j=u;(rw[h];exact l);exact p j (List.mem_range.1 b) h,rfl⟩) _;have ae:=aM (D:=fun j=>listed.getD j false) (m:=n) (fun j b=>by by_cases h:j=u;(rw[h];exact l);exact p j b h);have z:=ac f Y (O l) C;have I:ops.size-n=fuel+1:=by omega
     rw[I]at z;rw[y,F,J];exact z
theorem parS {E:World→World→Prop}(ar:∀ w,E w w)(au:∀ a b c,E a b→E b c→E a c)(av:∀ a b,E a b→a.heap.size≤b.heap.size)
   {n s u:Nat} {M:Nat→Nat} {AL:Nat→Bool} {R:Nat→(Nat→Value)→World→Prop} {S:(Nat→Value)→World→Prop} {cv:Value} {a:Act} {w:World} (t:cq ops M n) (aN:s+1=n) (ai:dst ops s=none) (hu:u<s)
   (aD:∀ j,j<n→(M j).testBit u=false) (aJ:∀ k,k<s→k≠u→(M s).testBit k=true)
   (hR:∀ j,j<n→∀ f X,R j (qh M j f) X→∀ Y,E X Y→R j (qh M j f) Y)
   (aI:∀ i,i<s→tj P ops Q E n M AL (fun j f X=>R j (qh M j f) X) a w i)
   (aG:∀ f X0 X,E w X0→(∀ j,(M u).testBit j=true→R j (qh M j f) X0)→∀ K:Act→World→Prop,K ((put ops (nd M u) f (List.range n) a).put (dst ops u) cv) X→wpOp P ops Q u K (put ops (nd M u) f (List.range n) a) X)
   (ax:∀ f X,R u (qh M u f) X→f u=cv)
   (aH:∀ f X,E w X→(∀ j,(M s).testBit j=true→R j (qh M j f) X)→(∀ j,(M s).testBit j=true→AL j=true→∃ b,f j=.pointer (some ⟨b,0,none⟩)∧b<X.heap.size)→∀ K:Act→World→Prop,(∀ Y,S (qh M s f) Y→K (put ops (nd M s) f (List.range n) a) Y)→wpOp P ops Q s K (put ops (nd M s) f (List.range n) a) X)
   (aK:∀ f Y,f u=cv→S (qh M s f) Y→wpAny P .any ops Q (ops.size-n) (wm ops.size n) (put ops (fun _=>true) f (List.range n) a) Y) :
   ∀ (fuel : Nat) (listed : Array Bool) (f : Nat → Value) (a' : Act) (X : World), listed.size = ops.size →
     (∀ j o,ops[j]?=some o→listed.getD j false=true→∀ e∈o.after,binds e=true→listed.getD e.on false=true) →
     (∀ j,listed.getD j false=true→j<s)→fuel+cnt (fun j=>listed.getD j false) n=ops.size →
     Inv ops E n M AL R a w (fun j=>listed.getD j false) f a' X→wpAny P .any ops Q fuel listed a' X:=by
 intro fuel;induction fuel with
 | zero =>
   intro listed f a' X ac T W hc x;exfalso;have A:listed.getD s false=false:=by
     cases h:listed.getD s false
     · rfl
     · have:=W s h;omega
   have:=mw (D:=fun j=>listed.getD j false) (i:=s) A (m:=n) (by omega);have:=t.le;omega
 | succ fuel ih =>
   intro listed f a' X ac T W hc x;have an:listed.getD s false=false:=by
     cases h:listed.getD s false
     · rfl
     · have:=W s h;omega
   refine⟨fun h=>absurd h (bZ t ac (by omega) an),fun i hi=>?_⟩;obtain⟨aC,o,C,J⟩:=mem_ready.1 hi;have aa:i<ops.size:=(Array.getElem?_eq_some_iff.1 C).1;have al:i<listed.size:=by omega
   have V:listed.getD i false=false:=by simpa[al]using aC
   have anc:=fun i o C d k r q=>anc t T i i o (zG _) C d k (zH r t.le) q;have L:i<n:=by
     rcases qH i n with h|h
     · exact h
     · have:=anc i o C J s (by omega) (t.late i h aa s (by omega));rw[an]at this;cases this
   have am:∀ j,j<n→listed.getD j false=true→nd M i j=true:=fun j p d=>by
     have A:j≠i:=fun e=>by rw[e,V]at d;cases d
     have F:j<ops.size:=by have:=t.le;omega
     have H:(M j).testBit i=false:=by
       cases q:(M j).testBit i
       · rfl
       · have:=anc j _ (qJ F) (T j _ (qJ F) d) i L q;rw[V]at this;cases this
     simp[nd,A,H]
   obtain⟨g,U,aB,aj⟩:=zBh (M:=M) (a:=a) (f:=f) (D:=fun j=>listed.getD j false) t am;have ab:∀ j,j<n→listed.getD j false=true→qh M j g=qh M j f:=fun j p d=>fA fun k r=>by
     rcases r with rfl|r
     · exact U k d
     · have F:j<ops.size:=by have:=t.le;omega
       have aM:=t.bit j F k r;exact U k (anc j _ (qJ F) (T j _ (qJ F) d) k (by omega) r)
   have z:=rO al;have af:∀ j oj,ops[j]?=some oj→(listed.setIfInBounds i true).getD j false=true→∀ e∈oj.after,binds e=true→(listed.setIfInBounds i true).getD e.on false=true:=fun j oj ae d e he q=>by
     rw[z]at d ⊢;rw[qn,jm]at d ⊢;rcases d with d|rfl
     · exact .inl (T j oj ae d e he q)
     · rw[C]at ae;cases ae;exact .inl (J e he q)
   have ag:fuel+cnt (fun j=>(listed.setIfInBounds i true).getD j false) n=ops.size:=by
     rw[dJ (D:=fun j=>listed.getD j false) (D':=fun j=>(listed.setIfInBounds i true).getD j false) V (by rw[z];simp) (fun j p=>by show(listed.setIfInBounds i true).getD j false=listed.getD j false;rw[z];simp[p]) L];omega
   rw[x.act,aB];by_cases hisx:i=s
   · subst hisx;have ah:∀ j,j<i→j≠u→listed.getD j false=true:=fun j p y=>anc i o C J j (by omega) (aJ j p y);refine aH g X x.ext (fun j q=>?_) (fun j q B=>?_) _ (fun Y hS=>?_)
     · have p:j<i:=t.bit i aa j q;have d:=anc i o C J j (by omega) q;rw[ab j (by omega) d];exact x.said j (by omega) d
     · have p:j<i:=t.bit i aa j q;have d:=anc i o C J j (by omega) q;obtain⟨b,A,H⟩:=x.at_ j (by omega) d B;exact⟨b,(U j d).trans A,H⟩
     · have Z:=aj L undef;rw[ai]at Z;have az:put ops (nd M i) g (List.range n) a=put ops (fun j=>(listed.setIfInBounds i true).getD j false) (upd g i undef) (List.range n) a:=by
         refine Eq.trans Z (xh (fun j _=>⟨(z j).symm,rfl⟩) _)
       have ao:∀ j,j≠i→upd g i undef j=g j:=fun j y=>by simp only[upd,y,ya]
       refine parB t (by omega) (by omega) aD aG (S:=fun f Y=>S (qh M i (upd f i (g i))) Y) (fun f Y aA ay=>?_) (s:=i) L fuel _ (upd g i undef) _ X Y (by simpa using ac) af (fun j d=>?_) (fun j p y=>?_) ag x.ext (fun j p y=>?_) (fun d=>?_) ?_ az (fun j q=>?_)
       · have A:put ops (fun _=>true) f (List.range n) a=put ops (fun _=>true) (upd f i (g i)) (List.range n) a:=by
           have:∀(l:List Nat) (a:Act),put ops (fun _=>true) f l a=put ops (fun _=>true) (upd f i (g i)) l a:=fun l=>by
             induction l with
             | nil=>intro a;rfl
             | cons j l ih =>
               intro a;simp only[put,if_true];by_cases hji:j=i
               · subst hji;rw[ai];exact ih _
               · rw[zBA f i (g i) j hji];exact ih _
           exact this _ _
         rw[A];refine aK (upd f i (g i)) Y (by rw[zBA f i (g i) u (by omega)];exact aA) ?_;have:qh M i (upd f i (g i))=qh M i (upd (qh M i f) i (g i)):=fA fun k r=>by
           by_cases hki:k=i
           · subst hki;simp[upd]
           · rw[zBA _ _ _ _ hki,zBA _ _ _ _ hki];have q:=r.resolve_left hki;simp[qh,q]
         rw[this];exact ay
       · rw[z,qn,jm]at d;rcases d with d|rfl
         · have:=W j d;omega
         · exact L
       · rw[z];by_cases hji:j=i
         · simp[hji]
         · rw[ah j (by omega) y];rfl
       · have d:=ah j p y;have:qh M j (upd g i undef)=qh M j f:=by
           rw[←ab j (by omega) d];refine fA fun k r=>ao k fun e=>?_;rcases r with rfl|r
           · omega
           · have F:j<ops.size:=by have:=t.le;omega
             have:=t.bit j F k r;omega
         rw[this];exact x.said j (by omega) d
       · rw[z,qn,jm]at d;have I:=d.resolve_right (by omega);rw[ao u (by omega),U u I];exact ax f X (x.said u (by omega) I)
       · have:qh M i (upd (qh M i (upd g i undef)) i (g i))=qh M i g:=fA fun k r=>by
           by_cases hki:k=i
           · subst hki;simp[upd]
           · have q:=r.resolve_left hki;rw[zBA _ _ _ _ hki];simp[qh,q,upd,hki]
         show S (qh M i (upd (qh M i (upd g i undef)) i (g i))) Y;rw[this];exact hS
       · have aL:u<ops.size:=by have:=t.le;omega
         have:=t.bit u aL j q;omega
   · have ak:i<s:=by omega
     refine aI i ak g X x.ext (fun j q=>?_) _ (fun aq v X' Z hE N aw=>?_)
     · have p:j<n:=by have:=t.bit i aa j q;omega
       have d:=anc i o C J j p q;show R j (qh M j g) X;rw[ab j p d];exact x.said j p d
     · have aF:∀ j,j<n→listed.getD j false=true→j≠i:=fun j _ d e=>by rw[e,V]at d;cases d
       have ad:∀ j,listed.getD j false=true→upd g i v j=f j:=fun j d=>by
         have y:j≠i:=fun e=>by rw[e,V]at d;cases d
         simp only[upd,y,ya];exact U j d
       have ap:upd g i v i=v:=by simp[upd]
       have aE:∀ j,j<n→listed.getD j false=true→qh M j (upd g i v)=qh M j f:=fun j p d=>by
         rw[←ab j p d];refine fA fun k r=>?_;have y:k≠i:=by
           rintro rfl;rcases r with rfl|r
           · exact aF _ p d rfl
           · have:=am j p d;simp[nd,r]at this
         simp[upd,y]
       refine ih _ (upd g i v) aq X' (by simpa using ac) af (fun j d=>?_) ag ⟨?_,au _ _ _ x.ext hE,fun j p d=>?_,fun j p d B=>?_,fun j k p r d I B O y=>?_⟩
       · rw[z,qn,jm]at d;rcases d with d|rfl
         · exact W j d
         · exact ak
       · rw[Z,aj L];exact xh (fun j _=>⟨(z j).symm,rfl⟩) _
       · rw[z,qn,jm]at d;by_cases hold:listed.getD j false=true
         · rw[aE j p hold];exact hR j p f X (x.said j p hold) X' hE
         · obtain rfl:j=i:=d.resolve_left hold;exact aw X' (ar _)
       · rw[z,qn,jm]at d;by_cases hold:listed.getD j false=true
         · obtain⟨b,A,H⟩:=x.at_ j p hold B;exact⟨b,(ad j hold).trans A,zH H (av _ _ hE)⟩
         · obtain rfl:j=i:=d.resolve_left hold;rw[qg B]at N;exact⟨X.heap.size,ap.trans N.1,N.2⟩
       · rw[z,qn,jm]at d I;have key:∀ j k,j<n→listed.getD j false=true→AL j=true→AL k=true→k=i→upd g i v j≠upd g i v k:=fun j k p hold B O hki G=>by
           subst hki;rw[qg O]at N;obtain⟨b,A,H⟩:=x.at_ j p hold B;rw[ad j hold,ap,A,N.1]at G;injection G with G
           injection G with G
           injection G with G
           omega
         by_cases hold:listed.getD j false=true
         · by_cases hold':listed.getD k false=true
           · rw[ad j hold,ad k hold'];exact x.apart j k p r hold hold' B O y
           · exact key j k p hold B O (I.resolve_left hold')
         · have hji:=d.resolve_left hold;by_cases hold':listed.getD k false=true
           · exact fun e=>key k j r hold' O B hji e.symm
           · exact absurd (hji.trans (I.resolve_left hold').symm) y
end
section
variable {P:Program} {Q:Exit→Act→World→Prop}
def okS (ops:Array Oper) (M:Nat→Nat) (s u:Nat) (AL:List Nat):Bool :=
 (dst ops s).isNone&&decide (u<s) && !(AL.contains u)&&((List.range (s+1)).all fun j=>!(M j).testBit u)&&((List.range s).all fun k=>k==u||(M s).testBit k)
structure PuO (P:Program) (ol:List Oper) (Q:Exit→Act→World→Prop) (E:World→World→Prop) (n:Nat) (L:List Nat) (R:Nat→(Nat→Value)→World→Prop) (a:Act) (w:World) (u:Nat) (cv:Value) (o:Oper):Prop where
 out:ol[u]?=some o→∀ f X0 X,E w X0→(∀ j,(L.getD u 0).testBit j=true→R j (qh (fun i=>L.getD i 0) j f) X0)→∀ K:Act→World→Prop,K ((put ol.toArray (nd (fun i=>L.getD i 0) u) f (List.range n) a).put (dst ol.toArray u) cv) X→wpOp P ol.toArray Q u K (put ol.toArray (nd (fun i=>L.getD i 0) u) f (List.range n) a) X
theorem PuO.intro {ol:List Oper}{E:World→World→Prop}{n:Nat}{L:List Nat}{R:Nat→(Nat→Value)→World→Prop}{a:Act}{w:World}{u:Nat}{cv:Value}{o:Oper}(pl:List (Nat×Nat))(m:sel ol.toArray (nd (fun i=>L.getD i 0) u) (List.range n)=pl)
 (h : ∀ f X0 X, E w X0 → Way (∀ j, (L.getD u 0).testBit j = true → R j (qh (fun i => L.getD i 0) j f) X0) → ∀ K : Act → World → Prop, Way (K ((vE f pl a).put o.dst cv) X) →
  Way (if Region.wanted o (yielded ol.toArray (vE f pl a).tmps)=true then Oper.wp P o (vE f pl a) X K Q else K ((vE f pl a).put o.dst undef) X)):PuO P ol Q E n L R a w u cv o:=by
 refine⟨fun l f X0 X k hR K e=>?_⟩
 have c:ol.toArray[u]?=some o:=by simpa using l
 refine wpOp_step c fun d g=>?_
 have b:=h f X0 X k ⟨hR⟩ d
 rw[←m,←fs]at b
 refine(b ⟨g _ _ ?_⟩).out
 have:o.dst=dst ol.toArray u:=by rw[dst,c];rfl
 rw[this]
 exact e
inductive yu (P:Program) (ol:List Oper) (Q:Exit→Act→World→Prop) (E:World→World→Prop) (n:Nat) (L AL:List Nat) (R:Nat→(Nat→Value)→World→Prop) (a:Act) (w:World) (u:Nat) (cv:Value):Nat→Oper→Prop
 | step {i:Nat} {o:Oper} (hne:(i==u)=false) (h:jV P ol Q E n L AL R a w i o):yu P ol Q E n L AL R a w u cv i o
 | pure {o:Oper} (h:PuO P ol Q E n L R a w u cv o):yu P ol Q E n L AL R a w u cv u o
inductive zDF (P:Program) (ol:List Oper) (Q:Exit→Act→World→Prop) (E:World→World→Prop) (s u:Nat) (cv:Value) (L AL:List Nat) (R:Nat→(Nat→Value)→World→Prop) (S:(Nat→Value)→World→Prop) (pl:List (Nat×Nat)) (a:Act) (w:World):List Oper→Prop
  | intro {o : Oper} {l : List Oper}
    (hst:∀ f X,E w X→Way (∀ j,(L.getD s 0).testBit j=true→R j (qh (fun i=>L.getD i 0) j f) X)→Way (∀ j,(L.getD s 0).testBit j=true→AL.contains j=true→∃ b,f j=.pointer (some ⟨b,0,none⟩)∧b<X.heap.size)→∀ K:Act→World→Prop,Way (∀ Y,S (qh (fun i=>L.getD i 0) s f) Y→K (vE f pl a) Y) →
      Way (if Region.wanted o (yielded ol.toArray (vE f pl a).tmps)=true then Oper.wp P o (vE f pl a) X K Q else K ((vE f pl a).put o.dst undef) X))
    (htail:∀ f Y,f u=cv→S (qh (fun i=>L.getD i 0) s f) Y→Way (zX P ol Q l (vE f pl a) Y)):zDF P ol Q E s u cv L AL R S pl a w (o::l)
theorem zC8 {E:World→World→Prop}(m:∀ w,E w w)(r:∀ a b c,E a b→E b c→E a c)(aa:∀ a b,E a b→a.heap.size≤b.heap.size)
   {ol:List Oper} {a:Act} {w X0:World} (ad:E w X0) (s u:Nat) (cv:Value) (L AL:List Nat) (R:Nat→(Nat→Value)→World→Prop) (S:(Nat→Value)→World→Prop) (ah:ok ol.toArray (fun i=>L.getD i 0) (s+1)=true) (A:okS ol.toArray (fun i=>L.getD i 0) s u AL=true)
   (G:∀ f X,R u f X↔f u=cv) (pl:List (Nat×Nat)) (ai:sel ol.toArray (fun _=>true) (List.range (s+1))=pl) (aj:sel ol.toArray (nd (fun i=>L.getD i 0) s) (List.range (s+1))=pl)
   (C:qT (yu P ol Q E (s+1) L AL R a w u cv) (zDF P ol Q E s u cv L AL R S pl a w) 0 s ol):wpAny P .any ol.toArray Q ol.toArray.size (Array.replicate ol.toArray.size false) a X0:=by
 have t:=ok.form ah;unfold okS at A;simp only[jp,decide_eq_true_eq,List.all_eq_true,List.mem_range,Bool.not_eq_true',qn,jm,Option.isNone_iff_eq_none]at A;obtain⟨⟨⟨⟨U,F⟩,V⟩,W⟩,h5⟩:=A;have N:s<ol.toArray.size:=by have:=t.le;omega
 have O:u<ol.length:=by simp at N;omega
 have ak:PuO P ol Q E (s+1) L R a w u cv ol[u]:=by
   obtain⟨o,g1,q⟩:=C.out u F;rw[jL]at q;cases q with
   | step hne _=>simp at hne
   | pure h=>rw[qL O]at g1;injection g1 with g1;rw[g1];exact h
 have J:=ak.out (qL O)
 obtain⟨o,l,H,B,D⟩:∃ o l,ol.drop s=o::l∧(∀ f X,E w X→Way (∀ j,(L.getD s 0).testBit j=true→R j (qh (fun i=>L.getD i 0) j f) X)→Way (∀ j,(L.getD s 0).testBit j=true→AL.contains j=true→∃ b,f j=.pointer (some ⟨b,0,none⟩)∧b<X.heap.size)→∀ K:Act→World→Prop,Way (∀ Y,S (qh (fun i=>L.getD i 0) s f) Y→K (vE f pl a) Y) →
     Way (if Region.wanted o (yielded ol.toArray (vE f pl a).tmps)=true then Oper.wp P o (vE f pl a) X K Q else K ((vE f pl a).put o.dst undef) X)) ∧
   (∀ f Y,f u=cv→S (qh (fun i=>L.getD i 0) s f) Y→Way (zX P ol Q l (vE f pl a) Y)):=by
   have:=C.end_
   generalize ol.drop s=d at this
   cases this with
   | intro B D=>exact⟨_,_,rfl,B,D⟩
 have I:s<ol.length:=by simpa using N
 rw[qX I]at H;injection H with ho1 ho2
 subst ho1 ho2
 refine parS m r aa (R:=fun j f X=>∀ Y,E X Y→R j f Y) (S:=S) (cv:=cv) (M:=fun i=>L.getD i 0) (AL:=fun i=>AL.contains i) (n:=s+1) (s:=s) (u:=u) (a:=a) (w:=w) t rfl U F (fun j e=>W j e) (fun k hk hne=>(h5 k hk).resolve_left hne) (fun j _ f X h Y y Z z=>h Z (r _ _ _ y z))
   (fun i hi=>?_) (fun f X1 X p hR K g=>J f X1 X p (fun j e=>hR j e X1 (m _)) K g) (fun f X h=>(G _ _).1 (h X (m _))|>fun h=>by simpa[qh]using h) (fun f X p hR ae K g=>?_) (fun f Y af x=>?_) ol.toArray.size _ (fun _=>undef) a X0 (by simp) (fun j o _ h=>(by rw[uF]at h;cases h)) (fun j h=>(by rw[uF]at h;cases h)) ?_ ⟨?_,ad,fun j _ h=>(by rw[uF]at h;cases h),fun j _ h=>(by rw[uF]at h;cases h),fun j k _ _ h=>(by rw[uF]at h;cases h)⟩
 · by_cases hiu:i=u
   · subst hiu;intro f X p hR K g;refine J f X X p (fun j e=>hR j e X (m _)) K (g _ cv X rfl (m _) (by show(if AL.contains i=true then _ else True);rw[qo (by rw[V];decide)];trivial) (fun Y _ Z _=>(G _ _).2 (by simp[qh,upd])))
   · obtain⟨o,g1,q⟩:=C.out i hi;rw[jL]at q;cases q with
     | step hne h =>
       intro f X p hR K g;exact h.out g1 f X p (fun j e=>hR j e X (m _)) K (fun a' v X' ha hE hA ac=>g a' v X' ha hE hA (fun Y y Z z=>ac Z (r _ _ _ y z)))
     | pure h=>exact absurd rfl hiu
 · have ag:ol.toArray[s]?=some ol[s]:=by simp[I]
   refine wpOp_step ag fun T ab=>?_;rw[fs,aj]at g ⊢;exact(B f X p ⟨fun j e=>hR j e X (m _)⟩ ⟨ae⟩ T ⟨fun Y x=>ab _ _ (g Y x)⟩).out
 · rw[fs,ai];exact zX.sound t (ol.toArray.size-(s+1)) (s+1) _ Y (zG _) (by omega) (D f Y af x).out
 · have:∀ n,cnt (fun j=>(Array.replicate ol.toArray.size false).getD j false) n=0:=fun n=>by
     induction n with
     | zero=>rfl
     | succ n ih=>rw[cnt,ih,uF];rfl
   rw[this];rfl
 · have:∀(l:List Nat) (a:Act),put ol.toArray (fun j=>(Array.replicate ol.toArray.size false).getD j false) (fun _=>undef) l a=a:=fun l=>by
     induction l with
     | nil=>intro a;rfl
     | cons j l ih=>intro a;rw[put,uF];exact ih _
   exact(this _ _).symm
theorem zBy {K:Act→World→Prop}{S:World→Prop}{A b:Act}{Y:World}(a:Way (∀ Y,S Y→K A Y))(d:b=A)(c:S Y):K b Y:=d▸a.out Y c
theorem zDw {K:Act→World→Prop}{A b:Act}{X:World}(a:Way (K A X))(c:b=A):K b X:=c▸a.out
theorem ou {ol:List Oper}{k:Nat}{a:Act}{w:World}(c:P.follows .mixedOrders=true)(s u:Nat)(cv:Value)(L AL:List Nat)(R:Nat→(Nat→Value)→World→Prop)(S:(Nat→Value)→World→Prop)(d:ok ol.toArray (fun i=>L.getD i 0) (s+1)=true)(e:okS ol.toArray (fun i=>L.getD i 0) s u AL=true)
 (b:∀ f X,R u f X↔f u=cv) (pl:List (Nat×Nat)) (g:sel ol.toArray (fun _=>true) (List.range (s+1))=pl) (h:sel ol.toArray (nd (fun i=>L.getD i 0) s) (List.range (s+1))=pl)
 (j:qT (yu P ol Q Ext (s+1) L AL R a w u cv) (zDF P ol Q Ext s u cv L AL R S pl a w) 0 s ol):(Code.region k ol.toArray true).wp P Q a w :=
 wp_region_any c (zC8 zT (fun _ _ _=>jb) (fun _ _=>Ext.bsize) (vR w) s u cv L AL R S d e b pl g h j)
end
end Par
end Go.Proofs.YtaemogcomplhiaaGreatDoor
namespace Go.Proofs.YtaemogcomplhiaaGreatDoor
open Go.RowKit
open Sha
theorem zBp (x y:W):IntKind.u32.wrap ((x.toNat:Int)+(y.toNat:Int))=((x+y).toNat:Int):=by
 rw[IntKind.wrap_u32,BitVec.toNat_add];omega
theorem xo (x y:W):bits .xor .u32 (x.toNat:Int) (y.toNat:Int)=((x ^^^ y).toNat:Int):=by
 rw[u32_xor_nat _ _ x.isLt y.isLt,BitVec.toNat_xor]
theorem zBo (x y:W):bits .and .u32 (x.toNat:Int) (y.toNat:Int)=((x &&& y).toNat:Int):=by
 rw[u32_and_nat _ _ x.isLt y.isLt,BitVec.toNat_and]
theorem gO (x y:W):bits .or .u32 (x.toNat:Int) (y.toNat:Int)=((x ||| y).toNat:Int):=by
 rw[u32_or_nat _ _ x.isLt y.isLt,BitVec.toNat_or]
theorem zBn (x:W):bits .xor .u32 4294967295 (x.toNat:Int)=((~~~x).toNat:Int):=by
 have h:=xo 4294967295#32 x;rw[show((4294967295#32:W).toNat:Int)=4294967295 from rfl]at h;rw[h,←BitVec.allOnes_xor (x:=x)];rfl
theorem ao (n:Nat):((2:Int)^n)=((2^n:Nat):Int):=by simp
theorem fV (x:W)(n:Nat):(x.toNat:Int)/2^n=((x >>> n).toNat:Int):=by
 rw[BitVec.toNat_ushiftRight,Nat.shiftRight_eq_div_pow,ao,um]
theorem zBm (x:W)(n:Nat):IntKind.u32.wrap ((x.toNat:Int)*2^n)=((x <<< n).toNat:Int):=by
 rw[IntKind.wrap_u32,BitVec.toNat_shiftLeft,Nat.shiftLeft_eq,ao,Int.natCast_emod,vi];rfl
theorem xy (x:W)(n:Nat):(x.toNat:Int)*2^n%4294967296=((x <<< n).toNat:Int):=by
 rw[←zBm,IntKind.wrap_u32]
theorem uN (x:W)(k:Int)(n s:Nat)(w:World)(d:bits .and .u64 (IntKind.u64.wrap k) 31=(s:Int))(c:IntKind.u64.wrap (32-(s:Int))=(n:Int))(h:n+s=32) :
 Calls Tryz.prog 163 #[.int .u32 (x.toNat:Int),.int .i64 k] w fun e w'=>e=.returned (.int .u32 ((rr n x).toNat:Int))∧w'=w:=by
 have a:((x <<< s) ||| (x >>> n))=rr n x:=by unfold rr;rw[show s=32-n by omega]
 have b:=zF a
 clear a
 go_enter Tryz.func163,Tryz.ntmps163
 go_wp2_with fail
 go_ret
 refine⟨?_,rfl⟩
 show Ending.returned (.int .u32 (bits .or .u32 ((x.toNat:Int)*2^s%4294967296) ((x.toNat:Int)/2^n)))=_
 rw[xy,fV,gO,b.out]
theorem xp (x:W)(k:Int)(n:Nat)(w:World)(a:k=-(n:Int))(b:n=2∨n=6∨n=7∨n=11∨n=13∨n=17∨n=18∨n=19∨n=22∨n=25) :
 Calls Tryz.prog 163 #[.int .u32 (x.toNat:Int),.int .i64 k] w fun e w'=>e=.returned (.int .u32 ((rr n x).toNat:Int))∧w'=w:=by
 subst a
 rcases b with rfl|rfl|rfl|rfl|rfl|rfl|rfl|rfl|rfl|rfl
 · exact uN x _ 2 30 w (by kernel_rfl) (by kernel_rfl) rfl
 · exact uN x _ 6 26 w (by kernel_rfl) (by kernel_rfl) rfl
 · exact uN x _ 7 25 w (by kernel_rfl) (by kernel_rfl) rfl
 · exact uN x _ 11 21 w (by kernel_rfl) (by kernel_rfl) rfl
 · exact uN x _ 13 19 w (by kernel_rfl) (by kernel_rfl) rfl
 · exact uN x _ 17 15 w (by kernel_rfl) (by kernel_rfl) rfl
 · exact uN x _ 18 14 w (by kernel_rfl) (by kernel_rfl) rfl
 · exact uN x _ 19 13 w (by kernel_rfl) (by kernel_rfl) rfl
 · exact uN x _ 22 10 w (by kernel_rfl) (by kernel_rfl) rfl
 · exact uN x _ 25 7 w (by kernel_rfl) (by kernel_rfl) rfl
theorem wM (x y:W):Value.int .u32 (IntKind.u32.wrap ((x.toNat:Int)+(y.toNat:Int)))=.int .u32 ((x+y).toNat:Int):=congrArg _ (zBp x y)
theorem uC (x y:W):Value.int .u32 (bits .xor .u32 (x.toNat:Int) (y.toNat:Int))=.int .u32 ((x ^^^ y).toNat:Int):=congrArg _ (xo x y)
theorem fH (x y:W):Value.int .u32 (bits .and .u32 (x.toNat:Int) (y.toNat:Int))=.int .u32 ((x &&& y).toNat:Int):=congrArg _ (zBo x y)
theorem zDG (x:W):Value.int .u32 (bits .xor .u32 4294967295 (x.toNat:Int))=.int .u32 ((~~~x).toNat:Int):=congrArg _ (zBn x)
theorem nG (x:W)(n:Nat):Value.int .u32 (Int.fdiv (x.toNat:Int) (2^n))=.int .u32 ((x >>> n).toNat:Int):=by
 rw[Int.fdiv_eq_ediv_of_nonneg _ (Int.pow_nonneg (by omega)),fV]
theorem zDb (x:W):Value.int .u32 (IntKind.u32.wrap (x.toNat:Int))=.int .u32 (x.toNat:Int):=by
 have:=x.isLt;rw[IntKind.wrap_u32,Int.emod_eq_of_lt (by omega) (by omega)]
theorem v_up (x:W):Value.int .u64 (IntKind.u64.wrap (x.toNat:Int))=.int .u64 (x.toNat:Int):=by
 have:=x.isLt;rw[ww,Int.emod_eq_of_lt (by omega) (by omega)]
theorem gw0 (x:W):∃ y z:W,bits .xor .u32 ((rr 7 x).toNat:Int) ((rr 18 x).toNat:Int)=(y.toNat:Int)∧(x.toNat:Int)/8=(z.toNat:Int)∧bits .xor .u32 (y.toNat:Int) (z.toNat:Int)=((g0 x).toNat:Int):=⟨_,_,xo _ _,fV x 3,xo _ _⟩
theorem gw1 (x:W):∃ y z:W,bits .xor .u32 ((rr 17 x).toNat:Int) ((rr 19 x).toNat:Int)=(y.toNat:Int)∧(x.toNat:Int)/1024=(z.toNat:Int)∧bits .xor .u32 (y.toNat:Int) (z.toNat:Int)=((g1 x).toNat:Int):=⟨_,_,xo _ _,fV x 10,xo _ _⟩
theorem sw1 (x:W):∃ y:W,bits .xor .u32 ((rr 6 x).toNat:Int) ((rr 11 x).toNat:Int)=(y.toNat:Int)∧bits .xor .u32 (y.toNat:Int) ((rr 25 x).toNat:Int)=((S1 x).toNat:Int):=⟨_,xo _ _,xo _ _⟩
theorem sw0 (x:W):∃ y:W,bits .xor .u32 ((rr 2 x).toNat:Int) ((rr 13 x).toNat:Int)=(y.toNat:Int)∧bits .xor .u32 (y.toNat:Int) ((rr 22 x).toNat:Int)=((S0 x).toNat:Int):=⟨_,xo _ _,xo _ _⟩
theorem rF (x:W):(x.toNat:Int)%4294967296=(x.toNat:Int):=by
 have:=x.isLt;rw[Int.emod_eq_of_lt (by omega) (by omega)]
theorem cL {b:Nat}(h:b<256):(b:Int)=((o b).toNat:Int):=by
 rw[o,BitVec.toNat_ofNat,qF (by omega)]
theorem tP (P:Nat→Prop)(A:Option Addr)(c:Nat)(bs:List Nat)(w:World)(h:RB w P A c bs)(s:4≤bs.length) :
 Calls Tryz.prog 162 #[.slice A bs.length c] w fun e w'=>e=.returned (.int .u32 ((be bs 0).toNat:Int))∧Ext w w':=by
 obtain⟨a,rfl,c0,f⟩:=h.dg (i:=0) (by omega)
 obtain⟨p,l,c1,g⟩:=h.dg (i:=1) (by omega)
 obtain⟨q,m,d,j⟩:=h.dg (i:=2) (by omega)
 obtain⟨a3,n,c3,k⟩:=h.dg (i:=3) (by omega)
 cases l;cases m;cases n
 have r:=h.cap
 rw[cL f]at c0;rw[cL g]at c1;rw[cL j]at d;rw[cL k]at c3
 have b:be bs 0=(o (dg bs 0) <<< 24) ||| (o (dg bs 1) <<< 16) ||| (o (dg bs 2) <<< 8) ||| o (dg bs 3):=rfl
 rw[b]
 clear b
 generalize o (dg bs 0)=x0 at *
 generalize o (dg bs 1)=x1 at *
 generalize o (dg bs 2)=x2 at *
 generalize o (dg bs 3)=x3 at *
 simp[Addr.add]at c0 c1 d c3
 have t:(0:Int)<(bs.length:Int):=by omega
 have u:(1:Int)<(bs.length:Int):=by omega
 have v:(2:Int)<(bs.length:Int):=by omega
 have x:(3:Int)<(bs.length:Int):=by omega
 clear f g j k
 go_enter Tryz.func162,Tryz.ntmps162
 go_wp2_with fail
 go_quiet (fail)
 go_wp2_with fail
 go_ret
 refine⟨?_,kE _ _⟩
 show Ending.returned (.int .u32 (bits .or .u32 (bits .or .u32 (bits .or .u32 ((x0.toNat:Int)*16777216%4294967296) ((x1.toNat:Int)*65536%4294967296)) ((x2.toNat:Int)*256%4294967296)) (x3.toNat:Int)))=_
 rw[show(16777216:Int)=2^24 from rfl,show(65536:Int)=2^16 from rfl,show(256:Int)=2^8 from rfl,xy,xy,xy,gO,gO,gO]
theorem RB.mid' {w:World}{P:Nat→Prop}{A:Option Addr}{c:Nat}{bs:List Nat}(h:RB w P A c bs){k m c':Nat}(l:k≤m)(n:m≤bs.length)(i:m-k≤c')(j:c'≤maxLen){A':Option Addr}(f:k<m→A'=A.map (·.add k)):RB w P A' c' ((bs.drop k).take (m-k)):=by
 have a:=h.1.sub l n i j (A':=A') (by simpa using f);have e:((bys bs).drop (k*1)).take ((m-k)*1)=bys ((bs.drop k).take (m-k)):=by simp[bys,List.map_take,List.map_drop]
 rw[e]at a;have d:((bs.drop k).take (m-k)).length=m-k:=by rw[zh,qa];omega
 refine⟨by rw[d];exact a,fun b g=>h.2.1 b (List.mem_of_mem_drop (qN g)),by rw[d];have:=h.2.2;omega⟩
theorem RB.from' {w:World}{P:Nat→Prop}{A:Option Addr}{c:Nat}{bs:List Nat}(h:RB w P A c bs){k c':Nat}(e:k≤bs.length)(b:bs.length-k≤c')(d:c'≤maxLen){A':Option Addr}(a:k<bs.length→A'=A.map (·.add k)):RB w P A' c' (bs.drop k):=by
 have:=h.mid' e (zG _) b d a;rwa [zu (by simp)]at this
def vs (l:List W):List Value:=l.map fun x=>.int .u32 (x.toNat:Int)
theorem dU (l:List W):(vs l).length=l.length:=by simp[vs]
theorem mL {l:List W}{i:Nat}(h:i<l.length):(vs l)[i]?=some (.int .u32 ((wd l i).toNat:Int)):=by
 simp[vs,wd,h]
theorem zDa (l:List W)(i:Nat)(x:W):(vs l).set i (.int .u32 (x.toNat:Int))=vs (l.set i x):=by simp[vs,List.map_set]
def VB (w:World) (g:Nat) (l:List W) (t:TypeId):Prop:=w.heap[g]?=some (.cells (vs l).toArray t (0,0))
theorem VB.lt {w:World}{g:Nat}{l:List W}{t:TypeId}(h:VB w g l t):g<w.heap.size:=qd h
theorem VB.cell {w:World}{g:Nat}{l:List W}{t:TypeId}(h:VB w g l t){i:Nat}(a:i<l.length):w.cell? ⟨g,i,none⟩=some (.int .u32 ((wd l i).toNat:Int)):=by
 rw[zP h];simpa using mL a
theorem VB.free {w:World}{g:Nat}{l:List W}{t:TypeId}(h:VB w g l t)(i:Nat):w.frozen? ⟨g,i,none⟩=false:=qz h i
theorem VB.set {w:World}{g:Nat}{l:List W}{t:TypeId}(h:VB w g l t)(i:Nat)(x:W):VB (w.setCell ⟨g,i,none⟩ (.int .u32 (x.toNat:Int))) g (l.set i x) t:=by
 unfold VB;rw[←zDa];have:=jA h i (.int .u32 (x.toNat:Int));simpa using this
theorem VB.ext {w X:World}{g:Nat}{l:List W}{t:TypeId}(h:VB w g l t)(a:Ext w X):VB X g l t:=a.at_ h
theorem zDZ {l:List W}{i:Nat}(x:W)(a:i<l.length):wd (l.set i x) i=x:=by simp[wd,a]
theorem dS {l:List W}{i j:Nat}(x:W)(h:i≠j):wd (l.set i x) j=wd l j:=by simp[wd,List.getElem?_set_ne h]
theorem uM {w:World}{t e:TypeId}{n i:Nat}{cs:Array Value}{v:Value}(h:Tryz.prog.underlying t=some (.array n e))(c:∀ w,(sizeOf e).run Tryz.prog w=.ok 1 w)(a:∀ w,(isAgg e).run Tryz.prog w=.ok false w)(f:i<n)(d:cs[i]?=some v) :
 (Instr.index t (.agg cs) (.int .i64 (i:Int))).run Tryz.prog w=.ok v w:=by
 have b:(0:Int)≤(i:Int)∧(i:Int)<(n:Int):=by omega
 simp[Instr.index,run_underlying h,asIntOf,b,c,a,part,d,go_sem]
 intro g
 omega
def uh (l m:List W) (k:Nat):Prop:=l.length=m.length∧∀ j,j<k→wd l j=wd m j
theorem uh.step {l m:List W}{k:Nat}(h:uh l m k)(b:k<m.length){x:W}(c:x=wd m k):uh (l.set k x) m (k+1):=by
 refine⟨by simpa using h.1,fun j d=>?_⟩;rcases qH j k with a|a
 · rw[dS _ (by omega)];exact h.2 j a
 · obtain rfl:j=k:=by omega
   rw[zDZ _ (by rw[h.1];exact b),c]
theorem uh.fin {l m:List W}(h:uh l m m.length):l=m:=by
 apply List.ext_getElem h.1;intro i b a;have:=h.2 i a;simpa[wd,b,a]using this
theorem uh.zero (l m:List W)(h:l.length=m.length):uh l m 0:=⟨h,fun _ h=>absurd h (by omega)⟩
theorem rot2 (x:W)(w:World):Calls Tryz.prog 163 #[.int .u32 (x.toNat:Int),.int .i64 (-2)] w fun e w'=>e=.returned (.int .u32 ((rr 2 x).toNat:Int))∧w'=w:=xp x _ 2 w rfl (by decide)
theorem rot6 (x:W)(w:World):Calls Tryz.prog 163 #[.int .u32 (x.toNat:Int),.int .i64 (-6)] w fun e w'=>e=.returned (.int .u32 ((rr 6 x).toNat:Int))∧w'=w:=xp x _ 6 w rfl (by decide)
theorem rot7 (x:W)(w:World):Calls Tryz.prog 163 #[.int .u32 (x.toNat:Int),.int .i64 (-7)] w fun e w'=>e=.returned (.int .u32 ((rr 7 x).toNat:Int))∧w'=w:=xp x _ 7 w rfl (by decide)
theorem rot11 (x:W)(w:World):Calls Tryz.prog 163 #[.int .u32 (x.toNat:Int),.int .i64 (-11)] w fun e w'=>e=.returned (.int .u32 ((rr 11 x).toNat:Int))∧w'=w:=xp x _ 11 w rfl (by decide)
theorem rot13 (x:W)(w:World):Calls Tryz.prog 163 #[.int .u32 (x.toNat:Int),.int .i64 (-13)] w fun e w'=>e=.returned (.int .u32 ((rr 13 x).toNat:Int))∧w'=w:=xp x _ 13 w rfl (by decide)
theorem rot17 (x:W)(w:World):Calls Tryz.prog 163 #[.int .u32 (x.toNat:Int),.int .i64 (-17)] w fun e w'=>e=.returned (.int .u32 ((rr 17 x).toNat:Int))∧w'=w:=xp x _ 17 w rfl (by decide)
theorem rot18 (x:W)(w:World):Calls Tryz.prog 163 #[.int .u32 (x.toNat:Int),.int .i64 (-18)] w fun e w'=>e=.returned (.int .u32 ((rr 18 x).toNat:Int))∧w'=w:=xp x _ 18 w rfl (by decide)
theorem rot19 (x:W)(w:World):Calls Tryz.prog 163 #[.int .u32 (x.toNat:Int),.int .i64 (-19)] w fun e w'=>e=.returned (.int .u32 ((rr 19 x).toNat:Int))∧w'=w:=xp x _ 19 w rfl (by decide)
theorem rot22 (x:W)(w:World):Calls Tryz.prog 163 #[.int .u32 (x.toNat:Int),.int .i64 (-22)] w fun e w'=>e=.returned (.int .u32 ((rr 22 x).toNat:Int))∧w'=w:=xp x _ 22 w rfl (by decide)
theorem rot25 (x:W)(w:World):Calls Tryz.prog 163 #[.int .u32 (x.toNat:Int),.int .i64 (-25)] w fun e w'=>e=.returned (.int .u32 ((rr 25 x).toNat:Int))∧w'=w:=xp x _ 25 w rfl (by decide)
def KW (w:World):Prop:=∀ i,i<64→∃ y:Nat,w.cell? ⟨3,i,none⟩=some (.int .u64 (y:Int))∧y<18446744073709551616∧y/4294967296=(wd kk i).toNat
theorem KW.ext {w X:World}(h:KW w)(a:Ext w X):KW X:=fun i b=>let ⟨y,h1,h2⟩:=h i b;⟨y,a.cell h1,h2⟩
def vw (s:List W) (wt:Value) (n:Nat):List Value:=.int .i64 3::(s.map (fun x=>Value.int .u64 (x.toNat:Int))++[wt,.int .u64 (n:Int)])
def HB (w:World) (b:Nat) (s:List W) (wt:Value) (n:Nat):Prop:=w.heap[b]?=some (.cells (vw s wt n).toArray 192 (0,0))∧s.length=8
theorem HB.lt {w:World}{b n:Nat}{s:List W}{wt:Value}(h:HB w b s wt n):b<w.heap.size:=qd h.1
theorem HB.cell {w:World}{b n:Nat}{s:List W}{wt:Value}(h:HB w b s wt n){i:Nat}(c:i<8):w.cell? ⟨b,1+i,none⟩=some (.int .u64 ((wd s i).toNat:Int)):=by
 obtain⟨h,a⟩:=h;rw[zP h];have:i<s.length:=by omega
 simp[vw,wC 1 i,wv,wd,this]
theorem HB.free {w:World}{b n:Nat}{s:List W}{wt:Value}(h:HB w b s wt n)(i:Nat):w.frozen? ⟨b,i,none⟩=false:=qz h.1 i
theorem HB.kind {w:World}{b n:Nat}{s:List W}{wt:Value}(h:HB w b s wt n):w.cell? ⟨b,0,none⟩=some (.int .i64 3):=by
 rw[zP h.1];rfl
theorem HB.wait {w:World}{b n:Nat}{s:List W}{wt:Value}(h:HB w b s wt n):w.cell? ⟨b,9,none⟩=some wt:=by
 obtain⟨h,a⟩:=h;rw[zP h];simp[vw,a]
theorem HB.num {w:World}{b n:Nat}{s:List W}{wt:Value}(h:HB w b s wt n):w.cell? ⟨b,10,none⟩=some (.int .u64 (n:Int)):=by
 obtain⟨h,a⟩:=h;rw[zP h];simp[vw,a]
theorem HB.set {w:World}{b n:Nat}{s:List W}{wt:Value}(h:HB w b s wt n){i:Nat}(c:i<8)(x:W):HB (w.setCell ⟨b,1+i,none⟩ (.int .u64 (x.toNat:Int))) b (s.set i x) wt n:=by
 refine⟨?_,by simpa using h.2⟩;have:=jA h.1 (1+i) (.int .u64 (x.toNat:Int));rw[this];have e:1+i=i+1:=by omega
 have a:=h.2;simp[vw,e,List.map_set,a,c]
theorem HB.setWait {w:World}{b n:Nat}{s:List W}{wt:Value}(h:HB w b s wt n)(v:Value):HB (w.setCell ⟨b,9,none⟩ v) b s v n:=by
 refine⟨?_,h.2⟩;rw[jA h.1 9 v];have a:=h.2;simp[vw,a]
theorem HB.setNum {w:World}{b n:Nat}{s:List W}{wt:Value}(h:HB w b s wt n)(m:Nat):HB (w.setCell ⟨b,10,none⟩ (.int .u64 (m:Int))) b s wt m:=by
 refine⟨?_,h.2⟩;rw[jA h.1 10 _];have a:=h.2;simp[vw,a]
theorem HB.ext {w X:World}{b n:Nat}{s:List W}{wt:Value}(h:HB w b s wt n)(a:Ext w X):HB X b s wt n:=⟨a.at_ h.1,h.2⟩
theorem HB.just {w X:World}{g b n:Nat}{s:List W}{wt:Value}(h:HB w b s wt n)(a:jE g w X)(c:b≠g):HB X b s wt n:=⟨a.at_ c h.1,h.2⟩
theorem sQ (p:List Nat)(i:Nat):be (p.drop i) 0=be p i:=by
 simp[be,List.getElem?_drop]
theorem oh (b:Nat)(s:St)(wt:Value)(n:Nat)(P:Nat→Prop)(A:Option Addr)(c:Nat)(p:List Nat)(w:World)(hb:HB w b s.list wt n)(hk:KW w)(hp:RB w P A c p)(hl:p.length=64)(hP:∀ b,P b→b<w.heap.size) :
 Calls Tryz.prog 160 #[.pointer (some ⟨b,0,none⟩),.slice A 64 c] w fun e w'=>e=.returned (.tuple #[])∧HB w' b (pk s p).list wt n∧jE b w w':=by
 obtain⟨ad,rfl⟩:∃ ad,A=some ad:=by obtain⟨ad,e,_⟩:=hp.dg (i:=0) (by omega);exact⟨ad,e⟩
 obtain⟨m,hm⟩:=eV (sch p 64)
 have aJ:m.length=64:=by rw[←hm];exact ym p 64
 have bi:∀ j,j<64→wd m j=if j<16 then be p (4*j)else nxt (sch p j):=fun j hj=>by rw[←hm];exact gr p 64 j hj
 have bj:∀ j,16≤j→j<64→wd m j=wd m (j-16)+g0 (wd m (j-15))+wd m (j-7)+g1 (wd m (j-2)):=fun j h1 h2=>by rw[←hm];exact nN p h1 h2
 have bz:=zF (show pk s p=s.add (uY m s 64) by rw[←hm];rfl)
 have Hb:=zF hb
 have Hk:=zF hk
 have Hp:=zF hp
 have HP:=zF hP
 have Hl:=zF hl
 have aX:=zF bi
 have aY:=zF bj
 have bc:=hp.cap
 have bJ:(64:Int)≤(c:Int):=by omega
 have ae:=zF aJ
 have ap:VB (w.alloc (.cells (vs (List.replicate 64 0)).toArray 209)) w.heap.size (List.replicate 64 0) 209:=zS w _
 have az:=zL w (.cells (vs (List.replicate 64 0)).toArray 209)
 have aj:Hid (uh (List.replicate 64 0) m 0):=zF (uh.zero _ _ (by rw[aJ];rfl))
 clear hb hk hp hP hl bi bj aJ hm
 obtain⟨W0,aB⟩:=eV (w.alloc (.cells (vs (List.replicate 64 0)).toArray 209))
 have aS:=zF (show ∀ cs:Array Value,cs=(vs (List.replicate 64 0)).toArray→w.alloc (.cells cs 209)=W0 from fun cs e=>by rw[e];exact aB)
 rw[aB]at ap az
 obtain⟨g,hg⟩:=eV w.heap.size
 rw[hg]at ap
 clear aB
 go_enter Tryz.func160,Tryz.ntmps160
 go_wp2_with fail
 rw[aS.out]
 case a=>rfl
 have Hg:=zF hg
 clear hg aS
 go_loopw [21] (fun iv wr=>∃(k:Nat) (L:List W),iv=.int .i64 (k:Int)∧k≤64∧Hid (uh L m k)∧Hid (VB wr g L 209)∧Hid (Ext w wr)) (fun iv _=>(64-intOf iv).toNat)
 case atStart=>exact⟨0,_,rfl,by omega,aj,zF ap,zF az⟩
 case round =>
  clear ap az aj;obtain⟨k,L,rfl,aH,C,D,o⟩:=hrel;have bG:L.length=64:=C.out.1.trans ae.out;have fr:=D.out.free k;by_cases hlt:k<64
  · have bO:(k:Int)<64:=by omega
    by_cases h16:k<16
    · have bN:(k:Int)<16:=by omega
      have bM:IntKind.i64.wrap (4*(k:Int))=((4*k:Nat):Int):=by rw[qu _ (by omega)];omega
      obtain⟨U,aG⟩:=eV (4*k);rw[aG]at bM;have q1:(0:Int)≤(U:Int):=by omega
      have q2:(U:Int)≤64:=by omega
      have q3:¬(c:Int)=(U:Int):=by omega
      have aE:=tP P (some (ad.add U)) (c-U) (p.drop U) wr ((Hp.out.below o.out HP.out).from' (by have:=Hl.out;omega) (by have:=Hl.out;omega) (by have:=bc.2.1;unfold maxLen;omega) (fun _=>rfl)) (by rw[qa,Hl.out];omega);rw[sQ,qa,Hl.out]at aE;have aV:=zF aE;have bA:=zF aG;clear aE aG;go_wp2_with fail;refine aV.out.mono ?_;rintro e w2 ⟨rfl,af⟩;have ac:=D.out.ext af;have bU:=ac.free k;have a8:=ac.set k (be p U);have a7:=C.out.step (x:=be p U) (by rw[ae.out];omega) (by rw[aX.out k hlt,qg h16,←bA.out]);have a5:=(o.out.trans af).setCell (p:=⟨g,k,none⟩) (by rw[Hg.out];exact zG _) (.int .u32 ((be p U).toNat:Int));have bT:=ac.cell (i:=k) (by omega);have S:=zF a7;have aw:=zF a8;have ar:=zF a5;clear fr aV ac a7 a8 a5 af;go_wp2_with fail;go_roundw;case rel=>exact⟨k+1,_,by go_num,by omega,S,aw,ar⟩
      case measure=>simp[intOf];omega
    · have bN:¬(k:Int)<16:=by omega
      obtain⟨z,hz⟩:=eV (k-16);obtain⟨ai,bn⟩:=eV (k-15);obtain⟨z7,bo⟩:=eV (k-7);obtain⟨z2,ag⟩:=eV (k-2);have bX:(z:Int)<64:=by omega
      have bP:(ai:Int)<64:=by omega
      have l7:(z7:Int)<64:=by omega
      have l2:(z2:Int)<64:=by omega
      have bR:IntKind.i64.wrap ((k:Int)-16)=(z:Int):=by rw[qu _ (by omega)];omega
      have bQ:IntKind.i64.wrap ((k:Int)-15)=(ai:Int):=by rw[qu _ (by omega)];omega
      have w7:IntKind.i64.wrap ((k:Int)-7)=(z7:Int):=by rw[qu _ (by omega)];omega
      have w2:IntKind.i64.wrap ((k:Int)-2)=(z2:Int):=by rw[qu _ (by omega)];omega
      have ax:=D.out.cell (i:=z) (by omega);have bF:=D.out.cell (i:=ai) (by omega);have d7:=D.out.cell (i:=z7) (by omega);have d2:=D.out.cell (i:=z2) (by omega);have dk:=D.out.cell (i:=k) (by omega);have he:wd m k=wd L z+g0 (wd L ai)+wd L z7+g1 (wd L z2):=by
       rw[aY.out k (by omega) hlt,hz,bn,bo,ag,C.out.2 z (by omega),C.out.2 ai (by omega),C.out.2 z7 (by omega),C.out.2 z2 (by omega)]
      have S:=zF (C.out.step (x:=wd m k) (by rw[ae.out];omega) rfl);rw[he]at S;clear he hz bn bo ag;generalize wd L z=an at *;generalize wd L ai=ah at *;generalize wd L z7=x7 at *;generalize wd L z2=x2 at *;go_wp2_with fail;go_quiet (fail);have B:=kE wr nq;have aa:=zF (o.out.trans B);have a9:=D.out.ext B;replace ax:=B.cell ax;replace d7:=B.cell d7;replace dk:=B.cell dk;generalize wr.drewN nq=w4 at *;have bu:=zF a9;clear B a9 fr bF d2 bQ w2 bP l2 D o C;obtain⟨y1,y2,E,I,T⟩:=gw0 ah;go_wp2_with fail;refine(rot7 _ _).mono ?_;rintro e w5 ⟨rfl,rfl⟩;go_wp2_with fail;refine(rot18 _ _).mono ?_;rintro e w5 ⟨rfl,rfl⟩;go_upto_region 8 with fail;clear E I T;obtain⟨y3,y4,E,I,T⟩:=gw1 x2;obtain⟨nw,aM⟩:=eV (an+g0 ah+x7+g1 x2);rw[aM]at S;have bD:=zF aM;clear aM;go_wp2_with fail;refine(rot17 _ _).mono ?_;rintro e w5 ⟨rfl,rfl⟩;go_wp2_with fail;refine(rot19 _ _).mono ?_;rintro e w5 ⟨rfl,rfl⟩;go_upto_region 9 with fail;clear E I T
      refine zZ (by kernel_rfl) 15 [0,0,2,6,14,0,62,0,128,384,896,2046,0,8190,16383,32767] [] (fun j f X=>match j with
       | 0=>f 0=.int .i64 (k:Int)
       | 1=>f 1=.int .i64 (k:Int)
       | 2=>f 2=.int .i64 (z:Int)
       | 3=>f 3=.pointer (some ⟨g,z,none⟩)
       | 4=>f 4=.int .u32 ((an).toNat:Int)
       | 5=>f 5=.int .u32 ((g0 ah).toNat:Int)
       | 6=>f 6=.int .u32 ((an+(g0 ah)).toNat:Int)
       | 7=>f 7=.int .i64 (k:Int)
       | 8=>f 8=.int .i64 (z7:Int)
       | 9=>f 9=.pointer (some ⟨g,z7,none⟩)
       | 10=>f 10=.int .u32 ((x7).toNat:Int)
       | 11=>f 11=.int .u32 (((an+(g0 ah))+x7).toNat:Int)
       | 12=>f 12=.int .u32 ((g1 x2).toNat:Int)
       | 13=>f 13=.int .u32 ((nw).toNat:Int)
       | 14=>f 14=.pointer (some ⟨g,k,none⟩)
       | _=>True) (by kernel_rfl) [(57,0),(58,1),(59,2),(60,3),(61,4),(62,5),(63,6),(64,7),(65,8),(66,9),(67,10),(68,11),(69,12),(70,13),(71,14)] (by kernel_rfl) ?_
      refine zJ 1 14 ?_;refine zJ 2 13 ?_;refine zt 3 12 1 (hR:=fun _ _ h=>h.trans (congrArg (Value.int .i64) bR)) ?_;refine zv 4 11 [(57,0),(58,1),(59,2),(62,5),(64,7),(65,8),(66,9),(67,10),(69,12)] (fun f X d hR K v=>?_) ?_
      · have I:f 2=_:=hR.out 2 rfl;simp only[yZ,I];refine⟨?_⟩;go_simp;exact qY v (s:=by simp only[yZ,I])
      refine qC 5 10 3 ax ?_;refine zJ 6 9 ?_;refine qj 7 8 4 5 (hR:=fun _ _ h=>h.trans (wM _ _)) ?_;refine zJ 8 7 ?_;refine zt 9 6 7 (hR:=fun _ _ h=>h.trans (congrArg (Value.int .i64) w7)) ?_;refine zv 10 5 [(57,0),(58,1),(59,2),(60,3),(61,4),(62,5),(63,6),(64,7),(65,8),(69,12)] (fun f X d hR K v=>?_) ?_
      · have e8:f 8=_:=hR.out 8 rfl;simp only[yZ,e8];refine⟨?_⟩;go_simp;exact qY v (s:=by simp only[yZ,e8])
      refine qC 11 4 9 d7 ?_;refine qj 12 3 6 10 (hR:=fun _ _ h=>h.trans (wM _ _)) ?_;refine zJ 13 2 ?_;refine qj 14 1 11 12 (hR:=fun _ _ h=>h.trans ((wM (an+g0 ah+x7) (g1 x2)).trans (congrArg (fun y:W=>Value.int .u32 (y.toNat:Int)) bD.out))) ?_;refine zv 15 0 [(57,0),(58,1),(59,2),(60,3),(61,4),(62,5),(63,6),(64,7),(65,8),(66,9),(67,10),(68,11),(69,12),(70,13)] (fun f X d hR K v=>?_) ?_
      · have e0:f 0=_:=hR.out 0 rfl;simp only[yZ,e0];refine⟨?_⟩;go_simp;exact qY v (s:=by simp only[yZ,e0])
      refine yF ⟨fun f X d hR J M=>?_⟩;have al:f 13=_:=hR 13 (by decide);have ab:f 14=_:=hR 14 (by decide);simp only[yZ,al,ab];clear hR J M al ab;replace dk:=d.cell dk;have aA:=bu.out.ext d;have fk:=aA.free k;refine zO (fun K v=>⟨zU (by kernel_rfl) ?_⟩);go_simp;refine v.out _ _ ?_;refine zI ?_;have bv:=zF (aA.set k nw);have bq:=zF ((aa.out.trans d).setCell (p:=⟨g,k,none⟩) (by rw[Hg.out];exact zG _) (.int .u32 (nw.toNat:Int)));clear dk aA fk d;generalize World.setCell X ⟨g,k,none⟩ (.int .u32 (nw.toNat:Int))=w7 at *;go_wp2_with fail;go_roundw;case rel=>exact⟨k+1,_,by go_num,by omega,S,bv,bq⟩
      case measure=>simp[intOf];omega
  · obtain rfl:k=64:=by omega
    rw[show((64:Nat):Int)=64 from rfl];have hU:=C.out;rw[←ae.out]at hU;obtain rfl:=hU.fin;clear hU fr C bG hlt aH aX aY Hp HP Hl bc bJ;have ag:VB (wr.alloc (.cells (vs (List.replicate 8 0)).toArray 210)) wr.heap.size (List.replicate 8 0) 210:=zS wr _;have af:=o.out.trans (zL wr (.cells (vs (List.replicate 8 0)).toArray 210));have ac:=D.out.ext (zL wr (.cells (vs (List.replicate 8 0)).toArray 210));have aj:Hid (uh (List.replicate 8 0) s.list 0):=zF (uh.zero _ _ rfl);obtain⟨W2,aC⟩:=eV (wr.alloc (.cells (vs (List.replicate 8 0)).toArray 210));have aT:=zF (show ∀ cs:Array Value,cs=(vs (List.replicate 8 0)).toArray→wr.alloc (.cells cs 210)=W2 from fun cs e=>by rw[e];exact aC);rw[aC]at ag af ac;obtain⟨l,aD⟩:=eV wr.heap.size;have bd:w.heap.size≤l:=by rw[←aD];exact o.out.bsize
    have bL:g≠l:=by have:=D.out.lt;omega
    rw[aD]at ag;have aU:=zF ag;have aP:=zF af;have aR:=zF ac;clear aC ag af ac D o;have au:=zF (show s.list.length=8 from rfl);have bS:=Hb;go_wp2_with fail;rw[aT.out];case a=>rfl
    clear aT aD;go_loopw [73] (fun iv wr=>∃(k:Nat) (V:List W),iv=.int .i64 (k:Int)∧k≤8∧Hid (uh V s.list k)∧Hid (VB wr l V 210)∧Hid (VB wr g L 209)∧Hid (Ext w wr)) (fun iv _=>(8-intOf iv).toNat);case atStart=>exact⟨0,_,rfl,by omega,aj,aU,aR,aP⟩
    case round =>
     clear aU aP aR aj;obtain⟨k,V,rfl,bf,C,N,D,o⟩:=hrel;have bH:V.length=8:=C.out.1;have fr:=N.out.free k;by_cases hlt:k<8
     · have k8:(k:Int)<8:=by omega
       have ck:=N.out.cell (i:=k) (by omega);have bV:=(Hb.out.ext o.out).cell hlt;have S:=zF (C.out.step (x:=wd s.list k) (by rw[au.out];exact hlt) rfl);generalize wd s.list k=x at *;have bw:=zF (N.out.set k x);have ar:=zF (o.out.setCell (p:=⟨l,k,none⟩) bd (.int .u32 (x.toNat:Int)));have aw:=zF (show VB (wr.setCell ⟨l,k,none⟩ (.int .u32 (x.toNat:Int))) g L 209 from((q9 l wr).set k _).at_ bL D.out);have hx:=rF x;go_wp2_with fail;go_roundw;case rel=>exact⟨k+1,_,by go_num,by omega,S,bw,aw,ar⟩
       case measure=>simp[intOf];omega
     · obtain rfl:k=8:=by omega
       rw[show((8:Nat):Int)=8 from rfl];have hU:=C.out;rw[←au.out]at hU;obtain rfl:=hU.fin;clear hU fr C bH hlt bf;obtain⟨t,ht⟩:=eV (uY L s 0);have ao:=zF (show VB wr l (uY L s 0).list 210 from N.out);have bl:wr.heap[g]?=some (.cells (vs L).toArray 209 (0,0)):=D.out;have aN:(Tryz.prog.info? 209).map (·.size)=some (vs L).toArray.size:=by rw[qZ,dU,ae.out];kernel_rfl
       have a6:∀ k,k<64→(vs L).toArray[k]?=some (.int .u32 ((wd L k).toNat:Int)):=fun k hk=>by rw[zQ];exact mL (by rw[ae.out];exact hk)
       have av:=zF a6;have HI:=zF aN;have bk:(vs L).toArray.size=64:=by rw[qZ,dU,ae.out]
       have HS:=zF bk;generalize(vs L).toArray=a0 at *;clear ht N D t a6 bk au;go_upto_region 17 with fail
       refine zR 2 [0,0] [] (fun j f X=>match j with
        | 0=>f 0=.agg a0
        | 1=>f 1=Value.int IntKind.i64 0
        | _=>True) (by kernel_rfl) [(86,0),(87,1)] (by kernel_rfl) ?_
       refine lV0 1 1 bl aN ?_;refine zJ 2 0 ?_;refine yF ⟨fun f X d hR J M=>?_⟩;have e0:f 0=_:=hR 0 (by decide);have E:f 1=_:=hR 1 (by decide);simp only[yZ,e0,E];clear hR J M e0 E;refine zI ?_;replace o:=zF (o.out.trans d);replace ao:=zF (ao.out.ext d);clear bl d aN;rename World=>wq;go_wp2_with fail;go_loopw [87] (fun iv wr=>∃(k:Nat),iv=.int .i64 (k:Int)∧k≤64∧Hid (VB wr l (uY L s k).list 210)∧Hid (Ext w wr)) (fun iv _=>(64-intOf iv).toNat);case atStart=>exact⟨0,rfl,by omega,ao,o⟩
       case round =>
        clear ao o;obtain⟨k,rfl,aH,N,o⟩:=hrel;by_cases hlt:k<64
        · have bO:(k:Int)<64:=by omega
          have aF:∀ W:World,(Instr.index 209 (.agg a0) (.int .i64 (k:Int))).run Tryz.prog W=.ok (.int .u32 ((wd L k).toNat:Int)) W:=fun W=>uM Tryz.underlying209 (fun _=>by kernel_rfl) (fun _=>by kernel_rfl) hlt (av.out k hlt);go_upto_region 20 with fail;clear aF;obtain⟨x,hx⟩:=eV (wd L k);have Hr:=zF (show uY L s (k+1)=rnd (uY L s k) (wd kk k) x by rw[←hx];rfl);rw[hx];generalize uY L s k=r at *;obtain⟨G,rb,rc,rd,q,O,Q,rh⟩:=r;have F:wr.heap[l]?=some (.cells #[.int .u32 (G.toNat:Int),.int .u32 (rb.toNat:Int),.int .u32 (rc.toNat:Int),.int .u32 (rd.toNat:Int),.int .u32 (q.toNat:Int),.int .u32 (O.toNat:Int),.int .u32 (Q.toNat:Int),.int .u32 (rh.toNat:Int)] 210 (0,0)):=N.out;have v0:=zP F 0;have v1:=zP F 1;have v2:=zP F 2;have v3:=zP F 3;have v4:=zP F 4;have v5:=zP F 5;have R:=zP F 6;have Z:=zP F 7;simp only[zQ,ze,qe]at v0 v1 v2 v3 v4 v5 R Z;clear hx N;go_quiet (fail);have B:=kE wr nq;have aa:=zF (o.out.trans B);replace F:=B.at_ F;replace v0:=B.cell v0;replace v1:=B.cell v1;replace v2:=B.cell v2;replace v3:=B.cell v3;replace v4:=B.cell v4;replace v5:=B.cell v5;replace R:=B.cell R;replace Z:=B.cell Z;generalize wr.drewN nq=w4 at *;clear B o;obtain⟨y1,E,I⟩:=sw1 q;go_wp2_with fail;refine(rot6 _ _).mono ?_;rintro e w5 ⟨rfl,rfl⟩;go_wp2_with fail;refine(rot11 _ _).mono ?_;rintro e w5 ⟨rfl,rfl⟩;go_wp2_with fail;refine(rot25 _ _).mono ?_;rintro e w5 ⟨rfl,rfl⟩;go_upto_region 22 with fail;clear E I;obtain⟨kd,bg,bK,aI⟩:=(Hk.out.ext aa.out) k hlt;obtain⟨kw,bh⟩:=eV (wd kk k);rw[bh]at Hr aI
          have aW:=zF (show Value.int .u32 (IntKind.u32.wrap (Int.fdiv (kd:Int) (2^32)))=.int .u32 (kw.toNat:Int) by
           have:=kw.isLt
           rw[Int.fdiv_eq_ediv_of_nonneg _ (by omega),IntKind.wrap_u32,←aI]
           congr 1
           omega)
          clear bh bK aI;have bW:(k:Int)<80:=by omega
          obtain⟨t,Ht⟩:=eG (rh+S1 q+ch q O Q+kw+x)
          refine zZ (by kernel_rfl) 24 [0,1,0,7,0,0,32,112,0,256,0,1024,3840,8176,16383,0,32768,98304,229376,491520,1048575,0,4194303,8388607] [] (fun j f X=>match j with
           | 0=>f 0=.pointer (some ⟨l,7,none⟩)
           | 1=>f 1=.int .u32 ((rh).toNat:Int)
           | 2=>f 2=.int .u32 ((S1 q).toNat:Int)
           | 3=>f 3=.int .u32 ((rh+(S1 q)).toNat:Int)
           | 4=>f 4=.int .u32 ((q).toNat:Int)
           | 5=>f 5=.pointer (some ⟨l,5,none⟩)
           | 6=>f 6=.int .u32 ((O).toNat:Int)
           | 7=>f 7=.int .u32 ((q &&& O).toNat:Int)
           | 8=>f 8=.int .u32 ((q).toNat:Int)
           | 9=>f 9=.int .u32 ((~~~q).toNat:Int)
           | 10=>f 10=.pointer (some ⟨l,6,none⟩)
           | 11=>f 11=.int .u32 ((Q).toNat:Int)
           | 12=>f 12=.int .u32 (((~~~q) &&& Q).toNat:Int)
           | 13=>f 13=.int .u32 ((ch q O Q).toNat:Int)
           | 14=>f 14=.int .u32 (((rh+(S1 q))+(ch q O Q)).toNat:Int)
           | 15=>f 15=.int .i64 (k:Int)
           | 16=>f 16=.pointer (some ⟨3,k,none⟩)
           | 17=>f 17=.int .u64 (kd:Int)
           | 18=>f 18=.int .u64 (Int.fdiv (kd:Int) (2^32))
           | 19=>f 19=.int .u32 ((kw).toNat:Int)
           | 20=>f 20=.int .u32 ((((rh+(S1 q))+(ch q O Q))+kw).toNat:Int)
           | 21=>f 21=.int .u32 ((x).toNat:Int)
           | 22=>f 22=.int .u32 ((t).toNat:Int)
           | 23=>f 23=.int .u32 ((t).toNat:Int)
           | _=>True) (by kernel_rfl) [(103,0),(104,1),(105,2),(106,3),(107,4),(108,5),(109,6),(110,7),(111,8),(112,9),(113,10),(114,11),(115,12),(116,13),(117,14),(118,15),(119,16),(120,17),(121,18),(122,19),(123,20),(124,21),(125,22),(17,23)] (by kernel_rfl) ?_
          refine zJ 1 23 ?_;refine qC 2 22 0 Z ?_;refine zJ 3 21 ?_;refine qj 4 20 1 2 (hR:=fun _ _ h=>h.trans (wM _ _)) ?_;refine zJ 5 19 ?_;refine zJ 6 18 ?_;refine qC 7 17 5 v5 ?_;refine qj 8 16 4 6 (hR:=fun _ _ h=>h.trans (fH _ _)) ?_;refine zJ 9 15 ?_;refine zt 10 14 8 (hR:=fun _ _ h=>h.trans (zDG _)) ?_;refine zJ 11 13 ?_;refine qC 12 12 10 R ?_;refine qj 13 11 9 11 (hR:=fun _ _ h=>h.trans (fH _ _)) ?_;refine qj 14 10 7 12 (hR:=fun _ _ h=>h.trans (uC _ _)) ?_;refine qj 15 9 3 13 (hR:=fun _ _ h=>h.trans (wM _ _)) ?_;refine zJ 16 8 ?_;refine zv 17 7 [(103,0),(104,1),(105,2),(106,3),(107,4),(108,5),(109,6),(110,7),(111,8),(112,9),(113,10),(114,11),(115,12),(116,13),(117,14),(118,15),(124,21)] (fun f X d hR K v=>?_) ?_
          · have a2:f 15=_:=hR.out 15 rfl;simp only[yZ,a2];refine⟨?_⟩;go_simp;exact qY v (s:=by simp only[yZ,a2])
          refine qC 18 6 16 bg ?_;refine zt 19 5 17 ?_;refine zt 20 4 18 (hR:=fun _ _ h=>h.trans (aW.out)) ?_;refine qj 21 3 14 19 (hR:=fun _ _ h=>h.trans (wM _ _)) ?_;refine zJ 22 2 ?_;refine qj 23 1 20 21 (hR:=fun _ _ h=>h.trans ((wM _ _).trans (congrArg (fun y:W=>Value.int .u32 (y.toNat:Int)) Ht.out))) ?_;refine zt 24 0 22 ?_;refine yF ⟨fun f X d hR J M=>?_⟩;have a4:f 23=_:=hR 23 (by decide);simp only[yZ,a4];clear hR J M a4;refine zI ?_;replace aa:=zF (aa.out.trans d);replace F:=d.at_ F;replace v0:=d.cell v0;replace v1:=d.cell v1;replace v2:=d.cell v2;replace v3:=d.cell v3;replace v4:=d.cell v4;replace v5:=d.cell v5;replace R:=d.cell R;replace Z:=d.cell Z;clear d;rename World=>w6;clear aW bg;obtain⟨y2,E,I⟩:=sw0 G;go_wp2_with fail;refine(rot2 _ _).mono ?_;rintro e w7 ⟨rfl,rfl⟩;go_wp2_with fail;refine(rot13 _ _).mono ?_;rintro e w7 ⟨rfl,rfl⟩;go_wp2_with fail;refine(rot22 _ _).mono ?_;rintro e w7 ⟨rfl,rfl⟩;go_upto_region 24 with fail;clear E I;obtain⟨u,Hu⟩:=eG (S0 G+mj G rb rc)
          refine zR 18 [0,0,0,4,14,0,0,64,224,510,0,1024,0,4096,15360,32766,65535,131071] [] (fun j f X=>match j with
           | 0=>f 0=.int .u32 ((S0 G).toNat:Int)
           | 1=>f 1=.int .u32 ((G).toNat:Int)
           | 2=>f 2=.pointer (some ⟨l,1,none⟩)
           | 3=>f 3=.int .u32 ((rb).toNat:Int)
           | 4=>f 4=.int .u32 ((G &&& rb).toNat:Int)
           | 5=>f 5=.int .u32 ((G).toNat:Int)
           | 6=>f 6=.pointer (some ⟨l,2,none⟩)
           | 7=>f 7=.int .u32 ((rc).toNat:Int)
           | 8=>f 8=.int .u32 ((G &&& rc).toNat:Int)
           | 9=>f 9=.int .u32 (((G &&& rb) ^^^(G &&& rc)).toNat:Int)
           | 10=>f 10=.pointer (some ⟨l,1,none⟩)
           | 11=>f 11=.int .u32 ((rb).toNat:Int)
           | 12=>f 12=.pointer (some ⟨l,2,none⟩)
           | 13=>f 13=.int .u32 ((rc).toNat:Int)
           | 14=>f 14=.int .u32 ((rb &&& rc).toNat:Int)
           | 15=>f 15=.int .u32 ((mj G rb rc).toNat:Int)
           | 16=>f 16=.int .u32 ((u).toNat:Int)
           | 17=>f 17=.int .u32 ((u).toNat:Int)
           | _=>True) (by kernel_rfl) [(134,0),(135,1),(136,2),(137,3),(138,4),(139,5),(140,6),(141,7),(142,8),(143,9),(144,10),(145,11),(146,12),(147,13),(148,14),(149,15),(150,16),(18,17)] (by kernel_rfl) ?_
          refine zJ 1 17 ?_;refine zJ 2 16 ?_;refine zJ 3 15 ?_;refine qC 4 14 2 v1 ?_;refine qj 5 13 1 3 (hR:=fun _ _ h=>h.trans (fH _ _)) ?_;refine zJ 6 12 ?_;refine zJ 7 11 ?_;refine qC 8 10 6 v2 ?_;refine qj 9 9 5 7 (hR:=fun _ _ h=>h.trans (fH _ _)) ?_;refine qj 10 8 4 8 (hR:=fun _ _ h=>h.trans (uC _ _)) ?_;refine zJ 11 7 ?_;refine qC 12 6 10 v1 ?_;refine zJ 13 5 ?_;refine qC 14 4 12 v2 ?_;refine qj 15 3 11 13 (hR:=fun _ _ h=>h.trans (fH _ _)) ?_;refine qj 16 2 9 14 (hR:=fun _ _ h=>h.trans (uC _ _)) ?_;refine qj 17 1 0 15 (hR:=fun _ _ h=>h.trans ((wM _ _).trans (congrArg (fun y:W=>Value.int .u32 (y.toNat:Int)) Hu.out))) ?_;refine zt 18 0 16 ?_;refine yF ⟨fun f X d hR J M=>?_⟩;have am:f 17=_:=hR 17 (by decide);simp only[yZ,am];clear hR J M am;refine zI ?_;replace aa:=zF (aa.out.trans d);replace F:=d.at_ F;replace v0:=d.cell v0;replace v1:=d.cell v1;replace v2:=d.cell v2;replace v3:=d.cell v3;replace v4:=d.cell v4;replace v5:=d.cell v5;replace R:=d.cell R;replace Z:=d.cell Z;clear d;rename World=>w8;go_upto_region 25 with fail;obtain⟨na,aK⟩:=eV (t+u);obtain⟨ne,aL⟩:=eV (rd+t)
          have Hn:=zF (show uY L s (k+1)=⟨na,G,rb,rc,ne,q,O,Q⟩ by
           rw[Hr.out,←aK,←aL,←Ht.out,←Hu.out];rfl)
          have bB:=zF aK;have bC:=zF aL;clear aK aL
          refine zR 18 [0,0,3,0,0,16,0,64,0,256,0,1792,0,0,8192,0,32768,131071,262143] [] (fun j f X=>match j with
           | 0=>f 0=.int .u32 ((t).toNat:Int)
           | 1=>f 1=.int .u32 ((u).toNat:Int)
           | 2=>f 2=.int .u32 ((na).toNat:Int)
           | 3=>f 3=.int .u32 ((G).toNat:Int)
           | 4=>f 4=.pointer (some ⟨l,1,none⟩)
           | 5=>f 5=.int .u32 ((rb).toNat:Int)
           | 6=>f 6=.pointer (some ⟨l,2,none⟩)
           | 7=>f 7=.int .u32 ((rc).toNat:Int)
           | 8=>f 8=.pointer (some ⟨l,3,none⟩)
           | 9=>f 9=.int .u32 ((rd).toNat:Int)
           | 10=>f 10=.int .u32 ((t).toNat:Int)
           | 11=>f 11=.int .u32 ((ne).toNat:Int)
           | 12=>f 12=.int .u32 ((q).toNat:Int)
           | 13=>f 13=.pointer (some ⟨l,5,none⟩)
           | 14=>f 14=.int .u32 ((O).toNat:Int)
           | 15=>f 15=.pointer (some ⟨l,6,none⟩)
           | 16=>f 16=.int .u32 ((Q).toNat:Int)
           | 17=>f 17=.agg #[.int .u32 (na.toNat:Int),.int .u32 (G.toNat:Int),.int .u32 (rb.toNat:Int),.int .u32 (rc.toNat:Int),.int .u32 (ne.toNat:Int),.int .u32 (q.toNat:Int),.int .u32 (O.toNat:Int),.int .u32 (Q.toNat:Int)]
           | _=>True) (by kernel_rfl) [(151,0),(152,1),(153,2),(154,3),(155,4),(156,5),(157,6),(158,7),(159,8),(160,9),(161,10),(162,11),(163,12),(164,13),(165,14),(166,15),(167,16),(168,17)] (by kernel_rfl) ?_
          refine zJ 1 17 ?_;refine zJ 2 16 ?_;refine qj 3 15 0 1 (hR:=fun _ _ h=>h.trans ((wM _ _).trans (congrArg (fun y:W=>Value.int .u32 (y.toNat:Int)) bB.out))) ?_;refine zJ 4 14 ?_;refine zJ 5 13 ?_;refine qC 6 12 4 v1 ?_;refine zJ 7 11 ?_;refine qC 8 10 6 v2 ?_;refine zJ 9 9 ?_;refine qC 10 8 8 v3 ?_;refine zJ 11 7 ?_;refine qj 12 6 9 10 (hR:=fun _ _ h=>h.trans ((wM _ _).trans (congrArg (fun y:W=>Value.int .u32 (y.toNat:Int)) bC.out))) ?_;refine zJ 13 5 ?_;refine zJ 14 4 ?_;refine qC 15 3 13 v5 ?_;refine zJ 16 2 ?_;refine qC 17 1 15 R ?_;refine zv 18 0 [(151,0),(152,1),(153,2),(154,3),(155,4),(156,5),(157,6),(158,7),(159,8),(160,9),(161,10),(162,11),(163,12),(164,13),(165,14),(166,15),(167,16)] (fun f X d hR K v=>?_) ?_
          · have I:f 2=_:=hR.out 2 rfl;have T:f 3=_:=hR.out 3 rfl;have e5:f 5=_:=hR.out 5 rfl;have e7:f 7=_:=hR.out 7 rfl;have ak:f 11=_:=hR.out 11 rfl;have a1:f 12=_:=hR.out 12 rfl;have ab:f 14=_:=hR.out 14 rfl;have a3:f 16=_:=hR.out 16 rfl;simp only[yZ,I,T,e5,e7,ak,a1,ab,a3];refine⟨?_⟩;go_simp;exact qY v (s:=by simp only[yZ,I,T,e5,e7,ak,a1,ab,a3])
          refine yF ⟨fun f X d hR J M=>?_⟩;have am:f 17=_:=hR 17 (by decide);simp only[yZ,am];clear hR J M am;refine zO (fun K v=>⟨zU (by kernel_rfl) (jX (cs':=#[.int .u32 (na.toNat:Int),.int .u32 (G.toNat:Int),.int .u32 (rb.toNat:Int),.int .u32 (rc.toNat:Int),.int .u32 (ne.toNat:Int),.int .u32 (q.toNat:Int),.int .u32 (O.toNat:Int),.int .u32 (Q.toNat:Int)]) (t:=210) 210 (.tmp 10) (.tmp 168) rfl rfl rfl rfl (d.at_ F) (by kernel_rfl) rfl (by simp[Value.oneCell']) (fun Y ba bb bI=>v.out _ _ ?_))⟩);refine zI ?_;have bx:=zF (show VB Y l (uY L s (k+1)).list 210 by rw[Hn.out];exact ba);have br:=zF (bb.ext (aa.out.trans d) bd);clear d ba bb bI F v0 v1 v2 v3 v4 v5 R Z;go_wp2_with fail;go_roundw;case rel=>exact⟨k+1,by go_num,by omega,bx,br⟩
          case measure=>simp[intOf];omega
        · obtain rfl:k=64:=by omega
          rw[show((64:Nat):Int)=64 from rfl];obtain⟨t,ht⟩:=eV (uY L s 64);rw[ht]at N;have Hm:=zF (show pk s p=s.add t by rw[bz.out,ht]);have bm:wr.heap[l]?=some (.cells (vs t.list).toArray 210 (0,0)):=N.out;have av:=zF (show ∀ k,k<8→(vs t.list).toArray[k]?=some (.int .u32 ((wd t.list k).toNat:Int))from fun k hk=>by rw[zQ];exact mL hk);have i8:(Tryz.prog.info? 210).map (·.size)=some (vs t.list).toArray.size:=by kernel_rfl
          have bE:=zF (show ∀ k,k<8→wd (s.add t).list k=wd s.list k+wd t.list k from fun k hk=>by
           match k,hk with
           | 0,_|1,_|2,_|3,_|4,_|5,_|6,_|7,_=>rfl)
          generalize(vs t.list).toArray=aZ at *;clear N hlt aH ht;go_upto_region 27 with fail
          refine zR 2 [0,0] [] (fun j f X=>match j with
           | 0=>f 0=.agg aZ
           | 1=>f 1=Value.int IntKind.i64 0
           | _=>True) (by kernel_rfl) [(170,0),(171,1)] (by kernel_rfl) ?_
          refine lV0 1 1 bm i8 ?_;refine zJ 2 0 ?_;refine yF ⟨fun f X d hR J M=>?_⟩;have e0:f 0=_:=hR 0 (by decide);have E:f 1=_:=hR 1 (by decide);simp only[yZ,e0,E];clear hR J M e0 E;refine zI ?_;have aQ:=zF (jE.of_below (g:=b) (o.out.trans d) (zG _));have aO:=zF (Hb.out.ext (o.out.trans d));clear d bm i8 o;rename World=>wh;go_wp2_with fail;go_loopw [171] (fun iv wr=>∃(k:Nat) (H:List W),iv=.int .i64 (k:Int)∧k≤8∧Hid (HB wr b H wt n)∧Hid (uh H (s.add t).list k)∧Hid (∀ j,k≤j→wd H j=wd s.list j)∧Hid (jE b w wr)) (fun iv _=>(8-intOf iv).toNat);case atStart=>exact⟨0,_,rfl,by omega,aO,zF (uh.zero _ _ rfl),zF (fun _ _=>rfl),aQ⟩
          case round =>
           clear aO aQ;obtain⟨k,H,rfl,bf,aq,C,HR,HJ⟩:=hrel;by_cases hlt:k<8
           · have k8:(k:Int)<8:=by omega
             have aF:∀ W:World,(Instr.index 210 (.agg aZ) (.int .i64 (k:Int))).run Tryz.prog W=.ok (.int .u32 ((wd t.list k).toNat:Int)) W:=fun W=>uM Tryz.underlying210 (fun _=>by kernel_rfl) (fun _=>by kernel_rfl) hlt (av.out k hlt);go_upto_region 30 with fail;clear aF;obtain⟨x,hx⟩:=eV (wd t.list k);obtain⟨y,hy⟩:=eV (wd H k);obtain⟨z,hz⟩:=eV (y+x);have S:=zF (C.out.step (x:=z) hlt (by rw[bE.out k hlt,←hz,←hx,←hy,HR.out k (zG _)]));have bt:=zF (show ∀ j,k+1≤j→wd (H.set k z) j=wd s.list j from fun j hj=>by rw[dS _ (by omega)];exact HR.out j (by omega));have ck:=aq.out.cell hlt;have Hz:=zF hz;rw[hy]at ck;rw[hx];clear hx hy hz
             refine zZ (by kernel_rfl) 15 [0,0,0,0,4,20,60,124,252,0,1020,2044,1,4097,16383,32767] [] (fun j f X=>match j with
              | 0=>f 0=.pointer (some ⟨b,0,none⟩)
              | 1=>f 1=.int .i64 (k:Int)
              | 2=>f 2=.pointer (some ⟨b,0,none⟩)
              | 3=>f 3=.int .i64 (k:Int)
              | 4=>f 4=.pointer (some ⟨b,0,none⟩)
              | 5=>f 5=.pointer (some ⟨b,1,none⟩)
              | 6=>f 6=.pointer (some ⟨b,1+k,none⟩)
              | 7=>f 7=.int .u64 ((y).toNat:Int)
              | 8=>f 8=.int .u32 ((y).toNat:Int)
              | 9=>f 9=.int .u32 ((x).toNat:Int)
              | 10=>f 10=.int .u32 ((z).toNat:Int)
              | 11=>f 11=.int .u64 ((z).toNat:Int)
              | 12=>f 12=.pointer (some ⟨b,0,none⟩)
              | 13=>f 13=.pointer (some ⟨b,1,none⟩)
              | 14=>f 14=.pointer (some ⟨b,1+k,none⟩)
              | _=>True) (by kernel_rfl) [(175,0),(176,1),(177,2),(178,3),(179,4),(180,5),(181,6),(182,7),(183,8),(184,9),(185,10),(186,11),(187,12),(188,13),(189,14)] (by kernel_rfl) ?_
             refine zJ 1 14 ?_;refine zJ 2 13 ?_;refine zJ 3 12 ?_;refine zJ 4 11 ?_;refine zt 5 10 2 ?_;refine zt 6 9 4 ?_;refine zv 7 8 [(175,0),(176,1),(177,2),(178,3),(179,4),(180,5),(184,9),(187,12),(188,13)] (fun f X d hR K v=>?_) ?_
             · have T:f 3=_:=hR.out 3 rfl;have e5:f 5=_:=hR.out 5 rfl;simp only[yZ,T,e5];refine⟨?_⟩;go_simp;exact qY v (s:=by simp only[yZ,T,e5])
             refine qC 8 7 6 ck ?_;refine zt 9 6 7 (hR:=fun _ _ h=>h.trans (zDb _)) ?_;refine zJ 10 5 ?_;refine qj 11 4 8 9 (hR:=fun _ _ h=>h.trans ((wM _ _).trans (congrArg (fun y:W=>Value.int .u32 (y.toNat:Int)) Hz.out))) ?_;refine zt 12 3 10 (hR:=fun _ _ h=>h.trans (v_up _)) ?_;refine zt 13 2 0 ?_;refine zt 14 1 12 ?_;refine zv 15 0 [(175,0),(176,1),(177,2),(178,3),(179,4),(180,5),(181,6),(182,7),(183,8),(184,9),(185,10),(186,11),(187,12),(188,13)] (fun f X d hR K v=>?_) ?_
             · have E:f 1=_:=hR.out 1 rfl;have al:f 13=_:=hR.out 13 rfl;simp only[yZ,E,al];refine⟨?_⟩;go_simp;exact qY v (s:=by simp only[yZ,E,al])
             refine yF ⟨fun f X d hR J M=>?_⟩;have ak:f 11=_:=hR 11 (by decide);have ab:f 14=_:=hR 14 (by decide);simp only[yZ,ak,ab];clear hR J M ak ab;replace ck:=d.cell ck;have ay:=aq.out.ext d;have fk:=ay.free (1+k);refine zO (fun K v=>⟨zU (by kernel_rfl) ?_⟩);go_simp;refine v.out _ _ ?_;refine zI ?_;have bp:=zF (ay.set hlt z);have bs:=zF ((HJ.out.trans (jE.of_below d (zG _))).set (1+k) (.int .u64 (z.toNat:Int)));clear ck ay fk d;generalize World.setCell X ⟨b,1+k,none⟩ (.int .u64 (z.toNat:Int))=w9 at *;go_wp2_with fail;go_roundw;case rel=>exact⟨k+1,_,by go_num,by omega,bp,S,bt,bs⟩
             case measure=>simp[intOf];omega
           · obtain rfl:k=8:=by omega
             have hH:=C.out.fin;go_wp2_with fail;go_end0;exact⟨rfl,by rw[Hm.out,←hH];exact aq.out,HJ.out⟩
end Go.Proofs.YtaemogcomplhiaaGreatDoor
namespace Go.Proofs.YtaemogcomplhiaaGreatDoor
open Go.RowKit
def OW (w:World) (base:Nat) (A:Option Addr) (c:Nat) (bs:List Nat):Prop:=w.ownsRow base 5 1 (.slice A bs.length c) bs.length (bys bs)∧∀ b∈bs,b<256
theorem ua {w:World}{base n size:Nat}{e:TypeId}{v:Value}{cs:List Value}(h:w.ownsRow base e size v n cs)(k:Nat)(a:v.ownBlock=some k):base≤k:=by
 rcases h.2 with⟨rfl,rfl⟩|⟨g,cap,b,rfl,c,_⟩
 · cases a
 · simp[Value.ownBlock]at a;omega
theorem OW.rb {w:World}{base:Nat}{A:Option Addr}{c:Nat}{bs:List Nat}(h:OW w base A c bs)(a:bs.length≤100000000):RB w (In base w.heap.size) A c bs:=⟨RS.of_own h.1,h.2,by omega⟩
theorem OW.lit (w:World)(b:Nat)(a:b<256):OW (w.alloc (.cells #[.int .u8 (b:Int)] 5)) w.heap.size (some ⟨w.heap.size,0,none⟩) 1 [b] :=
 ⟨World.ownsRow_lit w #[.int .u8 (b:Int)] 1 (zG _) (by unfold maxLen;omega) rfl,by simp;exact a⟩
theorem OW.ext {w X:World}{base:Nat}{A:Option Addr}{c:Nat}{bs:List Nat}(h:OW w base A c bs)(a:w.grownBy X none):OW X base A c bs:=⟨zAm h.1 a,h.2⟩
theorem RB.upE {w X:World}{A:Option Addr}{c:Nat}{bs:List Nat}(h:RB w (fun b=>b<w.heap.size) A c bs)(d:Ext w X):RB X (fun b=>b<X.heap.size) A c bs:=(h.below d (fun _ a=>a)).mono fun _ a=>zH a d.bsize
section
variable {w:World} {ops:Array Oper} {rest:List Oper} {o:Oper} {a:Act} {Q:Exit→Act→World→Prop}
theorem nA (n:o.guard=none)(s x:Operand)(q:o.op=.call { callee:=.builtin .append,args:=#[s,x],argTypes:=#[22,22] })(base:Nat){A e:Option Addr}{c f:Nat}{bs cs:List Nat}{B:Nat→Prop}
 (r:a.eval s=.slice A bs.length c) (g:OW w base A c bs) (v:a.eval x=.slice e cs.length f) (k:RB w B e f cs) (F:bs.length+cs.length≤100000000) (i:base≤w.heap.size)
 (h:∀ A' c' w',OW w' base A' c' (bs++cs)→Below base w w'→wpList Tryz.prog ops Q rest (a.put o.dst (.slice A' (bs++cs).length c')) w'):wpList Tryz.prog ops Q (o::rest) a w:=by
 obtain⟨D,p,y,z,C⟩:=yz ub
 refine jd w n s x 22 q base 5 D (.int .u8 0) 1 1 Tryz.underlying22 p y z C rfl (by decide) _ bs.length (bys bs) r g.1 B e cs.length f (bys cs) v k.1 (by intro u t;obtain⟨b,_,rfl⟩:=List.mem_map.1 t;rfl) (bs.length+cs.length) rfl (by unfold maxLen;omega) (by omega) i ?_
 intro A' c' w' l m E
 have j:(bs++cs).length=bs.length+cs.length:=zf
 refine(j▸h A' c' w' ⟨?_,?_⟩ ?_:_)
 · rw[j,show bys (bs++cs)=bys bs++bys cs by simp[bys]];exact l
 · intro b d;rcases List.mem_append.1 d with d|d
   · exact g.2 b d
   · exact k.2.1 b d
 · exact Below.grown (zo base w) m i (ua g.1)
end
end Go.Proofs.YtaemogcomplhiaaGreatDoor
namespace Go.Proofs.YtaemogcomplhiaaGreatDoor
open Go.RowKit
open Sha
theorem cB (w:World):Calls Tryz.prog 134 #[.int .i64 3] w fun e w'=>e=.returned (.int .i64 64)∧w'=w:=by
 go_enter Tryz.func134,Tryz.ntmps134;go_wp2;go_ret;exact⟨rfl,rfl⟩
theorem zAN (w:World):Calls Tryz.prog 127 #[.int .i64 3] w fun e w'=>e=.returned (.int .i64 32)∧w'=w:=by
 go_enter Tryz.func127,Tryz.ntmps127;go_wp2;go_ret;exact⟨rfl,rfl⟩
def dd:List Nat:=[7640891576956012808,13503953896175478587,4354685564936845355,11912009170470909681,5840696475078001361,11170449401992604703,2270897969802886507,6620516959819538809]
def two8:List Nat:=[14680500436340154072,7105036623409894663,10473403895298186519,1526699215303891257,7436329637833083697,10282925794625328401,15784041429090275239,5167115440072839076]
def NB (w:World) (g:Nat) (l:List Nat) (t:TypeId):Prop:=w.heap[g]?=some (.cells (nts l).toArray t (0,0))
theorem NB.cell {w:World}{g:Nat}{l:List Nat}{t:TypeId}(h:NB w g l t){i:Nat}(a:i<l.length):w.cell? ⟨g,i,none⟩=some (.int .u64 (dg l i:Int)):=by
 rw[zP h];simpa using gA a
theorem NB.free {w:World}{g:Nat}{l:List Nat}{t:TypeId}(h:NB w g l t)(i:Nat):w.frozen? ⟨g,i,none⟩=false:=qz h i
theorem NB.set {w:World}{g:Nat}{l:List Nat}{t:TypeId}(h:NB w g l t)(i x:Nat):NB (w.setCell ⟨g,i,none⟩ (.int .u64 (x:Int))) g (l.set i x) t:=by
 unfold NB;have:=jA h i (.int .u64 (x:Int));rw[this];simp[nts,List.map_set]
def fZ (k:Nat):List Nat:=(dd.take k).map (· / 4294967296)++dd.drop k
theorem sj {k:Nat}(h:k<8):(fZ k).set k (dg dd k/4294967296)=fZ (k+1):=by
 match k,h with
 | 0,_|1,_|2,_|3,_|4,_|5,_|6,_|7,_=>rfl
theorem zAQ {k:Nat}(h:k<8):dg (fZ k) k=dg dd k:=by
 match k,h with
 | 0,_|1,_|2,_|3,_|4,_|5,_|6,_|7,_=>rfl
theorem zAP {k:Nat}(h:k≤8):(fZ k).length=8:=by simp[fZ,dd];omega
theorem zDT {fn:Func}{R:Ending→World→Prop}{a:Act}{W:World}{p:Tmp}{g:Nat}{cs:Array Value}{t ty:TypeId}{d:TypeDesc}(i:fn.results=#[.cell p t])(h:a.tmps.getD p undef=.pointer (some ⟨g,0,none⟩))(b:a.defers=[])
 (c:W.heap[g]?=some (.cells cs ty (0,0))) (j:Tryz.prog.underlying t=some d) (f:d.isRow=true) (e:(Tryz.prog.info? t).map (·.size)=some cs.size) (hR:R (.returned (.agg cs)) W):bodyPost Tryz.prog fn R .ret a W :=
 vg (wu i a.tmps W g _ _ _ d h c j (by cases d<;>first|rfl|exact f) e) b hR
theorem zDh (w:World):Calls Tryz.prog 143 #[.int .i64 3] w fun e w'=>e=.returned (.agg (nts (fZ 8)).toArray)∧Ext w w':=by
 obtain⟨W3,m⟩:=eV (((w.alloc (.cells (nts (List.replicate 8 0)).toArray 175)).alloc (.cells (nts dd).toArray 175)).alloc (.cells (nts two8).toArray 175));have B:=zF (show ∀ c1 u c3:Array Value,c1=(nts (List.replicate 8 0)).toArray→u=(nts dd).toArray→c3=(nts two8).toArray→((w.alloc (.cells c1 175)).alloc (.cells u 175)).alloc (.cells c3 175)=W3 from fun c1 u c3 M N O=>by rw[M,N,O];exact m);have G:Ext w W3:=by rw[←m];exact((zL _ _).trans (zL _ _)).trans (zL _ _)
 have h:NB W3 w.heap.size (List.replicate 8 0) 175:=by
  rw[←m];exact(zL _ _).at_ ((zL _ _).at_ (zS w _))
 have c:NB W3 (w.heap.size+1) (fZ 0) 175:=by
  rw[←m];have:=zS (w.alloc (.cells (nts (List.replicate 8 0)).toArray 175)) (.cells (nts dd).toArray 175);rw[zz]at this;exact(zL _ _).at_ this
 obtain⟨g,z⟩:=eV w.heap.size;rw[z]at h c;have C:=zF z;have l:=zF G;have d:=zF h;have b:=zF c;clear m G h c;go_enter Tryz.func143,Tryz.ntmps143;go_wp2_with fail;rw[B.out];case a=>rfl
 case a=>rfl
 case a=>rfl
 clear B z;go_loopw [27] (fun iv wr=>∃(k:Nat),iv=.int .i64 (k:Int)∧k≤8∧Hid (NB wr (g+1) (fZ k) 175)∧Hid (NB wr g (List.replicate 8 0) 175)∧Hid (Ext w wr)) (fun iv _=>(8-intOf iv).toNat);case atStart=>exact⟨0,rfl,by omega,b,d,l⟩
 case round =>
  clear b d l;obtain⟨k,rfl,U,b,d,l⟩:=hrel;by_cases hlt:k<8
  · have k8:(k:Int)<8:=by omega
    have D:=b.out.cell (i:=k) (by rw[zAP (by omega)];exact hlt);have V:=b.out.free k;rw[zAQ hlt]at D;have s:=b.out.set k (dg dd k/4294967296);rw[sj hlt]at s;have q:=zF s;have o:=zF (show NB (wr.setCell ⟨g+1,k,none⟩ (.int .u64 ((dg dd k/4294967296:Nat):Int))) g (List.replicate 8 0) 175 from((q9 (g+1) wr).set k _).at_ (by omega) d.out);have r:=zF (l.out.setCell (p:=⟨g+1,k,none⟩) (by have:=C.out;show w.heap.size≤g+1;omega) (.int .u64 ((dg dd k/4294967296:Nat):Int)));obtain⟨x,J⟩:=eV (dg dd k);obtain⟨y,A⟩:=eV (x/4294967296);rw[J]at D q o r;rw[A]at q o r;have aa:(x:Int)/4294967296=(y:Int):=by rw[←A];omega
    clear J A s;go_wp2_with fail;go_roundw;case rel=>exact⟨k+1,by go_num,by omega,q,o,r⟩
    case measure=>simp[intOf];omega
  · obtain rfl:k=8:=by omega
    rw[show((8:Nat):Int)=8 from rfl];have c:=b.out;have h:=d.out;have n:(Tryz.prog.info? 175).map (·.size)=some (nts (fZ 8)).toArray.size:=by kernel_rfl
    have Z:(Tryz.prog.info? 175).map (·.size)=some (nts (List.replicate 8 0)).toArray.size:=by kernel_rfl
    have F:(nts (fZ 8)).toArray.all (·.oneCell')=true:=by simp[nts,Value.oneCell']
    have I:(nts (List.replicate 8 0)).toArray.size=(nts (fZ 8)).toArray.size:=rfl;unfold NB at c h;obtain⟨c8,v⟩:=eV ((nts (fZ 8)).toArray);rw[v]at c n F I;have L:=zF v;clear v;generalize(nts (List.replicate 8 0)).toArray=z8 at *;clear b d hlt U;go_upto_region 21 with fail
    refine zR 1 [0,1] [] (fun j f X=>match j with
     | 0=>f 0=.agg c8
     | _=>True) (by kernel_rfl) [(39,0)] (by kernel_rfl) ?_
    refine lV0 1 0 c n ?_;refine yF ⟨fun f X H hR S T=>?_⟩;have E:f 0=.agg c8:=hR 0 (by decide);simp only[Par.vE,Act.put,jn,List.set_cons_succ,vQ,E];clear hR S T E;refine zO (fun K P=>⟨zU (by kernel_rfl) (jX (cs':=c8) (t:=175) 175 (.tmp 2) (.tmp 39) rfl rfl rfl rfl (H.at_ h) n I F (fun Y Q R W=>P.out _ _ ?_))⟩);refine zI ?_;go_wp2;exact zDT rfl rfl rfl Q Tryz.underlying175 rfl n ⟨by rw[L.out],R.ext (l.out.trans H) (by have:=C.out;omega)⟩
theorem zAt:nts (fZ 8)=yG.list.map fun x=>Value.int .u64 (x.toNat:Int):=by
 simp[nts,fZ,dd,yG,St.list]
theorem new3 (w:World):Calls Tryz.prog 136 #[.int .i64 3] w fun e w'=>∃ b,e=.returned (.pointer (some ⟨b,0,none⟩))∧HB w' b yG.list (.slice none 0 0) 0∧w.heap.size≤b∧Ext w w':=by
 have c:=zF (zDh w);go_enter Tryz.func136,Tryz.ntmps136;go_wp2_with fail;refine(zAN _).mono ?_;rintro e d ⟨rfl,rfl⟩;go_wp2_with fail;refine c.out.mono ?_;rintro e w2 ⟨rfl,a⟩;rw[zAt];go_wp2_with fail;go_ret;exact⟨_,rfl,⟨zS _ _,rfl⟩,a.bsize,a.trans (zL _ _)⟩
theorem zBY (P:Nat→Prop)(A:Option Addr)(c:Nat)(bs:List Nat)(w:World)(h:RB w P A c bs)(l:∀ b,P b→b<w.heap.size)(d:bs=[]→A=none∧c=0)(u:bs.length≤1000000) :
 Calls Tryz.prog 146 #[.slice A bs.length c] w fun e w'=>∃ A' c',e=.returned (.slice A' bs.length c')∧OW w' w.heap.size A' c' bs∧(bs=[]→A'=none∧c'=0)∧Ext w w':=by
 obtain⟨C,x,y,z,B⟩:=yz ub
 have D:∀(w:World) (a:Option Addr) (n c f c':Nat),(binOp .eql 22 (.slice a n c) (.slice none f c')).run Tryz.prog w=.ok (.bool a.isNone) w:=fun w a n c f c'=>Lib.run_eql_slice_nil w _ _ a n c f c' Tryz.underlying22
 obtain⟨s,t,_⟩:=h.cap
 have v:=h.2.1
 by_cases he:bs=[]
 · obtain⟨rfl,rfl⟩:=d he;subst he;clear d;go_enter Tryz.func146,Tryz.ntmps146;go_wp2;go_ret;exact⟨none,0,rfl,⟨⟨by simp[bys],.inl ⟨rfl,rfl⟩⟩,by simp⟩,fun _=>⟨rfl,rfl⟩,zT _⟩
 · have g:0<bs.length:=List.length_pos_iff.2 he;obtain⟨ad,rfl,_⟩:=h.1.2.2.2 g;have j:RB (w.alloc (.cells #[] 5)) P (some ad) c bs:=h.keep fun p o=>World.cell?_alloc_lt w _ p (l _ o);have q:OW (w.alloc (.cells #[] 5)) w.heap.size (some ⟨w.heap.size,0,none⟩) 0 []:=⟨World.ownsRow_made w #[] 0 (zG _) (xB _) rfl,by simp⟩
   have i:=zF he;have k:=zL w (.cells #[] 5);clear h d g he;go_enter Tryz.func146,Tryz.ntmps146;go_wp2_with (at_builtin;refine nA rfl (.tmp 5) (.tmp 6) rfl w.heap.size rfl q rfl j (by simp;omega) (by simp) ?_);intro A' c' E r m;go_wp2;go_ret;exact⟨A',c',rfl,r,fun e=>absurd e i.out,jJ k m⟩
theorem take3 (b:Nat)(s:St)(wt:Value)(n:Nat)(P:Nat→Prop)(A:Option Addr)(c:Nat)(p:List Nat)(w:World)(a:HB w b s.list wt n)(h:KW w)(i:RB w P A c p)(l:p.length=64)(g:∀ b,P b→b<w.heap.size) :
 Calls Tryz.prog 145 #[.pointer (some ⟨b,0,none⟩),.slice A 64 c] w fun e w'=>e=.returned (.tuple #[])∧HB w' b (pk s p).list wt n∧jE b w w':=by
 have m:=zF (oh b s wt n P A c p w a h i l g)
 have o:=a.kind
 clear a h i g
 go_enter Tryz.func145,Tryz.ntmps145
 go_wp2_with fail
 refine m.out.mono ?_
 rintro e q ⟨rfl,d,f⟩
 have j:=zF d
 have k:=zF f
 clear d f
 go_wp2_with fail
 go_end0
 exact⟨rfl,j.out,k.out⟩
end Go.Proofs.YtaemogcomplhiaaGreatDoor
namespace Go.Proofs.YtaemogcomplhiaaGreatDoor
open Go.RowKit
def zBj {β:Type} (P:Program) (g:Nat) (lb:Array Value) (i:Nat→β→Array Value) (h:Nat→β→World→Prop) (f:Nat→World→Prop) (T:Nat→Nat→World→World→Prop) (d:World→World→Prop) (m N:Nat) (fin:Bool) (w:World):Prop :=
  ∀ (n l : Nat) (J a c : Nat → World → Prop) (W : World), 1 ≤ n → Below w.heap.size w W → l < W.heap.size → OwnFrom W.heap.size J → OwnFrom W.heap.size a → OwnFrom W.heap.size c →
    (∀ k W1,k≤N→J k W1→f k W1)→(∀ k W1 W2,k≤N→J k W1→T W.heap.size k W1 W2→a k W2)→(fin=false→∀ W',¬ a N W') →
    (∀ k b W1,a k W1→h k b W1→k<N→W.heap.size+m≤W1.heap.size→YieldAt Fence.wide (n-1) P l (i k b) W1 fun e W' =>
      (e=.returned (.bool true)∧J (k+1) W'∧d W1 W'∧jS W.heap.size W.heap.size m W1 W')∨(e=.returned (.bool false)∧c (k+1) W'∧jS W.heap.size W.heap.size m W1 W')) →
    J 0 W →
    CallsIn Fence.wide n P g (#[.func (.yield l) #[] #[]]++lb) W fun e W'=>(∃ v,e=.returned v)∧(a N W'∨∃ k,0<k∧k≤N∧c k W')
theorem oY {β:Type}{n:Nat}{P:Program}{g:Operand}{ps:Array Tmp}{assign body:Code}{Q:Exit→Act→World→Prop}{a:Act}{w:World}
   (h2:2≤n) {gf:Nat} {lb:Array Value} (hg:a.eval g=.func (.func gf) #[] lb) (eg:∀ args w,(callFunc gf args).run P w=.ok (.enter gf args) w)
   {Z:Nat→β→Array Value} {U:Nat→β→World→Prop} {Nd:Nat→World→Prop} {T:Nat→Nat→World→World→Prop} {x:World→World→Prop} {m N:Nat} {fin:Bool} {R:World} (aD:zBj P gf lb Z U Nd T x m N fin R)
   (ad:∀ {A B C:World},x A B→x B C→x A C) (ac:∀(W:World) (l:Nat) (o o':Obj),w.heap.size≤l→W.heap[l]?=some o→o.isCells=false→o.isWalk=false→x W (W.putObj l o'))
   (hT:∀ B k W1 W2,T B k W1 W2→W1.heap.size≤W2.heap.size∧∀ b o,b<B→W1.heap[b]?=some o→o.isCells=false→W2.heap[b]?=some o)
   (ae:Below R.heap.size R w) (aB:∀ k b,(Z k b).size=ps.size) (hVp:∀ k b (W:World) (l:Nat) (o o':Obj),U k b W→W.heap[l]?=some o→o.isCells=false→U k b (W.putObj l o'))
   (I G:Nat→World→Prop) (S:Code→Nat→World→Prop) (V:OwnFrom w.heap.size I) (aa:OwnFrom w.heap.size G) (hIx:∀ c,OwnFrom w.heap.size (S c))
   (hNd:∀ k W,k≤N→I k W→Nd k W) (hIT:∀ B k W1 W2,w.heap.size≤B→k≤N→I k W1→T B k W1 W2→G k W2) (ar:fin=false→∀ W',¬ G N W') (h0:I 0 w) (a₁:Nat→β→Act)
   (al:∀(l k:Nat) (b:β) (W:World) (K:Act→World→Prop),K (a₁ k b) W →
     assign.wpIn (Fence.wide.inRound l) (n-1-1) P (Exit.then K (fun _ _ _=>False)) { tmps:=(ps.zip (Z k b)).foldl (fun t (p,v)=>t.setIfInBounds p v) a.tmps,defers:=[] } W)
   (an:∀(l k:Nat) (b:β) (W:World),G k W→U k b W→k<N→w.heap.size+2+m≤W.heap.size→body.wpIn (Fence.wide.inRound l) (n-1-1) P (oH w.heap.size m x I S (k+1) W) (a₁ k b) W)
   (aq:∀(D:Nat) (W:World),w.heap.size≤D→G N W→W.heap[D]?=some (.deferred (some []))→Q .normal { a with defers:={ target:=.collected D,args:=#[] }::a.defers } W)
   (aE:∀(D:Nat) (c:Code) (k:Nat) (W:World),w.heap.size≤D→0<k→k≤N→S c k W→W.heap[D]?=some (.deferred (some []))→c.wpIn Fence.wide n P Q { a with defers:={ target:=.collected D,args:=#[] }::a.defers } W) :
   (Code.rangeFunc g ps assign body).wpIn Fence.wide n P Q a w:=by
 refine wpIn_rangeFunc ?_;intro fn au;obtain⟨rc,s⟩:∃ rc:LoopState→Option Code→Loop,rc=fun Y X=>{ state:=Y,pending:=X,fn,tmps:=a.tmps,params:=ps,assign,body,defers:=w.heap.size }:=⟨_,rfl⟩
 obtain⟨L,hL⟩:=eV (w.heap.size+1);obtain⟨D,hD⟩:=eV w.heap.size;obtain⟨W1,H⟩:=eV ((w.alloc (.deferred (some []))).alloc (.loop (rc .ready none)));have aI:W1.heap.size=D+2:=by rw[←H,←hD];simp
 have ak:W1.heap[L]?=some (.loop (rc .ready none)):=by
   rw[←H,←hL];have:=World.alloc_heap_new (w.alloc (.deferred (some []))) (.loop (rc .ready none));rwa [zz]at this
 have ag:W1.heap[D]?=some (.deferred (some [])):=by
   rw[←H,←hD];exact(kJ _ _ _ (by simp)).trans (World.alloc_heap_new w _)
 have av:I 0 W1:=by rw[←H];exact V.alloc _ (V.alloc _ h0)
 have am:Below R.heap.size R W1:=by rw[←H];exact ae.trans ((((zo _ w).alloc (zG _) _).alloc (by simp) _).mono ae.size)
 have aH:L=D+1:=by omega
 refine⟨L,[{ target:=.collected D,args:=#[] }],W1,{ target:=.fn (.func gf) lb,args:=#[.func (.yield L) #[] #[]] },W1,gf,
   #[.func (.yield L) #[] #[]]++lb,W1,?_,?_,?_,?_,fun _=>by omega,?_⟩
 · rw[←H,s,←hL,←hD];exact run_enterLoop_outer _ _ _ _ _
 · simp only[resolve,hg];simp[go_sem]
 · exact fun _ _=>trivial
 · simp[invoke,go_sem,eg]
 -- the record's two blocks,beside what the caller holds
 have ab:∀(Y:LoopState) (X:Option Code),OwnFrom W1.heap.size (fun(_:Nat) (W:World)=>(L<W.heap.size∧W.heap[L]?=some (.loop (rc Y X)))∧D<W.heap.size∧W.heap[D]?=some (.deferred (some []))):=fun Y X =>
   OwnFrom.and (xq _ (by omega)) (xq _ (by omega))
 have lt:∀ {W:World} {b:Nat} {o:Obj},W.heap[b]?=some o→b<W.heap.size:=fun h=>(Array.getElem?_eq_some_iff.1 h).1
 refine(aD (n-1) L
   (fun k W=>I k W∧(L<W.heap.size∧W.heap[L]?=some (.loop (rc .ready none)))∧D<W.heap.size∧W.heap[D]?=some (.deferred (some [])))
   (fun k W=>G k W∧(L<W.heap.size∧W.heap[L]?=some (.loop (rc .ready none)))∧D<W.heap.size∧W.heap[D]?=some (.deferred (some [])))
   (fun k W=>∃ c,S c k W∧(L<W.heap.size∧W.heap[L]?=some (.loop (rc .done (some c))))∧D<W.heap.size∧W.heap[D]?=some (.deferred (some [])))
   W1 (by omega) am (by omega) (OwnFrom.and (wI V (by omega)) (ab _ _)) (OwnFrom.and (wI aa (by omega)) (ab _ _))
   (fun k A B row O ah u=>by obtain⟨c,hc,aC⟩:=O;exact⟨c,wI (hIx c) (by omega) k A B row hc ah u,ab _ _ k A B row aC ah u⟩)
   (fun k A M O=>hNd k A M O.1) ?_ (fun hf W' O=>ar hf W' O.1) ?_ ⟨av,⟨lt ak,ak⟩,lt ag,ag⟩).mono ?_
 · rintro k A B M ⟨z,⟨_,d⟩,_,y⟩ ht;have aj:=(hT _ _ _ _ ht).2 L _ (by omega) d rfl;have af:=(hT _ _ _ _ ht).2 D _ (by omega) y rfl;exact⟨hIT _ k A B (by omega) M z ht,⟨lt aj,aj⟩,lt af,af⟩
 · -- one round
   rintro k b W ⟨z,⟨_,d⟩,_,y⟩ aF az hm;have aA:L<W.heap.size:=lt d;have hy:=run_yield (P:=P) (args:=Z k b) d (by rw[s];exact aB k b);rw[s]at hy;refine⟨fn,_,assign,body,hy,roundIn_of_wpIn au (al _ k b W _ ⟨_,run_beginRound d (by rw[s]),?_⟩)⟩;have ay:(W.putObj L (.loop { rc .ready none with state:=.busy })).heap[L]?=some (.loop { rc .ready none with state:=.busy }):=World.putObj_heap_same aA;have ao:(W.putObj L (.loop { rc .ready none with state:=.busy })).heap[D]?=some (.deferred (some [])):=(qM (by omega)).trans y;have aG:x W (W.putObj L (.loop { rc .ready none with state:=.busy })):=ac _ _ _ _ (by omega) d rfl rfl;have ai:jS W1.heap.size W1.heap.size m W (W.putObj L (.loop { rc .ready none with state:=.busy })):=jS.putObj (by omega) (by omega);refine wpIn_mono (an _ k b _ (aa.putObj _ z (by omega) d rfl) (hVp k b W _ _ _ aF d rfl) az (by simp;omega)) ?_
   have fin:∀(f:Option Code) (W3:World),jS w.heap.size (w.heap.size+2) m (W.putObj L (.loop { rc .ready none with state:=.busy })) W3 →
       (Instr.endRound L f).run P W3=.ok (.bool f.isNone) (W3.putObj L (.loop (rc (if f.isNone then .ready else .done) f))) ∧
       W3.heap[L]?=some (.loop { rc .ready none with state:=.busy }) ∧
       (W3.putObj L (.loop (rc (if f.isNone then .ready else .done) f))).heap[L]?=some (.loop (rc (if f.isNone then .ready else .done) f)) ∧
       (W3.putObj L (.loop (rc (if f.isNone then .ready else .done) f))).heap[D]?=some (.deferred (some [])) ∧
       jS W1.heap.size W1.heap.size m W (W3.putObj L (.loop (rc (if f.isNone then .ready else .done) f))):=fun f W3 j=>by
     have i:=j.others L _ (by omega) ay rfl;have ap:=j.others D _ (by omega) ao rfl;have:=run_endRound (P:=P) f i;rw[s]at this ⊢;exact⟨this,by rw[s]at i;exact i,World.putObj_heap_same (lt i),(qM (by omega)).trans ap,by rw[s]at ai j;exact ai.trans ((j.mono (by omega) (by omega) (by omega)).trans (jS.putObj (by omega) (by omega)))⟩
   rintro e a3 W3 J;cases e with
   | normal =>
     obtain⟨j,ax,E⟩:=J;obtain⟨u,i,r,q,F⟩:=fin none W3 j;exact⟨_,_,u,.inl ⟨rfl,⟨V.putObj _ E (by omega) i rfl,⟨lt r,r⟩,lt q,q⟩,ad (ad aG ax) (ac _ _ _ _ (by omega) i rfl rfl),F⟩⟩
   | ret =>
     obtain⟨j,E⟩:=J;obtain⟨u,i,r,q,F⟩:=fin (some .ret) W3 j;exact⟨_,_,u,.inr ⟨rfl,⟨.ret,(hIx _).putObj _ E (by omega) i rfl,⟨lt r,r⟩,lt q,q⟩,F⟩⟩
   | exit id =>
     obtain⟨j,E⟩:=J;obtain⟨u,i,r,q,F⟩:=fin (some (.exit id)) W3 j;exact⟨_,_,u,.inr ⟨rfl,⟨.exit id,(hIx _).putObj _ E (by omega) i rfl,⟨lt r,r⟩,lt q,q⟩,F⟩⟩
   | goto t =>
     obtain⟨j,E⟩:=J;obtain⟨u,i,r,q,F⟩:=fin (some (.goto t)) W3 j;exact⟨_,_,u,.inr ⟨rfl,⟨.goto t,(hIx _).putObj _ E (by omega) i rfl,⟨lt r,r⟩,lt q,q⟩,F⟩⟩
   | panic ch=>exact J.elim
   | outgrown=>exact J.elim
 · -- behind the iterator
   rintro e W2 ⟨⟨v,rfl⟩,(⟨z,⟨_,d⟩,_,y⟩|⟨k,aw,M,c,z,⟨_,d⟩,_,y⟩)⟩
   · exact⟨none,_,by have:=run_endLoop (P:=P) d (by rw[s];simp);rw[s]at this;exact this,aq _ _ (by omega) (aa.putObj _ z (by omega) d rfl) ((qM (by omega)).trans y)⟩
   · exact⟨some c,_,by have:=run_endLoop (P:=P) d (by rw[s];simp);rw[s]at this;exact this,aE _ c k _ (by omega) aw M ((hIx c).putObj _ z (by omega) d rfl) ((qM (by omega)).trans y)⟩
section
variable {P:Program} {ops:Array Oper} {Q:Exit→Act→World→Prop} {n:Nat}
theorem tB {o:Oper}{a:Act}{w:World}{K:Act→World→Prop}(d:Par.wW o=true)(b:o.wp P a w K Q):o.wpIn Fence.wide n P a w K Q:=by
 refine⟨fun _ _=>trivial,?_⟩;rw[Oper.semAt_eq _ _ _ (Par.dB d)];unfold Oper.wp at b;generalize(execOp a.eval o).run P w=r at *;cases r with
 | ok x w' =>
   cases x<;>simp only[Oper.upon,Oper.uponIn]at b ⊢;case enter f args=>exact⟨(fun h=>by cases h),(callsIn_wide (n:=n-1)).2 b⟩
   case row r args=>exact⟨(fun h=>by cases h),fun c cs _=>let ⟨v,w'',r,s⟩:=b c cs;⟨v,w'',r,stepsIn_wide.2 s⟩⟩
   all_goals first|exact b|exact b.elim
 | halt x w'=>cases x<;>simp only[Oper.upon,Oper.uponIn]at b ⊢ <;> exact b
theorem xI {i:Nat}{rest:List Nat}{o:Oper}{a:Act}{w:World}(d:ops[i]?=some o)(e:Region.wanted o (yielded ops a.tmps)=true)(c:Par.wW o=true)(h:∀ K:Act→World→Prop,(∀ a' w',wpOpsIn Fence.wide n P ops Q rest a' w'→K a' w')→o.wp P a w K Q):wpOpsIn Fence.wide n P ops Q (i::rest) a w:=by
 rw[wpOpsIn_cons];refine wpOpIn_step d fun K b=>?_;rw[qg e];exact tB c (h K b)
end
theorem RB.takeS {w:World}{P:Nat→Prop}{A:Option Addr}{c:Nat}{bs:List Nat}(h:RB w P A c bs)(n:Nat):RB w P A c (bs.take n):=by
 obtain⟨⟨m,b,o,d⟩,f,p⟩:=h;refine⟨⟨by rw[zh];omega,b,by simp[bys],fun k=>?_⟩,fun x l=>f x (qN l),by rw[zh];omega⟩;obtain⟨ad,e,g,i⟩:=d (by rw[zh]at k;omega);refine⟨ad,e,g,fun j u a=>i j u ?_⟩;rw[bys,List.map_take,List.getElem?_take]at a;split at a
 · exact a
 · cases a
theorem si (P:Nat→Prop)(A:Option Addr)(c:Nat)(bs:List Nat)(n:Nat)(w:World)(h:RB w P A c bs)(m:n≤100000) :
 Calls Tryz.prog 7 #[.slice A bs.length c,.int .i64 (n:Int)] w fun e w'=>(∃ c',e=.returned (.slice A (bs.take n).length c')∧RB w P A c' (bs.take n))∧w=w':=by
 obtain⟨⟨k,i,_⟩,b,l⟩:=id h
 unfold maxLen at i
 by_cases hl:n<bs.length
 · have hR:=h.takeS n;have d:(bs.take n).length=n:=by rw[zh];omega
   have j:decide (n<bs.length)=true:=by simpa using hl
   have o:(n:Int)≤(c:Int):=by omega
   have a:=zF hR;have g:=zF d;clear b hR d h;go_enter Tryz.func7,Tryz.ntmps7;go_wp2;go_ret;refine⟨⟨c,?_,a.out⟩,rfl⟩;rw[g.out];rfl
 · have f:bs.take n=bs:=zu (by omega);have j:decide (n<bs.length)=false:=by simpa using hl
   rw[f];have a:=zF h;clear f b h;go_enter Tryz.func7,Tryz.ntmps7;go_wp2;go_ret;exact⟨⟨c,rfl,a.out⟩,rfl⟩
end Go.Proofs.YtaemogcomplhiaaGreatDoor
