/- Laws that the proof rests on. -/
import Derived.Test.YtaemogcomplhiaaGreatDoorQ325638c9b841
set_option maxRecDepth 100000
set_option maxHeartbeats 16000000
namespace Go.Proofs.YtaemogcomplhiaaGreatDoor
open Go.RowKit
def onB (M bb x y:Nat):Bool:=decide (x<M)&&decide (y<M)&&decide (y*y%M=((x*x%M*x%M+M-3*x%M)%M+bb)%M)
theorem zD7 {P0:Nat→Prop}{k g size n inv M bb:Nat}{pl nl bl xl yl ml ol rl tl fl:List Nat}{Ap An Ab Ax Ay:Option Addr}{cp cn cb cx cy:Nat}(W Pb:Nat→Prop)(A A':Option Addr)(c c':Nat)(a b:List Nat)(inf:Bool)(w:World)
 (hk:Num w P0 k g size n inv M bb pl nl bl xl yl ml ol rl tl fl Ap An Ab Ax Ay cp cn cb cx cy) (aE:∀ b,P0 b→b<w.heap.size) (h:RN w W A c a) (h':RN w Pb A' c' b) (aF:∀ b,W b→b<w.heap.size) (aG:∀ b,Pb b→b<w.heap.size) (aN:3<M) (_aV:bb<M) :
 Calls Tryz.prog 72 #[.pointer (some ⟨k,0,none⟩),.agg #[.bool inf,.slice A a.length c,.slice A' b.length c']] w fun e w'=>e=.returned (.bool (inf||onB M bb (val 18446744073709551616 a) (val 18446744073709551616 b)))∧Below w.heap.size w w':=by
 cases inf
 case true =>
  go_enter Tryz.func72,Tryz.ntmps72;go_wp2;go_ret;exact⟨rfl,(zo _ w).alloc (zG _) _⟩
 case false =>
  rw[Bool.false_or];have aX:=qd hk.blk;have aW:=hk.fr.ff.fld.lt;obtain⟨W0,ab⟩:=eW (w.alloc (.cells #[.bool false,.slice A a.length c,.slice A' b.length c'] 33));have ae:Ext w W0:=by rw[ab];exact zL _ _
  have aI:W0.heap.size=w.heap.size+1:=by rw[ab];simp
  obtain⟨q,hq⟩:=eV w.heap.size;have ap:W0.heap[q]?=some (.cells #[.bool false,.slice A a.length c,.slice A' b.length c'] 33 (0,0)):=by rw[ab,←hq];exact zS w _
  have b0:W0.cell? ⟨q,0,none⟩=some (.bool false):=zP ap 0;have b1:W0.cell? ⟨q,1,none⟩=some (.slice A a.length c):=zP ap 1;have b2:W0.cell? ⟨q,2,none⟩=some (.slice A' b.length c'):=zP ap 2;have u:=zF (hk.ext aE ae);have D:∀ b,P0 b→b<W0.heap.size:=fun b E=>by have:=aE b E;omega
  have ah:∀ b,W b→b<W0.heap.size:=fun b E=>by have:=aF b E;omega
  have ao:∀ b,Pb b→b<W0.heap.size:=fun b E=>by have:=aG b E;omega
  have ha:=h.below ae aF;have E:=h'.below ae aG;have aq:=zF (show q≤W0.heap.size by omega);have k1:=u.out.c_p;have k6:=u.out.c_f;have af:=zF hk.pv;obtain⟨x,hx⟩:=eV (val 18446744073709551616 a);obtain⟨y,hy⟩:=eV (val 18446744073709551616 b);rw[hx,hy];obtain⟨r,hr⟩:=eV (onB M bb x y);rw[hr];have Hr:=zF hr;have Hx:=zF hx;have Hy:=zF hy;have aj:=zF ae;have aU:=zF aI;clear hx hy aI ae hk hr;go_enter Tryz.func72,Tryz.ntmps72;go_upto_region 3 with fail;rw[←ab];have aT:=zF ab;have Hq:=zF hq;clear ab hq;by_cases hxM:x<M
  · by_cases hyM:y<M
    · have ar:=xt hxM;have au:=xt hyM;have tx:=zF ar;have ty:=zF au;clear ar au
      refine zZ (by kernel_rfl) 18 [0,1,0,4,12,28,63,127,255,511,1023,511,2559,6655,14847,32767,65535,131071] [] (fun j f X=>match j with
       | 0=>f 0=.pointer (some ⟨q,1,none⟩)
       | 1=>f 1=.slice A a.length c
       | 2=>f 2=.pointer (some ⟨k,0,none⟩)
       | 3=>f 3=.pointer (some ⟨k,0,none⟩)
       | 4=>f 4=.pointer (some ⟨k,1,none⟩)
       | 5=>f 5=.slice Ap pl.length cp
       | 6=>f 6=.int .i64 (-1)
       | 7=>f 7=.bool false
       | 8=>f 8=.bool false
       | 9=>f 9=.pointer (some ⟨q,2,none⟩)
       | 10=>f 10=.slice A' b.length c'
       | 11=>f 11=.pointer (some ⟨k,0,none⟩)
       | 12=>f 12=.pointer (some ⟨k,0,none⟩)
       | 13=>f 13=.pointer (some ⟨k,1,none⟩)
       | 14=>f 14=.slice Ap pl.length cp
       | 15=>f 15=.int .i64 (-1)
       | 16=>f 16=.bool false
       | 17=>f 17=.bool false
       | _=>True) (by kernel_rfl) [(17,0),(18,1),(19,2),(20,3),(21,4),(22,5),(23,6),(24,7),(25,8),(26,9),(27,10),(28,11),(29,12),(30,13),(31,14),(32,15),(33,16),(34,17)] (by kernel_rfl) ?_
      refine zJ 1 17 ?_;refine qC 2 16 0 b1 ?_;refine zJ 3 15 ?_;refine zt 4 14 2 ?_;refine zt 5 13 3 ?_;refine qC 6 12 4 k1 ?_;refine qK 7 11 (fun f=>#[f 1,f 5]) (F':=58) (fun f X d hR=>?_) ?_
      · have R:f 1=_:=hR.out 1 rfl;have C:f 5=_:=hR.out 5 rfl;simp only[R,C];refine(xO W P0 A Ap c cp a pl X (ha.below d ah) (u.out.p.below d D)).mono ?_;rintro e w2 ⟨rfl,nq,rfl⟩;rw[Hx.out,af.out,tx.out];exact⟨_,rfl,(kE _ _),fun _ _=>rfl⟩
      refine zv 8 10 [(17,0),(18,1),(19,2),(20,3),(21,4),(22,5),(23,6)] (fun f X d hR K m=>?_) ?_
      · have B:f 6=_:=hR.out 6 rfl;simp only[yZ,B];refine⟨?_⟩;go_simp;exact qY m (s:=by simp only[yZ,B])
      refine zt 9 9 7 ?_;refine zt 10 8 8 ?_;refine zv 11 7 [(17,0),(18,1),(19,2),(20,3),(21,4),(22,5),(23,6),(24,7),(25,8),(26,9),(28,11),(29,12),(30,13),(31,14)] (fun f X d hR K m=>?_) ?_
      · have t:f 8=_:=hR.out 8 rfl;have I:f 9=_:=hR.out 9 rfl;have x0:=d.cell b2;simp only[yZ,t,I];refine⟨zU (by kernel_rfl) ?_⟩;go_simp;exact qY m (s:=by simp only[yZ,t,I])
      refine zt 12 6 8 ?_;refine qj 13 5 8 11 ?_;refine qj 14 4 8 12 ?_;refine zv 15 3 [(17,0),(18,1),(19,2),(20,3),(21,4),(22,5),(23,6),(24,7),(25,8),(26,9),(27,10),(28,11),(29,12),(30,13)] (fun f X d hR K m=>?_) ?_
      · have t:f 8=_:=hR.out 8 rfl;have N:f 13=_:=hR.out 13 rfl;have x0:=d.cell k1;simp only[yZ,t,N];refine⟨zU (by kernel_rfl) ?_⟩;go_simp;exact qY m (s:=by simp only[yZ,t,N])
      refine Par.c1 16 2 8 (fun f=>#[f 10,f 14]) (F':=58) (fun f X d hR=>?_) ?_
      · have S:f 10=_:=hR.out 10 rfl;have ak:f 14=_:=hR.out 14 rfl;simp only[S,ak];refine(xO Pb P0 A' Ap c' cp b pl X (E.below d ao) (u.out.p.below d D)).mono ?_;rintro e w2 ⟨rfl,nq,rfl⟩;rw[Hy.out,af.out,ty.out];exact⟨_,rfl,(kE _ _),fun _ _=>rfl⟩
      refine zv 17 1 [(17,0),(18,1),(19,2),(20,3),(21,4),(22,5),(23,6),(24,7),(25,8),(26,9),(27,10),(28,11),(29,12),(30,13),(31,14),(32,15)] (fun f X d hR K m=>?_) ?_
      · have t:f 8=_:=hR.out 8 rfl;have ad:f 15=_:=hR.out 15 rfl;simp only[yZ,t,ad];refine⟨zU (by kernel_rfl) ?_⟩;go_simp;exact qY m (s:=by simp only[yZ,t,ad])
      refine qj 18 0 8 16 ?_;refine yF ⟨fun f X d hR L G=>?_⟩;have O:f 17=_:=hR 17 (by decide);simp only[yZ,O];clear hR L G O;refine zI ?_;have l:Ext W0 X:=d;clear d;have aP:=l.cell k6;go_upto_region 6 with fail;clear aP;rename World=>X3;have d1:=l.cell b1;have d2:=l.cell b2
      refine zZ (by kernel_rfl) 12 [0,0,2,6,15,0,0,64,223,511,0,0,4095,8191] [10,11] (fun j f X=>match j with
       | 0=>f 0=.pointer (some ⟨g,0,none⟩)
       | 1=>f 1=.pointer (some ⟨q,1,none⟩)
       | 2=>f 2=.slice A a.length c
       | 3=>∃ Q c1,f 3=.slice Q (digs 18446744073709551616 x).length c1∧OB X q Q c1 (digs 18446744073709551616 x)
       | 4=>∃ o,f 4=EV o∧FE M n o x
       | 5=>f 5=.pointer (some ⟨g,0,none⟩)
       | 6=>f 6=.pointer (some ⟨q,2,none⟩)
       | 7=>f 7=.slice A' b.length c'
       | 8=>∃ Q c1,f 8=.slice Q (digs 18446744073709551616 y).length c1∧OB X q Q c1 (digs 18446744073709551616 y)
       | 9=>∃ o,f 9=EV o∧FE M n o y
       | 10=>∃ b,f 10=.pointer (some ⟨b,0,none⟩)∧X3.heap.size≤b∧X.heap[b]?=some (.cells #[.int .u64 0,.int .u64 0,.int .u64 0,.int .u64 0,.int .u64 0,.int .u64 0] 109 (0,0))
       | 11=>∃ b,f 11=.pointer (some ⟨b,0,none⟩)∧X3.heap.size≤b∧X.heap[b]?=some (.cells #[.int .u64 0,.int .u64 0,.int .u64 0,.int .u64 0,.int .u64 0,.int .u64 0] 109 (0,0))
       | _=>True) (by kernel_rfl) [(39,0),(40,1),(41,2),(42,3),(43,4),(44,5),(45,6),(46,7),(47,8),(48,9),(6,10),(7,11)] (by kernel_rfl) ?_
      refine zJ 1 11 ?_;refine zJ 2 10 ?_;refine qC 3 9 1 d1 ?_;refine qK 4 8 (fun f=>#[f 2]) (F':=100) (fun f X d hR=>?_) ?_
      · have V:f 2=_:=hR.out 2 rfl;simp only[V];refine(yn W A c a X (ha.below (l.trans d) ah)).mono ?_;rw[Hx.out];rintro e w2 ⟨Q,c1,rfl,hO,z⟩;exact⟨_,rfl,z,fun Y J=>⟨Q,c1,rfl,(hO.mono (zK aq.out (l.trans d).bsize)).below J (zG _)⟩⟩
      refine qK 5 7 (fun f=>#[f 0,f 3]) (F':=92) (fun f X d hR=>?_) ?_
      · have e0:f 0=_:=hR.out 0 rfl;obtain⟨A3,c3,(H:f 3=_),o3⟩:=hR.out 3 rfl;simp only[e0,H];refine(uB _ A3 c3 _ X (u.out.ext D (l.trans d)).fr o3.rn (fun b E=>E.2) (u.out.six hxM) (by rw[zi (by omega)];exact hxM)).mono ?_;rintro e w2 ⟨o,rfl,i,z⟩;rw[zi (by omega)]at i;exact⟨(EV o),rfl,z,fun Y J=>⟨o,rfl,i⟩⟩
      refine zJ 6 6 ?_;refine zJ 7 5 ?_;refine qC 8 4 6 d2 ?_;refine qK 9 3 (fun f=>#[f 7]) (F':=100) (fun f X d hR=>?_) ?_
      · have e7:f 7=_:=hR.out 7 rfl;simp only[e7];refine(yn Pb A' c' b X (E.below (l.trans d) ao)).mono ?_;rw[Hy.out];rintro e w2 ⟨Q,c1,rfl,hO,z⟩;exact⟨_,rfl,z,fun Y J=>⟨Q,c1,rfl,(hO.mono (zK aq.out (l.trans d).bsize)).below J (zG _)⟩⟩
      refine qK 10 2 (fun f=>#[f 5,f 8]) (F':=92) (fun f X d hR=>?_) ?_
      · have C:f 5=_:=hR.out 5 rfl;obtain⟨A8,c8,(t:f 8=_),o8⟩:=hR.out 8 rfl;simp only[C,t];refine(uB _ A8 c8 _ X (u.out.ext D (l.trans d)).fr o8.rn (fun b E=>E.2) (u.out.six hyM) (by rw[zi (by omega)];exact hyM)).mono ?_;rintro e w2 ⟨o,rfl,i,z⟩;rw[zi (by omega)]at i;exact⟨(EV o),rfl,z,fun Y J=>⟨o,rfl,i⟩⟩
      refine kr 11 1 ?_;refine kr 12 0 ?_;refine yF ⟨fun f X d hR L G=>?_⟩;obtain⟨A3,c3,(H:f 3=_),o3⟩:=hR 3 (by decide);obtain⟨o4,(F:f 4=_),P⟩:=hR 4 (by decide);obtain⟨A8,c8,(t:f 8=_),o8⟩:=hR 8 (by decide);obtain⟨o9,(I:f 9=_),h9⟩:=hR 9 (by decide);obtain⟨av,(S:f 10=_),aJ,aA⟩:=hR 10 (by decide);obtain⟨ac,(U:f 11=_),aK,aa⟩:=hR 11 (by decide);have aM:ac≠av:=fun e=>G 11 10 (by decide) (by decide) rfl rfl (by decide) (by rw[U,S,e]);simp only[yZ,H,F,t,I,S,U];clear hR L G H F t I S U;refine zO (fun K m=>⟨zU (by kernel_rfl) (qi (.tmp 6) (.tmp 43) rfl rfl rfl rfl aA rfl P.elt.six (fun Y1 T=>m.out _ _ ?_))⟩);refine zO (fun K m=>⟨zU (by kernel_rfl) (qi (.tmp 7) (.tmp 48) rfl rfl rfl rfl (T.other aM aa) rfl h9.elt.six (fun Y2 ai=>m.out _ _ ?_))⟩);refine zI ?_;have v1:VE Y2 M n av x:=ai.ve (xa aM) (T.mk' P);have v2:VE Y2 M n ac y:=ai.mk' h9;have aC:Ext W0 Y2:=ai.ext (T.ext (l.trans d) (zK l.bsize aJ)) (zK l.bsize aK);clear T ai o3 P o8 h9 aA aa aJ aK d l d1 d2;have l:=aC;clear aC;go_upto_region 7 with fail
      refine zZ (by kernel_rfl) 20 [0,0,0,0,0,0,56,0,128,384,896,2044,0,8190,0,16384,49152,114688,262143,0,1048575] [19] (fun j f X=>match j with
       | 0=>f 0=.pointer (some ⟨g,0,none⟩)
       | 1=>f 1=.pointer (some ⟨g,0,none⟩)
       | 2=>f 2=.pointer (some ⟨g,0,none⟩)
       | 3=>f 3=.pointer (some ⟨g,0,none⟩)
       | 4=>∃ o,f 4=EV o∧FE M n o x
       | 5=>∃ o,f 5=EV o∧FE M n o x
       | 6=>∃ o,f 6=EV o∧FE M n o (x*x)
       | 7=>f 7=.pointer (some ⟨k,0,none⟩)
       | 8=>f 8=.pointer (some ⟨k,0,none⟩)
       | 9=>f 9=.pointer (some ⟨k,7,none⟩)
       | 10=>f 10=EV tl
       | 11=>∃ o,f 11=EV o∧FE M n o (x*x+M-3)
       | 12=>∃ o,f 12=EV o∧FE M n o x
       | 13=>∃ o,f 13=EV o∧FE M n o ((x*x+M-3)*x)
       | 14=>f 14=.pointer (some ⟨k,0,none⟩)
       | 15=>f 15=.pointer (some ⟨k,0,none⟩)
       | 16=>f 16=.pointer (some ⟨k,13,none⟩)
       | 17=>f 17=EV fl
       | 18=>∃ o,f 18=EV o∧FE M n o ((x*x+M-3)*x+bb)
       | 19=>∃ b,f 19=.pointer (some ⟨b,0,none⟩)∧Y2.heap.size≤b∧X.heap[b]?=some (.cells #[.int .u64 0,.int .u64 0,.int .u64 0,.int .u64 0,.int .u64 0,.int .u64 0] 109 (0,0))
       | _=>True) (by kernel_rfl) [(49,0),(50,1),(51,2),(52,3),(53,4),(54,5),(55,6),(56,7),(57,8),(58,9),(59,10),(60,11),(61,12),(62,13),(63,14),(64,15),(65,16),(66,17),(67,18),(8,19)] (by kernel_rfl) ?_
      refine zJ 1 19 ?_;refine zJ 2 18 ?_;refine zJ 3 17 ?_;refine zJ 4 16 ?_;refine lX 5 15 (fun X d=>let ⟨o,hbl,i⟩:=v1.ext d;⟨o,hbl.range,i⟩) ?_;refine lX 6 14 (fun X d=>let ⟨o,hbl,i⟩:=v1.ext d;⟨o,hbl.range,i⟩) ?_;refine qK 7 13 (fun f=>#[f 3,f 4,f 5]) (F':=102) (fun f X d hR=>?_) ?_
      · have H:f 3=_:=hR.out 3 rfl;obtain⟨o4,(F:f 4=_),P⟩:=hR.out 4 rfl;obtain⟨o5,(C:f 5=_),h5⟩:=hR.out 5 rfl;simp only[H,F,C];refine(uc X (u.out.ext D (l.trans d)).fr.ff P h5).mono ?_;rintro e w2 ⟨o,rfl,i,z⟩;exact⟨(EV o),rfl,z,fun Y J=>⟨o,rfl,i⟩⟩
      refine zJ 8 12 ?_;refine zt 9 11 7 ?_;refine zt 10 10 8 ?_;refine zv 11 9 [(49,0),(50,1),(51,2),(52,3),(53,4),(54,5),(55,6),(56,7),(57,8),(58,9),(61,12),(63,14),(64,15),(65,16),(66,17),(8,19)] (fun f X d hR K m=>?_) ?_
      · have I:f 9=_:=hR.out 9 rfl;simp only[yZ,I];refine⟨zU (by kernel_rfl) (vA (.tmp 58) rfl rfl (u.out.ext D (l.trans d)).r_three u.out.three.elt.six ?_)⟩;exact m.out _ (EV tl) _ (by simp only[yZ,I]) (zT _) trivial (fun _ _=>rfl)
      refine qK 12 8 (fun f=>#[f 2,f 6,f 10]) (F':=103) (fun f X d hR=>?_) ?_
      · have V:f 2=_:=hR.out 2 rfl;obtain⟨o6,(B:f 6=_),Z⟩:=hR.out 6 rfl;have S:f 10=_:=hR.out 10 rfl;simp only[V,B,S];refine(aH X (u.out.ext D (l.trans d)).fr.ff Z u.out.three (by omega)).mono ?_;rintro e w2 ⟨o,rfl,i,z⟩;exact⟨(EV o),rfl,z,fun Y J=>⟨o,rfl,i⟩⟩
      refine lX 13 7 (fun X d=>let ⟨o,hbl,i⟩:=v1.ext d;⟨o,hbl.range,i⟩) ?_;refine qK 14 6 (fun f=>#[f 1,f 11,f 12]) (F':=102) (fun f X d hR=>?_) ?_
      · have R:f 1=_:=hR.out 1 rfl;obtain⟨aQ,(U:f 11=_),aa⟩:=hR.out 11 rfl;obtain⟨aR,(ag:f 12=_),al⟩:=hR.out 12 rfl;simp only[R,U,ag];refine(uc X (u.out.ext D (l.trans d)).fr.ff aa al).mono ?_;rintro e w2 ⟨o,rfl,i,z⟩;exact⟨(EV o),rfl,z,fun Y J=>⟨o,rfl,i⟩⟩
      refine zJ 15 5 ?_;refine zt 16 4 14 ?_;refine zt 17 3 15 ?_;refine zv 18 2 [(49,0),(50,1),(51,2),(52,3),(53,4),(54,5),(55,6),(56,7),(57,8),(58,9),(59,10),(60,11),(61,12),(62,13),(63,14),(64,15),(65,16),(8,19)] (fun f X d hR K m=>?_) ?_
      · have ax:f 16=_:=hR.out 16 rfl;simp only[yZ,ax];refine⟨zU (by kernel_rfl) (vA (.tmp 65) rfl rfl (u.out.ext D (l.trans d)).r_fb u.out.fb.elt.six ?_)⟩;exact m.out _ (EV fl) _ (by simp only[yZ,ax]) (zT _) trivial (fun _ _=>rfl)
      refine qK 19 1 (fun f=>#[f 0,f 13,f 17]) (F':=101) (fun f X d hR=>?_) ?_
      · have e0:f 0=_:=hR.out 0 rfl;obtain⟨aS,(N:f 13=_),am⟩:=hR.out 13 rfl;have O:f 17=_:=hR.out 17 rfl;simp only[e0,N,O];refine(oK X (u.out.ext D (l.trans d)).fr.ff am u.out.fb).mono ?_;rintro e w2 ⟨o,rfl,i,z⟩;exact⟨(EV o),rfl,z,fun Y J=>⟨o,rfl,i⟩⟩
      refine kr 20 0 ?_;refine yF ⟨fun f X d hR L G=>?_⟩;obtain⟨o4,(F:f 4=_),P⟩:=hR 4 (by decide);obtain⟨o5,(C:f 5=_),h5⟩:=hR 5 (by decide);obtain⟨o6,(B:f 6=_),Z⟩:=hR 6 (by decide);obtain⟨aQ,(U:f 11=_),aa⟩:=hR 11 (by decide);obtain⟨aR,(ag:f 12=_),al⟩:=hR 12 (by decide);obtain⟨aS,(N:f 13=_),am⟩:=hR 13 (by decide);obtain⟨aY,(ay:f 18=_),an⟩:=hR 18 (by decide);obtain⟨aw,(az:f 19=_),aL,aB⟩:=hR 19 (by decide);simp only[yZ,F,C,B,U,ag,N,ay,az];clear hR L G F C B U ag N ay az;refine zO (fun K m=>⟨zU (by kernel_rfl) (qi (.tmp 8) (.tmp 67) rfl rfl rfl rfl aB rfl an.elt.six (fun Y3 T=>m.out _ _ ?_))⟩);refine zI ?_;have v3:VE Y3 M n aw ((x*x+M-3)*x+bb):=T.mk' an;have nb:ac≠aw:=by have:=(let ⟨_,h,_⟩:=v2;h.lt:ac<Y2.heap.size);omega
      have v4:VE Y3 M n ac y:=T.ve nb (v2.ext d);have aD:Ext W0 Y3:=T.ext (l.trans d) (zK l.bsize aL);clear T P h5 Z aa al am an aB aL d l v1 v2;have l:=aD;clear aD;go_upto_region 8 with fail
      refine zZ (by kernel_rfl) 9 [0,0,0,0,14,0,63,127,255] [] (fun j f X=>match j with
       | 0=>f 0=.pointer (some ⟨g,0,none⟩)
       | 1=>f 1=.pointer (some ⟨g,0,none⟩)
       | 2=>∃ o,f 2=EV o∧FE M n o y
       | 3=>∃ o,f 3=EV o∧FE M n o y
       | 4=>∃ o,f 4=EV o∧FE M n o (y*y)
       | 5=>∃ o,f 5=EV o∧FE M n o ((x*x+M-3)*x+bb)
       | 6=>∃ o,f 6=EV o∧FE M n o (y*y+M-((x*x+M-3)*x+bb)%M)
       | 7=>f 7=.bool r
       | 8=>f 8=.bool r
       | _=>True) (by kernel_rfl) [(68,0),(69,1),(70,2),(71,3),(72,4),(73,5),(74,6),(75,7),(4,8)] (by kernel_rfl) ?_
      refine zJ 1 8 ?_;refine zJ 2 7 ?_;refine lX 3 6 (fun X d=>let ⟨o,hbl,i⟩:=v4.ext d;⟨o,hbl.range,i⟩) ?_;refine lX 4 5 (fun X d=>let ⟨o,hbl,i⟩:=v4.ext d;⟨o,hbl.range,i⟩) ?_;refine qK 5 4 (fun f=>#[f 1,f 2,f 3]) (F':=102) (fun f X d hR=>?_) ?_
      · have R:f 1=_:=hR.out 1 rfl;obtain⟨o2,(V:f 2=_),h2⟩:=hR.out 2 rfl;obtain⟨o3,(H:f 3=_),h3⟩:=hR.out 3 rfl;simp only[R,V,H];refine(uc X (u.out.ext D (l.trans d)).fr.ff h2 h3).mono ?_;rintro e w2 ⟨o,rfl,i,z⟩;exact⟨(EV o),rfl,z,fun Y J=>⟨o,rfl,i⟩⟩
      refine lX 6 3 (fun X d=>let ⟨o,hbl,i⟩:=v3.ext d;⟨o,hbl.range,i⟩) ?_;refine qK 7 2 (fun f=>#[f 0,f 4,f 5]) (F':=103) (fun f X d hR=>?_) ?_
      · have e0:f 0=_:=hR.out 0 rfl;obtain⟨o4,(F:f 4=_),P⟩:=hR.out 4 rfl;obtain⟨o5,(C:f 5=_),h5⟩:=hR.out 5 rfl;simp only[e0,F,C];refine(aH X (u.out.ext D (l.trans d)).fr.ff P h5.mod (kA (qP _ (by omega)))).mono ?_;rintro e w2 ⟨o,rfl,i,z⟩;exact⟨(EV o),rfl,z,fun Y J=>⟨o,rfl,i⟩⟩
      refine qK 8 1 (fun f=>#[f 6]) (F':=104) (fun f X d hR=>?_) ?_
      · obtain⟨o6,(B:f 6=_),Z⟩:=hR.out 6 rfl;simp only[B];refine(vL o6 X Z.elt.six).mono ?_;rintro e w2 ⟨rfl,z⟩;have hd:decide (o6=[0,0,0,0,0,0])=r:=by rw[←Hr.out,onB,qm hxM,qm hyM,Bool.true_and,Bool.true_and];exact decide_eq_decide.2 ((Z.zero_iff (u.out.ext D (l.trans d)).fr.ff).trans (zBW aN))
        rw[hd];exact⟨_,rfl,z,fun _ _=>rfl⟩
      refine zt 9 0 7 ?_;refine yF ⟨fun f X d hR L G=>?_⟩;obtain⟨o2,(V:f 2=_),h2⟩:=hR 2 (by decide);obtain⟨o3,(H:f 3=_),h3⟩:=hR 3 (by decide);obtain⟨o4,(F:f 4=_),P⟩:=hR 4 (by decide);obtain⟨o5,(C:f 5=_),h5⟩:=hR 5 (by decide);obtain⟨o6,(B:f 6=_),Z⟩:=hR 6 (by decide);have t:f 8=_:=hR 8 (by decide);simp only[yZ,V,H,F,C,B,t];clear hR L G V H F C B t;refine zI ?_;go_wp2;go_ret;exact⟨rfl,aj.out.trans (l.trans d)⟩
    · have tx:=zF (xt hxM);obtain⟨v,hv⟩:=eV (wK y M);have aO:0≤v:=by rw[←hv];rcases wA y M with h|h|h<;>omega
      have Hv:=zF hv;have HH:=zF hyM;clear hv hyM
      refine zZ (by kernel_rfl) 18 [0,1,0,4,12,28,63,127,255,511,1023,511,2559,6655,14847,32767,65535,131071] [] (fun j f X=>match j with
       | 0=>f 0=.pointer (some ⟨q,1,none⟩)
       | 1=>f 1=.slice A a.length c
       | 2=>f 2=.pointer (some ⟨k,0,none⟩)
       | 3=>f 3=.pointer (some ⟨k,0,none⟩)
       | 4=>f 4=.pointer (some ⟨k,1,none⟩)
       | 5=>f 5=.slice Ap pl.length cp
       | 6=>f 6=.int .i64 (-1)
       | 7=>f 7=.bool false
       | 8=>f 8=.bool false
       | 9=>f 9=.pointer (some ⟨q,2,none⟩)
       | 10=>f 10=.slice A' b.length c'
       | 11=>f 11=.pointer (some ⟨k,0,none⟩)
       | 12=>f 12=.pointer (some ⟨k,0,none⟩)
       | 13=>f 13=.pointer (some ⟨k,1,none⟩)
       | 14=>f 14=.slice Ap pl.length cp
       | 15=>f 15=.int .i64 v
       | 16=>f 16=.bool true
       | 17=>f 17=.bool true
       | _=>True) (by kernel_rfl) [(17,0),(18,1),(19,2),(20,3),(21,4),(22,5),(23,6),(24,7),(25,8),(26,9),(27,10),(28,11),(29,12),(30,13),(31,14),(32,15),(33,16),(34,17)] (by kernel_rfl) ?_
      refine zJ 1 17 ?_;refine qC 2 16 0 b1 ?_;refine zJ 3 15 ?_;refine zt 4 14 2 ?_;refine zt 5 13 3 ?_;refine qC 6 12 4 k1 ?_;refine qK 7 11 (fun f=>#[f 1,f 5]) (F':=58) (fun f X d hR=>?_) ?_
      · have R:f 1=_:=hR.out 1 rfl;have C:f 5=_:=hR.out 5 rfl;simp only[R,C];refine(xO W P0 A Ap c cp a pl X (ha.below d ah) (u.out.p.below d D)).mono ?_;rintro e w2 ⟨rfl,nq,rfl⟩;rw[Hx.out,af.out,tx.out];exact⟨_,rfl,(kE _ _),fun _ _=>rfl⟩
      refine zv 8 10 [(17,0),(18,1),(19,2),(20,3),(21,4),(22,5),(23,6)] (fun f X d hR K m=>?_) ?_
      · have B:f 6=_:=hR.out 6 rfl;simp only[yZ,B];refine⟨?_⟩;go_simp;exact qY m (s:=by simp only[yZ,B])
      refine zt 9 9 7 ?_;refine zt 10 8 8 ?_;refine zv 11 7 [(17,0),(18,1),(19,2),(20,3),(21,4),(22,5),(23,6),(24,7),(25,8),(26,9),(28,11),(29,12),(30,13),(31,14)] (fun f X d hR K m=>?_) ?_
      · have t:f 8=_:=hR.out 8 rfl;have I:f 9=_:=hR.out 9 rfl;have x0:=d.cell b2;simp only[yZ,t,I];refine⟨zU (by kernel_rfl) ?_⟩;go_simp;exact qY m (s:=by simp only[yZ,t,I])
      refine zt 12 6 8 ?_;refine qj 13 5 8 11 ?_;refine qj 14 4 8 12 ?_;refine zv 15 3 [(17,0),(18,1),(19,2),(20,3),(21,4),(22,5),(23,6),(24,7),(25,8),(26,9),(27,10),(28,11),(29,12),(30,13)] (fun f X d hR K m=>?_) ?_
      · have t:f 8=_:=hR.out 8 rfl;have N:f 13=_:=hR.out 13 rfl;have x0:=d.cell k1;simp only[yZ,t,N];refine⟨zU (by kernel_rfl) ?_⟩;go_simp;exact qY m (s:=by simp only[yZ,t,N])
      refine Par.c1 16 2 8 (fun f=>#[f 10,f 14]) (F':=58) (fun f X d hR=>?_) ?_
      · have S:f 10=_:=hR.out 10 rfl;have ak:f 14=_:=hR.out 14 rfl;simp only[S,ak];refine(xO Pb P0 A' Ap c' cp b pl X (E.below d ao) (u.out.p.below d D)).mono ?_;rintro e w2 ⟨rfl,nq,rfl⟩;rw[Hy.out,af.out,Hv.out];exact⟨_,rfl,(kE _ _),fun _ _=>rfl⟩
      refine zv 17 1 [(17,0),(18,1),(19,2),(20,3),(21,4),(22,5),(23,6),(24,7),(25,8),(26,9),(27,10),(28,11),(29,12),(30,13),(31,14),(32,15)] (fun f X d hR K m=>?_) ?_
      · have t:f 8=_:=hR.out 8 rfl;have ad:f 15=_:=hR.out 15 rfl;simp only[yZ,t,ad];refine⟨zU (by kernel_rfl) ?_⟩;go_simp;exact qY m (s:=by simp only[yZ,t,ad])
      refine qj 18 0 8 16 ?_;refine yF ⟨fun f X d hR L G=>?_⟩;have O:f 17=_:=hR 17 (by decide);simp only[yZ,O];clear hR L G O;refine zI ?_;go_wp2;go_ret;exact⟨by rw[show r=false by rw[←Hr.out];simp[onB,HH.out]];rfl,aj.out.trans d⟩
  · obtain⟨v,hv⟩:=eV (wK x M);have aO:0≤v:=by rw[←hv];rcases wA x M with h|h|h<;>omega
    have Hv:=zF hv;have HH:=zF hxM;clear hv hxM
    refine zZ (by kernel_rfl) 18 [0,1,0,4,12,28,63,127,255,511,1023,511,2559,6655,14847,32767,65535,131071] [] (fun j f X=>match j with
     | 0=>f 0=.pointer (some ⟨q,1,none⟩)
     | 1=>f 1=.slice A a.length c
     | 2=>f 2=.pointer (some ⟨k,0,none⟩)
     | 3=>f 3=.pointer (some ⟨k,0,none⟩)
     | 4=>f 4=.pointer (some ⟨k,1,none⟩)
     | 5=>f 5=.slice Ap pl.length cp
     | 6=>f 6=.int .i64 v
     | 7=>f 7=.bool true
     | 8=>f 8=.bool true
     | 9=>f 9=undef
     | 10=>f 10=undef
     | 11=>f 11=undef
     | 12=>f 12=undef
     | 13=>f 13=undef
     | 14=>f 14=undef
     | 15=>f 15=undef
     | 16=>f 16=undef
     | 17=>f 17=.bool true
     | _=>True) (by kernel_rfl) [(17,0),(18,1),(19,2),(20,3),(21,4),(22,5),(23,6),(24,7),(25,8),(26,9),(27,10),(28,11),(29,12),(30,13),(31,14),(32,15),(33,16),(34,17)] (by kernel_rfl) ?_
    refine zJ 1 17 ?_;refine qC 2 16 0 b1 ?_;refine zJ 3 15 ?_;refine zt 4 14 2 ?_;refine zt 5 13 3 ?_;refine qC 6 12 4 k1 ?_;refine qK 7 11 (fun f=>#[f 1,f 5]) (F':=58) (fun f X d hR=>?_) ?_
    · have R:f 1=_:=hR.out 1 rfl;have C:f 5=_:=hR.out 5 rfl;simp only[R,C];refine(xO W P0 A Ap c cp a pl X (ha.below d ah) (u.out.p.below d D)).mono ?_;rintro e w2 ⟨rfl,nq,rfl⟩;rw[Hx.out,af.out,Hv.out];exact⟨_,rfl,(kE _ _),fun _ _=>rfl⟩
    refine zv 8 10 [(17,0),(18,1),(19,2),(20,3),(21,4),(22,5),(23,6)] (fun f X d hR K m=>?_) ?_
    · have B:f 6=_:=hR.out 6 rfl;simp only[yZ,B];refine⟨?_⟩;go_simp;exact qY m (s:=by simp only[yZ,B])
    refine zt 9 9 7 ?_;refine kZ 10 8 8 ?_;refine kZ 11 7 8 ?_;refine kZ 12 6 8 ?_;refine kZ 13 5 8 ?_;refine kZ 14 4 8 ?_;refine kZ 15 3 8 ?_;refine kZ 16 2 8 ?_;refine kZ 17 1 8 ?_;refine qj 18 0 8 16 ?_;refine yF ⟨fun f X d hR L G=>?_⟩;have O:f 17=_:=hR 17 (by decide);simp only[yZ,O];clear hR L G O;refine zI ?_;go_wp2;go_ret;exact⟨by rw[show r=false by rw[←Hr.out];simp[onB,HH.out]];rfl,aj.out.trans d⟩
end Go.Proofs.YtaemogcomplhiaaGreatDoor
namespace Go.Proofs.YtaemogcomplhiaaGreatDoor
open Go.ChangeShapes Go.WideShapes Go.ChangeAt Go.RowKit Go.Deep Go.Joins
section
variable {H:Type} {enc:TypeId×Value→H} {w:World}
theorem zEZ:Tryz.prog.cellsOf 5=1:=by kernel_rfl
theorem zEa:Tryz.prog.bytesOf 5=1:=by kernel_rfl
theorem zC1:Tryz.prog.cellsOf 65=1:=by kernel_rfl
theorem zC2:Tryz.prog.bytesOf 65=8:=by kernel_rfl
def zEf (t:TypeId) (d:DataW H):Prop:=∀ k∈DataW.weights Tryz.prog t d,k≤reachBytes
theorem pK {fuel:Nat}{v:Value}{x:DataW H×List MemPlace}(h:DataW.trod enc Tryz.prog w 0 (fun _=>true) true fuel 22 [v]=some x)(t:zEf 22 x.1) :
 ∃ A c bs,v=.slice A bs.length c∧RB w (fun b=>b<w.heap.size) A c bs:=by
 rcases open_ints Tryz.underlying22 Tryz.underlying5 zEZ h with⟨e,_⟩|⟨a,len,cap,d,e,_,C,r,m,B,n,y⟩
 · simp at e;exact⟨none,0,[],by simpa using e,RB.nil_ _ _⟩
 · simp at e m;have k:d.length≤reachBytes:=by
    subst B;have:=t ((lits (H:=H) .u8 (d.take len)).length*1+(lits (H:=H) .u8 (d.drop len)).length*1) (by simp[DataW.weights,Tryz.underlying22,zEa]);simp[lits]at this;omega
   unfold reachBytes at k;have o:∀ i (f:i<d.length),0≤d[i]∧d[i]<256:=fun i f=>by
    have:=bounds_u8 (y _ (wL f));omega
   refine⟨some a,cap,(d.take len).map Int.toNat,?_,⟨by simp;omega,r,by simp[bys],fun s=>⟨a,rfl,?_,fun j u l=>?_⟩⟩,?_,by simp;omega⟩
   · rw[e];simp;omega
   · have p:=n 0 (by simp at s;omega);have:=wE w _ p;rwa [xP]at this
   · have q:j<len:=by
      have:=(List.getElem?_eq_some_iff.1 l).1;simp[bys]at this;omega
     have g:j<d.length:=by omega
     rw[n j g];have:=o j g;simp[bys,q,qL g]at l;rw[←l];simp[List.getD,qL g];omega
   · intro b k;obtain⟨z,m,rfl⟩:=List.mem_map.1 k;obtain⟨i,f,rfl⟩:=List.getElem_of_mem (qN m);have:=o i f;omega
theorem tC {fuel:Nat}{v:Value}{x:DataW H×List MemPlace}(h:DataW.trod enc Tryz.prog w 0 (fun _=>true) true fuel 24 [v]=some x)(y:zEf 24 x.1) :
 ∃ A c l,v=.slice A l.length c∧RL w (fun b=>b<w.heap.size) A c l:=by
 rcases open_ints Tryz.underlying24 Tryz.underlying65 zC1 h with⟨e,_⟩|⟨a,len,cap,d,e,_,D,s,n,C,o,B⟩
 · simp at e;exact⟨none,0,[],by simpa using e,RS.nil_ _ _ _,by simp,by simp⟩
 · simp at e n;have k:d.length*8≤reachBytes:=by
    subst C;have:=y (((lits (H:=H) .u64 (d.take len)).length+(lits (H:=H) .u64 (d.drop len)).length)*8) (by simp[DataW.weights,Tryz.underlying24,zC2]);simp[lits]at this;omega
   unfold reachBytes at k;have p:∀ i (f:i<d.length),0≤d[i]∧d[i]<18446744073709551616:=fun i f=>by
    have:=bounds_u64 (B _ (wL f));omega
   refine⟨some a,cap,(d.take len).map Int.toNat,?_,⟨by simp;omega,s,by simp[nts],fun t=>⟨a,rfl,?_,fun j u m=>?_⟩⟩,?_,by simp;omega⟩
   · rw[e];simp;omega
   · have q:=o 0 (by simp at t;omega);have:=wE w _ q;rwa [xP]at this
   · have r:j<len:=by
      have:=(List.getElem?_eq_some_iff.1 m).1;simp[nts]at this;omega
     have g:j<d.length:=by omega
     rw[o j g];have:=p j g;simp[nts,r,qL g]at m;rw[←m];simp[List.getD,qL g];omega
   · intro b k;obtain⟨z,n,rfl⟩:=List.mem_map.1 k;obtain⟨i,f,rfl⟩:=List.getElem_of_mem (qN n);have:=p i f;omega
end
end Go.Proofs.YtaemogcomplhiaaGreatDoor
namespace Go.Proofs.YtaemogcomplhiaaGreatDoor
def kO (bs:List Nat):Nat:=val 256 bs.reverse
theorem bz (bs:List Nat)(c:Nat):kO (bs++[c])=c+256*kO bs:=by
 simp[kO]
theorem zAi (k:Nat):256^k=2 ^(8*k):=by rw[vW]
theorem n9 {bs:List Nat}(h:∀ b∈bs,b<256):kO bs<256^bs.length:=by
 have:=kF (B:=256) (l:=bs.reverse) (by simpa using h);rwa [List.length_reverse]at this
theorem ax {m j q k c:Nat}{o:List Nat}{V:Nat}(i:∀ x∈o,x<2^m)(w:q<o.length)(v:m*q+j=8*k)(y:j+8≤m)(u:c<256)(f:val (2^m) o=256 ^(k+1)*V) :
 c*2^j<2^m∧dg o q+c*2^j<2^m∧(dg o q ||| c*2^j)=dg o q+c*2^j∧val (2^m) (o.set q (dg o q+c*2^j))=256^k*(c+256*V):=by
 obtain⟨r,b⟩:=go o i q 0 (by omega)
 have e:dg o q<2^m:=jW (qS (by omega)) i q
 rw[jF,Nat.pow_zero,Nat.div_one,Nat.sub_zero,f,zAi,show 8*(k+1)=m*q+(j+8) by omega,qQ,zd,Nat.mul_div_cancel_left _ (qS (by omega))]at b
 have h:c*2^j<2 ^(j+8):=by
  rw[qQ,zp];exact kt u (qS (by omega))
 have a:2^m=2 ^(j+8)*2 ^(m-(j+8)):=by rw[←qQ,show j+8+(m-(j+8))=m by omega]
 obtain⟨t,d⟩:∃ t,dg o q=t*2 ^(j+8):=by
  refine⟨V-2 ^(m-(j+8))*r,?_⟩;rw[a,zd]at b;rw[zp,Nat.mul_sub,b];omega
 have n:t<2 ^(m-(j+8)):=by
  rw[d,a,zp]at e;exact Nat.lt_of_mul_lt_mul_left e
 have l:dg o q+c*2^j<2^m:=by
  have p:(t+1)*2 ^(j+8)≤2 ^(m-(j+8))*2 ^(j+8):=qr _ n;rw[zp (2 ^(m-(j+8))),←a,qb,←d]at p;omega
 refine⟨by omega,l,?_,?_⟩
 · rw[d,zp t,Nat.two_pow_add_eq_or_of_lt h]
 · have s:=xE (2^m) w (dg o q+c*2^j);have g:(2^m)^q*(c*2^j)=256^k*c:=by
    rw[zAi,←v,qQ,vW,zd,zp c]
   rw[zl,g,f]at s;rw[zl,←zd,←zx];generalize 256 ^(k+1)*V=E at *;generalize 256^k*c=F at *;generalize(2^m)^q*dg o q=G at *;generalize val (2^m) (o.set q (dg o q+c*2^j))=H at *;clear b e h a d n l f g;omega
end Go.Proofs.YtaemogcomplhiaaGreatDoor
namespace Go.Proofs.YtaemogcomplhiaaGreatDoor
open Go.RowKit
theorem RB.cells {w:World}{P:Nat→Prop}{ad:Addr}{c:Nat}{bs:List Nat}(h:RB w P (some ad) c bs):∀ i,i<bs.length→w.cell? (ad.add i)=some (.int .u8 (dg bs i:Int)):=by
 intro i a;obtain⟨d,e,_,b,_⟩:=h.at_ a;cases e;rw[dg,ja a];exact b
theorem RB.dg {w:World}{P:Nat→Prop}{A:Option Addr}{c:Nat}{bs:List Nat}(h:RB w P A c bs){i:Nat}(a:i<bs.length):∃ ad,A=some ad∧w.cell? (ad.add i)=some (.int .u8 (Go.Proofs.YtaemogcomplhiaaGreatDoor.dg bs i:Int))∧Go.Proofs.YtaemogcomplhiaaGreatDoor.dg bs i<256:=by
 obtain⟨ad,rfl,_,d,b⟩:=h.at_ a;refine⟨ad,rfl,h.cells i a,?_⟩;rw[Go.Proofs.YtaemogcomplhiaaGreatDoor.dg,ja a];omega
theorem xr (P:Nat→Prop)(A:Option Addr)(c:Nat)(bs:List Nat)(w:World)(h:RB w P A c bs)(T:∀ b,P b→b<w.heap.size)(X:bs.length≤100000) :
 Calls Tryz.prog 53 #[.slice A bs.length c] w fun e w'=>∃ G c1,e=.returned (.slice G (digs 18446744073709551616 (kO bs)).length c1) ∧
  OB w' w.heap.size G c1 (digs 18446744073709551616 (kO bs))∧Below w.heap.size w w':=by
 obtain⟨O,h2,Q⟩:=h.cap
 obtain⟨n,B⟩:=eV bs.length
 rw[B]at O Q X ⊢
 obtain⟨N,hN,aa,ab⟩:∃ N:Nat,((n:Int)+7)/8=(N:Int)∧N≤100000∧n≤8*N:=⟨(n+7)/8,by omega,by omega,by omega⟩
 have ac:=qt (P:=Tryz.prog) 24 65 (.int .u64 0) 8 Tryz.underlying24 kU rfl .i64 .i64 N (by omega) (by omega)
 have v:=zF B
 clear B
 go_enter Tryz.func53,Tryz.ntmps53
 go_wp2
 go_loopw [14] (fun iv wr=>∃(i:Nat) (o:List Nat),iv=.int .i64 (i:Int)∧i≤n∧Hid (o.length=N)∧Lim o∧val 18446744073709551616 o=256 ^(n-i)*kO (bs.take i)∧Blk wr w.heap.size o∧Below w.heap.size w wr) (fun iv _=>n-(intOf iv).toNat)
 case atStart=>exact⟨0,List.replicate N 0,rfl,by omega,zF (by simp),⟨by simp,by simp;omega⟩,by rw[kV];simp[kO],wD w _,(zo _ w).alloc (zG _) _⟩
 case round =>
  obtain⟨i,o,rfl,hi,g,d,a,f,s⟩:=hrel;by_cases hlt:i<n
  · obtain⟨ad,rfl,q1,I⟩:=(h.below s T).dg (i:=i) (by rw[v.out];exact hlt);obtain⟨k,q,r,V,hr,W⟩:∃ k q r,k=n-1-i∧r<8∧k=8*q+r:=⟨n-1-i,(n-1-i)/8,(n-1-i)%8,rfl,by omega,by omega⟩
    have C:q<o.length:=by have:=g.out;omega
    obtain⟨F,t,u,l⟩:=ax (m:=64) (j:=r*8) (q:=q) (k:=k) d.1 C (by omega) (by omega) I (by rw[show n-i=k+1 by omega]at a;exact a);rw[←bz,←yT (by rw[v.out];exact hlt),show k=n-(i+1) by omega]at l;obtain⟨z,E⟩:=eV (dg bs i*2 ^(r*8));rw[E]at F t u l;obtain⟨y,J⟩:=eV (dg o q+z);rw[J]at t u l;have Y:(n:Int)-1-(i:Int)=(k:Int):=by omega
    have Z:(k:Int)/8=(q:Int):=by omega
    have e3:(k:Int)%8=(r:Int):=by omega
    have e4:IntKind.u64.wrap ((dg bs i:Int)*2 ^(r*8))=(z:Int):=by
     rw[show(dg bs i:Int)*2 ^(r*8)=(z:Int) by rw[←E];simp];exact qf _ (by omega)
    have e5:bits .or .u64 (dg o q:Int) (z:Int)=(y:Int):=by
     rw[bits_or_u64_nat _ _ (d.dgLt q) F,u]
    have q3:=f.cell C;have q4:=f.free q;have U:=f.set q y;have S:=d.set q y t;have R:=s.setCell (p:=⟨w.heap.size,q,none⟩) (zG _) (.int .u64 (y:Int));have K:Hid ((o.set q y).length=N):=zF (by rw[jr];exact g.out);have k1:(q:Int)<(N:Int):=by have:=g.out;omega
    have k2:(r:Int)<8:=by omega
    have k3:(dg bs i:Int)<256:=by omega
    have M:=zF l;clear l u t F E J V W C f d s a I;go_wp2_with fail;go_region;go_wp2;go_roundw;case rel=>exact⟨i+1,o.set q y,by go_num,by omega,K,S,M.out,U,qp R 1⟩
    case measure=>simp[intOf];omega
  · obtain rfl:i=n:=by omega
    rw[uk,Nat.pow_zero,kH,zu (by rw[v.out];omega)]at a;have x:OB wr w.heap.size (some ⟨w.heap.size,0,none⟩) N o:=kq f (zG _) d (by have:=g.out;omega) (by unfold maxLen;omega);have D:=jZ _ _ _ _ _ x.rn;have H:=x.trim;rw[a,g.out]at D;rw[a]at H;have L:=zF D;clear f d D a x;go_wp2_with fail;refine L.out.mono ?_;rintro e w1 ⟨rfl,rfl⟩;go_wp2;go_ret;exact⟨_,_,rfl,H,s⟩
theorem dY (P:Nat→Prop)(A:Option Addr)(c:Nat)(bs:List Nat)(w:World)(h:RB w P A c bs)(U:∀ b,P b→b<w.heap.size)(Y:bs.length≤100000) :
 Calls Tryz.prog 114 #[.slice A bs.length c] w fun e w'=>∃ G c1,e=.returned (.slice G (digs 4294967296 (kO bs)).length c1) ∧
  OB w' w.heap.size G c1 (digs 4294967296 (kO bs))∧Below w.heap.size w w':=by
 obtain⟨Q,h2,R⟩:=h.cap
 obtain⟨n,C⟩:=eV bs.length
 rw[C]at Q R Y ⊢
 obtain⟨N,hN,aa,ab⟩:∃ N:Nat,((n:Int)+3)/4=(N:Int)∧N≤100000∧n≤4*N:=⟨(n+3)/4,by omega,by omega,by omega⟩
 have ac:=qt (P:=Tryz.prog) 28 65 (.int .u64 0) 8 Tryz.underlying28 kU rfl .i64 .i64 N (by omega) (by omega)
 have v:=zF C
 clear C
 go_enter Tryz.func114,Tryz.ntmps114
 go_wp2
 go_loopw [4] (fun iv wr=>∃(i:Nat) (o:List Nat),iv=.int .i64 (i:Int)∧i≤n∧Hid (o.length=N)∧Dig o∧val 4294967296 o=256 ^(n-i)*kO (bs.take i)∧Blk wr w.heap.size o∧Below w.heap.size w wr) (fun iv _=>n-(intOf iv).toNat)
 case atStart=>exact⟨0,List.replicate N 0,rfl,by omega,zF (by simp),(by intro x Z;simp at Z;omega),by rw[kV];simp[kO],wD w _,(zo _ w).alloc (zG _) _⟩
 case round =>
  obtain⟨i,o,rfl,hi,f,a,d,g,t⟩:=hrel;by_cases hlt:i<n
  · obtain⟨ad,rfl,q1,J⟩:=(h.below t U).dg (i:=i) (by rw[v.out];exact hlt);obtain⟨k,q,r,W,hr,X⟩:∃ k q r,k=n-1-i∧r<4∧k=4*q+r:=⟨n-1-i,(n-1-i)/4,(n-1-i)%4,rfl,by omega,by omega⟩
    have D:q<o.length:=by have:=f.out;omega
    obtain⟨s1,u,F,s⟩:=ax (m:=32) (j:=8*r) (q:=q) (k:=k) a D (by omega) (by omega) J (by rw[show n-i=k+1 by omega]at d;exact d);rw[←bz,←yT (by rw[v.out];exact hlt),show k=n-(i+1) by omega]at s;obtain⟨z,l⟩:=eV (dg bs i*2 ^(8*r));rw[l]at s1 u F s;obtain⟨y,K⟩:=eV (dg o q+z);rw[K]at u F s;have e1:(n:Int)-1-(i:Int)=(k:Int):=by omega
    have e2:(k:Int)/4=(q:Int):=by omega
    have e3:(k:Int)%4=(r:Int):=by omega
    have e4:IntKind.u64.wrap ((dg bs i:Int)*2 ^(8*r))=(z:Int):=by
     rw[show(dg bs i:Int)*2 ^(8*r)=(z:Int) by rw[←l];simp];exact qf _ (by omega)
    have e5:(dg o q:Int)+(z:Int)=(y:Int):=by omega
    have b1:=a.dgLt q;have q3:=g.cell D;have q4:=g.free q;have V:=g.set q y;have T:=a.set q y u;have S:=t.setCell (p:=⟨w.heap.size,q,none⟩) (zG _) (.int .u64 (y:Int));have L:Hid ((o.set q y).length=N):=zF (by rw[jr];exact f.out);have k1:(q:Int)<(N:Int):=by have:=f.out;omega
    have k2:(r:Int)<4:=by omega
    have k3:(dg bs i:Int)<256:=by omega
    have O:=zF s;clear s F u l K W X D g a t d J;go_wp2_with fail;go_region;go_wp2;go_roundw;case rel=>exact⟨i+1,o.set q y,by go_num,by omega,L,T,O.out,V,qp S 1⟩
    case measure=>simp[intOf];omega
  · obtain rfl:i=n:=by omega
    rw[uk,Nat.pow_zero,kH,zu (by rw[v.out];omega)]at d;have H:Lim o:=⟨fun z l=>by have:=a z l;omega,by rw[f.out];omega⟩
    have B:OB wr w.heap.size (some ⟨w.heap.size,0,none⟩) N o:=kq g (zG _) H (by have:=f.out;omega) (by unfold maxLen;omega);have E:=kW _ _ _ _ _ B.rn a;have I:=B.trim32 a;rw[d,f.out]at E;rw[d]at I;have M:=zF E;clear g H E d B;go_wp2_with fail;refine M.out.mono ?_;rintro e w1 ⟨rfl,rfl⟩;go_wp2;go_ret;exact⟨_,_,rfl,I,t⟩
structure Crv where
 size:Nat
 n:Nat
 M:Nat
 bb:Nat
 pl:List Nat
 nl:List Nat
 bl:List Nat
 xl:List Nat
 yl:List Nat
def vH:Crv:=⟨32,4,val 18446744073709551616 vu,val 18446744073709551616 x8,vu,gZ,x8,gY,gX⟩
def tf:Crv:=⟨48,6,val 18446744073709551616 vr,val 18446744073709551616 x6,vr,gW,x6,gV,gU⟩
def IsC (c:Int) (C:Crv):Prop:=(c=1∧C=vH)∨(c=2∧C=tf)
structure Crv.Fine (C:Crv):Prop where
 three:3<C.M
 bb:C.bb<C.M
 room:C.M<256^C.size
 small:C.size≤48
 pos:32≤C.size
 pv:val 18446744073709551616 C.pl=C.M
theorem IsC.fine {c:Int}{C:Crv}(h:IsC c C):C.Fine:=by
 rcases h with⟨_,rfl⟩|⟨_,rfl⟩
 · exact⟨by decide +kernel,by decide +kernel,by decide +kernel,by decide,by decide,rfl⟩
 · exact⟨by decide +kernel,by decide +kernel,by decide +kernel,by decide,by decide,rfl⟩
def OfC (C:Crv) (w:World) (k:Nat):Prop:=∃(P0:Nat→Prop) (g inv:Nat) (ml ol rl tl fl:List Nat) (Ap An Ab Ax Ay:Option Addr) (cp cn cb cx cy:Nat),Num w P0 k g C.size C.n inv C.M C.bb C.pl C.nl C.bl C.xl C.yl ml ol rl tl fl Ap An Ab Ax Ay cp cn cb cx cy∧∀ b,P0 b→b<w.heap.size
theorem OfC.ext {C:Crv}{w X:World}{k:Nat}(h:OfC C w k)(a:Ext w X):OfC C X k:=by
 obtain⟨P0,g,inv,ml,ol,rl,tl,fl,Ap,An,Ab,Ax,Ay,cp,cn,cb,cx,cy,e,c⟩:=h;exact⟨P0,g,inv,ml,ol,rl,tl,fl,Ap,An,Ab,Ax,Ay,cp,cn,cb,cx,cy,e.ext c a,fun b d=>zH (c b d) a.bsize⟩
theorem OfC.size {C:Crv}{w:World}{k:Nat}(h:OfC C w k):w.cell? ⟨k,0,none⟩=some (.int .i64 (C.size:Int)):=by
 obtain⟨P0,g,inv,ml,ol,rl,tl,fl,Ap,An,Ab,Ax,Ay,cp,cn,cb,cx,cy,a,b⟩:=h;exact a.c_size
theorem pM {c:Int}{C:Crv}(h:IsC c C)(w:World):Calls Tryz.prog 64 #[.int .i64 c] w fun e w'=>∃ k,e=.returned (.pointer (some ⟨k,0,none⟩))∧OfC C w' k∧Ext w w':=by
 rcases h with⟨rfl,rfl⟩|⟨rfl,rfl⟩
 · refine(rW w).mono ?_;rintro e w' ⟨k,g,inv,ml,ol,rl,tl,fl,rfl,_,f,a⟩;exact⟨k,rfl,⟨_,g,inv,ml,ol,rl,tl,fl,_,_,_,_,_,_,_,_,_,_,f,fun b d=>d.2⟩,a⟩
 · refine(rV w).mono ?_;rintro e w' ⟨k,g,inv,ml,ol,rl,tl,fl,rfl,_,f,a⟩;exact⟨k,rfl,⟨_,g,inv,ml,ol,rl,tl,fl,_,_,_,_,_,_,_,_,_,_,f,fun b d=>d.2⟩,a⟩
theorem zAr {c:Int}(a:c≠1)(b:c≠2)(w:World):Calls Tryz.prog 64 #[.int .i64 c] w fun e w'=>e=.returned (.pointer none)∧Ext w w':=by
 have d:(c==1)=false:=by simpa using a
 have f:(c==2)=false:=by simpa using b
 go_enter Tryz.func64,Tryz.ntmps64;go_wp2;go_ret;exact⟨rfl,zT _⟩
theorem on_c {C:Crv}{w:World}{k:Nat}(h:OfC C w k)(i:C.Fine)(d f:Nat→Prop)(A A':Option Addr)(c c':Nat)(a b:List Nat)(inf:Bool)(n:RN w d A c a)(o:RN w f A' c' b)(l:∀ b,d b→b<w.heap.size)(m:∀ b,f b→b<w.heap.size) :
 Calls Tryz.prog 72 #[.pointer (some ⟨k,0,none⟩),.agg #[.bool inf,.slice A a.length c,.slice A' b.length c']] w fun e w'=>e=.returned (.bool (inf||onB C.M C.bb (val 18446744073709551616 a) (val 18446744073709551616 b)))∧Ext w w':=by
 obtain⟨P0,g,inv,ml,ol,rl,tl,fl,Ap,An,Ab,Ax,Ay,cp,cn,cb,cx,cy,p,j⟩:=h
 exact zD7 d f A A' c c' a b inf w p j n o l m i.three i.bb
abbrev yU:Value:=.agg #[.bool true,.slice none 0 0,.slice none 0 0]
theorem vl:(Tryz.prog.info? 33).map (·.size)=some 3:=by kernel_rfl
theorem gh {fn:Func}{R:Ending→World→Prop}{a:Act}{W:World}{p u:Tmp}{g:Nat}{ty:TypeId}{fr:Nat×Nat}{x0 x1 x2 v:Value}(f:fn.results=#[.cell p 33,.tmp u])(e:a.tmps.getD p undef=.pointer (some ⟨g,0,none⟩))(h:a.tmps.getD u undef=v)(c:a.defers=[])
 (d:W.heap[g]?=some (.cells #[x0,x1,x2] ty fr)) (hR:R (.returned (.tuple #[.agg #[x0,x1,x2],v])) W):bodyPost Tryz.prog fn R .ret a W:=by
 refine vg (v:=.tuple #[.agg #[x0,x1,x2],v]) ?_ c hR
 rw[results_cell_tmp f,e]
 have b:(asAddr (.pointer (some ⟨g,0,none⟩)):Sem Addr).run Tryz.prog W=.ok ⟨g,0,none⟩ W:=rfl
 rw[b,jC,run_loadVar_row W g ty 33 #[x0,x1,x2] fr _ d Tryz.underlying33 rfl vl,jC,h]
theorem oL {fn:Func}{R:Ending→World→Prop}{a:Act}{W:World}{p:Tmp}{g:Nat}{ty:TypeId}{fr:Nat×Nat}{x0 x1 x2:Value}(e:fn.results=#[.cell p 33])(d:a.tmps.getD p undef=.pointer (some ⟨g,0,none⟩))(b:a.defers=[])
 (c:W.heap[g]?=some (.cells #[x0,x1,x2] ty fr)) (hR:R (.returned (.agg #[x0,x1,x2])) W):bodyPost Tryz.prog fn R .ret a W :=
 vg (wu e a.tmps W g _ _ _ _ d c Tryz.underlying33 rfl vl) b hR
theorem jQ {W:World}{g:Nat}{ty:TypeId}{x0 x1 x2:Value}(h:W.heap[g]?=some (.cells #[x0,x1,x2] ty (0,0))) :
 W.cell? ⟨g,0,none⟩=some x0∧W.cell? ⟨g,1,none⟩=some x1∧W.cell? ⟨g,2,none⟩=some x2∧W.frozen? ⟨g,0,none⟩=false∧W.frozen? ⟨g,1,none⟩=false∧W.frozen? ⟨g,2,none⟩=false :=
 ⟨zP h 0,zP h 1,zP h 2,qz h 0,qz h 1,qz h 2⟩
theorem ur (b:Bool)(A A':Option Addr)(n a c c':Nat):(#[Value.bool b,.slice A n c,.slice A' a c']:Array Value).all (·.oneCell')=true:=by simp[Value.oneCell']
theorem xG {W:World}{g:Nat}{ty:TypeId}{x0 x1 x2:Value}(h:W.heap[g]?=some (.cells #[x0,x1,x2] ty (0,0)))(y0 y1 y2:Value):(((W.setCell ⟨g,0,none⟩ y0).setCell ⟨g,1,none⟩ y1).setCell ⟨g,2,none⟩ y2).heap[g]?=some (.cells #[y0,y1,y2] ty (0,0)) :=
 jA (jA (jA h 0 y0) 1 y1) 2 y2
theorem mU (W:World)(g:Nat)(y0 y1 y2:Value):jE g W (((W.setCell ⟨g,0,none⟩ y0).setCell ⟨g,1,none⟩ y1).setCell ⟨g,2,none⟩ y2):=(((q9 g W).set 0 y0).set 1 y1).set 2 y2
theorem xi {w W:World}{g:Nat}(b:Ext w W)(a:w.heap.size≤g)(y0 y1 y2:Value):Ext w (((W.setCell ⟨g,0,none⟩ y0).setCell ⟨g,1,none⟩ y1).setCell ⟨g,2,none⟩ y2) :=
 ((Below.setCell b (p:=⟨g,0,none⟩) a y0).setCell (p:=⟨g,1,none⟩) a y1).setCell (p:=⟨g,2,none⟩) a y2
theorem yo (w:World):Calls Tryz.prog 73 #[] w fun e w'=>e=.returned yU∧Ext w w':=by
 go_enter Tryz.func73,Tryz.ntmps73;go_wp2;exact oL rfl rfl rfl (zS w _) ⟨rfl,zL _ _⟩
theorem OB.just {X Y:World}{base b:Nat}{A:Option Addr}{c:Nat}{l:List Nat}(h:OB X base A c l)(o:jE b X Y){cs:Array Value}{t:TypeId}(m:X.heap[b]?=some (.cells cs t (0,0)))(r:t≠65):OB Y base A c l:=by
 obtain⟨f,i,j,k⟩:=h;refine⟨f,i,j,fun p=>?_⟩;obtain⟨g,d,e,n,a,q⟩:=k p;refine⟨g,d,e,n,o.at_ (fun e=>?_) a,q⟩;subst e;rw[m]at a;injection a with a
 injection a with _ a _
 exact r a
theorem RB.mid {w:World}{P:Nat→Prop}{A:Option Addr}{c:Nat}{bs:List Nat}(h:RB w P A c bs){k m c':Nat}(l:k≤m)(n:m≤bs.length)(i:m-k≤c')(j:c'≤maxLen){A':Option Addr}(f:k<m→A'=A.map (·.add k)):RB w P A' c' ((bs.drop k).take (m-k)):=by
 have a:=h.1.sub l n i j (A':=A') (by simpa using f);have e:((bys bs).drop (k*1)).take ((m-k)*1)=bys ((bs.drop k).take (m-k)):=by simp[bys,List.map_take,List.map_drop]
 rw[e]at a;have d:((bs.drop k).take (m-k)).length=m-k:=by rw[zh,qa];omega
 refine⟨by rw[d];exact a,fun b g=>h.2.1 b (List.mem_of_mem_drop (qN g)),by rw[d];have:=h.2.2;omega⟩
theorem RN.ru {w:World}{P:Nat→Prop}{A:Option Addr}{c:Nat}{l:List Nat}(h:RN w P A c l)(a:∀ b,P b→b<w.heap.size):RU w A c l:=h.mono fun b d=>a b d
theorem of_b {c:Int}{C:Crv}(h:IsC c C)(w:World):Calls Tryz.prog 64 #[.int .i64 c] w fun e w'=>∃ k,e=.returned (.pointer (some ⟨k,0,none⟩))∧(∃(P0:Nat→Prop) (g inv:Nat) (ml ol rl tl fl:List Nat) (Ap An Ab Ax Ay:Option Addr) (cp cn cb cx cy:Nat),Num w' P0 k g C.size C.n inv C.M C.bb C.pl C.nl C.bl C.xl C.yl ml ol rl tl fl Ap An Ab Ax Ay cp cn cb cx cy∧∀ b,P0 b→w.heap.size≤b∧b<w'.heap.size)∧Ext w w':=by
 rcases h with⟨rfl,rfl⟩|⟨rfl,rfl⟩
 · refine(rW w).mono ?_;rintro e w' ⟨k,g,inv,ml,ol,rl,tl,fl,rfl,_,f,a⟩;exact⟨k,rfl,⟨_,g,inv,ml,ol,rl,tl,fl,_,_,_,_,_,_,_,_,_,_,f,fun b d=>d⟩,a⟩
 · refine(rV w).mono ?_;rintro e w' ⟨k,g,inv,ml,ol,rl,tl,fl,rfl,_,f,a⟩;exact⟨k,rfl,⟨_,g,inv,ml,ol,rl,tl,fl,_,_,_,_,_,_,_,_,_,_,f,fun b d=>d⟩,a⟩
set_option maxHeartbeats 2000000
theorem fv {c:Int}{C:Crv}(i:IsC c C)(w:World):Calls Tryz.prog 66 #[.int .i64 c] w fun e w'=>∃ A b,e=.returned (.slice A C.nl.length b)∧RU w' A b C.nl∧Ext w w':=by
 go_enter Tryz.func66,Tryz.ntmps66;go_wp2_with (go_at_call 64;refine(pM i _).mono ?_;rintro e n ⟨k,rfl,⟨P0,g,inv,ml,ol,rl,tl,fl,Ap,An,Ab,Ax,Ay,cp,cn,cb,cx,cy,a,d⟩,j⟩;have l:=a.c_p;have m:=a.c_n;have k0:=a.c_size;have h:=zF a;have f:=zF d;clear a d);go_ret;exact⟨_,_,rfl,h.out.nn.ru f.out,j⟩
theorem bU {c:Int}{C:Crv}(a:IsC c C)(w:World):Calls Tryz.prog 29 #[.int .i64 c] w fun e w'=>e=.returned (.int .i64 (C.size:Int))∧Ext w w':=by
 go_enter Tryz.func29,Tryz.ntmps29;go_wp2_with (go_at_call 64;refine(pM a _).mono ?_;rintro e f ⟨k,rfl,d,b⟩;have k0:=d.size);go_ret;exact⟨rfl,b⟩
theorem tA {c:Int}(a:c≠1)(b:c≠2)(w:World):Calls Tryz.prog 66 #[.int .i64 c] w fun e w'=>e=.returned (.slice none 0 0)∧Ext w w':=by
 go_enter Tryz.func66,Tryz.ntmps66;go_wp2_with (go_at_call 64;refine(zAr a b _).mono ?_;rintro e f ⟨rfl,d⟩);go_ret;exact⟨rfl,d⟩
theorem zAM {c:Int}(a:c≠1)(b:c≠2)(w:World):Calls Tryz.prog 29 #[.int .i64 c] w fun e w'=>e=.returned (.int .i64 0)∧Ext w w':=by
 go_enter Tryz.func29,Tryz.ntmps29;go_wp2_with (go_at_call 64;refine(zAr a b _).mono ?_;rintro e f ⟨rfl,d⟩);go_ret;exact⟨rfl,d⟩
theorem pu {c:Int}{C:Crv}(E:IsC c C)(w:World):Calls Tryz.prog 36 #[.int .i64 c] w fun e w'=>∃ A p A' r,e=.returned (.agg #[.bool false,.slice A C.xl.length p,.slice A' C.yl.length r])∧RU w' A p C.xl∧RU w' A' r C.yl∧Ext w w':=by
 have J:=zS w (.cells #[.bool false,.slice none 0 0,.slice none 0 0] 33);go_enter Tryz.func36,Tryz.ntmps36;go_wp2_with (go_at_call 64;refine(of_b E _).mono ?_;rintro e z ⟨k,rfl,⟨P0,g,inv,ml,ol,rl,tl,fl,Ap,An,Ab,Ax,Ay,cp,cn,cb,cx,cy,i,u⟩,l⟩;have N:=i.c_x;have O:=i.c_y;have k0:=i.c_size;have o:=zF i;have B:=zF u;have n:=l.at_ J;obtain⟨P,z1,Q,D,f1,f2⟩:=jQ n;clear i u);obtain⟨q,v⟩:=eV w.heap.size;rw[v]at n;clear P z1 Q D f1 f2;rw[v]
 refine zZ (by kernel_rfl) 9 [0,1,3,7,0,16,48,112,255,511] [] (fun j f X=>match j with
  | 0=>f 0=.pointer (some ⟨k,0,none⟩)
  | 1=>f 1=.pointer (some ⟨k,0,none⟩)
  | 2=>f 2=.pointer (some ⟨k,4,none⟩)
  | 3=>f 3=.slice Ax C.xl.length cx
  | 4=>f 4=.pointer (some ⟨k,0,none⟩)
  | 5=>f 5=.pointer (some ⟨k,0,none⟩)
  | 6=>f 6=.pointer (some ⟨k,5,none⟩)
  | 7=>f 7=.slice Ay C.yl.length cy
  | 8=>f 8=.agg #[.bool false,.slice Ax C.xl.length cx,.slice Ay C.yl.length cy]
  | _=>True) (by kernel_rfl) [(8,0),(9,1),(10,2),(11,3),(12,4),(13,5),(14,6),(15,7),(16,8)] (by kernel_rfl) ?_
 refine zJ 1 8 ?_;refine zt 2 7 0 ?_;refine zt 3 6 1 ?_;refine qC 4 5 2 N ?_;refine zJ 5 4 ?_;refine zt 6 3 4 ?_;refine zt 7 2 5 ?_;refine qC 8 1 6 O ?_;refine qj 9 0 3 7 ?_;refine yF ⟨fun f X h hR H I=>?_⟩;have s:f 8=.agg #[.bool false,.slice Ax C.xl.length cx,.slice Ay C.yl.length cy]:=hR 8 (by decide);simp only[Par.vE,Act.put,jn,List.set_cons_succ,vQ,s];clear hR H I s;refine zO (fun K F=>⟨zU (by kernel_rfl) (jX (cs':=#[.bool false,.slice Ax C.xl.length cx,.slice Ay C.yl.length cy]) (t:=33) 33 (.tmp 2) (.tmp 16) rfl rfl rfl rfl (h.at_ n) vl rfl (ur _ _ _ _ _ _ _) (fun Y G m R=>F.out _ _ ?_))⟩);refine zI ?_;go_wp2;have S:q+1≤z.heap.size:=by have:=l.bsize;simp only[zz]at this;omega
 have d:∀ b,P0 b→q<b∧b<z.heap.size:=fun b a=>by have:=B.out b a;simp only[zz]at this;omega
 have L:RN Y P0 Ax cx C.xl:=(o.out.x.below h (fun b a=>(d b a).2)).just m (fun b a=>⟨by have:=d b a;have:=h.bsize;omega,by have:=d b a;omega⟩);have M:RN Y P0 Ay cy C.yl:=(o.out.y.below h (fun b a=>(d b a).2)).just m (fun b a=>⟨by have:=d b a;have:=h.bsize;omega,by have:=d b a;omega⟩);have a:∀ b,P0 b→b<Y.heap.size:=fun b a=>by have:=d b a;have:=h.bsize;omega
 exact oL rfl rfl rfl G ⟨_,_,_,_,rfl,L.ru a,M.ru a,m.ext (((zL w _).trans l).trans h) (by omega)⟩
def dR (B V k D G:Nat):Prop:=G<B∧V /(B^k*D)≤G
theorem zAe {B k D g V x:Nat}(a:0<B)(b:0<D)(h:V /(B^k*D)≤g)(f:x+B^k*(g*D)=V):x<B^k*D:=by
 have c:=Nat.lt_mul_div_succ V (show 0<B^k*D from Nat.mul_pos (qS a) b);have d:B^k*D*(V /(B^k*D)+1)≤B^k*D*(g+1):=qI _ (by omega);have e:B^k*D*(g+1)=B^k*(g*D)+B^k*D:=by rw[zl,jM,zd,zp D]
 omega
theorem nO {y n1:Nat}(b:(digs 4294967296 y).length=n1+1):∃ top sc,dg (digs 4294967296 y) n1=top∧0<top∧top<4294967296∧4294967296 /(top+1)=sc∧0<sc∧sc<4294967296∧(digs 4294967296 (sc*y)).length=n1+1∧0<dg (digs 4294967296 (sc*y)) n1∧4294967296^n1≤y:=by
 have a:(2:Nat)≤4294967296:=by omega
 have j:=kL a y;have r:0<y:=by
  rcases za y with h|h
  · subst h;rw[qW]at b;simp at b
  · exact h
 have e:=gT a r;rw[b,kG]at e;obtain⟨top,f⟩:=eV (dg (digs 4294967296 y) n1);have p:top<4294967296:=by rw[←f];exact jW (by omega) j _
 have t:y=val 4294967296 ((digs 4294967296 y).take n1)+4294967296^n1*top:=by
  rw[←f,←qG,←b,jB,zi a]
 have v:val 4294967296 ((digs 4294967296 y).take n1)<4294967296^n1:=by
  have:=kF (B:=4294967296) (l:=(digs 4294967296 y).take n1) fun x g=>j x (qN g);rwa [zh,qU (by omega)]at this
 have m:0<top:=by
  rcases za top with h|h
  · subst h;omega
  · exact h
 obtain⟨sc,d⟩:=eV (4294967296 /(top+1));have n:sc*(top+1)≤4294967296:=by rw[←d];exact Nat.div_mul_le_self _ _
 have c:0<sc:=by rw[←d];exact Nat.div_pos (by omega) (by omega)
 have o:sc<4294967296:=by rw[←d];exact Nat.div_lt_self (by omega) (by omega)
 have q:sc*y<4294967296 ^(n1+1):=by
  have s:y<4294967296^n1*(top+1):=by rw[zl,jM];omega
  have z:sc*y<sc*(4294967296^n1*(top+1)):=kt s c;have A:sc*(4294967296^n1*(top+1))=4294967296^n1*(sc*(top+1)):=jY _ _ _;have C:4294967296^n1*(sc*(top+1))≤4294967296^n1*4294967296:=qI _ n;rw[zx];omega
 have u:4294967296^n1≤sc*y:=zK e (Nat.le_mul_of_pos_left _ c);have i:(digs 4294967296 (sc*y)).length=n1+1:=by
  refine Nat.le_antisymm (qR a q) ?_;have:=jO a (show y≤sc*y from Nat.le_mul_of_pos_left _ c);omega
 refine⟨top,sc,f,m,p,d,c,o,i,?_,e⟩;have k:sc*y=val 4294967296 ((digs 4294967296 (sc*y)).take n1)+4294967296^n1*dg (digs 4294967296 (sc*y)) n1:=by
  rw[←qG,←i,jB,zi a]
 have w:val 4294967296 ((digs 4294967296 (sc*y)).take n1)<4294967296^n1:=by
  have:=kF (B:=4294967296) (l:=(digs 4294967296 (sc*y)).take n1) fun x g=>kL a (sc*y) x (qN g);rwa [zh,qU (by omega)]at this
 rcases za (dg (digs 4294967296 (sc*y)) n1)with h|h
 · rw[h,je]at k;omega
 · exact h
def Tu (w:World) (b:Nat):Prop:=∃ a,w.heap[b]?=some (.cells a 65 (0,0))
theorem OB.tt {w:World}{base:Nat}{A:Option Addr}{c:Nat}{l:List Nat}(h:OB w base A c l):RN w (fun b=>b<w.heap.size∧Tu w b) A c l:=by
 have m:=h.rn;obtain⟨s,t,u,f⟩:=h;obtain⟨⟨n,o,p,q⟩,r⟩:=m;refine⟨⟨n,o,p,fun a=>?_⟩,r⟩;obtain⟨g,d,rfl,v,j,x⟩:=f a;obtain⟨ad,e,k,i⟩:=q a;cases e;exact⟨_,rfl,⟨k.2,d,j⟩,i⟩
theorem OB.rt {w:World}{base:Nat}{P:Nat→Prop}{A:Option Addr}{c:Nat}{l:List Nat}(h:OB w base A c l):RN w (fun b=>b<w.heap.size∧(P b∨Tu w b)) A c l:=RN.mono h.tt fun _ a=>⟨a.1,.inr a.2⟩
theorem aV (P P':Nat→Prop)(A A':Option Addr)(c c':Nat)(x y:Nat)(w:World)(h:RN w P A c (digs 4294967296 x))(o:RN w P' A' c' (digs 4294967296 y))(K:∀ b,P b→b<w.heap.size)(W:(digs 4294967296 x).length<100000)(p:0<y)(R:x<y∨(digs 4294967296 y).length=1) :
 Calls Tryz.prog 79 #[.slice A (digs 4294967296 x).length c,.slice A' (digs 4294967296 y).length c'] w fun e w'=>∃ f c1 E I,e=.returned (.tuple #[.slice f (digs 4294967296 (x/y)).length c1,.slice E (digs 4294967296 (x%y)).length I])∧OB w' w.heap.size f c1 (digs 4294967296 (x/y))∧RN w' (fun b=>b<w'.heap.size∧(P b∨Tu w' b)) E I (digs 4294967296 (x%y))∧Below w.heap.size w w':=by
 have d:=uo P P' A A' c c' x y w h o
 by_cases hlt:x<y
 · rw[xt hlt]at d;have j:=zF d;have N:x/y=0:=ql hlt;have O:x%y=x:=qF hlt;rw[N,O,qW];clear d hlt R N O;go_enter Tryz.func79,Tryz.ntmps79;go_wp2_with fail;refine j.out.mono ?_;rintro e Y ⟨rfl,nd,rfl⟩;go_wp2;go_ret2;exact⟨none,0,A,c,rfl,OB.nil_ _ _,RN.drewN (h.mono fun b L=>⟨K b L,.inl L⟩) nd,qp (zo _ _) _⟩
 · have Q:(digs 4294967296 y).length=1:=by omega
   have m:y<4294967296:=by
    have:=jR (B:=4294967296) (by omega) y;rw[Q]at this;omega
   have q:digs 4294967296 y=[y]:=by
    rw[jq (by omega) p,qF m,ql m,qW]
   have M:0≤wK x y:=by rcases wA x y with h|h|h<;>omega
   generalize wK x y=v at d M;have Z:¬ v<0:=by omega
   have j:=zF d;obtain⟨ad,rfl,_,C⟩:=o.at_ (i:=0) (by omega);rw[q]at C j;rw[q];have X:w.cell? (ad.add 0)=some (.int .u64 (y:Int)):=C;have T:ad.add 0=ad:=rfl;rw[T]at X;have D:=fun n=>fm P A c _ y (w.drewN n) (h.drewN n) K (xU x) W p (by omega);rw[zi (by omega)]at D;have H:=zF D;have t:x%y<4294967296:=Nat.lt_trans (qP _ p) m;obtain⟨r,s⟩:=eV (x%y);rw[s]at H t;have F:=zF t;have G:=zF s;clear d D hlt R Q M o s t q C T m;go_enter Tryz.func79,Tryz.ntmps79;go_wp2_with fail;refine j.out.mono ?_;rintro e Y ⟨rfl,nd,rfl⟩;go_wp2_with fail;refine(H.out nd).mono ?_;rintro e w2 ⟨f,c1,rfl,V,a⟩;have k:Dig [r]:=by intro x z;rw[List.mem_singleton.1 z];exact F.out
   have u:=kW _ _ _ [r] _ (RN.one w2 r (by have:=F.out;omega)) k;have J:=(kq (c:=1) (w:=w2.alloc (.cells #[.int .u64 (r:Int)] 65)) (g:=w2.heap.size) (l:=[r]) (show Blk (w2.alloc (.cells #[.int .u64 (r:Int)] 65)) w2.heap.size [r]from zS w2 _) (base:=0) (xB _) ⟨fun x z=>by have:=k x z;omega,by simp⟩ (by simp) (by unfold maxLen;omega)).trim32 k;have S:val 4294967296 [r]=r:=by simp
   rw[S]at u J;have U:=zF u;clear u k S;go_wp2_with fail;refine U.out.mono ?_;rintro e w3 ⟨rfl,rfl⟩;go_wp2;go_ret2;exact⟨f,c1,some ⟨w2.heap.size,0,none⟩,(digs 4294967296 r).length,by rw[G.out];rfl,V.below ((zo w2.heap.size w2).alloc (zG _) _) (zG _),by rw[G.out];exact J.rt,(Below.mk a.os a.tape a.output a.size a.block:Below w.heap.size w w2).alloc a.size _⟩
theorem nT (P P':Nat→Prop)(A A':Option Addr)(c c':Nat)(x y:Nat)(w:World)(h:RN w P A c (digs 4294967296 x))(h':RN w P' A' c' (digs 4294967296 y))(hP:∀ b,P b→b<w.heap.size)(bd:∀ b,P' b→b<w.heap.size)(hl:(digs 4294967296 x).length<90000)(f:y≤x)(b4:1<(digs 4294967296 y).length) :
 Calls Tryz.prog 79 #[.slice A (digs 4294967296 x).length c,.slice A' (digs 4294967296 y).length c'] w fun e w'=>∃ A1 c1 A2 c2,e=.returned (.tuple #[.slice A1 (digs 4294967296 (x/y)).length c1,.slice A2 (digs 4294967296 (x%y)).length c2])∧OB w' w.heap.size A1 c1 (digs 4294967296 (x/y))∧RN w' (fun b=>b<w'.heap.size∧(P b∨Tu w' b)) A2 c2 (digs 4294967296 (x%y))∧Below w.heap.size w w':=by
 have tc:=uo P P' A A' c c' x y w h h'
 have bo:0≤wK x y:=by rcases wA x y with h|h|h<;>omega
 generalize wK x y=v at tc bo
 have cl:¬ v<0:=by omega
 obtain⟨n1,V⟩:∃ n1,(digs 4294967296 y).length=n1+1:=⟨(digs 4294967296 y).length-1,by omega⟩
 obtain⟨top,sc,bu,cc,cd,bt,S,aR,ah,aB,bp⟩:=nO V
 have T:0<y:=by have:=qS (n:=n1) (show 0<4294967296 by omega);omega
 have b9:=jO (B:=4294967296) (by omega) f
 have bA:=jR (B:=4294967296) (by omega) x
 have bB:=zi (B:=4294967296) (by omega) x
 have bD:=zi (B:=4294967296) (by omega) y
 have dx:=xU x
 have dy:=xU y
 generalize digs 4294967296 x=l at *
 generalize digs 4294967296 y=m at *
 obtain⟨n,aQ⟩:=eV (n1+1)
 rw[aQ]at V ah
 obtain⟨t,Y⟩:=eV (l.length+1-n)
 have am:sc*x<4294967296^t*(sc*y):=by
  have k1:4294967296^l.length≤4294967296^t*y:=by
   have:4294967296^t*4294967296^n1≤4294967296^t*y:=qI _ bp;rwa [←qQ,show t+n1=l.length by omega]at this
  rw[jY];exact kt (zH bA k1) S
 have T1:=zF fun W (g:RN W P A c l) (hp:∀ b,P b→b<W.heap.size)=>fj P A c l sc W g hp dx (by omega) aR
 have T2:=zF fun W (g:RN W P' A' c' m) (hp:∀ b,P' b→b<W.heap.size)=>fj P' A' c' m sc W g hp dy (by omega) aR
 rw[bB]at T1
 rw[bD,V]at T2
 rw[V]at tc
 rw[V]
 have au:(sc*x) /(sc*y)=x/y:=Nat.mul_div_mul_left _ _ S
 have av:(sc*x)%(sc*y)/sc=x%y:=by rw[Nat.mul_mod_mul_left,Nat.mul_div_cancel_left _ S]
 generalize x%y=rr at *
 have a5:0<sc*y:=Nat.mul_pos S T
 have dD:=xU (sc*y)
 have aC:=zi (B:=4294967296) (by omega) (sc*y)
 obtain⟨D,hD⟩:=eV (sc*y)
 obtain⟨X,hX⟩:=eV (sc*x)
 rw[hD]at au av a5 dD aC ah aB am T2
 rw[hX]at au av am T1
 have cp:n<90000:=by omega
 have cn:l.length<90000:=by omega
 have i1:(n:Int)-1=(n1:Int):=by omega
 have i2:n1<n:=by omega
 have i3:((n:Int)==1)=false:=eqB (by omega)
 have i4:(l.length:Int)+1-(n:Int)=(t:Int):=by omega
 have i5:(4294967296:Int) /((top:Int)+1)=(sc:Int):=by rw[←bt];simp
 have cs:(4294967296:Int).tdiv ((top:Int)+1)=(sc:Int):=by rw[uT (by omega)];exact i5
 have i6:((top:Int)+1==0)=false:=eqB (by omega)
 have i7:IntKind.u64.wrap ((top:Int)+1)=(top:Int)+1:=qf _ (by omega)
 have i8:IntKind.u64.wrap (sc:Int)=(sc:Int):=qf _ (by omega)
 have i9:¬(top:Int)+1=0:=by omega
 obtain⟨a2,rfl,ck,q1⟩:=h'.at_ (i:=n1) (by omega)
 rw[bu]at q1
 have bR:=zF tc
 have bK:=zF aQ
 have bI:=zF am
 have ab:=zF Y
 have bM:=zF au
 have bN:=zF av
 have ax:=zF aC
 have aa:=zF ah
 have aV:=zF aB
 have bP:=zF S
 have bQ:=zF (show sc<4294967297 by omega)
 have bJ:=zF dD
 clear tc aQ am Y au av aC ah aB hX hD bp bA bB bD bt bu cc b4 f T b9 dx dy S aR cd bo dD
 go_enter Tryz.func79,Tryz.ntmps79
 go_wp2_with fail
 refine bR.out.mono ?_
 rintro e r ⟨rfl,nd,rfl⟩
 obtain⟨W,g⟩:=eW (w.drewN nd)
 have q2:W.cell? (a2.add n1)=some (.int .u64 (top:Int)):=by rw[g];exact q1
 have H:=zF (show W.heap.size=w.heap.size by rw[g];rfl)
 have a3:Below w.heap.size w W:=by rw[g];exact qp (zo _ _) _
 have bf:RN W P A c l:=by rw[g];exact h.drewN _
 have bg:RN W P' (some a2) c' m:=by rw[g];exact h'.drewN _
 rw[←g]
 have aY:=zF (T1.out W bf (by rw[H.out];exact hP))
 clear g q1 T1 bf h h'
 go_wp2_with fail
 refine aY.out.mono ?_
 rintro e r ⟨u0,rfl,d,bv,a8,aT,ad⟩
 have ch:=ad.size
 have b6:=d.lt
 have aZ:=zF (T2.out r (bg.below ad (by rw[H.out];exact bd)) (by have:=H.out;intro b a;have:=bd b a;omega))
 clear T2 bg q2
 go_wp2_with fail
 refine aZ.out.mono ?_
 rintro e w2 ⟨v0,rfl,bm,bw,ai,aU,ae⟩
 have ci:=ae.size
 have aF:OB w2 r.heap.size (some ⟨r.heap.size,0,none⟩) (n+1) v0:=kq bm (zG _) ⟨fun x M=>by have:=ai x M;omega,by omega⟩ (by omega) (by unfold maxLen;omega)
 have aS:=kW _ _ _ _ _ aF.rn ai
 have aH:=(aF.trim32 ai).rn
 rw[aU,aa.out,bw]at aS
 rw[aU,aa.out]at aH
 have bS:=zF aS
 clear aS aF bm bw ai aU aZ aY
 go_wp2_with fail
 refine bS.out.mono ?_
 rintro e w3 ⟨rfl,ce⟩
 obtain rfl:w2=w3:=ce
 have co:=qt (P:=Tryz.prog) 28 65 (.int .u64 0) 8 Tryz.underlying28 kU rfl .i64 .i64 t (by have:=ab.out;omega) (by have:=ab.out;omega)
 have b8:=qt (P:=Tryz.prog) 28 65 (.int .u64 0) 8 Tryz.underlying28 kU rfl .i64 .i64 (n+1) (by omega) (by omega)
 simp only[vj,qO]at b8
 have cq:t≤90001:=by have:=ab.out;omega
 go_wp2_with fail
 have aI:=H.out
 have bl:=((d.below ae b6).alloc (.cells (madeCells #[.int .u64 0] t) 65)).alloc (.cells (madeCells #[.int .u64 0] (n+1)) 65)
 have bk:=(wD w2 t).alloc (.cells (madeCells #[.int .u64 0] (n+1)) 65)
 have bn:Blk ((w2.alloc (.cells (madeCells #[.int .u64 0] t) 65)).alloc (.cells (madeCells #[.int .u64 0] (n+1)) 65)) (w2.heap.size+1) (List.replicate (n+1) 0):=by
  have:=wD (w2.alloc (.cells (madeCells #[.int .u64 0] t) 65)) (n+1);simpa using this
 have bh:=(aH.alloc_ (fun b a=>a.2) (.cells (madeCells #[.int .u64 0] t) 65)).alloc_ (fun b a=>by have:=a.2;simp;omega) (.cells (madeCells #[.int .u64 0] (n+1)) 65)
 have a4:=((a3.trans (ad.mono (by omega))).trans (ae.mono (by omega))).alloc (by omega) (.cells (madeCells #[.int .u64 0] t) 65)|>.alloc (by simp;omega) (.cells (madeCells #[.int .u64 0] (n+1)) 65)
 have Hs:=zF (xW t)
 clear d aH a3 ad ae aI
 go_loopw [14] (fun iv wr=>∃(k:Nat) (z:Int) (L qs s:List Nat),iv=.int .i64 z∧wB k z∧k≤t∧gm 4294967296 X D L qs k∧Hid (L.length=l.length+1)∧Hid (qs.length=t)∧Hid (s.length=n+1)∧Dig L∧Dig qs∧Blk wr W.heap.size L∧Blk wr w2.heap.size qs∧Blk wr (w2.heap.size+1) s∧RN wr (In r.heap.size w2.heap.size) (some ⟨r.heap.size,0,none⟩) n (digs 4294967296 D)∧Below w.heap.size w wr) (fun iv _=>(intOf iv+1).toNat)
 case atStart=>exact⟨t,_,u0,List.replicate t 0,_,rfl,Hs.out,by omega,by rw[←aT];exact gm.start (by simp) (by rw[aT];exact bI.out),zF bv,zF (by simp),zF (by simp),a8,by intro x M;simp at M;omega,bl,bk,bn,bh,a4⟩
 case round =>
  obtain⟨k,z,L,qs,s,rfl,hz,hk,Q,N,U,HW,C,O,d,F,J,o,u⟩:=hrel;clear bl bk bn bh a4 aT bv a8;rcases hz with⟨rfl,rfl⟩|⟨j,rfl,rfl⟩
  · obtain⟨v1,v2⟩:=Q.fin;rw[bM.out]at v1;have cf:=u.size;have aI:=H.out;have aE:=kq (c:=l.length+1) d (base:=w.heap.size) (by omega) ⟨fun x M=>by have:=C x M;omega,by have:=N.out;omega⟩ (by have:=N.out;omega) (by unfold maxLen;omega);have aD:=kq (c:=t) F (base:=w.heap.size) (by omega) ⟨fun x M=>by have:=O x M;omega,by have:=U.out;omega⟩ (by have:=U.out;omega) (by unfold maxLen;omega);have tu:=kW _ _ _ _ _ aE.rn C;have bc:=aE.trim32 C;have tq:=fun w h=>kW (fun b=>b<w.heap.size) (some ⟨w2.heap.size,0,none⟩) t qs w h O;have ba:=aD.trim32 O;rw[N.out]at tu;have br:(digs 4294967296 (val 4294967296 L)).length<100000:=by have:=jD (B:=4294967296) (by omega) C;have:=N.out;omega
    have ts:=fm _ _ _ _ sc _ bc.rn (fun b a=>a.2) (xU _) br bP.out bQ.out;rw[v1]at ba tq;rw[U.out]at tq;have aX:=zF (show val 4294967296 (digs 4294967296 (val 4294967296 L))/sc=rr by rw[v2,zi (B:=4294967296) (by omega),bN.out]);have Tu:=zF tu;have Ts:=zF ts;have Tq:=zF tq;have cb:RN _ (fun b=>b<_) (some ⟨w2.heap.size,0,none⟩) t qs:=aD.rn.mono fun b a=>a.2;clear Q C O d F J o aE bc tu ts tq br v1 v2 aD aI;go_wp2_with fail;refine Tu.out.mono ?_;rintro e w5 ⟨rfl,rfl⟩;go_wp2_with fail;refine Ts.out.mono ?_;rintro e w6 ⟨A6,c6,rfl,b2,ag⟩;go_wp2_with fail;refine(Tq.out w6 ((cb.below ag fun b a=>a).mono fun b a=>zH a ag.size)).mono ?_;rintro e w7 ⟨rfl,rfl⟩;go_wp2;go_ret2;exact⟨_,_,A6,c6,by rw[aX.out];rfl,ba.below ag (zG _),by rw[←aX.out];exact b2.rt,u.trans (ag.mono cf)⟩
  · have bZ:=N.out;have a7:=aa.out;have e1:=bK.out;have b7:=ab.out;have a6:=bJ.out;obtain⟨bE,aG,f⟩:=tN (k:=j) e1 C a6 a7 (by omega) aV.out (by rw[ax.out];exact Q.2);rw[ax.out]at aG f;have d1:=o.cells n1 (by omega);obtain⟨y0,T⟩:=eV (j+n);obtain⟨y1,bC⟩:=eV (j+n1);rw[T,bC]at f;have r0:=d.cell (i:=y0) (by omega);have r1:=d.cell (i:=y1) (by omega);rw[yW]at d1;obtain⟨a0,bi⟩:=eV (dg L y0);obtain⟨a1,bj⟩:=eV (dg L y1);obtain⟨vt,bz⟩:=eV (dg (digs 4294967296 D) n1);have bx:=aV.out;have bF:=C.dgLt y0;have bG:=C.dgLt y1;rw[bi]at r0 f bF;rw[bj]at r1 f bG;rw[bz]at d1 f bx;obtain⟨tt,Y⟩:=eV (a0*4294967296+a1);rw[Y]at f;obtain⟨G0,aj⟩:=eV (tt/vt);rw[aj]at f;have bX:G0≤tt:=by rw[←aj];exact vD _ _
    have f0:(a0:Int)*4294967296+(a1:Int)=(tt:Int):=by omega
    have f1:(tt:Int) /(vt:Int)=(G0:Int):=by rw[←um,aj]
    have aA:(tt:Int).tdiv (vt:Int)=(G0:Int):=by rw[uT (by omega)];exact f1
    have f2:IntKind.u64.wrap ((a0:Int)*4294967296)=(a0:Int)*4294967296:=qf _ (by omega);have f3:IntKind.u64.wrap (tt:Int)=(tt:Int):=qf _ (by omega);have f4:IntKind.u64.wrap (G0:Int)=(G0:Int):=qf _ (by omega);have f5:((vt:Int)==0)=false:=eqB (by omega);have f6:¬ vt=0:=by omega
    have c0:(j:Int)+(n:Int)=(y0:Int):=by omega
    have bU:(y0:Int)-1=(y1:Int):=by omega
    have b0:(y0:Int)<(l.length:Int)+1:=by omega
    have b1:(y1:Int)<(l.length:Int)+1:=by omega
    have bT:=zF bE;have aW:Hid (j+n+1≤l.length+1):=zF (by omega);have be:=zF aG;have ar:=zF f;have cg:=zF T;have cm:j<90001:=by omega
    have cr:y0<200000:=by omega
    clear bZ a7 e1 b7 a6 bE aG f bC bi bj bz bx bF bG Y aj bX T;go_wp2_with fail;go_quiet (fail);obtain⟨bb,aJ,aK,an⟩:∃ bb:Bool,decide ((4294967296:Int)≤(G0:Int))=bb∧decide (4294967296≤G0)=bb∧Hid (bb=true↔4294967296≤G0):=⟨decide (4294967296≤G0),by simp only[decide_eq_decide];omega,rfl,zF (by simp)⟩
    go_upto_if 94 with fail;go_cut [15] (fun s15 wx=>∃ G:Nat,s15=.int .u64 (G:Int)∧dR 4294967296 (val 4294967296 L) j D G∧wx=World.drewN wr nq);case first =>
     rcases bb with _|_
     · have bY:dR 4294967296 (val 4294967296 L) j D G0:=⟨(qH G0 4294967296).elim id (fun h1=>absurd (an.out.2 h1) (by simp)),ar.out⟩
       clear aJ aK an f0 f1 aA f2 f3 f4 f5 f6 ar;go_wp2_with fail;go_meet;case rel=>exact⟨G0,rfl,bY,rfl⟩
     · have b5:dR 4294967296 (val 4294967296 L) j D 4294967295:=⟨by omega,by have:=be.out;exact Nat.le_of_lt_succ this⟩
       clear aJ aK an f0 f1 aA f2 f3 f4 f5 f6 ar;go_wp2_with fail;go_meet;case rel=>exact⟨4294967295,rfl,b5,rfl⟩
    case rest =>
     obtain⟨G,rfl,E,rfl⟩:=hcut;clear aJ aK an be ar f0 f1 aA f2 f3 f4 f5 f6 r0 r1 d1 bU b0 b1;have ap:=d.drewN nq;have ao:=F.drewN nq;have aq:=J.drewN nq;have ak:=o.drewN nq;have ac:=qp u nq;clear d F J o u;go_wp2_with fail;go_loopw [15] (fun gv wr=>∃(G:Nat) (s:List Nat),gv=.int .u64 (G:Int)∧dR 4294967296 (val 4294967296 L) j D G∧Hid (s.length=n+1)∧Blk wr W.heap.size L∧Blk wr w2.heap.size qs∧Blk wr (w2.heap.size+1) s∧RN wr (In r.heap.size w2.heap.size) (some ⟨r.heap.size,0,none⟩) n (digs 4294967296 D)∧Below w.heap.size w wr) (fun gv _=>(intOf gv).toNat);case atStart=>exact⟨G,s,rfl,E,HW,ap,ao,aq,ak,ac⟩
     case round =>
      clear E HW ap ao aq ak ac;obtain⟨G,s,rfl,E,HW,d,F,J,o,u⟩:=hrel;have Z:=H.out;have aP:=zA4 W.heap.size (w2.heap.size+1) j n (l.length+1) G _ _ _ L _ s wr d J o (by omega) (fun b a=>by have:=a.2;omega) C (xU D) N.out aa.out HW.out aW.out (by omega) E.1 bT.out;rw[ax.out]at aP;have az:=zF aP;clear Z aP;go_wp2_with fail;refine az.out.mono ?_;rintro e w5 ⟨L5,W5,aL,bV,aO,aM,aw,I,⟨rfl,K⟩|⟨rfl,rfl,K⟩⟩
      · have bq:=zAe (by omega) a5 E.2 K;have aN:j<qs.length:=by have:=U.out;have:=aW.out;omega
        have b3:=Q.step aN K bq;have bs:w2.heap.size≠W.heap.size:=by omega
        have Z:=H.out;have R:Blk w5 w2.heap.size qs:=(I.block _ bs (by omega)).trans F;have al:=o.two I (fun b a=>by have:=a.1;have:=a.2;omega);have af:=u.trans (I.below (B:=w.heap.size) (by omega) (by omega));have q3:=R.cell aN;have q4:=R.free j;have ao:=R.set j G;have bW:=O.set j G E.1;have ac:=af.setCell (p:=⟨w2.heap.size,j,none⟩) (by show w.heap.size≤w2.heap.size;omega) (.int .u64 (G:Int));have ak:RN (World.setCell w5 ⟨w2.heap.size,j,none⟩ (.int .u64 (G:Int))) (In r.heap.size w2.heap.size) (some ⟨r.heap.size,0,none⟩) n (digs 4294967296 D):=al.keep fun q hq=>qB (w:=w5) (ji _ _ _ q.block (by have:=hq.2;show q.block≠w2.heap.size;omega));have ap:=aL.other (p:=⟨w2.heap.size,j,none⟩) (by show W.heap.size≠w2.heap.size;omega) (.int .u64 (G:Int));have aq:=aM.other (p:=⟨w2.heap.size,j,none⟩) (by show w2.heap.size+1≠w2.heap.size;omega) (.int .u64 (G:Int));have bL:Hid ((qs.set j G).length=t):=zF (by simpa using U.out);have k1:j<t:=by omega
        have bO:=zF (xW j);have bH:=zF aO;have ay:=zF aw;clear Q O u o d F J aL R aM al af I K bq aO aw bs Z aN az E;go_wp2;go_roundw;case rel=>exact⟨j,_,L5,qs.set j G,W5,rfl,bO.out,by omega,b3,bH,bL,ay,bV,bW,ap,ao,aq,ak,ac⟩
        case measure=>simp[intOf]
      · have ca:=jh (xB _) K;obtain⟨G,rfl⟩:∃ k,G=k+1:=⟨G-1,by omega⟩
        have a9:dR 4294967296 (val 4294967296 L5) j D G:=⟨by have:=E.1;omega,Nat.le_of_lt_succ K⟩
        have cj:IntKind.u64.wrap (G:Int)=(G:Int):=qf _ (by have:=a9.1;omega);have Z:=H.out;have R:Blk w5 w2.heap.size qs:=(I.block _ (by omega) (by omega)).trans F;have al:=o.two I (fun b a=>by have:=a.1;have:=a.2;omega);have af:=u.trans (I.below (B:=w.heap.size) (by omega) (by omega));have ay:=zF aw;clear Q u o d F J I K aO aw Z az E ca;go_wp2;go_roundw;case rel=>exact⟨G,W5,by go_num,a9,ay,aL,R,aM,al,af⟩
        case measure=>simp[intOf]
theorem nS (P P':Nat→Prop)(A A':Option Addr)(c c':Nat)(x y:Nat)(w:World)(h:RN w P A c (digs 4294967296 x))(g:RN w P' A' c' (digs 4294967296 y))(j:∀ b,P b→b<w.heap.size)(k:∀ b,P' b→b<w.heap.size)(l:(digs 4294967296 x).length<90000)(i:0<y) :
 Calls Tryz.prog 79 #[.slice A (digs 4294967296 x).length c,.slice A' (digs 4294967296 y).length c'] w fun e w'=>∃ a c1 d f,e=.returned (.tuple #[.slice a (digs 4294967296 (x/y)).length c1,.slice d (digs 4294967296 (x%y)).length f])∧OB w' w.heap.size a c1 (digs 4294967296 (x/y))∧RN w' (fun b=>b<w'.heap.size∧(P b∨Tu w' b)) d f (digs 4294967296 (x%y))∧Below w.heap.size w w':=by
 have m:0<(digs 4294967296 y).length:=by
  rw[jq (by omega) i];simp
 by_cases hs:x<y∨(digs 4294967296 y).length=1
 · exact aV P P' A A' c c' x y w h g j (by omega) i hs
 · exact nT P P' A A' c c' x y w h g j k l (by omega) (by omega)
theorem bV (P P':Nat→Prop)(A A':Option Addr)(c c':Nat)(x y:Nat)(w:World)(h:RN w P A c (digs 4294967296 x))(g:RN w P' A' c' (digs 4294967296 y))(l:∀ b,P b→b<w.heap.size)(m:∀ b,P' b→b<w.heap.size)(p:(digs 4294967296 x).length<90000)(i:0<y) :
 Calls Tryz.prog 79 #[.slice A (digs 4294967296 x).length c,.slice A' (digs 4294967296 y).length c'] w fun e w'=>∃ a c1 d f,e=.returned (.tuple #[.slice a (digs 4294967296 (x/y)).length c1,.slice d (digs 4294967296 (x%y)).length f])∧OB w' w.heap.size a c1 (digs 4294967296 (x/y))∧RN w' (fun b=>b<w'.heap.size) d f (digs 4294967296 (x%y))∧Below w.heap.size w w' :=
 (nS P P' A A' c c' x y w h g l m p i).mono fun _ _ ⟨a,c1,d,f,o,k,hR,j⟩=>⟨a,c1,d,f,o,k,RN.mono hR fun _ n=>n.1,j⟩
def fo (w:World) (v:Value):Nat:=match v with
 | .slice (some a) n _=>val 4294967296 ((List.range n).map fun i=>match w.cell? (a.add i)with|some (.int _ z)=>z.toNat|_=>0)
 | _=>0
theorem RN.readD {w:World}{P:Nat→Prop}{A:Option Addr}{c x:Nat}(h:RN w P A c (digs 4294967296 x)):fo w (.slice A (digs 4294967296 x).length c)=x:=by
 have b:=zi (B:=4294967296) (by omega) x;rcases za (digs 4294967296 x).length with a|a
 · have d:=qV a;rw[d]at b ⊢;cases A<;>simp[fo]<;>simpa using b
 · obtain⟨ad,rfl,_,_⟩:=h.at_ a;simp only[fo];refine Eq.trans (congrArg _ ?_) b;apply List.ext_getElem?;intro i;rw[yw];by_cases hi:i<(digs 4294967296 x).length
   · rw[List.getElem?_range hi,qL hi,yc,h.cells i hi,uH hi];simp
   · rw[jH (by simp;omega),jH (by omega)];rfl
theorem te {x y:Nat}(h:wK x y=0):x=y:=by rcases wA x y with a|a|a<;>omega
theorem xm {v M k:Nat}(h:v≤M)(a:(digs 4294967296 M).length≤k):(digs 4294967296 v).length≤k:=zK (jO (by omega) h) a
theorem mD {x y j k:Nat}(a:(digs 4294967296 x).length≤j)(b:(digs 4294967296 y).length≤k):(digs 4294967296 (x*y)).length≤j+k:=by
 have c:=jR (B:=4294967296) (by omega) x;have d:=jR (B:=4294967296) (by omega) y;have e:4294967296 ^(digs 4294967296 x).length≤4294967296^j:=qE (by omega) a;have f:4294967296 ^(digs 4294967296 y).length≤4294967296^k:=qE (by omega) b;refine qR (by omega) ?_;rw[qQ];exact Nat.mul_lt_mul'' (by omega) (by omega)
theorem mF {x y M k:Nat}(d:x≤M)(e:y≤M)(a:(digs 4294967296 M).length≤k):(digs 4294967296 (x+y)).length≤k+1:=by
 have b:=jR (B:=4294967296) (by omega) M;have c:4294967296 ^(digs 4294967296 M).length≤4294967296^k:=qE (by omega) a;refine qR (by omega) ?_;rw[zx];omega
def RT (w:World) (A:Option Addr) (c:Nat) (l:List Nat):Prop:=RN w (fun b=>b<w.heap.size∧Tu w b) A c l
theorem zAa (A A':Option Addr)(c c' x y:Nat)(w:World)(h:RT w A c (digs 4294967296 x))(k:RU w A' c' (digs 4294967296 y))(m:(digs 4294967296 x).length<90000)(l:0<y) :
 Calls Tryz.prog 49 #[.slice A (digs 4294967296 x).length c,.slice A' (digs 4294967296 y).length c'] w fun e w'=>∃ d c1,e=.returned (.slice d (digs 4294967296 (x%y)).length c1)∧RT w' d c1 (digs 4294967296 (x%y))∧Below w.heap.size w w':=by
 have n:=zF (nS _ _ A A' c c' x y w h k (fun _ a=>a.1) (fun _ a=>a) m l)
 go_enter Tryz.func49,Tryz.ntmps49
 go_wp2_with fail
 refine n.out.mono ?_
 rintro e p ⟨d,c1,i,j,rfl,o,hR,f⟩
 go_wp2
 go_ret
 exact⟨i,j,rfl,RN.mono hR fun b a=>⟨a.1,a.2.elim (fun g=>⟨g.2.choose,(f.block b g.1).trans g.2.choose_spec⟩) id⟩,f⟩
theorem xg (A A':Option Addr)(c c' x y:Nat)(w:World)(h:RU w A c (digs 4294967296 x))(g:RU w A' c' (digs 4294967296 y))(k:(digs 4294967296 x).length<90000)(i:0<y) :
 Calls Tryz.prog 49 #[.slice A (digs 4294967296 x).length c,.slice A' (digs 4294967296 y).length c'] w fun e w'=>∃ a c1,e=.returned (.slice a (digs 4294967296 (x%y)).length c1)∧RU w' a c1 (digs 4294967296 (x%y))∧Below w.heap.size w w':=by
 have l:=zF (bV _ _ A A' c c' x y w h g (fun _ b=>b) (fun _ b=>b) k i)
 go_enter Tryz.func49,Tryz.ntmps49
 go_wp2_with fail
 refine l.out.mono ?_
 rintro e n ⟨a,c1,d,f,rfl,m,hR,j⟩
 go_wp2
 go_ret
 exact⟨d,f,rfl,hR,j⟩
theorem aW (A A' b:Option Addr)(c c' cm x y m:Nat)(w:World)(h:RU w A c (digs 4294967296 x))(j:RU w A' c' (digs 4294967296 y))(o:RU w b cm (digs 4294967296 m))(s:(digs 4294967296 x).length<40000)(t:(digs 4294967296 y).length<40000)(k:0<m) :
 Calls Tryz.prog 82 #[.slice A (digs 4294967296 x).length c,.slice A' (digs 4294967296 y).length c',.slice b (digs 4294967296 m).length cm] w fun e w'=>∃ a c1,e=.returned (.slice a (digs 4294967296 (x*y%m)).length c1)∧RU w' a c1 (digs 4294967296 (x*y%m))∧Below w.heap.size w w':=by
 have p:=zF (bW _ _ A A' c c' x y w h j (fun _ f=>f) (fun _ f=>f) (by omega) (by omega))
 go_enter Tryz.func82,Tryz.ntmps82
 go_wp2_with fail
 refine p.out.mono ?_
 rintro e r ⟨a,c1,rfl,n,d⟩
 have q:=zF (xg a b c1 cm (x*y) m r n.ru (o.up d) (by have:=mD (zG (digs 4294967296 x).length) (zG (digs 4294967296 y).length);omega) k)
 go_wp2_with fail
 refine q.out.mono ?_
 rintro e w2 ⟨g,i,rfl,hR,l⟩
 go_wp2
 go_ret
 exact⟨g,i,rfl,hR,d.trans (l.mono d.size)⟩
def RC (w:World) (C:Crv) (v:Value):Prop:=∃(Ap An Ab Ax Ay:Option Addr) (cp cn cb cx cy:Nat),
 v=.agg #[.slice Ap (digs 4294967296 C.M).length cp,.slice An (digs 4294967296 (val 18446744073709551616 C.nl)).length cn,.slice Ab (digs 4294967296 C.bb).length cb,.slice Ax (digs 4294967296 (val 18446744073709551616 C.xl)).length cx,.slice Ay (digs 4294967296 (val 18446744073709551616 C.yl)).length cy,.int .i64 (C.size:Int)] ∧
 RU w Ap cp (digs 4294967296 C.M)∧RU w An cn (digs 4294967296 (val 18446744073709551616 C.nl))∧RU w Ab cb (digs 4294967296 C.bb)∧RU w Ax cx (digs 4294967296 (val 18446744073709551616 C.xl))∧RU w Ay cy (digs 4294967296 (val 18446744073709551616 C.yl))
theorem RC.ext {w X:World}{C:Crv}{v:Value}(h:RC w C v)(a:Ext w X):RC X C v:=by
 obtain⟨Ap,An,Ab,Ax,Ay,cp,cn,cb,cx,cy,e,b,c,d,f,g⟩:=h;exact⟨Ap,An,Ab,Ax,Ay,cp,cn,cb,cx,cy,e,b.up a,c.up a,d.up a,f.up a,g.up a⟩
theorem jG:(Tryz.prog.info? 30).map (·.size)=some 6:=by kernel_rfl
theorem di:(Tryz.prog.info? 45).map (·.size)=some 3:=by kernel_rfl
theorem dV {C:Crv}{v:Value}(A A':Option Addr)(c c' x y:Nat)(w:World)(m:RC w C v)(h:RU w A c (digs 4294967296 x))(g:RU w A' c' (digs 4294967296 y))(n:(digs 4294967296 x).length<40000)(p:(digs 4294967296 y).length<40000)(i:0<C.M) :
 Calls Tryz.prog 44 #[v,.slice A (digs 4294967296 x).length c,.slice A' (digs 4294967296 y).length c'] w fun e w'=>∃ a c1,e=.returned (.slice a (digs 4294967296 (x*y%C.M)).length c1)∧RU w' a c1 (digs 4294967296 (x*y%C.M))∧Ext w w':=by
 obtain⟨Ap,An,Ab,Ax,Ay,cp,cn,cb,cx,cy,rfl,j,q,r,s,t⟩:=m
 have b:=fun o=>zL w o
 have d:=fun o=>aW A A' Ap c c' cp x y C.M (w.alloc o) (h.up (b o)) (g.up (b o)) (j.up (b o)) n p i
 have f:=zF d
 clear d b
 go_enter Tryz.func44,Tryz.ntmps44
 go_wp2_with (go_at_call 82;refine(f.out _).mono ?_;rintro e w2 ⟨a,c1,rfl,l,k⟩)
 go_ret
 exact⟨a,c1,rfl,l,(zL w _).trans k⟩
theorem Tu.ext {w X:World}{b:Nat}(h:Tu w b)(a:Ext w X):Tu X b:=let ⟨cur,hc⟩:=h;⟨cur,a.at_ hc⟩
theorem OB.rt1 {w:World}{base:Nat}{A:Option Addr}{c:Nat}{l:List Nat}(h:OB w base A c l):RT w A c l:=h.tt
theorem RT.ru {w:World}{A:Option Addr}{c:Nat}{l:List Nat}(h:RT w A c l):RU w A c l:=RN.mono h fun _ a=>a.1
theorem RT.up {w X:World}{A:Option Addr}{c:Nat}{l:List Nat}(h:RT w A c l)(b:Ext w X):RT X A c l:=(RN.below h b fun _ a=>a.1).mono fun _ a=>⟨zH a.1 b.bsize,a.2.ext b⟩
theorem zCh {C:Crv}{v:Value}(A A':Option Addr)(c c' x y:Nat)(w:World)(hc:RC w C v)(h:RU w A c (digs 4294967296 x))(W:RU w A' c' (digs 4294967296 y))(hl:(digs 4294967296 x).length<40000)(ac:(digs 4294967296 C.M).length<40000)(ad:y≤x+C.M)(Z:0<C.M) :
 Calls Tryz.prog 51 #[v,.slice A (digs 4294967296 x).length c,.slice A' (digs 4294967296 y).length c'] w fun e w'=>∃ a c1,e=.returned (.slice a (digs 4294967296 ((x+C.M-y)%C.M)).length c1)∧RT w' a c1 (digs 4294967296 ((x+C.M-y)%C.M))∧Ext w w':=by
 obtain⟨Ap,An,Ab,Ax,Ay,cp,cn,cb,cx,cy,rfl,I,h2,h3,h4,h5⟩:=hc
 have L:(digs 4294967296 (x+C.M)).length<50000:=by
  have P:=zH (jR (B:=4294967296) (by omega) x) (qE (by omega) (kA hl));have Q:=zH (jR (B:=4294967296) (by omega) C.M) (qE (by omega) (kA ac));obtain⟨k,t⟩:=eW 40000;rw[←t]at P Q;have:=qR (B:=4294967296) (n:=k+1) (by omega) (show x+C.M<4294967296 ^(k+1) by rw[zx];generalize 4294967296^k=R at *;omega);omega
 have af:(digs 4294967296 (x+C.M-y)).length≤50000:=by
  obtain⟨k,t⟩:=eW 50000;rw[←t]at L ⊢;exact qR (by omega) (jh (Nat.sub_le (x+C.M) y) (zH (jR (B:=4294967296) (by omega) (x+C.M)) (qE (by omega) (kA L))))
 obtain⟨q,u⟩:=eV w.heap.size
 obtain⟨W0,o⟩:=eW (w.alloc (.cells #[.slice Ap (digs 4294967296 C.M).length cp,.slice An (digs 4294967296 (val 18446744073709551616 C.nl)).length cn,.slice Ab (digs 4294967296 C.bb).length cb,.slice Ax (digs 4294967296 (val 18446744073709551616 C.xl)).length cx,.slice Ay (digs 4294967296 (val 18446744073709551616 C.yl)).length cy,.int .i64 (C.size:Int)] 30))
 have J:Ext w W0:=by rw[o];exact zL _ _
 have F:W0.cell? ⟨q,0,none⟩=some (.slice Ap (digs 4294967296 C.M).length cp):=by rw[o,←u];exact zP (zS w _) 0
 have g:=zF J
 clear J
 go_enter Tryz.func51,Tryz.ntmps51
 go_upto_region 1 with fail
 rw[←o]
 have ae:=zF o
 have Hq:=zF u
 clear o u
 refine zZ (by kernel_rfl) 10 [0,0,2,7,0,31,0,64,255,511] [] (fun j f X=>match j with
  | 0=>f 0=.slice A (digs 4294967296 x).length c
  | 1=>f 1=.pointer (some ⟨q,0,none⟩)
  | 2=>f 2=.slice Ap (digs 4294967296 C.M).length cp
  | 3=>∃ a c1,f 3=.slice a (digs 4294967296 (x+C.M)).length c1∧RU X a c1 (digs 4294967296 (x+C.M))
  | 4=>f 4=.slice A' (digs 4294967296 y).length c'
  | 5=>∃ a c1,f 5=.slice a (digs 4294967296 (x+C.M-y)).length c1∧RT X a c1 (digs 4294967296 (x+C.M-y))
  | 6=>f 6=.pointer (some ⟨q,0,none⟩)
  | 7=>f 7=.slice Ap (digs 4294967296 C.M).length cp
  | 8=>∃ a c1,f 8=.slice a (digs 4294967296 ((x+C.M-y)%C.M)).length c1∧RT X a c1 (digs 4294967296 ((x+C.M-y)%C.M))
  | 9=>f 9=(f 8)
  | _=>True) (by kernel_rfl) [(7,0),(8,1),(9,2),(10,3),(11,4),(12,5),(13,6),(14,7),(15,8),(6,9)] (by kernel_rfl) ?_
 refine zJ 1 9 ?_
 refine zJ 2 8 ?_
 refine qC 3 7 1 F ?_
 refine qK 4 6 (fun f=>#[f 0,f 2]) (F':=50) (fun f X b hR=>?_) ?_
 · have S:f 0=_:=hR.out 0 rfl;have T:f 2=_:=hR.out 2 rfl;simp only[S,T];refine(uq _ _ A Ap c cp x C.M X (h.up (g.out.trans b)) (I.up (g.out.trans b)) (fun _ d=>d) (fun _ d=>d) (by omega) (by omega)).mono ?_;rintro e w2 ⟨a,c1,rfl,m,l⟩;exact⟨(.slice a (digs 4294967296 (x+C.M)).length c1),rfl,l,fun Y p=>⟨a,c1,rfl,m.ru.up p⟩⟩
 refine zJ 5 5 ?_
 refine qK 6 4 (fun f=>#[f 3,f 4]) (F':=81) (fun f X b hR=>?_) ?_
 · obtain⟨z,c3,(r:f 3=_),o3⟩:=hR.out 3 rfl;have U:f 4=_:=hR.out 4 rfl;simp only[r,U];refine(fN _ _ z A' c3 c' (x+C.M) y X o3 (W.up (g.out.trans b)) (fun _ d=>d) (fun _ d=>d) (by omega) ad).mono ?_;rintro e w2 ⟨a,c1,rfl,m,l⟩;exact⟨(.slice a (digs 4294967296 (x+C.M-y)).length c1),rfl,l,fun Y p=>⟨a,c1,rfl,(OB.rt1 m).up p⟩⟩
 refine zJ 7 3 ?_
 refine qC 8 2 6 F ?_
 refine qK 9 1 (fun f=>#[f 5,f 7]) (F':=49) (fun f X b hR=>?_) ?_
 · obtain⟨D,G,(s:f 5=_),N⟩:=hR.out 5 rfl;have V:f 7=_:=hR.out 7 rfl;simp only[s,V];refine(zAa D Ap G cp (x+C.M-y) C.M X N (I.up (g.out.trans b)) (by omega) Z).mono ?_;rintro e w2 ⟨a,c1,rfl,m,l⟩;exact⟨(.slice a (digs 4294967296 ((x+C.M-y)%C.M)).length c1),rfl,l,fun Y p=>⟨a,c1,rfl,m.up p⟩⟩
 refine zv 10 0 [(7,0),(8,1),(9,2),(10,3),(11,4),(12,5),(13,6),(14,7),(15,8)] (fun f X b hR K hK=>?_) ?_
 · obtain⟨E,c8,(i:f 8=_),O⟩:=hR.out 8 rfl;simp only[yZ,i];refine⟨?_⟩;go_simp;exact hK.out _ ((f 8)) _ (by simp only[yZ,i]) (zT _) trivial (fun _ _=>rfl)
 refine yF ⟨fun f X b hR aa ab=>?_⟩
 obtain⟨z,c3,(r:f 3=_),o3⟩:=hR 3 (by decide)
 obtain⟨D,G,(s:f 5=_),N⟩:=hR 5 (by decide)
 obtain⟨E,c8,(i:f 8=_),O⟩:=hR 8 (by decide)
 have H:f 9=(f 8):=hR 9 (by decide)
 simp only[yZ,r,s,i,H]
 clear hR aa ab r s i H
 refine zI ?_
 go_wp2
 go_ret
 exact⟨E,c8,rfl,O,g.out.trans b⟩
theorem tE {C:Crv}{v:Value}(A A':Option Addr)(c c' x y:Nat)(w:World)(i:RC w C v)(h:RU w A c (digs 4294967296 x))(b:RU w A' c' (digs 4294967296 y))(k:(digs 4294967296 x).length<40000)(l:(digs 4294967296 C.M).length<40000)(m:y≤x+C.M)(d:0<C.M) :
 Calls Tryz.prog 51 #[v,.slice A (digs 4294967296 x).length c,.slice A' (digs 4294967296 y).length c'] w fun e w'=>∃ a c1,e=.returned (.slice a (digs 4294967296 ((x+C.M-y)%C.M)).length c1)∧RU w' a c1 (digs 4294967296 ((x+C.M-y)%C.M))∧Ext w w' :=
 (zCh A A' c c' x y w i h b k l m d).mono fun _ _ ⟨a,c1,j,g,f⟩=>⟨a,c1,j,g.ru,f⟩
theorem oQ {x M k:Nat}(a:x≤M)(b:(digs 4294967296 M).length≤k):(digs 4294967296 x).length≤k :=
 qR (by omega) (zH (jh a (jR (B:=4294967296) (by omega) M)) (qE (by omega) b))
theorem Crv.Fine.len {C:Crv}(h:C.Fine):(digs 4294967296 C.M).length≤96:=by
 have a:=h.room;have b:(256:Nat)^C.size≤256^48:=qE (by omega) h.small;have c:(256:Nat)^48≤4294967296^96:=by decide +kernel
 exact qR (by omega) (zH a (zK b c))
def c0:Crv:=⟨0,0,0,0,[],[],[],[],[]⟩
theorem pV {fn:Func}{R:Ending→World→Prop}{a:Act}{W:World}{p:Tmp}{g:Nat}{ty:TypeId}{fr:Nat×Nat}{x0 x1 x2 x3 x4 x5:Value}(e:fn.results=#[.cell p 30])(d:a.tmps.getD p undef=.pointer (some ⟨g,0,none⟩))(b:a.defers=[])
 (c:W.heap[g]?=some (.cells #[x0,x1,x2,x3,x4,x5] ty fr)) (hR:R (.returned (.agg #[x0,x1,x2,x3,x4,x5])) W):bodyPost Tryz.prog fn R .ret a W :=
 vg (wu e a.tmps W g _ _ _ _ d c Tryz.underlying30 rfl jG) b hR
theorem zAc (a b c d e:Option Addr)(n1 i j k l c1 f c3 g h:Nat)(s:Int):(#[Value.slice a n1 c1,.slice b i f,.slice c j c3,.slice d k g,.slice e l h,.int .i64 s]:Array Value).all (·.oneCell')=true:=by simp[Value.oneCell']
theorem mR {c:Int}{C:Crv}(hC:IsC c C)(w:World):Calls Tryz.prog 9 #[.int .i64 c] w fun e w'=>∃ v,e=.returned v∧RC w' C v∧Ext w w':=by
 have n:(w.alloc (.cells #[.slice none 0 0,.slice none 0 0,.slice none 0 0,.slice none 0 0,.slice none 0 0,.int .i64 0] 30)).heap[w.heap.size]?=some (.cells #[.slice none 0 0,.slice none 0 0,.slice none 0 0,.slice none 0 0,.slice none 0 0,.int .i64 0] 30 (0,0)):=zS w _;rcases hC with⟨rfl,rfl⟩|⟨rfl,rfl⟩
 · go_enter Tryz.func9,Tryz.ntmps9;go_upto_region 3 with fail
   refine zR 11 [0,1,0,7,0,31,0,127,0,511,1023,2047] [] (fun j f X=>match j with
    | 0=>∃ b,f 0=.slice (some ⟨b,0,none⟩) 4 4∧RU X (some ⟨b,0,none⟩) 4 vu
    | 1=>∃ a c1,f 1=.slice a (digs 4294967296 (val 18446744073709551616 vu)).length c1∧OB X w.heap.size a c1 (digs 4294967296 (val 18446744073709551616 vu))
    | 2=>∃ b,f 2=.slice (some ⟨b,0,none⟩) 4 4∧RU X (some ⟨b,0,none⟩) 4 gZ
    | 3=>∃ a c1,f 3=.slice a (digs 4294967296 (val 18446744073709551616 gZ)).length c1∧OB X w.heap.size a c1 (digs 4294967296 (val 18446744073709551616 gZ))
    | 4=>∃ b,f 4=.slice (some ⟨b,0,none⟩) 4 4∧RU X (some ⟨b,0,none⟩) 4 x8
    | 5=>∃ a c1,f 5=.slice a (digs 4294967296 (val 18446744073709551616 x8)).length c1∧OB X w.heap.size a c1 (digs 4294967296 (val 18446744073709551616 x8))
    | 6=>∃ b,f 6=.slice (some ⟨b,0,none⟩) 4 4∧RU X (some ⟨b,0,none⟩) 4 gY
    | 7=>∃ a c1,f 7=.slice a (digs 4294967296 (val 18446744073709551616 gY)).length c1∧OB X w.heap.size a c1 (digs 4294967296 (val 18446744073709551616 gY))
    | 8=>∃ b,f 8=.slice (some ⟨b,0,none⟩) 4 4∧RU X (some ⟨b,0,none⟩) 4 gX
    | 9=>∃ a c1,f 9=.slice a (digs 4294967296 (val 18446744073709551616 gX)).length c1∧OB X w.heap.size a c1 (digs 4294967296 (val 18446744073709551616 gX))
    | 10=>f 10=.agg #[f 1,f 3,f 5,f 7,f 9,.int .i64 32]
    | _=>True) (by kernel_rfl) [(6,0),(7,1),(8,2),(9,3),(10,4),(11,5),(12,6),(13,7),(14,8),(15,9),(16,10)] (by kernel_rfl) ?_
   refine zv 1 10 [(8,2),(10,4),(12,6),(14,8)] (fun f X d hR K i=>?_) ?_
   · simp only[yZ];refine⟨?_⟩;go_simp;exact i.out _ (.slice (some ⟨X.heap.size,0,none⟩) 4 4) _ (by simp only[yZ]) (zL _ _) trivial (fun Y g=>⟨X.heap.size,rfl,((RN.lits X vu ⟨by decide,by decide⟩).mono (fun b h=>by rw[zz];exact h.2)).up g⟩)
   refine qK 2 9 (fun f=>#[f 0]) (F':=13) (fun f X d hR=>?_) ?_
   · obtain⟨F,(t:f 0=_),P⟩:=hR.out 0 rfl;simp only[t];refine(vY _ (some ⟨F,0,none⟩) 4 vu X P (fun _ h=>h) (by decide)).mono ?_;rintro e w2 ⟨a,c1,rfl,l,k⟩;exact⟨(.slice a (digs 4294967296 (val 18446744073709551616 vu)).length c1),rfl,k,fun Y g=>⟨a,c1,rfl,(l.mono (zK (zL w _).bsize d.bsize)).below g (zG _)⟩⟩
   refine zv 3 8 [(6,0),(7,1),(10,4),(12,6),(14,8)] (fun f X d hR K i=>?_) ?_
   · simp only[yZ];refine⟨?_⟩;go_simp;exact i.out _ (.slice (some ⟨X.heap.size,0,none⟩) 4 4) _ (by simp only[yZ]) (zL _ _) trivial (fun Y g=>⟨X.heap.size,rfl,((RN.lits X gZ ⟨by decide,by decide⟩).mono (fun b h=>by rw[zz];exact h.2)).up g⟩)
   refine qK 4 7 (fun f=>#[f 2]) (F':=13) (fun f X d hR=>?_) ?_
   · obtain⟨G,(u:f 2=_),Q⟩:=hR.out 2 rfl;simp only[u];refine(vY _ (some ⟨G,0,none⟩) 4 gZ X Q (fun _ h=>h) (by decide)).mono ?_;rintro e w2 ⟨a,c1,rfl,l,k⟩;exact⟨(.slice a (digs 4294967296 (val 18446744073709551616 gZ)).length c1),rfl,k,fun Y g=>⟨a,c1,rfl,(l.mono (zK (zL w _).bsize d.bsize)).below g (zG _)⟩⟩
   refine zv 5 6 [(6,0),(7,1),(8,2),(9,3),(12,6),(14,8)] (fun f X d hR K i=>?_) ?_
   · simp only[yZ];refine⟨?_⟩;go_simp;exact i.out _ (.slice (some ⟨X.heap.size,0,none⟩) 4 4) _ (by simp only[yZ]) (zL _ _) trivial (fun Y g=>⟨X.heap.size,rfl,((RN.lits X x8 ⟨by decide,by decide⟩).mono (fun b h=>by rw[zz];exact h.2)).up g⟩)
   refine qK 6 5 (fun f=>#[f 4]) (F':=13) (fun f X d hR=>?_) ?_
   · obtain⟨H,(x:f 4=_),R⟩:=hR.out 4 rfl;simp only[x];refine(vY _ (some ⟨H,0,none⟩) 4 x8 X R (fun _ h=>h) (by decide)).mono ?_;rintro e w2 ⟨a,c1,rfl,l,k⟩;exact⟨(.slice a (digs 4294967296 (val 18446744073709551616 x8)).length c1),rfl,k,fun Y g=>⟨a,c1,rfl,(l.mono (zK (zL w _).bsize d.bsize)).below g (zG _)⟩⟩
   refine zv 7 4 [(6,0),(7,1),(8,2),(9,3),(10,4),(11,5),(14,8)] (fun f X d hR K i=>?_) ?_
   · simp only[yZ];refine⟨?_⟩;go_simp;exact i.out _ (.slice (some ⟨X.heap.size,0,none⟩) 4 4) _ (by simp only[yZ]) (zL _ _) trivial (fun Y g=>⟨X.heap.size,rfl,((RN.lits X gY ⟨by decide,by decide⟩).mono (fun b h=>by rw[zz];exact h.2)).up g⟩)
   refine qK 8 3 (fun f=>#[f 6]) (F':=13) (fun f X d hR=>?_) ?_
   · obtain⟨I,(y:f 6=_),S⟩:=hR.out 6 rfl;simp only[y];refine(vY _ (some ⟨I,0,none⟩) 4 gY X S (fun _ h=>h) (by decide)).mono ?_;rintro e w2 ⟨a,c1,rfl,l,k⟩;exact⟨(.slice a (digs 4294967296 (val 18446744073709551616 gY)).length c1),rfl,k,fun Y g=>⟨a,c1,rfl,(l.mono (zK (zL w _).bsize d.bsize)).below g (zG _)⟩⟩
   refine zv 9 2 [(6,0),(7,1),(8,2),(9,3),(10,4),(11,5),(12,6),(13,7)] (fun f X d hR K i=>?_) ?_
   · simp only[yZ];refine⟨?_⟩;go_simp;exact i.out _ (.slice (some ⟨X.heap.size,0,none⟩) 4 4) _ (by simp only[yZ]) (zL _ _) trivial (fun Y g=>⟨X.heap.size,rfl,((RN.lits X gX ⟨by decide,by decide⟩).mono (fun b h=>by rw[zz];exact h.2)).up g⟩)
   refine qK 10 1 (fun f=>#[f 8]) (F':=13) (fun f X d hR=>?_) ?_
   · obtain⟨J,(z:f 8=_),T⟩:=hR.out 8 rfl;simp only[z];refine(vY _ (some ⟨J,0,none⟩) 4 gX X T (fun _ h=>h) (by decide)).mono ?_;rintro e w2 ⟨a,c1,rfl,l,k⟩;exact⟨(.slice a (digs 4294967296 (val 18446744073709551616 gX)).length c1),rfl,k,fun Y g=>⟨a,c1,rfl,(l.mono (zK (zL w _).bsize d.bsize)).below g (zG _)⟩⟩
   refine zv 11 0 [(6,0),(7,1),(8,2),(9,3),(10,4),(11,5),(12,6),(13,7),(14,8),(15,9)] (fun f X d hR K i=>?_) ?_
   · obtain⟨a,c1,(o:f 1=_),U⟩:=hR.out 1 rfl;obtain⟨A,c3,(p:f 3=_),o3⟩:=hR.out 3 rfl;obtain⟨B,L,(q:f 5=_),V⟩:=hR.out 5 rfl;obtain⟨D,M,(r:f 7=_),W⟩:=hR.out 7 rfl;obtain⟨E,N,(s:f 9=_),Z⟩:=hR.out 9 rfl;simp only[yZ,o,p,q,r,s];refine⟨?_⟩;go_simp;exact i.out _ (.agg #[f 1,f 3,f 5,f 7,f 9,.int .i64 32]) _ (by simp only[yZ,o,p,q,r,s]) (zT _) trivial (fun _ _=>rfl)
   refine yF ⟨fun f X d hR aa ab=>?_⟩;obtain⟨F,(t:f 0=_),P⟩:=hR 0 (by decide);obtain⟨a,c1,(o:f 1=_),U⟩:=hR 1 (by decide);obtain⟨G,(u:f 2=_),Q⟩:=hR 2 (by decide);obtain⟨A,c3,(p:f 3=_),o3⟩:=hR 3 (by decide);obtain⟨H,(x:f 4=_),R⟩:=hR 4 (by decide);obtain⟨B,L,(q:f 5=_),V⟩:=hR 5 (by decide);obtain⟨I,(y:f 6=_),S⟩:=hR 6 (by decide);obtain⟨D,M,(r:f 7=_),W⟩:=hR 7 (by decide);obtain⟨J,(z:f 8=_),T⟩:=hR 8 (by decide);obtain⟨E,N,(s:f 9=_),Z⟩:=hR 9 (by decide);have O:f 10=.agg #[f 1,f 3,f 5,f 7,f 9,.int .i64 32]:=hR 10 (by decide);simp only[yZ,t,o,u,p,x,q,y,r,z,s,O];clear hR aa ab t o u p x q y r z s O;refine zO (fun K i=>⟨zU (by kernel_rfl) (jX 30 (.tmp 2) (.tmp 16) rfl rfl rfl rfl (d.at_ n) jG rfl (zAc _ _ _ _ _ _ _ _ _ _ _ _ _ _ _ _) (fun Y1 g1 m g3=>i.out _ _ ?_))⟩);refine zI ?_;go_wp2;refine pV rfl rfl rfl g1 ⟨_,rfl,⟨a,A,B,D,E,c1,c3,L,M,N,rfl,(U.just m (d.at_ n) (by decide)).ru,(o3.just m (d.at_ n) (by decide)).ru,(V.just m (d.at_ n) (by decide)).ru,(W.just m (d.at_ n) (by decide)).ru,(Z.just m (d.at_ n) (by decide)).ru⟩,m.ext ((zL w _).trans d) (zG _)⟩
 · go_enter Tryz.func9,Tryz.ntmps9;go_upto_region 5 with fail
   refine zR 11 [0,1,0,7,0,31,0,127,0,511,1023,2047] [] (fun j f X=>match j with
    | 0=>∃ b,f 0=.slice (some ⟨b,0,none⟩) 6 6∧RU X (some ⟨b,0,none⟩) 6 vr
    | 1=>∃ a c1,f 1=.slice a (digs 4294967296 (val 18446744073709551616 vr)).length c1∧OB X w.heap.size a c1 (digs 4294967296 (val 18446744073709551616 vr))
    | 2=>∃ b,f 2=.slice (some ⟨b,0,none⟩) 6 6∧RU X (some ⟨b,0,none⟩) 6 gW
    | 3=>∃ a c1,f 3=.slice a (digs 4294967296 (val 18446744073709551616 gW)).length c1∧OB X w.heap.size a c1 (digs 4294967296 (val 18446744073709551616 gW))
    | 4=>∃ b,f 4=.slice (some ⟨b,0,none⟩) 6 6∧RU X (some ⟨b,0,none⟩) 6 x6
    | 5=>∃ a c1,f 5=.slice a (digs 4294967296 (val 18446744073709551616 x6)).length c1∧OB X w.heap.size a c1 (digs 4294967296 (val 18446744073709551616 x6))
    | 6=>∃ b,f 6=.slice (some ⟨b,0,none⟩) 6 6∧RU X (some ⟨b,0,none⟩) 6 gV
    | 7=>∃ a c1,f 7=.slice a (digs 4294967296 (val 18446744073709551616 gV)).length c1∧OB X w.heap.size a c1 (digs 4294967296 (val 18446744073709551616 gV))
    | 8=>∃ b,f 8=.slice (some ⟨b,0,none⟩) 6 6∧RU X (some ⟨b,0,none⟩) 6 gU
    | 9=>∃ a c1,f 9=.slice a (digs 4294967296 (val 18446744073709551616 gU)).length c1∧OB X w.heap.size a c1 (digs 4294967296 (val 18446744073709551616 gU))
    | 10=>f 10=.agg #[f 1,f 3,f 5,f 7,f 9,.int .i64 48]
    | _=>True) (by kernel_rfl) [(19,0),(20,1),(21,2),(22,3),(23,4),(24,5),(25,6),(26,7),(27,8),(28,9),(29,10)] (by kernel_rfl) ?_
   refine zv 1 10 [(21,2),(23,4),(25,6),(27,8)] (fun f X d hR K i=>?_) ?_
   · simp only[yZ];refine⟨?_⟩;go_simp;exact i.out _ (.slice (some ⟨X.heap.size,0,none⟩) 6 6) _ (by simp only[yZ]) (zL _ _) trivial (fun Y g=>⟨X.heap.size,rfl,((RN.lits X vr ⟨by decide,by decide⟩).mono (fun b h=>by rw[zz];exact h.2)).up g⟩)
   refine qK 2 9 (fun f=>#[f 0]) (F':=13) (fun f X d hR=>?_) ?_
   · obtain⟨F,(t:f 0=_),P⟩:=hR.out 0 rfl;simp only[t];refine(vY _ (some ⟨F,0,none⟩) 6 vr X P (fun _ h=>h) (by decide)).mono ?_;rintro e w2 ⟨a,c1,rfl,l,k⟩;exact⟨(.slice a (digs 4294967296 (val 18446744073709551616 vr)).length c1),rfl,k,fun Y g=>⟨a,c1,rfl,(l.mono (zK (zL w _).bsize d.bsize)).below g (zG _)⟩⟩
   refine zv 3 8 [(19,0),(20,1),(23,4),(25,6),(27,8)] (fun f X d hR K i=>?_) ?_
   · simp only[yZ];refine⟨?_⟩;go_simp;exact i.out _ (.slice (some ⟨X.heap.size,0,none⟩) 6 6) _ (by simp only[yZ]) (zL _ _) trivial (fun Y g=>⟨X.heap.size,rfl,((RN.lits X gW ⟨by decide,by decide⟩).mono (fun b h=>by rw[zz];exact h.2)).up g⟩)
   refine qK 4 7 (fun f=>#[f 2]) (F':=13) (fun f X d hR=>?_) ?_
   · obtain⟨G,(u:f 2=_),Q⟩:=hR.out 2 rfl;simp only[u];refine(vY _ (some ⟨G,0,none⟩) 6 gW X Q (fun _ h=>h) (by decide)).mono ?_;rintro e w2 ⟨a,c1,rfl,l,k⟩;exact⟨(.slice a (digs 4294967296 (val 18446744073709551616 gW)).length c1),rfl,k,fun Y g=>⟨a,c1,rfl,(l.mono (zK (zL w _).bsize d.bsize)).below g (zG _)⟩⟩
   refine zv 5 6 [(19,0),(20,1),(21,2),(22,3),(25,6),(27,8)] (fun f X d hR K i=>?_) ?_
   · simp only[yZ];refine⟨?_⟩;go_simp;exact i.out _ (.slice (some ⟨X.heap.size,0,none⟩) 6 6) _ (by simp only[yZ]) (zL _ _) trivial (fun Y g=>⟨X.heap.size,rfl,((RN.lits X x6 ⟨by decide,by decide⟩).mono (fun b h=>by rw[zz];exact h.2)).up g⟩)
   refine qK 6 5 (fun f=>#[f 4]) (F':=13) (fun f X d hR=>?_) ?_
   · obtain⟨H,(x:f 4=_),R⟩:=hR.out 4 rfl;simp only[x];refine(vY _ (some ⟨H,0,none⟩) 6 x6 X R (fun _ h=>h) (by decide)).mono ?_;rintro e w2 ⟨a,c1,rfl,l,k⟩;exact⟨(.slice a (digs 4294967296 (val 18446744073709551616 x6)).length c1),rfl,k,fun Y g=>⟨a,c1,rfl,(l.mono (zK (zL w _).bsize d.bsize)).below g (zG _)⟩⟩
   refine zv 7 4 [(19,0),(20,1),(21,2),(22,3),(23,4),(24,5),(27,8)] (fun f X d hR K i=>?_) ?_
   · simp only[yZ];refine⟨?_⟩;go_simp;exact i.out _ (.slice (some ⟨X.heap.size,0,none⟩) 6 6) _ (by simp only[yZ]) (zL _ _) trivial (fun Y g=>⟨X.heap.size,rfl,((RN.lits X gV ⟨by decide,by decide⟩).mono (fun b h=>by rw[zz];exact h.2)).up g⟩)
   refine qK 8 3 (fun f=>#[f 6]) (F':=13) (fun f X d hR=>?_) ?_
   · obtain⟨I,(y:f 6=_),S⟩:=hR.out 6 rfl;simp only[y];refine(vY _ (some ⟨I,0,none⟩) 6 gV X S (fun _ h=>h) (by decide)).mono ?_;rintro e w2 ⟨a,c1,rfl,l,k⟩;exact⟨(.slice a (digs 4294967296 (val 18446744073709551616 gV)).length c1),rfl,k,fun Y g=>⟨a,c1,rfl,(l.mono (zK (zL w _).bsize d.bsize)).below g (zG _)⟩⟩
   refine zv 9 2 [(19,0),(20,1),(21,2),(22,3),(23,4),(24,5),(25,6),(26,7)] (fun f X d hR K i=>?_) ?_
   · simp only[yZ];refine⟨?_⟩;go_simp;exact i.out _ (.slice (some ⟨X.heap.size,0,none⟩) 6 6) _ (by simp only[yZ]) (zL _ _) trivial (fun Y g=>⟨X.heap.size,rfl,((RN.lits X gU ⟨by decide,by decide⟩).mono (fun b h=>by rw[zz];exact h.2)).up g⟩)
   refine qK 10 1 (fun f=>#[f 8]) (F':=13) (fun f X d hR=>?_) ?_
   · obtain⟨J,(z:f 8=_),T⟩:=hR.out 8 rfl;simp only[z];refine(vY _ (some ⟨J,0,none⟩) 6 gU X T (fun _ h=>h) (by decide)).mono ?_;rintro e w2 ⟨a,c1,rfl,l,k⟩;exact⟨(.slice a (digs 4294967296 (val 18446744073709551616 gU)).length c1),rfl,k,fun Y g=>⟨a,c1,rfl,(l.mono (zK (zL w _).bsize d.bsize)).below g (zG _)⟩⟩
   refine zv 11 0 [(19,0),(20,1),(21,2),(22,3),(23,4),(24,5),(25,6),(26,7),(27,8),(28,9)] (fun f X d hR K i=>?_) ?_
   · obtain⟨a,c1,(o:f 1=_),U⟩:=hR.out 1 rfl;obtain⟨A,c3,(p:f 3=_),o3⟩:=hR.out 3 rfl;obtain⟨B,L,(q:f 5=_),V⟩:=hR.out 5 rfl;obtain⟨D,M,(r:f 7=_),W⟩:=hR.out 7 rfl;obtain⟨E,N,(s:f 9=_),Z⟩:=hR.out 9 rfl;simp only[yZ,o,p,q,r,s];refine⟨?_⟩;go_simp;exact i.out _ (.agg #[f 1,f 3,f 5,f 7,f 9,.int .i64 48]) _ (by simp only[yZ,o,p,q,r,s]) (zT _) trivial (fun _ _=>rfl)
   refine yF ⟨fun f X d hR aa ab=>?_⟩;obtain⟨F,(t:f 0=_),P⟩:=hR 0 (by decide);obtain⟨a,c1,(o:f 1=_),U⟩:=hR 1 (by decide);obtain⟨G,(u:f 2=_),Q⟩:=hR 2 (by decide);obtain⟨A,c3,(p:f 3=_),o3⟩:=hR 3 (by decide);obtain⟨H,(x:f 4=_),R⟩:=hR 4 (by decide);obtain⟨B,L,(q:f 5=_),V⟩:=hR 5 (by decide);obtain⟨I,(y:f 6=_),S⟩:=hR 6 (by decide);obtain⟨D,M,(r:f 7=_),W⟩:=hR 7 (by decide);obtain⟨J,(z:f 8=_),T⟩:=hR 8 (by decide);obtain⟨E,N,(s:f 9=_),Z⟩:=hR 9 (by decide);have O:f 10=.agg #[f 1,f 3,f 5,f 7,f 9,.int .i64 48]:=hR 10 (by decide);simp only[yZ,t,o,u,p,x,q,y,r,z,s,O];clear hR aa ab t o u p x q y r z s O;refine zO (fun K i=>⟨zU (by kernel_rfl) (jX 30 (.tmp 2) (.tmp 29) rfl rfl rfl rfl (d.at_ n) jG rfl (zAc _ _ _ _ _ _ _ _ _ _ _ _ _ _ _ _) (fun Y1 g1 m g3=>i.out _ _ ?_))⟩);refine zI ?_;go_wp2;refine pV rfl rfl rfl g1 ⟨_,rfl,⟨a,A,B,D,E,c1,c3,L,M,N,rfl,(U.just m (d.at_ n) (by decide)).ru,(o3.just m (d.at_ n) (by decide)).ru,(V.just m (d.at_ n) (by decide)).ru,(W.just m (d.at_ n) (by decide)).ru,(Z.just m (d.at_ n) (by decide)).ru⟩,m.ext ((zL w _).trans d) (zG _)⟩
theorem ov {c:Int}(g:c≠1)(h:c≠2)(w:World):Calls Tryz.prog 9 #[.int .i64 c] w fun e w'=>∃ v,e=.returned v∧RC w' c0 v∧Ext w w':=by
 have i:(c==1)=false:=by simpa using g
 have j:(c==2)=false:=by simpa using h
 have a:∀ X:World,RU X none 0 (digs 4294967296 0):=fun X=>by rw[qW];exact RN.nil_ X _
 have d:(digs 4294967296 0).length=0:=by rw[qW];rfl
 have b:∀ X:World,RC X c0 (.agg #[.slice none 0 0,.slice none 0 0,.slice none 0 0,.slice none 0 0,.slice none 0 0,.int .i64 0]):=fun X=>by
  refine⟨none,none,none,none,none,0,0,0,0,0,?_,a X,a X,a X,a X,a X⟩;show _=Value.agg #[.slice none (digs 4294967296 0).length 0,.slice none (digs 4294967296 0).length 0,.slice none (digs 4294967296 0).length 0,.slice none (digs 4294967296 0).length 0,.slice none (digs 4294967296 0).length 0,.int .i64 0];rw[d]
 have f:=zF b;clear b a d;go_enter Tryz.func9,Tryz.ntmps9;go_wp2;refine pV rfl rfl rfl (zS w _) ⟨_,rfl,f.out _,zL _ _⟩
theorem end_e {fn:Func}{R:Ending→World→Prop}{a:Act}{W:World}{p:Tmp}{g:Nat}{l:List Nat}(f:fn.results=#[.cell p 109])(e:a.tmps.getD p undef=.pointer (some ⟨g,0,none⟩))(c:a.defers=[])
 (d:xR W g l) (b:l.length=6) (hR:R (.returned (EV l)) W):bodyPost Tryz.prog fn R .ret a W :=
 vg (wu f a.tmps W g _ _ _ _ e d Tryz.underlying109 rfl (by rw[qZ,qk,b];exact aF)) c hR
theorem ku:([.int .u64 0,.int .u64 0,.int .u64 0,.int .u64 0,.int .u64 0,.int .u64 0]:List Value).length=6:=rfl
theorem FR.r_one {w:World}{g n inv M:Nat}{ml ol rl:List Nat}(h:FR w g n inv M ml ol rl):w.rangeAt g 8 (nts ol):=fun j v i=>by
 rw[zP h.ff.fld.blk];obtain⟨a,b,c,d,e,f,rfl⟩:=six h.ff.fld.m6;obtain⟨a,b,c,d,e,f,rfl⟩:=six h.ff.fld.o6;match j,i with
 | 0,i|1,i|2,i|3,i|4,i|5,i=>exact i
 | j+6,i=>simp[nts]at i
theorem FR.fone {w:World}{g n inv M:Nat}{ml ol rl:List Nat}(h:FR w g n inv M ml ol rl):FE M n ol 1:=⟨h.oelt,by rw[h.oval,kH]⟩
theorem FR.ext {w X:World}{g n inv M:Nat}{ml ol rl:List Nat}(h:FR w g n inv M ml ol rl)(a:Ext w X):FR X g n inv M ml ol rl:=h.below a h.ff.fld.lt
theorem mY {g n inv M:Nat}{ml ol rl:List Nat}(w:World)(k:FR w g n inv M ml ol rl):Calls Tryz.prog 105 #[.pointer (some ⟨g,0,none⟩)] w fun e w'=>e=.returned (EV ol)∧Ext w w':=by
 have a:=zF k;have o:=zS w (.cells #[.int .u64 0,.int .u64 0,.int .u64 0,.int .u64 0,.int .u64 0,.int .u64 0] 109);go_enter Tryz.func105,Tryz.ntmps105;go_upto_region 1 with fail
 refine zR 4 [0,1,3,7,15] [] (fun j f X=>match j with
  | 0=>f 0=.pointer (some ⟨g,0,none⟩)
  | 1=>f 1=.pointer (some ⟨g,0,none⟩)
  | 2=>f 2=.pointer (some ⟨g,8,none⟩)
  | 3=>f 3=EV ol
  | _=>True) (by kernel_rfl) [(3,0),(4,1),(5,2),(6,3)] (by kernel_rfl) ?_
 refine zJ 1 3 ?_;refine zt 2 2 0 ?_;refine zt 3 1 1 ?_;refine zv 4 0 [(3,0),(4,1),(5,2)] (fun f X b hR K c=>?_) ?_
 · have d:f 2=_:=hR.out 2 rfl;simp only[yZ,d];refine⟨zU (by kernel_rfl) (vA (.tmp 5) rfl rfl (a.out.ext ((zL _ _).trans b)).r_one a.out.oelt.six ?_)⟩;exact c.out _ (EV ol) _ (by simp only[yZ,d]) (zT _) trivial (fun _ _=>rfl)
 refine yF ⟨fun f X b hR l m=>?_⟩;have h:f 3=_:=hR 3 (by decide);simp only[yZ,h];clear hR l m h;refine zO (fun K c=>⟨zU (by kernel_rfl) (qi (.tmp 2) (.tmp 6) rfl rfl rfl rfl (b.at_ o) ku a.out.oelt.six (fun Y1 i=>c.out _ _ ?_))⟩);refine zI ?_;go_wp2;exact end_e rfl rfl rfl i.blk a.out.oelt.six ⟨rfl,i.ext ((zL _ _).trans b) (zG _)⟩
theorem xR.rn {w:World}{b:Nat}{l:List Nat}(h:xR w b l)(d:l.length=6)(a:∀ x∈l,x<18446744073709551616):RN w (fun b=>b<w.heap.size) (some ⟨b,0,none⟩) 6 l:=by
 refine⟨⟨by omega,by unfold maxLen;omega,by rw[qk];omega,fun _=>⟨_,rfl,h.lt,fun j v c=>?_⟩⟩,a,by omega⟩;rw[yW,zP h j];simpa using c
theorem zBE {g n inv M:Nat}{ml ol rl a:List Nat}{x:Nat}(w:World)(h:FR w g n inv M ml ol rl)(k:FE M n a x):Calls Tryz.prog 109 #[.pointer (some ⟨g,0,none⟩),EV a] w fun e w'=>∃ l c1,e=.returned (.slice l (digs 18446744073709551616 (x%M)).length c1)∧OB w' w.heap.size l c1 (digs 18446744073709551616 (x%M))∧Ext w w':=by
 have ad:=zF h;have ae:=zF k;have G:=h.ff.big;have N:Elt M [1,0,0,0,0,0]:=⟨rfl,by decide,by simpa using G⟩
 obtain⟨q,Q⟩:=eV w.heap.size;have L:(w.alloc (.cells (nts a).toArray 109)).heap[w.heap.size]?=some (.cells (nts a).toArray 109 (0,0)):=zS w _;obtain⟨y,A⟩:=eV (x%M)
 have P:=zF (fun X (c:Ext w X)=>(bN a [1,0,0,0,0,0] X (h.ext c).ff k.elt N).mono (R':=fun e w'=>∃ o,e=.returned (EV o)∧o.length=6∧(∀ x∈o,x<18446744073709551616)∧val 18446744073709551616 o=y∧Ext X w') (by
  rintro e w' ⟨o,rfl,z,r,d⟩
  refine⟨o,rfl,z.six,z.lim,?_,d⟩
  have ac:val 18446744073709551616 [1,0,0,0,0,0]=1:=by simp
  rw[ac,jM,k.form,wF]at r
  have:=bK h.ff.invV r
  rw[qF z.lt]at this
  rw[this,A]))
 rw[A];have p:=k.elt.six;have m:EV [1,0,0,0,0,0]=.agg #[.int .u64 1,.int .u64 0,.int .u64 0,.int .u64 0,.int .u64 0,.int .u64 0]:=rfl;rw[m]at P;have O:EV a=.agg (nts a).toArray:=rfl;obtain⟨W0,i⟩:=eW (w.alloc (.cells (nts a).toArray 109));rw[←i,Q]at L;have I:Ext w W0:=by rw[i];exact zL _ _
 have B:=zF I;have U:=zF Q;have V:=zF (show W0.heap.size=w.heap.size+1 by rw[i];simp);have R:=zF p;have S:=zF i;clear h k G N A m I i p;rw[O];clear O;go_enter Tryz.func109,Tryz.ntmps109;go_upto_region 1 with fail;rw[←S.out]
 refine zR 5 [0,0,0,7,0,31] [4] (fun j f X=>match j with
  | 0=>f 0=.pointer (some ⟨g,0,none⟩)
  | 1=>f 1=EV a
  | 2=>f 2=.agg #[.int .u64 1,.int .u64 0,.int .u64 0,.int .u64 0,.int .u64 0,.int .u64 0]
  | 3=>∃ o,f 3=EV o∧o.length=6∧(∀ x∈o,x<18446744073709551616)∧val 18446744073709551616 o=y
  | 4=>∃ b,f 4=.pointer (some ⟨b,0,none⟩)∧W0.heap.size≤b∧X.heap[b]?=some (.cells #[.int .u64 0,.int .u64 0,.int .u64 0,.int .u64 0,.int .u64 0,.int .u64 0] 109 (0,0))
  | _=>True) (by kernel_rfl) [(6,0),(7,1),(8,2),(9,3),(5,4)] (by kernel_rfl) ?_
 refine zJ 1 4 ?_;refine zv 2 3 [(6,0),(8,2),(5,4)] (fun f X c hR K t=>?_) ?_
 · simp only[yZ];refine⟨zU (by kernel_rfl) (vA (.tmp 3) rfl rfl (xR.range (c.at_ L)) R.out ?_)⟩;exact t.out _ (EV a) _ (by simp only[yZ]) (zT _) trivial (fun _ _=>rfl)
 refine zJ 3 2 ?_;refine qK 4 1 (fun f=>#[f 0,f 1,f 2]) (F':=102) (fun f X c hR=>?_) ?_
 · have Z:f 0=_:=hR.out 0 rfl;have m:f 1=_:=hR.out 1 rfl;have e2:f 2=_:=hR.out 2 rfl;simp only[Z,m,e2];refine(P.out X (B.out.trans c)).mono ?_;rintro e w2 ⟨o,rfl,p,hb,r,d⟩;exact⟨(EV o),rfl,d,fun Y hY=>⟨o,rfl,p,hb,r⟩⟩
 refine kr 5 0 ?_;refine yF ⟨fun f X c hR aa ab=>?_⟩;obtain⟨o3,(E:f 3=_),s,D,v3⟩:=hR 3 (by decide);obtain⟨W,(F:f 4=_),l4,H⟩:=hR 4 (by decide);simp only[yZ,E,F];clear hR aa ab E F;refine zO (fun K t=>⟨zU (by kernel_rfl) (qi (.tmp 5) (.tmp 9) rfl rfl rfl rfl H ku s (fun Y1 u=>t.out _ _ ?_))⟩);refine zI ?_;have J:Ext w Y1:=u.ext (B.out.trans c) (by have:=V.out;omega);have v:=yn _ (some ⟨W,0,none⟩) 6 o3 Y1 (u.blk.rn s D);rw[v3,s]at v;have T:=zF v;have C:=zF J;clear v u D v3 H l4 c s J;go_wp2_with (go_at_call 100;refine T.out.mono ?_;rintro e w2 ⟨l,c1,rfl,hO,d⟩);go_ret;exact⟨l,c1,rfl,hO.mono (by have:=C.out.bsize;have:=U.out;omega),C.out.trans d⟩
def JV (x y z:List Nat):Value:=.agg (nts (x++y++z)).toArray
def kI (X:World) (b:Nat) (x y z:List Nat):Prop:=X.heap[b]?=some (.cells (nts (x++y++z)).toArray 123 (0,0))
theorem gg:(Tryz.prog.info? 123).map (·.size)=some 18:=by kernel_rfl
theorem gB (a b:List Nat):nts (a++b)=nts a++nts b:=by simp[nts]
section
variable {X:World} {b:Nat} {x y z:List Nat}
theorem kI.range (h:kI X b x y z)(pre l c:List Nat)(e:x++y++z=pre++l++c):X.rangeAt b pre.length (nts l):=fun j v a=>by
 rw[zP h,e,zQ,gB,gB,xD,uS (by rw[qk];omega),qk,Nat.add_sub_cancel_left,wv,a];exact(List.getElem?_eq_some_iff.1 a).1
theorem kI.rx (h:kI X b x y z):X.rangeAt b 0 (nts x):=by have:=h.range [] x (y++z) (by simp);simpa using this
theorem kI.ry (h:kI X b x y z)(a:x.length=6):X.rangeAt b 6 (nts y):=by have:=h.range x y z rfl;rwa [a]at this
theorem kI.rz (h:kI X b x y z)(a:x.length=6)(c:y.length=6):X.rangeAt b 12 (nts z):=by have:=h.range (x++y) z [] (by simp);rwa [zf,a,c]at this
end
theorem zBa {x y z:List Nat}(a:x.length=6)(b:y.length=6)(c:z.length=6):Tryz.prog.built 123 [(0,EV x),(1,EV y),(2,EV z)]=some (nts (x++y++z)).toArray:=by
 obtain⟨x0,x1,x2,x3,x4,x5,rfl⟩:=six a;obtain⟨y0,y1,y2,d,e,f,rfl⟩:=six b;obtain⟨g,z1,h,z3,z4,z5,rfl⟩:=six c;kernel_rfl
theorem gn {b:Oper}{a:Act}{X:World}{K:Act→World→Prop}{Q:Exit→Act→World→Prop}(p q r:Operand)(h:b.op=.build 123 #[(0,p),(1,q),(2,r)]){x y z:List Nat}(j:a.eval p=EV x)(k:a.eval q=EV y)(l:a.eval r=EV z)
 (d:x.length=6) (e:y.length=6) (f:z.length=6) (g:K (a.put b.dst (JV x y z)) X):b.wp Tryz.prog a X K Q:=by
 have c:(#[(0,p),(1,q),(2,r)].map fun(i,x)=>(i,a.eval x)).toList=[(0,EV x),(1,EV y),(2,EV z)]:=by simp[j,k,l]
 refine wp_build 123 #[(0,p),(1,q),(2,r)] h (by rw[c,zBa d e f];rfl) ?_
 rw[c,zBa d e f]
 exact g
theorem nB (l:List Nat):(nts l).toArray.all (·.oneCell')=true:=all_oneCell_toArray (vB l)
theorem cQ {fn:Func}{R:Ending→World→Prop}{a:Act}{W:World}{p:Tmp}{g:Nat}{x y z:List Nat}(e:fn.results=#[.cell p 123])(d:a.tmps.getD p undef=.pointer (some ⟨g,0,none⟩))(b:a.defers=[])
 (c:kI W g x y z) (f:x.length=6) (h:y.length=6) (i:z.length=6) (hR:R (.returned (JV x y z)) W):bodyPost Tryz.prog fn R .ret a W :=
 vg (wu e a.tmps W g _ _ _ _ d c Tryz.underlying123 rfl (by rw[qZ,qk,zf,zf,f,h,i];exact gg)) b hR
theorem vM {c:Oper}{a:Act}{X:World}{K:Act→World→Prop}{Q:Exit→Act→World→Prop}(p q:Operand)(i:c.op=.store 123 p q)(g:c.dst=none){b:Nat}{x y z:List Nat}{cs:Array Value}
 (j:a.eval p=.pointer (some ⟨b,0,none⟩)) (k:a.eval q=JV x y z) (h:X.heap[b]?=some (.cells cs 123 (0,0))) (f:cs.size=18) (l:x.length=6) (m:y.length=6) (n:z.length=6)
 (e:∀ Y,kI Y b x y z→jE b X Y→Y.heap.size=X.heap.size→K a Y):c.wp Tryz.prog a X K Q:=by
 have d:(nts (x++y++z)).toArray.size=18:=by rw[qZ,qk,zf,zf,l,m,n]
 exact jX 123 p q i g j k h (by rw[d];exact gg) (by rw[d,f]) (nB _) e
def mm (M a b:Nat):Nat:=a*b%M
def am (M a b:Nat):Nat:=(a+b)%M
def sm (M a b:Nat):Nat:=(a+M-b%M)%M
theorem kD {g n inv M:Nat}{ml ol rl a b:List Nat}{x y:Nat}(w:World)(h:FF w g n inv M ml ol rl)(i:FE M n a x)(j:FE M n b y) :
 Calls Tryz.prog 102 #[.pointer (some ⟨g,0,none⟩),EV a,EV b] w fun e w'=>∃ o,e=.returned (EV o)∧FE M n o (mm M x y)∧Ext w w' :=
 (uc w h i j).mono fun _ _ ⟨o,c,d,f⟩=>⟨o,c,d.mod,f⟩
theorem uR {g n inv M:Nat}{ml ol rl a b:List Nat}{x y:Nat}(w:World)(h:FF w g n inv M ml ol rl)(i:FE M n a x)(j:FE M n b y) :
 Calls Tryz.prog 101 #[.pointer (some ⟨g,0,none⟩),EV a,EV b] w fun e w'=>∃ o,e=.returned (EV o)∧FE M n o (am M x y)∧Ext w w' :=
 (oK w h i j).mono fun _ _ ⟨o,c,d,f⟩=>⟨o,c,d.mod,f⟩
theorem yI {g n inv M:Nat}{ml ol rl a b:List Nat}{x y:Nat}(w:World)(c:FF w g n inv M ml ol rl)(i:FE M n a x)(j:FE M n b y) :
 Calls Tryz.prog 103 #[.pointer (some ⟨g,0,none⟩),EV a,EV b] w fun e w'=>∃ o,e=.returned (EV o)∧FE M n o (sm M x y)∧Ext w w' :=
 (aH w c i j.mod (kA (qP _ (by have:=c.big;omega)))).mono fun _ _ ⟨o,d,f,h⟩=>⟨o,d,f.mod,h⟩
theorem wV (w:World)(a o2:Obj):((w.alloc a).alloc o2).heap[w.heap.size]?=some a∧((w.alloc a).alloc o2).heap[w.heap.size+1]?=some o2∧((w.alloc a).alloc o2).heap.size=w.heap.size+2 :=
 ⟨(zL _ _).at_ (zS w _),by have:=zS (w.alloc a) o2;rwa [zz]at this,by simp⟩
structure FJ (M n:Nat) (lx ly lz:List Nat) (x y z:Nat):Prop where
 x:FE M n lx x
 y:FE M n ly y
 z:FE M n lz z
end Go.Proofs.YtaemogcomplhiaaGreatDoor
namespace Go.Proofs.YtaemogcomplhiaaGreatDoor
theorem xV:type_of% @kI.rz:=@kI.rz
end Go.Proofs.YtaemogcomplhiaaGreatDoor
namespace Go.Proofs.YtaemogcomplhiaaGreatDoor
open Go.RowKit
def zDM (v:Value):Bool:=match v with | .int _ _=>false|_=>true
theorem RN.offJ {X Y:World}{A:Option Addr}{c:Nat}{l:List Nat}{g:Nat}{cs:Array Value}{T:TypeId}{fr:Nat×Nat}(h:RU X A c l)(f:jE g X Y)(s:X.heap[g]?=some (.cells cs T fr))(d:cs.all zDM=true):RU Y A c l:=by
 obtain⟨⟨i,k,m,o⟩,p⟩:=h;refine⟨⟨i,k,m,fun t=>?_⟩,p⟩;obtain⟨ad,e,q,x⟩:=o t;refine⟨ad,e,zH q f.size,fun j v b=>?_⟩;have a:=x j v b;by_cases hne:(ad.add j).block=g
 · exfalso;have w:zDM v=false:=by
    rw[nts,yw]at b;obtain⟨n,_,rfl⟩:=Option.map_eq_some_iff.1 b;rfl
   unfold World.cell? at a;rw[hne,s]at a;simp only at a;split at a
   · cases a
   · rw[Array.all_eq_true]at d;obtain⟨u,r⟩:=Array.getElem?_eq_some_iff.1 a;have:=d _ u;rw[r,w]at this;cases this
 · exact(qB (f.block _ (wE X _ a) hne)).trans a
theorem RN.nil0 (w:World):RU w none 0 (digs 4294967296 0):=by rw[qW];exact RN.nil_ _ _
def RPU (w:World) (v:Value):Option (Nat×Nat)→Prop
 | none=>v=yU
 | some p=>∃ A c A' c',v=.agg #[.bool false,.slice A (digs 4294967296 p.1).length c,.slice A' (digs 4294967296 p.2).length c']∧RU w A c (digs 4294967296 p.1)∧RU w A' c' (digs 4294967296 p.2)
theorem RPU.ext {w X:World}{v:Value}{o:Option (Nat×Nat)}(h:RPU w v o)(a:Ext w X):RPU X v o:=by
 cases o with
 | none=>exact h
 | some p =>
   obtain⟨A,c,A',c',rfl,b,d⟩:=h;exact⟨A,c,A',c',rfl,zN b a,zN d a⟩
theorem bH {fn:Func}{R:Ending→World→Prop}{a:Act}{W:World}{p:Tmp}{g:Nat}{ty:TypeId}{fr:Nat×Nat}{x0 x1 x2:Value}(e:fn.results=#[.cell p 45])(d:a.tmps.getD p undef=.pointer (some ⟨g,0,none⟩))(b:a.defers=[])
 (c:W.heap[g]?=some (.cells #[x0,x1,x2] ty fr)) (hR:R (.returned (.agg #[x0,x1,x2])) W):bodyPost Tryz.prog fn R .ret a W :=
 vg (wu e a.tmps W g _ _ _ _ d c Tryz.underlying45 rfl di) b hR
def gj (M x y z:Nat):Nat×Nat×Nat:=let u1:=mm M z z;let u2:=mm M y y;let u3:=mm M x u2;let u4:=sm M x u1;let u5:=am M x u1;let u6:=mm M u4 u5;let u7:=mm M 3 u6;let u8:=am M u3 u3;let u9:=am M u8 u8;let u10:=mm M u7 u7;let u11:=am M u9 u9;let u12:=sm M u10 u11;let u13:=am M y z;let u14:=mm M u13 u13;let u15:=sm M u14 u2;let u16:=sm M u15 u1;let u17:=mm M u2 u2;let u18:=am M u17 u17;let u19:=am M u18 u18;let u20:=sm M u9 u12;let u21:=mm M u7 u20;let u22:=am M u19 u19;let u23:=sm M u21 u22;(u12,u23,u16)
theorem aL {P0:Nat→Prop}{k g size n inv M bb:Nat}{pl nl bl xl yl ml ol rl tl fl lx ly lz:List Nat}{Ap An Ab Ax Ay:Option Addr}{cp cn cb cx cy x y z:Nat}(w:World)
 (hk:Num w P0 k g size n inv M bb pl nl bl xl yl ml ol rl tl fl Ap An Ab Ax Ay cp cn cb cx cy) (aQ:∀ b,P0 b→b<w.heap.size) (hj:FJ M n lx ly lz x y z) :
 Calls Tryz.prog 77 #[.pointer (some ⟨k,0,none⟩),JV lx ly lz] w fun e w'=>∃ ox oy oz,e=.returned (JV ox oy oz)∧FJ M n ox oy oz (gj M x y z).1 (gj M x y z).2.1 (gj M x y z).2.2∧Ext w w':=by
 obtain⟨cs,aB⟩:=eV ((nts (lx++ly++lz)).toArray)
 obtain⟨W0,ax⟩:=eW ((w.alloc (.cells cs 123)).alloc (.cells #[.int .u64 0,.int .u64 0,.int .u64 0,.int .u64 0,.int .u64 0,.int .u64 0,.int .u64 0,.int .u64 0,.int .u64 0,.int .u64 0,.int .u64 0,.int .u64 0,.int .u64 0,.int .u64 0,.int .u64 0,.int .u64 0,.int .u64 0,.int .u64 0] 123))
 obtain⟨q,hq⟩:=eV w.heap.size
 have aA:Ext w W0:=by rw[ax];exact(zL _ _).trans (zL _ _)
 obtain⟨ae,bo,aT⟩:=wV w (.cells cs 123) (.cells #[.int .u64 0,.int .u64 0,.int .u64 0,.int .u64 0,.int .u64 0,.int .u64 0,.int .u64 0,.int .u64 0,.int .u64 0,.int .u64 0,.int .u64 0,.int .u64 0,.int .u64 0,.int .u64 0,.int .u64 0,.int .u64 0,.int .u64 0,.int .u64 0] 123)
 rw[←ax,hq]at ae bo aT
 have ae:kI W0 q lx ly lz:=by rw[kI,aB];exact ae
 have t:=zF (hk.ext aQ aA)
 have A:∀ b,P0 b→b<W0.heap.size:=fun b hb=>zH (aQ b hb) aA.bsize
 have k6:=t.out.c_f
 have I:=zF hj
 have bG:=zF aA
 have cN:=zF aT
 obtain⟨u1,aV⟩:=eG (mm M z z)
 obtain⟨u2,a6⟩:=eG (mm M y y)
 obtain⟨u3,bc⟩:=eG (mm M x u2)
 obtain⟨u4,bd⟩:=eG (sm M x u1)
 obtain⟨u5,be⟩:=eG (am M x u1)
 obtain⟨u6,bf⟩:=eG (mm M u4 u5)
 obtain⟨u7,bg⟩:=eG (mm M 3 u6)
 obtain⟨u8,aE⟩:=eG (am M u3 u3)
 obtain⟨u9,bh⟩:=eG (am M u8 u8)
 obtain⟨u10,aW⟩:=eG (mm M u7 u7)
 obtain⟨u11,aX⟩:=eG (am M u9 u9)
 obtain⟨u12,aY⟩:=eG (sm M u10 u11)
 obtain⟨u13,aZ⟩:=eG (am M y z)
 obtain⟨bC,a0⟩:=eG (mm M u13 u13)
 obtain⟨bD,a1⟩:=eG (sm M bC u2)
 obtain⟨u16,a2⟩:=eG (sm M bD u1)
 obtain⟨u17,a3⟩:=eG (mm M u2 u2)
 obtain⟨u18,a4⟩:=eG (am M u17 u17)
 obtain⟨u19,a5⟩:=eG (am M u18 u18)
 obtain⟨bE,a7⟩:=eG (sm M u9 u12)
 obtain⟨u21,a8⟩:=eG (mm M u7 bE)
 obtain⟨bF,a9⟩:=eG (am M u19 u19)
 obtain⟨u23,ba⟩:=eG (sm M u21 bF)
 have cH:=zF (show gj M x y z=(u12,u23,u16) by simp only[gj,aV.out,a6.out,bc.out,bd.out,be.out,bf.out,bg.out,aE.out,bh.out,aW.out,aX.out,aY.out,aZ.out,a0.out,a1.out,a2.out,a3.out,a4.out,a5.out,a7.out,a8.out,a9.out,ba.out])
 rw[cH.out]
 rw[show JV lx ly lz=.agg cs by rw[JV,aB]]
 have cM:=zF aB
 clear aA aT hk aQ hj aB
 go_enter Tryz.func77,Tryz.ntmps77
 go_upto_region 1 with fail
 rw[←ax]
 have Hq:=zF hq
 have cL:=zF ax
 have c:=zT W0
 clear hq ax
 go_upto_region 2 with fail
 clear k6
 refine zZ (by kernel_rfl) 14 [0,0,2,0,8,31,0,0,128,0,512,2047,0,0,16383,32767] [12,13] (fun j f X=>match j with
  | 0=>f 0=.pointer (some ⟨g,0,none⟩)
  | 1=>f 1=.pointer (some ⟨q,12,none⟩)
  | 2=>∃ o,f 2=EV o∧FE M n o z
  | 3=>f 3=.pointer (some ⟨q,12,none⟩)
  | 4=>∃ o,f 4=EV o∧FE M n o z
  | 5=>∃ o,f 5=EV o∧FE M n o u1
  | 6=>f 6=.pointer (some ⟨g,0,none⟩)
  | 7=>f 7=.pointer (some ⟨q,6,none⟩)
  | 8=>∃ o,f 8=EV o∧FE M n o y
  | 9=>f 9=.pointer (some ⟨q,6,none⟩)
  | 10=>∃ o,f 10=EV o∧FE M n o y
  | 11=>∃ o,f 11=EV o∧FE M n o u2
  | 12=>∃ b,f 12=.pointer (some ⟨b,0,none⟩)∧W0.heap.size≤b∧X.heap[b]?=some (.cells #[.int .u64 0,.int .u64 0,.int .u64 0,.int .u64 0,.int .u64 0,.int .u64 0] 109 (0,0))
  | 13=>∃ b,f 13=.pointer (some ⟨b,0,none⟩)∧W0.heap.size≤b∧X.heap[b]?=some (.cells #[.int .u64 0,.int .u64 0,.int .u64 0,.int .u64 0,.int .u64 0,.int .u64 0] 109 (0,0))
  | _=>True) (by kernel_rfl) [(20,0),(21,1),(22,2),(23,3),(24,4),(25,5),(26,6),(27,7),(28,8),(29,9),(30,10),(31,11),(6,12),(7,13)] (by kernel_rfl) ?_
 refine zJ 1 13 ?_
 refine zJ 2 12 ?_
 refine lE 3 11 1 (fun _ a=>xV ((c.trans a).at_ ae) I.out.x.elt.six I.out.y.elt.six) I.out.z ?_
 refine zJ 4 10 ?_
 refine lE 5 9 3 (fun _ a=>xV ((c.trans a).at_ ae) I.out.x.elt.six I.out.y.elt.six) I.out.z ?_
 refine fc 6 8 0 2 4 (fun X a _ _ h d=>kD X (t.out.ext A (c.trans a)).fr.ff h d) aV.out ?_
 refine zJ 7 7 ?_
 refine zJ 8 6 ?_
 refine lE 9 5 7 (fun _ a=>kI.ry ((c.trans a).at_ ae) I.out.x.elt.six) I.out.y ?_
 refine zJ 10 4 ?_
 refine lE 11 3 9 (fun _ a=>kI.ry ((c.trans a).at_ ae) I.out.x.elt.six) I.out.y ?_
 refine fc 12 2 6 8 10 (fun X a _ _ h d=>kD X (t.out.ext A (c.trans a)).fr.ff h d) a6.out ?_
 refine kr 13 1 ?_
 refine kr 14 0 ?_
 refine yF ⟨fun f X a hR D C=>?_⟩
 obtain⟨o2,(r:f 2=_),O⟩:=hR 2 (by decide)
 obtain⟨o4,(v:f 4=_),P⟩:=hR 4 (by decide)
 obtain⟨o5,(W:f 5=_),h5⟩:=hR 5 (by decide)
 obtain⟨o8,(e8:f 8=_),h8⟩:=hR 8 (by decide)
 obtain⟨bB,(N:f 10=_),av⟩:=hR 10 (by decide)
 obtain⟨cJ,(au:f 11=_),aw⟩:=hR 11 (by decide)
 obtain⟨F,(aq:f 12=_),br,cw⟩:=hR 12 (by decide)
 obtain⟨G,(al:f 13=_),bs,cz⟩:=hR 13 (by decide)
 have aU:G≠F:=fun e=>C 13 12 (by decide) (by decide) rfl rfl (by decide) (by rw[al,aq,e])
 simp only[yZ,r,v,W,e8,N,au,aq,al]
 clear hR D C r v W e8 N au aq al
 refine zO (fun K i=>⟨zU (by kernel_rfl) (qi (.tmp 6) (.tmp 25) rfl rfl rfl rfl (cw) ku h5.elt.six (fun cO aC=>i.out _ _ ?_))⟩)
 refine zO (fun K i=>⟨zU (by kernel_rfl) (qi (.tmp 7) (.tmp 31) rfl rfl rfl rfl (aC.other aU (cz)) ku aw.elt.six (fun Y1_15 aD=>i.out _ _ ?_))⟩)
 refine zI ?_
 have p:VE Y1_15 M n F u1:=(aD.ve (xa aU) (aC.mk' h5))
 have cT:=zK c.bsize br
 have m:VE Y1_15 M n G u2:=(aD.mk' aw)
 have cU:=zK c.bsize bs
 have cP:F≠G:=(xa aU)
 have l:Ext W0 Y1_15:=(aD.ext (aC.ext (c.trans a) (zK c.bsize br)) (zK c.bsize bs))
 clear c a aC aD O P h5 h8 av aw 
 have c:=l
 clear l
 go_upto_region 3 with fail
 refine zR 6 [0,0,2,0,15,0,63] [5] (fun j f X=>match j with
  | 0=>f 0=.pointer (some ⟨g,0,none⟩)
  | 1=>f 1=.pointer (some ⟨q,0,none⟩)
  | 2=>∃ o,f 2=EV o∧FE M n o x
  | 3=>∃ o,f 3=EV o∧FE M n o u2
  | 4=>∃ o,f 4=EV o∧FE M n o u3
  | 5=>∃ b,f 5=.pointer (some ⟨b,0,none⟩)∧Y1_15.heap.size≤b∧X.heap[b]?=some (.cells #[.int .u64 0,.int .u64 0,.int .u64 0,.int .u64 0,.int .u64 0,.int .u64 0] 109 (0,0))
  | _=>True) (by kernel_rfl) [(32,0),(33,1),(34,2),(35,3),(36,4),(8,5)] (by kernel_rfl) ?_
 refine zJ 1 5 ?_
 refine zJ 2 4 ?_
 refine lE 3 3 1 (fun _ a=>kI.rx ((c.trans a).at_ ae)) I.out.x ?_
 refine lX 4 2 (fun X a=>let ⟨o,hbl,ho⟩:=m.ext a;⟨o,hbl.range,ho⟩) ?_
 refine fc 5 1 0 2 3 (fun X a _ _ h d=>kD X (t.out.ext A (c.trans a)).fr.ff h d) bc.out ?_
 refine kr 6 0 ?_
 refine yF ⟨fun f X a hR D C=>?_⟩
 obtain⟨o2,(r:f 2=_),O⟩:=hR 2 (by decide)
 obtain⟨o3,(u:f 3=_),H⟩:=hR 3 (by decide)
 obtain⟨o4,(v:f 4=_),P⟩:=hR 4 (by decide)
 obtain⟨L,(W:f 5=_),bt,cA⟩:=hR 5 (by decide)
 simp only[yZ,r,u,v,W]
 clear hR D C r u v W
 refine zO (fun K i=>⟨zU (by kernel_rfl) (qi (.tmp 8) (.tmp 36) rfl rfl rfl rfl (cA) ku P.elt.six (fun Y2_6 ay=>i.out _ _ ?_))⟩)
 refine zI ?_
 have bL:F≠L:=by have:=(let ⟨_,h,_⟩:=p;h.lt:F<Y1_15.heap.size);omega
 replace p:=(ay.ve bL (p.ext a))
 have bS:G≠L:=by have:=(let ⟨_,h,_⟩:=m;h.lt:G<Y1_15.heap.size);omega
 replace m:=(ay.ve bS (m.ext a))
 have s:VE Y2_6 M n L u3:=(ay.mk' P)
 have cV:=zK c.bsize bt
 have l:Ext W0 Y2_6:=(ay.ext (c.trans a) (zK c.bsize bt))
 clear c a ay O H P
 have c:=l
 clear l
 go_upto_region 4 with fail
 refine zZ (by kernel_rfl) 19 [0,0,2,6,14,0,0,0,128,0,960,0,0,4096,0,32704,65504,131071,0,524287] [18] (fun j f X=>match j with
  | 0=>f 0=.pointer (some ⟨g,0,none⟩)
  | 1=>f 1=.pointer (some ⟨k,0,none⟩)
  | 2=>f 2=.pointer (some ⟨k,0,none⟩)
  | 3=>f 3=.pointer (some ⟨k,7,none⟩)
  | 4=>∃ o,f 4=EV o∧FE M n o 3
  | 5=>f 5=.pointer (some ⟨g,0,none⟩)
  | 6=>f 6=.pointer (some ⟨g,0,none⟩)
  | 7=>f 7=.pointer (some ⟨q,0,none⟩)
  | 8=>∃ o,f 8=EV o∧FE M n o x
  | 9=>∃ o,f 9=EV o∧FE M n o u1
  | 10=>∃ o,f 10=EV o∧FE M n o u4
  | 11=>f 11=.pointer (some ⟨g,0,none⟩)
  | 12=>f 12=.pointer (some ⟨q,0,none⟩)
  | 13=>∃ o,f 13=EV o∧FE M n o x
  | 14=>∃ o,f 14=EV o∧FE M n o u1
  | 15=>∃ o,f 15=EV o∧FE M n o u5
  | 16=>∃ o,f 16=EV o∧FE M n o u6
  | 17=>∃ o,f 17=EV o∧FE M n o u7
  | 18=>∃ b,f 18=.pointer (some ⟨b,0,none⟩)∧Y2_6.heap.size≤b∧X.heap[b]?=some (.cells #[.int .u64 0,.int .u64 0,.int .u64 0,.int .u64 0,.int .u64 0,.int .u64 0] 109 (0,0))
  | _=>True) (by kernel_rfl) [(37,0),(38,1),(39,2),(40,3),(41,4),(42,5),(43,6),(44,7),(45,8),(46,9),(47,10),(48,11),(49,12),(50,13),(51,14),(52,15),(53,16),(54,17),(9,18)] (by kernel_rfl) ?_
 refine zJ 1 18 ?_
 refine zJ 2 17 ?_
 refine zt 3 16 1 ?_
 refine zt 4 15 2 ?_
 refine zv 5 14 [(37,0),(38,1),(39,2),(40,3),(42,5),(43,6),(44,7),(45,8),(46,9),(47,10),(48,11),(49,12),(50,13),(51,14),(52,15),(53,16),(9,18)] (fun f X a hR K i=>?_) ?_
 · have u:f 3=_:=hR.out 3 rfl;simp only[yZ,u];refine⟨zU (by kernel_rfl) (vA (.tmp 40) rfl rfl ((t.out.ext A (c.trans a)).r_three) t.out.three.elt.six ?_)⟩;exact i.out _ (EV tl) _ (by simp only[yZ,u]) (zT _) trivial (fun Y hY=>⟨tl,rfl,t.out.three⟩)
 refine zJ 6 13 ?_
 refine zJ 7 12 ?_
 refine zJ 8 11 ?_
 refine lE 9 10 7 (fun _ a=>kI.rx ((c.trans a).at_ ae)) I.out.x ?_
 refine lX 10 9 (fun X a=>let ⟨o,hbl,ho⟩:=p.ext a;⟨o,hbl.range,ho⟩) ?_
 refine fc 11 8 6 8 9 (fun X a _ _ h d=>yI X (t.out.ext A (c.trans a)).fr.ff h d) bd.out ?_
 refine zJ 12 7 ?_
 refine zJ 13 6 ?_
 refine lE 14 5 12 (fun _ a=>kI.rx ((c.trans a).at_ ae)) I.out.x ?_
 refine lX 15 4 (fun X a=>let ⟨o,hbl,ho⟩:=p.ext a;⟨o,hbl.range,ho⟩) ?_
 refine fc 16 3 11 13 14 (fun X a _ _ h d=>uR X (t.out.ext A (c.trans a)).fr.ff h d) be.out ?_
 refine fc 17 2 5 10 15 (fun X a _ _ h d=>kD X (t.out.ext A (c.trans a)).fr.ff h d) bf.out ?_
 refine fc 18 1 0 4 16 (fun X a _ _ h d=>kD X (t.out.ext A (c.trans a)).fr.ff h d) bg.out ?_
 refine kr 19 0 ?_
 refine yF ⟨fun f X a hR D C=>?_⟩
 obtain⟨o4,(v:f 4=_),P⟩:=hR 4 (by decide)
 obtain⟨o8,(e8:f 8=_),h8⟩:=hR 8 (by decide)
 obtain⟨o9,(e9:f 9=_),S⟩:=hR 9 (by decide)
 obtain⟨bB,(N:f 10=_),av⟩:=hR 10 (by decide)
 obtain⟨c2,(al:f 13=_),cl⟩:=hR 13 (by decide)
 obtain⟨c3,(bi:f 14=_),cm⟩:=hR 14 (by decide)
 obtain⟨c4,(bj:f 15=_),co⟩:=hR 15 (by decide)
 obtain⟨c5,(bk:f 16=_),cq⟩:=hR 16 (by decide)
 obtain⟨c6,(bm:f 17=_),aP⟩:=hR 17 (by decide)
 obtain⟨Q,(bn:f 18=_),bu,cB⟩:=hR 18 (by decide)
 simp only[yZ,v,e8,e9,N,al,bi,bj,bk,bm,bn]
 clear hR D C v e8 e9 N al bi bj bk bm bn
 refine zO (fun K i=>⟨zU (by kernel_rfl) (qi (.tmp 9) (.tmp 54) rfl rfl rfl rfl (cB) ku aP.elt.six (fun Y3_19 ar=>i.out _ _ ?_))⟩)
 refine zI ?_
 have bM:F≠Q:=by have:=(let ⟨_,h,_⟩:=p;h.lt:F<Y2_6.heap.size);omega
 replace p:=(ar.ve bM (p.ext a))
 have bT:G≠Q:=by have:=(let ⟨_,h,_⟩:=m;h.lt:G<Y2_6.heap.size);omega
 replace m:=(ar.ve bT (m.ext a))
 have bZ:L≠Q:=by have:=(let ⟨_,h,_⟩:=s;h.lt:L<Y2_6.heap.size);omega
 replace s:=(ar.ve bZ (s.ext a))
 have B:VE Y3_19 M n Q u7:=(ar.mk' aP)
 have cW:=zK c.bsize bu
 have l:Ext W0 Y3_19:=(ar.ext (c.trans a) (zK c.bsize bu))
 clear c a ar P h8 S av cl cm co cq aP
 have c:=l
 clear l
 go_upto_region 5 with fail
 refine zZ (by kernel_rfl) 11 [0,0,0,0,14,0,0,0,254,511,0,2047] [10] (fun j f X=>match j with
  | 0=>f 0=.pointer (some ⟨g,0,none⟩)
  | 1=>f 1=.pointer (some ⟨g,0,none⟩)
  | 2=>∃ o,f 2=EV o∧FE M n o u3
  | 3=>∃ o,f 3=EV o∧FE M n o u3
  | 4=>∃ o,f 4=EV o∧FE M n o u8
  | 5=>f 5=.pointer (some ⟨g,0,none⟩)
  | 6=>∃ o,f 6=EV o∧FE M n o u3
  | 7=>∃ o,f 7=EV o∧FE M n o u3
  | 8=>∃ o,f 8=EV o∧FE M n o u8
  | 9=>∃ o,f 9=EV o∧FE M n o u9
  | 10=>∃ b,f 10=.pointer (some ⟨b,0,none⟩)∧Y3_19.heap.size≤b∧X.heap[b]?=some (.cells #[.int .u64 0,.int .u64 0,.int .u64 0,.int .u64 0,.int .u64 0,.int .u64 0] 109 (0,0))
  | _=>True) (by kernel_rfl) [(55,0),(56,1),(57,2),(58,3),(59,4),(60,5),(61,6),(62,7),(63,8),(64,9),(10,10)] (by kernel_rfl) ?_
 refine zJ 1 10 ?_
 refine zJ 2 9 ?_
 refine lX 3 8 (fun X a=>let ⟨o,hbl,ho⟩:=s.ext a;⟨o,hbl.range,ho⟩) ?_
 refine lX 4 7 (fun X a=>let ⟨o,hbl,ho⟩:=s.ext a;⟨o,hbl.range,ho⟩) ?_
 refine fc 5 6 1 2 3 (fun X a _ _ h d=>uR X (t.out.ext A (c.trans a)).fr.ff h d) aE.out ?_
 refine zJ 6 5 ?_
 refine lX 7 4 (fun X a=>let ⟨o,hbl,ho⟩:=s.ext a;⟨o,hbl.range,ho⟩) ?_
 refine lX 8 3 (fun X a=>let ⟨o,hbl,ho⟩:=s.ext a;⟨o,hbl.range,ho⟩) ?_
 refine fc 9 2 5 6 7 (fun X a _ _ h d=>uR X (t.out.ext A (c.trans a)).fr.ff h d) aE.out ?_
 refine fc 10 1 0 4 8 (fun X a _ _ h d=>uR X (t.out.ext A (c.trans a)).fr.ff h d) bh.out ?_
 refine kr 11 0 ?_
 refine yF ⟨fun f X a hR D C=>?_⟩
 obtain⟨o2,(r:f 2=_),O⟩:=hR 2 (by decide)
 obtain⟨o3,(u:f 3=_),H⟩:=hR 3 (by decide)
 obtain⟨o4,(v:f 4=_),P⟩:=hR 4 (by decide)
 obtain⟨o6,(Z:f 6=_),h6⟩:=hR 6 (by decide)
 obtain⟨o7,(e7:f 7=_),h7⟩:=hR 7 (by decide)
 obtain⟨o8,(e8:f 8=_),h8⟩:=hR 8 (by decide)
 obtain⟨o9,(e9:f 9=_),S⟩:=hR 9 (by decide)
 obtain⟨R,(N:f 10=_),bv,cC⟩:=hR 10 (by decide)
 simp only[yZ,r,u,v,Z,e7,e8,e9,N]
 clear hR D C r u v Z e7 e8 e9 N
 refine zO (fun K i=>⟨zU (by kernel_rfl) (qi (.tmp 10) (.tmp 64) rfl rfl rfl rfl (cC) ku S.elt.six (fun Y4_11 ap=>i.out _ _ ?_))⟩)
 refine zI ?_
 have bN:F≠R:=by have:=(let ⟨_,h,_⟩:=p;h.lt:F<Y3_19.heap.size);omega
 replace p:=(ap.ve bN (p.ext a))
 have bU:G≠R:=by have:=(let ⟨_,h,_⟩:=m;h.lt:G<Y3_19.heap.size);omega
 replace m:=(ap.ve bU (m.ext a))
 have b0:L≠R:=by have:=(let ⟨_,h,_⟩:=s;h.lt:L<Y3_19.heap.size);omega
 replace s:=(ap.ve b0 (s.ext a))
 have b5:Q≠R:=by have:=(let ⟨_,h,_⟩:=B;h.lt:Q<Y3_19.heap.size);omega
 replace B:=(ap.ve b5 (B.ext a))
 have E:VE Y4_11 M n R u9:=(ap.mk' S)
 have cX:=zK c.bsize bv
 have l:Ext W0 Y4_11:=(ap.ext (c.trans a) (zK c.bsize bv))
 clear c a ap O H P h6 h7 h8 S
 have c:=l
 clear l
 go_upto_region 6 with fail
 refine zZ (by kernel_rfl) 11 [0,0,0,0,14,0,0,0,254,511,0,2047] [10] (fun j f X=>match j with
  | 0=>f 0=.pointer (some ⟨g,0,none⟩)
  | 1=>f 1=.pointer (some ⟨g,0,none⟩)
  | 2=>∃ o,f 2=EV o∧FE M n o u7
  | 3=>∃ o,f 3=EV o∧FE M n o u7
  | 4=>∃ o,f 4=EV o∧FE M n o u10
  | 5=>f 5=.pointer (some ⟨g,0,none⟩)
  | 6=>∃ o,f 6=EV o∧FE M n o u9
  | 7=>∃ o,f 7=EV o∧FE M n o u9
  | 8=>∃ o,f 8=EV o∧FE M n o u11
  | 9=>∃ o,f 9=EV o∧FE M n o u12
  | 10=>∃ b,f 10=.pointer (some ⟨b,0,none⟩)∧Y4_11.heap.size≤b∧X.heap[b]?=some (.cells #[.int .u64 0,.int .u64 0,.int .u64 0,.int .u64 0,.int .u64 0,.int .u64 0] 109 (0,0))
  | _=>True) (by kernel_rfl) [(65,0),(66,1),(67,2),(68,3),(69,4),(70,5),(71,6),(72,7),(73,8),(74,9),(11,10)] (by kernel_rfl) ?_
 refine zJ 1 10 ?_
 refine zJ 2 9 ?_
 refine lX 3 8 (fun X a=>let ⟨o,hbl,ho⟩:=B.ext a;⟨o,hbl.range,ho⟩) ?_
 refine lX 4 7 (fun X a=>let ⟨o,hbl,ho⟩:=B.ext a;⟨o,hbl.range,ho⟩) ?_
 refine fc 5 6 1 2 3 (fun X a _ _ h d=>kD X (t.out.ext A (c.trans a)).fr.ff h d) aW.out ?_
 refine zJ 6 5 ?_
 refine lX 7 4 (fun X a=>let ⟨o,hbl,ho⟩:=E.ext a;⟨o,hbl.range,ho⟩) ?_
 refine lX 8 3 (fun X a=>let ⟨o,hbl,ho⟩:=E.ext a;⟨o,hbl.range,ho⟩) ?_
 refine fc 9 2 5 6 7 (fun X a _ _ h d=>uR X (t.out.ext A (c.trans a)).fr.ff h d) aX.out ?_
 refine fc 10 1 0 4 8 (fun X a _ _ h d=>yI X (t.out.ext A (c.trans a)).fr.ff h d) aY.out ?_
 refine kr 11 0 ?_
 refine yF ⟨fun f X a hR D C=>?_⟩
 obtain⟨o2,(r:f 2=_),O⟩:=hR 2 (by decide)
 obtain⟨o3,(u:f 3=_),H⟩:=hR 3 (by decide)
 obtain⟨o4,(v:f 4=_),P⟩:=hR 4 (by decide)
 obtain⟨o6,(Z:f 6=_),h6⟩:=hR 6 (by decide)
 obtain⟨o7,(e7:f 7=_),h7⟩:=hR 7 (by decide)
 obtain⟨o8,(e8:f 8=_),h8⟩:=hR 8 (by decide)
 obtain⟨o9,(e9:f 9=_),S⟩:=hR 9 (by decide)
 obtain⟨V,(N:f 10=_),bw,cD⟩:=hR 10 (by decide)
 simp only[yZ,r,u,v,Z,e7,e8,e9,N]
 clear hR D C r u v Z e7 e8 e9 N
 refine zO (fun K i=>⟨zU (by kernel_rfl) (qi (.tmp 11) (.tmp 74) rfl rfl rfl rfl (cD) ku S.elt.six (fun Y5_11 ao=>i.out _ _ ?_))⟩)
 refine zI ?_
 have bO:F≠V:=by have:=(let ⟨_,h,_⟩:=p;h.lt:F<Y4_11.heap.size);omega
 replace p:=(ao.ve bO (p.ext a))
 have bV:G≠V:=by have:=(let ⟨_,h,_⟩:=m;h.lt:G<Y4_11.heap.size);omega
 replace m:=(ao.ve bV (m.ext a))
 have b1:L≠V:=by have:=(let ⟨_,h,_⟩:=s;h.lt:L<Y4_11.heap.size);omega
 replace s:=(ao.ve b1 (s.ext a))
 have b6:Q≠V:=by have:=(let ⟨_,h,_⟩:=B;h.lt:Q<Y4_11.heap.size);omega
 replace B:=(ao.ve b6 (B.ext a))
 have ca:R≠V:=by have:=(let ⟨_,h,_⟩:=E;h.lt:R<Y4_11.heap.size);omega
 replace E:=(ao.ve ca (E.ext a))
 have J:VE Y5_11 M n V u12:=(ao.mk' S)
 have cY:=zK c.bsize bw
 have l:Ext W0 Y5_11:=(ao.ext (c.trans a) (zK c.bsize bw))
 clear c a ao O H P h6 h7 h8 S
 have c:=l
 clear l
 go_upto_region 7 with fail
 refine zR 7 [0,0,2,0,8,31,0,127] [6] (fun j f X=>match j with
  | 0=>f 0=.pointer (some ⟨g,0,none⟩)
  | 1=>f 1=.pointer (some ⟨q,6,none⟩)
  | 2=>∃ o,f 2=EV o∧FE M n o y
  | 3=>f 3=.pointer (some ⟨q,12,none⟩)
  | 4=>∃ o,f 4=EV o∧FE M n o z
  | 5=>∃ o,f 5=EV o∧FE M n o u13
  | 6=>∃ b,f 6=.pointer (some ⟨b,0,none⟩)∧Y5_11.heap.size≤b∧X.heap[b]?=some (.cells #[.int .u64 0,.int .u64 0,.int .u64 0,.int .u64 0,.int .u64 0,.int .u64 0] 109 (0,0))
  | _=>True) (by kernel_rfl) [(75,0),(76,1),(77,2),(78,3),(79,4),(80,5),(12,6)] (by kernel_rfl) ?_
 refine zJ 1 6 ?_
 refine zJ 2 5 ?_
 refine lE 3 4 1 (fun _ a=>kI.ry ((c.trans a).at_ ae) I.out.x.elt.six) I.out.y ?_
 refine zJ 4 3 ?_
 refine lE 5 2 3 (fun _ a=>xV ((c.trans a).at_ ae) I.out.x.elt.six I.out.y.elt.six) I.out.z ?_
 refine fc 6 1 0 2 4 (fun X a _ _ h d=>uR X (t.out.ext A (c.trans a)).fr.ff h d) aZ.out ?_
 refine kr 7 0 ?_
 refine yF ⟨fun f X a hR D C=>?_⟩
 obtain⟨o2,(r:f 2=_),O⟩:=hR 2 (by decide)
 obtain⟨o4,(v:f 4=_),P⟩:=hR 4 (by decide)
 obtain⟨o5,(W:f 5=_),h5⟩:=hR 5 (by decide)
 obtain⟨aa,(Z:f 6=_),bx,cE⟩:=hR 6 (by decide)
 simp only[yZ,r,v,W,Z]
 clear hR D C r v W Z
 refine zO (fun K i=>⟨zU (by kernel_rfl) (qi (.tmp 12) (.tmp 80) rfl rfl rfl rfl (cE) ku h5.elt.six (fun Y6_7 an=>i.out _ _ ?_))⟩)
 refine zI ?_
 have bP:F≠aa:=by have:=(let ⟨_,h,_⟩:=p;h.lt:F<Y5_11.heap.size);omega
 replace p:=(an.ve bP (p.ext a))
 have bW:G≠aa:=by have:=(let ⟨_,h,_⟩:=m;h.lt:G<Y5_11.heap.size);omega
 replace m:=(an.ve bW (m.ext a))
 have b2:L≠aa:=by have:=(let ⟨_,h,_⟩:=s;h.lt:L<Y5_11.heap.size);omega
 replace s:=(an.ve b2 (s.ext a))
 have b7:Q≠aa:=by have:=(let ⟨_,h,_⟩:=B;h.lt:Q<Y5_11.heap.size);omega
 replace B:=(an.ve b7 (B.ext a))
 have cc:R≠aa:=by have:=(let ⟨_,h,_⟩:=E;h.lt:R<Y5_11.heap.size);omega
 replace E:=(an.ve cc (E.ext a))
 have cf:V≠aa:=by have:=(let ⟨_,h,_⟩:=J;h.lt:V<Y5_11.heap.size);omega
 replace J:=(an.ve cf (J.ext a))
 have T:VE Y6_7 M n aa u13:=(an.mk' h5)
 have cZ:=zK c.bsize bx
 have l:Ext W0 Y6_7:=(an.ext (c.trans a) (zK c.bsize bx))
 clear c a an O P h5
 have c:=l
 clear l
 go_upto_region 8 with fail
 refine zZ (by kernel_rfl) 11 [0,0,0,0,0,28,0,126,0,511,0,2047] [10] (fun j f X=>match j with
  | 0=>f 0=.pointer (some ⟨g,0,none⟩)
  | 1=>f 1=.pointer (some ⟨g,0,none⟩)
  | 2=>f 2=.pointer (some ⟨g,0,none⟩)
  | 3=>∃ o,f 3=EV o∧FE M n o u13
  | 4=>∃ o,f 4=EV o∧FE M n o u13
  | 5=>∃ o,f 5=EV o∧FE M n o bC
  | 6=>∃ o,f 6=EV o∧FE M n o u2
  | 7=>∃ o,f 7=EV o∧FE M n o bD
  | 8=>∃ o,f 8=EV o∧FE M n o u1
  | 9=>∃ o,f 9=EV o∧FE M n o u16
  | 10=>∃ b,f 10=.pointer (some ⟨b,0,none⟩)∧Y6_7.heap.size≤b∧X.heap[b]?=some (.cells #[.int .u64 0,.int .u64 0,.int .u64 0,.int .u64 0,.int .u64 0,.int .u64 0] 109 (0,0))
  | _=>True) (by kernel_rfl) [(81,0),(82,1),(83,2),(84,3),(85,4),(86,5),(87,6),(88,7),(89,8),(90,9),(13,10)] (by kernel_rfl) ?_
 refine zJ 1 10 ?_
 refine zJ 2 9 ?_
 refine zJ 3 8 ?_
 refine lX 4 7 (fun X a=>let ⟨o,hbl,ho⟩:=T.ext a;⟨o,hbl.range,ho⟩) ?_
 refine lX 5 6 (fun X a=>let ⟨o,hbl,ho⟩:=T.ext a;⟨o,hbl.range,ho⟩) ?_
 refine fc 6 5 2 3 4 (fun X a _ _ h d=>kD X (t.out.ext A (c.trans a)).fr.ff h d) a0.out ?_
 refine lX 7 4 (fun X a=>let ⟨o,hbl,ho⟩:=m.ext a;⟨o,hbl.range,ho⟩) ?_
 refine fc 8 3 1 5 6 (fun X a _ _ h d=>yI X (t.out.ext A (c.trans a)).fr.ff h d) a1.out ?_
 refine lX 9 2 (fun X a=>let ⟨o,hbl,ho⟩:=p.ext a;⟨o,hbl.range,ho⟩) ?_
 refine fc 10 1 0 7 8 (fun X a _ _ h d=>yI X (t.out.ext A (c.trans a)).fr.ff h d) a2.out ?_
 refine kr 11 0 ?_
 refine yF ⟨fun f X a hR D C=>?_⟩
 obtain⟨o3,(u:f 3=_),H⟩:=hR 3 (by decide)
 obtain⟨o4,(v:f 4=_),P⟩:=hR 4 (by decide)
 obtain⟨o5,(W:f 5=_),h5⟩:=hR 5 (by decide)
 obtain⟨o6,(Z:f 6=_),h6⟩:=hR 6 (by decide)
 obtain⟨o7,(e7:f 7=_),h7⟩:=hR 7 (by decide)
 obtain⟨o8,(e8:f 8=_),h8⟩:=hR 8 (by decide)
 obtain⟨o9,(e9:f 9=_),S⟩:=hR 9 (by decide)
 obtain⟨ac,(N:f 10=_),bz,cF⟩:=hR 10 (by decide)
 simp only[yZ,u,v,W,Z,e7,e8,e9,N]
 clear hR D C u v W Z e7 e8 e9 N
 refine zO (fun K i=>⟨zU (by kernel_rfl) (qi (.tmp 13) (.tmp 90) rfl rfl rfl rfl (cF) ku S.elt.six (fun Y7_11 ak=>i.out _ _ ?_))⟩)
 refine zI ?_
 have bQ:F≠ac:=by have:=(let ⟨_,h,_⟩:=p;h.lt:F<Y6_7.heap.size);omega
 replace p:=(ak.ve bQ (p.ext a))
 have bX:G≠ac:=by have:=(let ⟨_,h,_⟩:=m;h.lt:G<Y6_7.heap.size);omega
 replace m:=(ak.ve bX (m.ext a))
 have b3:L≠ac:=by have:=(let ⟨_,h,_⟩:=s;h.lt:L<Y6_7.heap.size);omega
 replace s:=(ak.ve b3 (s.ext a))
 have b8:Q≠ac:=by have:=(let ⟨_,h,_⟩:=B;h.lt:Q<Y6_7.heap.size);omega
 replace B:=(ak.ve b8 (B.ext a))
 have cd:R≠ac:=by have:=(let ⟨_,h,_⟩:=E;h.lt:R<Y6_7.heap.size);omega
 replace E:=(ak.ve cd (E.ext a))
 have cg:V≠ac:=by have:=(let ⟨_,h,_⟩:=J;h.lt:V<Y6_7.heap.size);omega
 replace J:=(ak.ve cg (J.ext a))
 have ci:aa≠ac:=by have:=(let ⟨_,h,_⟩:=T;h.lt:aa<Y6_7.heap.size);omega
 replace T:=(ak.ve ci (T.ext a))
 have ai:VE Y7_11 M n ac u16:=(ak.mk' S)
 have c0:=zK c.bsize bz
 have l:Ext W0 Y7_11:=(ak.ext (c.trans a) (zK c.bsize bz))
 clear c a ak H P h5 h6 h7 h8 S
 have c:=l
 clear l
 go_upto_region 9 with fail
 refine zR 5 [0,0,0,7,0,31] [4] (fun j f X=>match j with
  | 0=>f 0=.pointer (some ⟨g,0,none⟩)
  | 1=>∃ o,f 1=EV o∧FE M n o u2
  | 2=>∃ o,f 2=EV o∧FE M n o u2
  | 3=>∃ o,f 3=EV o∧FE M n o u17
  | 4=>∃ b,f 4=.pointer (some ⟨b,0,none⟩)∧Y7_11.heap.size≤b∧X.heap[b]?=some (.cells #[.int .u64 0,.int .u64 0,.int .u64 0,.int .u64 0,.int .u64 0,.int .u64 0] 109 (0,0))
  | _=>True) (by kernel_rfl) [(91,0),(92,1),(93,2),(94,3),(14,4)] (by kernel_rfl) ?_
 refine zJ 1 4 ?_
 refine lX 2 3 (fun X a=>let ⟨o,hbl,ho⟩:=m.ext a;⟨o,hbl.range,ho⟩) ?_
 refine lX 3 2 (fun X a=>let ⟨o,hbl,ho⟩:=m.ext a;⟨o,hbl.range,ho⟩) ?_
 refine fc 4 1 0 1 2 (fun X a _ _ h d=>kD X (t.out.ext A (c.trans a)).fr.ff h d) a3.out ?_
 refine kr 5 0 ?_
 refine yF ⟨fun f X a hR D C=>?_⟩
 obtain⟨o1,(e1:f 1=_),h1⟩:=hR 1 (by decide)
 obtain⟨o2,(r:f 2=_),O⟩:=hR 2 (by decide)
 obtain⟨o3,(u:f 3=_),H⟩:=hR 3 (by decide)
 obtain⟨ab,(v:f 4=_),bA,cG⟩:=hR 4 (by decide)
 simp only[yZ,e1,r,u,v]
 clear hR D C e1 r u v
 refine zO (fun K i=>⟨zU (by kernel_rfl) (qi (.tmp 14) (.tmp 94) rfl rfl rfl rfl (cG) ku H.elt.six (fun Y8_5 ag=>i.out _ _ ?_))⟩)
 refine zI ?_
 have aF:F≠ab:=by have:=(let ⟨_,h,_⟩:=p;h.lt:F<Y7_11.heap.size);omega
 replace p:=(ag.ve aF (p.ext a))
 have aG:G≠ab:=by have:=(let ⟨_,h,_⟩:=m;h.lt:G<Y7_11.heap.size);omega
 replace m:=(ag.ve aG (m.ext a))
 have aH:L≠ab:=by have:=(let ⟨_,h,_⟩:=s;h.lt:L<Y7_11.heap.size);omega
 replace s:=(ag.ve aH (s.ext a))
 have aI:Q≠ab:=by have:=(let ⟨_,h,_⟩:=B;h.lt:Q<Y7_11.heap.size);omega
 replace B:=(ag.ve aI (B.ext a))
 have aJ:R≠ab:=by have:=(let ⟨_,h,_⟩:=E;h.lt:R<Y7_11.heap.size);omega
 replace E:=(ag.ve aJ (E.ext a))
 have aK:V≠ab:=by have:=(let ⟨_,h,_⟩:=J;h.lt:V<Y7_11.heap.size);omega
 replace J:=(ag.ve aK (J.ext a))
 have aM:aa≠ab:=by have:=(let ⟨_,h,_⟩:=T;h.lt:aa<Y7_11.heap.size);omega
 replace T:=(ag.ve aM (T.ext a))
 have aN:ac≠ab:=by have:=(let ⟨_,h,_⟩:=ai;h.lt:ac<Y7_11.heap.size);omega
 replace ai:=(ag.ve aN (ai.ext a))
 have U:VE Y8_5 M n ab u17:=(ag.mk' H)
 have bp:=zK c.bsize bA
 have l:Ext W0 Y8_5:=(ag.ext (c.trans a) (zK c.bsize bA))
 clear c a ag h1 O H
 have c:=l
 clear l
 go_upto_region 10 with fail
 refine zR 4 [0,0,0,7,15] [] (fun j f X=>match j with
  | 0=>f 0=.pointer (some ⟨g,0,none⟩)
  | 1=>∃ o,f 1=EV o∧FE M n o u17
  | 2=>∃ o,f 2=EV o∧FE M n o u17
  | 3=>∃ o,f 3=EV o∧FE M n o u18
  | _=>True) (by kernel_rfl) [(95,0),(96,1),(97,2),(98,3)] (by kernel_rfl) ?_
 refine zJ 1 3 ?_
 refine lX 2 2 (fun X a=>let ⟨o,hbl,ho⟩:=U.ext a;⟨o,hbl.range,ho⟩) ?_
 refine lX 3 1 (fun X a=>let ⟨o,hbl,ho⟩:=U.ext a;⟨o,hbl.range,ho⟩) ?_
 refine fc 4 0 0 1 2 (fun X a _ _ h d=>uR X (t.out.ext A (c.trans a)).fr.ff h d) a4.out ?_
 refine yF ⟨fun f X a hR D C=>?_⟩
 obtain⟨o1,(e1:f 1=_),h1⟩:=hR 1 (by decide)
 obtain⟨o2,(r:f 2=_),O⟩:=hR 2 (by decide)
 obtain⟨o3,(u:f 3=_),H⟩:=hR 3 (by decide)
 simp only[yZ,e1,r,u]
 clear hR D C e1 r u
 obtain⟨cI,aR,aS⟩:=U.ext a
 refine zO (fun K i=>⟨zU (by kernel_rfl) (qi (.tmp 14) (.tmp 98) rfl rfl rfl rfl aR (by rw[qk];exact aS.elt.six) H.elt.six (fun Y9_4 ah=>i.out _ _ ?_))⟩)
 refine zI ?_
 replace p:=(ah.ve aF (p.ext a))
 replace m:=(ah.ve aG (m.ext a))
 replace s:=(ah.ve aH (s.ext a))
 replace B:=(ah.ve aI (B.ext a))
 replace E:=(ah.ve aJ (E.ext a))
 replace J:=(ah.ve aK (J.ext a))
 replace T:=(ah.ve aM (T.ext a))
 replace ai:=(ah.ve aN (ai.ext a))
 have az:VE Y9_4 M n ab u18:=ah.mk' H
 have l:Ext W0 Y9_4:=(ah.ext (c.trans a) bp)
 clear c a ah h1 O H U
 have c:=l
 clear l
 have U:=az
 clear az
 go_upto_region 11 with fail
 refine zR 4 [0,0,0,7,15] [] (fun j f X=>match j with
  | 0=>f 0=.pointer (some ⟨g,0,none⟩)
  | 1=>∃ o,f 1=EV o∧FE M n o u18
  | 2=>∃ o,f 2=EV o∧FE M n o u18
  | 3=>∃ o,f 3=EV o∧FE M n o u19
  | _=>True) (by kernel_rfl) [(99,0),(100,1),(101,2),(102,3)] (by kernel_rfl) ?_
 refine zJ 1 3 ?_
 refine lX 2 2 (fun X a=>let ⟨o,hbl,ho⟩:=U.ext a;⟨o,hbl.range,ho⟩) ?_
 refine lX 3 1 (fun X a=>let ⟨o,hbl,ho⟩:=U.ext a;⟨o,hbl.range,ho⟩) ?_
 refine fc 4 0 0 1 2 (fun X a _ _ h d=>uR X (t.out.ext A (c.trans a)).fr.ff h d) a5.out ?_
 refine yF ⟨fun f X a hR D C=>?_⟩
 obtain⟨o1,(e1:f 1=_),h1⟩:=hR 1 (by decide)
 obtain⟨o2,(r:f 2=_),O⟩:=hR 2 (by decide)
 obtain⟨o3,(u:f 3=_),H⟩:=hR 3 (by decide)
 simp only[yZ,e1,r,u]
 clear hR D C e1 r u
 obtain⟨cI,aR,aS⟩:=U.ext a
 refine zO (fun K i=>⟨zU (by kernel_rfl) (qi (.tmp 14) (.tmp 102) rfl rfl rfl rfl aR (by rw[qk];exact aS.elt.six) H.elt.six (fun Y10_4 af=>i.out _ _ ?_))⟩)
 refine zI ?_
 replace p:=(af.ve aF (p.ext a))
 replace m:=(af.ve aG (m.ext a))
 replace s:=(af.ve aH (s.ext a))
 replace B:=(af.ve aI (B.ext a))
 replace E:=(af.ve aJ (E.ext a))
 replace J:=(af.ve aK (J.ext a))
 replace T:=(af.ve aM (T.ext a))
 replace ai:=(af.ve aN (ai.ext a))
 have az:VE Y10_4 M n ab u19:=af.mk' H
 have l:Ext W0 Y10_4:=(af.ext (c.trans a) bp)
 clear c a af h1 O H U
 have c:=l
 clear l
 have U:=az
 clear az
 go_upto_region 12 with fail
 refine zZ (by kernel_rfl) 14 [0,0,0,0,0,0,56,126,0,0,0,2046,4095,0,16383] [13] (fun j f X=>match j with
  | 0=>f 0=.pointer (some ⟨g,0,none⟩)
  | 1=>f 1=.pointer (some ⟨g,0,none⟩)
  | 2=>∃ o,f 2=EV o∧FE M n o u7
  | 3=>f 3=.pointer (some ⟨g,0,none⟩)
  | 4=>∃ o,f 4=EV o∧FE M n o u9
  | 5=>∃ o,f 5=EV o∧FE M n o u12
  | 6=>∃ o,f 6=EV o∧FE M n o bE
  | 7=>∃ o,f 7=EV o∧FE M n o u21
  | 8=>f 8=.pointer (some ⟨g,0,none⟩)
  | 9=>∃ o,f 9=EV o∧FE M n o u19
  | 10=>∃ o,f 10=EV o∧FE M n o u19
  | 11=>∃ o,f 11=EV o∧FE M n o bF
  | 12=>∃ o,f 12=EV o∧FE M n o u23
  | 13=>∃ b,f 13=.pointer (some ⟨b,0,none⟩)∧Y10_4.heap.size≤b∧X.heap[b]?=some (.cells #[.int .u64 0,.int .u64 0,.int .u64 0,.int .u64 0,.int .u64 0,.int .u64 0] 109 (0,0))
  | _=>True) (by kernel_rfl) [(103,0),(104,1),(105,2),(106,3),(107,4),(108,5),(109,6),(110,7),(111,8),(112,9),(113,10),(114,11),(115,12),(15,13)] (by kernel_rfl) ?_
 refine zJ 1 13 ?_
 refine zJ 2 12 ?_
 refine lX 3 11 (fun X a=>let ⟨o,hbl,ho⟩:=B.ext a;⟨o,hbl.range,ho⟩) ?_
 refine zJ 4 10 ?_
 refine lX 5 9 (fun X a=>let ⟨o,hbl,ho⟩:=E.ext a;⟨o,hbl.range,ho⟩) ?_
 refine lX 6 8 (fun X a=>let ⟨o,hbl,ho⟩:=J.ext a;⟨o,hbl.range,ho⟩) ?_
 refine fc 7 7 3 4 5 (fun X a _ _ h d=>yI X (t.out.ext A (c.trans a)).fr.ff h d) a7.out ?_
 refine fc 8 6 1 2 6 (fun X a _ _ h d=>kD X (t.out.ext A (c.trans a)).fr.ff h d) a8.out ?_
 refine zJ 9 5 ?_
 refine lX 10 4 (fun X a=>let ⟨o,hbl,ho⟩:=U.ext a;⟨o,hbl.range,ho⟩) ?_
 refine lX 11 3 (fun X a=>let ⟨o,hbl,ho⟩:=U.ext a;⟨o,hbl.range,ho⟩) ?_
 refine fc 12 2 8 9 10 (fun X a _ _ h d=>uR X (t.out.ext A (c.trans a)).fr.ff h d) a9.out ?_
 refine fc 13 1 0 7 11 (fun X a _ _ h d=>yI X (t.out.ext A (c.trans a)).fr.ff h d) ba.out ?_
 refine kr 14 0 ?_
 refine yF ⟨fun f X a hR D C=>?_⟩
 obtain⟨o2,(r:f 2=_),O⟩:=hR 2 (by decide)
 obtain⟨o4,(v:f 4=_),P⟩:=hR 4 (by decide)
 obtain⟨o5,(W:f 5=_),h5⟩:=hR 5 (by decide)
 obtain⟨o6,(Z:f 6=_),h6⟩:=hR 6 (by decide)
 obtain⟨o7,(e7:f 7=_),h7⟩:=hR 7 (by decide)
 obtain⟨o9,(e9:f 9=_),S⟩:=hR 9 (by decide)
 obtain⟨bB,(N:f 10=_),av⟩:=hR 10 (by decide)
 obtain⟨cJ,(au:f 11=_),aw⟩:=hR 11 (by decide)
 obtain⟨c1,(aq:f 12=_),aO⟩:=hR 12 (by decide)
 obtain⟨aj,(al:f 13=_),bq,cv⟩:=hR 13 (by decide)
 simp only[yZ,r,v,W,Z,e7,e9,N,au,aq,al]
 clear hR D C r v W Z e7 e9 N au aq al
 refine zO (fun K i=>⟨zU (by kernel_rfl) (qi (.tmp 15) (.tmp 115) rfl rfl rfl rfl (cv) ku aO.elt.six (fun Y11_14 ad=>i.out _ _ ?_))⟩)
 refine zI ?_
 have bK:F≠aj:=by have:=(let ⟨_,h,_⟩:=p;h.lt:F<Y10_4.heap.size);omega
 replace p:=(ad.ve bK (p.ext a))
 have bR:G≠aj:=by have:=(let ⟨_,h,_⟩:=m;h.lt:G<Y10_4.heap.size);omega
 replace m:=(ad.ve bR (m.ext a))
 have bY:L≠aj:=by have:=(let ⟨_,h,_⟩:=s;h.lt:L<Y10_4.heap.size);omega
 replace s:=(ad.ve bY (s.ext a))
 have b4:Q≠aj:=by have:=(let ⟨_,h,_⟩:=B;h.lt:Q<Y10_4.heap.size);omega
 replace B:=(ad.ve b4 (B.ext a))
 have b9:R≠aj:=by have:=(let ⟨_,h,_⟩:=E;h.lt:R<Y10_4.heap.size);omega
 replace E:=(ad.ve b9 (E.ext a))
 have ce:V≠aj:=by have:=(let ⟨_,h,_⟩:=J;h.lt:V<Y10_4.heap.size);omega
 replace J:=(ad.ve ce (J.ext a))
 have ch:aa≠aj:=by have:=(let ⟨_,h,_⟩:=T;h.lt:aa<Y10_4.heap.size);omega
 replace T:=(ad.ve ch (T.ext a))
 have cj:ac≠aj:=by have:=(let ⟨_,h,_⟩:=ai;h.lt:ac<Y10_4.heap.size);omega
 replace ai:=(ad.ve cj (ai.ext a))
 have ck:ab≠aj:=by have:=(let ⟨_,h,_⟩:=U;h.lt:ab<Y10_4.heap.size);omega
 replace U:=(ad.ve ck (U.ext a))
 have cK:VE Y11_14 M n aj u23:=(ad.mk' aO)
 have cS:=zK c.bsize bq
 have l:Ext W0 Y11_14:=(ad.ext (c.trans a) (zK c.bsize bq))
 clear c a ad O P h5 h6 h7 S av aw aO
 have c:=l
 clear l
 obtain⟨ox,bH,fx⟩:=J
 obtain⟨oy,bI,fy⟩:=cK
 obtain⟨oz,bJ,fz⟩:=ai
 have cu:=c.at_ bo
 go_upto_region 13 with fail
 refine zR 4 [0,0,0,7,15] [] (fun j f X=>match j with
  | 0=>f 0=EV ox
  | 1=>f 1=EV oy
  | 2=>f 2=EV oz
  | 3=>f 3=JV ox oy oz
  | _=>True) (by kernel_rfl) [(116,0),(117,1),(118,2),(119,3)] (by kernel_rfl) ?_
 refine zv 1 3 [(117,1),(118,2)] (fun f X a hR K i=>?_) ?_
 · simp only[yZ];refine⟨zU (by kernel_rfl) (vA (.tmp 11) rfl rfl (xR.range (a.at_ bH)) fx.elt.six ?_)⟩;exact i.out _ (EV ox) _ (by simp only[yZ]) (zT _) trivial (fun _ _=>rfl)
 refine zv 2 2 [(116,0),(118,2)] (fun f X a hR K i=>?_) ?_
 · simp only[yZ];refine⟨zU (by kernel_rfl) (vA (.tmp 15) rfl rfl (xR.range (a.at_ bI)) fy.elt.six ?_)⟩;exact i.out _ (EV oy) _ (by simp only[yZ]) (zT _) trivial (fun _ _=>rfl)
 refine zv 3 1 [(116,0),(117,1)] (fun f X a hR K i=>?_) ?_
 · simp only[yZ];refine⟨zU (by kernel_rfl) (vA (.tmp 13) rfl rfl (xR.range (a.at_ bJ)) fz.elt.six ?_)⟩;exact i.out _ (EV oz) _ (by simp only[yZ]) (zT _) trivial (fun _ _=>rfl)
 refine zv 4 0 [(116,0),(117,1),(118,2)] (fun f X a hR K i=>?_) ?_
 · have e0:f 0=_:=hR.out 0 rfl;have e1:f 1=_:=hR.out 1 rfl;have r:f 2=_:=hR.out 2 rfl;simp only[yZ,e0,e1,r];refine⟨zU (by kernel_rfl) (gn (x:=ox) (y:=oy) (z:=oz) (.tmp 116) (.tmp 117) (.tmp 118) rfl rfl rfl rfl fx.elt.six fy.elt.six fz.elt.six ?_)⟩;exact i.out _ (JV ox oy oz) _ (by simp only[yZ,e0,e1,r]) (zT _) trivial (fun _ _=>rfl)
 refine yF ⟨fun f X a hR D C=>?_⟩
 have u:f 3=_:=hR 3 (by decide)
 simp only[yZ,u]
 clear hR D C u
 refine zO (fun K i=>⟨zU (by kernel_rfl) (vM (x:=ox) (y:=oy) (z:=oz) (.tmp 4) (.tmp 119) rfl rfl rfl rfl (a.at_ cu) rfl fx.elt.six fy.elt.six fz.elt.six (fun Y cr ct cR=>i.out _ _ ?_))⟩)
 refine zI ?_
 go_wp2
 exact cQ rfl rfl rfl cr fx.elt.six fy.elt.six fz.elt.six ⟨_,_,_,rfl,⟨fx,fy,fz⟩,ct.ext (bG.out.trans (c.trans a)) (by have:=Hq.out;omega)⟩
end Go.Proofs.YtaemogcomplhiaaGreatDoor
