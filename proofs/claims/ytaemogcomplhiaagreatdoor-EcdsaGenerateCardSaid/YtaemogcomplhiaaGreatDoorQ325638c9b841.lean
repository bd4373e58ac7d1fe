/- Laws that the proof rests on. -/
import Derived.Test.YtaemogcomplhiaaGreatDoorQ30e8130b800c
set_option maxRecDepth 100000
set_option maxHeartbeats 16000000
namespace Go.Proofs.YtaemogcomplhiaaGreatDoor
open Go.RowKit
theorem bN {g n inv M:Nat}{ml ol rl:List Nat}(a b:List Nat)(w:World)(N:FF w g n inv M ml ol rl)(ha:Elt M a)(hb:Elt M b) :
 Calls Tryz.prog 102 #[.pointer (some ⟨g,0,none⟩),EV a,EV b] w fun e w'=>∃ o,e=.returned (EV o)∧Elt M o∧val 18446744073709551616 o*18446744073709551616^n%M=val 18446744073709551616 a*val 18446744073709551616 b%M∧Below w.heap.size w w':=by
 have Z:=N.fld.lt
 have h0:=N.fld.n0
 have hn:=N.nle
 have bv:=N.npos
 have ta:=ha.take N
 have tb:=hb.take N
 obtain⟨a0,a1,a2,a3,a4,a5,aj⟩:=six ha.six
 obtain⟨b0,J,A,K,B,E,ak⟩:=six hb.six
 obtain⟨l1,l2,l3,l4,hz,V⟩:=zEP w (.cells #[.int .u64 (a0:Int),.int .u64 (a1:Int),.int .u64 (a2:Int),.int .u64 (a3:Int),.int .u64 (a4:Int),.int .u64 (a5:Int)] 109)
  (.cells #[.int .u64 (b0:Int),.int .u64 (J:Int),.int .u64 (A:Int),.int .u64 (K:Int),.int .u64 (B:Int),.int .u64 (E:Int)] 109) (.cells #[.int .u64 0,.int .u64 0,.int .u64 0,.int .u64 0,.int .u64 0,.int .u64 0] 109)
  (.cells #[.int .u64 0,.int .u64 0,.int .u64 0,.int .u64 0,.int .u64 0,.int .u64 0,.int .u64 0,.int .u64 0] 175)
 have bb:EV a=.agg #[.int .u64 (a0:Int),.int .u64 (a1:Int),.int .u64 (a2:Int),.int .u64 (a3:Int),.int .u64 (a4:Int),.int .u64 (a5:Int)]:=by rw[aj];rfl
 have bc:EV b=.agg #[.int .u64 (b0:Int),.int .u64 (J:Int),.int .u64 (A:Int),.int .u64 (K:Int),.int .u64 (B:Int),.int .u64 (E:Int)]:=by rw[ak];rfl
 rw[bb,bc]
 have bH:=(V.cell (p:=⟨g,0,none⟩) Z).trans h0
 go_enter Tryz.func102,Tryz.ntmps102
 go_wp2_with fail
 generalize(((w.alloc (.cells #[.int .u64 (a0:Int),.int .u64 (a1:Int),.int .u64 (a2:Int),.int .u64 (a3:Int),.int .u64 (a4:Int),.int .u64 (a5:Int)] 109)).alloc
  (.cells #[.int .u64 (b0:Int),.int .u64 (J:Int),.int .u64 (A:Int),.int .u64 (K:Int),.int .u64 (B:Int),.int .u64 (E:Int)] 109)).alloc (.cells #[.int .u64 0,.int .u64 0,.int .u64 0,.int .u64 0,.int .u64 0,.int .u64 0] 109)).alloc
  (.cells #[.int .u64 0,.int .u64 0,.int .u64 0,.int .u64 0,.int .u64 0,.int .u64 0,.int .u64 0,.int .u64 0] 175)=W0 at *
 have A0:vm W0 w.heap.size 109 a:=by rw[aj];exact l1
 have B0:vm W0 (w.heap.size+1) 109 b:=by rw[ak];exact l2
 have T0:vm W0 (w.heap.size+1+1+1) 175 [0,0,0,0,0,0,0,0]:=l4
 have bI:w.heap.size+4≤W0.heap.size:=by omega
 have Ha:=zF ha
 have T:=zF hb
 have bE:=zF aj
 have bF:=zF ak
 have r:=zF N
 clear l1 l2 l4 hz ha hb aj ak bb bc N
 have bL:Hid (∀ j,j<6→True):=zF fun _ _=>trivial
 go_loopw [24] (fun iv wr=>∃(i:Nat) (o:List Nat),iv=.int .i64 (i:Int)∧i≤n∧Hid (cU 18446744073709551616 M a b (val 18446744073709551616 (o.take (n+1))) i)∧Hid (o.length=8)∧Hid (∀ x∈o,x<18446744073709551616)∧vm wr (w.heap.size+1+1+1) 175 o∧Below (w.heap.size+1+1+1) W0 wr) (fun iv _=>n-(intOf iv).toNat)
 case atStart=>exact⟨0,_,rfl,by omega,zF (by
  have h1:val 18446744073709551616 (([0,0,0,0,0,0,0,0]:List Nat).take (n+1))=0:=wH fun x hx=>by have:=qN hx;simp at this;exact this
  rw[h1];exact cU.zero _ _ (by have:=r.out.big;omega)),zF rfl,zF (by simp),T0,zo _ _⟩
 case round =>
  obtain⟨i,o,rfl,hi,HM,O,an,d,f⟩:=hrel;have C:Below w.heap.size w wr:=V.trans (f.mono (by omega));have c0:=(r.out.below C Z).fld.n0;by_cases hlt:i<n
  · have ah:dg a i<18446744073709551616:=jW (by omega) Ha.out.lim i;obtain⟨U,aA⟩:=eV (dg a i);rw[aA]at ah;have ad:=zF aA;have bM:(i:Int)<6:=by omega
    have a9:=yY.zero 18446744073709551616 o b U;have bo:=zF a9;clear aA a9 C;go_wp2_with fail;go_loopw [11,28] (fun cv jv wr=>∃(j l:Nat) (q:List Nat),jv=.int .i64 (j:Int)∧cv=.int .u64 (l:Int)∧j≤n∧l<18446744073709551616∧Hid (yY 18446744073709551616 o b q U j l)∧Hid (∀ x∈q,x<18446744073709551616)∧vm wr (w.heap.size+1+1+1) 175 q∧Below (w.heap.size+1+1+1) W0 wr) (fun _ jv _=>n-(intOf jv).toNat);case atStart=>exact⟨0,0,o,rfl,rfl,by omega,by omega,bo,an,d,f⟩
    case round =>
     clear d f c0;obtain⟨j,l,q,rfl,rfl,hj,X,S,af,d,f⟩:=hrel;have aU:q.length=8:=by have:=S.out.1;have:=O.out;omega
     have C:Below w.heap.size w wr:=V.trans (f.mono (by omega));have aq:=A0.below f (by omega);have au:=B0.below f (by omega);by_cases hjt:j<n
     · have q1:=aq.cell (i:=i) (by rw[Ha.out.six];omega);rw[ad.out]at q1;have q2:=au.cell (i:=j) (by rw[T.out.six];omega);have q3:=d.cell (i:=j) (by omega);have q4:=d.free j;have db:dg b j<18446744073709551616:=jW (by omega) T.out.lim j;have d1:dg q j<18446744073709551616:=jW (by omega) af.out j;obtain⟨D,lo,s1,c1,y,F,J,A,K,B,E,L,b7,b8,b9,ap,Y⟩:=df U (dg b j) (dg q j) l ah db d1 X;have Q:=zF (fun k=>(yp U (dg b j) D lo ah db J A (World.drewN wr k)).mono fun e w' (h:e=_∧_=w')=>(⟨h.1,h.2.symm⟩:e=.returned (.tuple #[.int .u64 (D:Int),.int .u64 (lo:Int)])∧w'=World.drewN wr k));have ay:=fun w=>kR lo (dg q j) 0 s1 c1 (by omega) K B w;have az:=fun w=>kR s1 l 0 y F (by omega) E L w;simp only[qO]at ay az;have bq:=zF (S.out.step (s:=y) (c':=D+c1+F) (by have:=O.out;omega) (by rw[Y];omega));have aC:=d.set j y;have ar:=f.setCell (p:=⟨w.heap.size+1+1+1,j,none⟩) (zG _) (.int .u64 (y:Int));have ao:Hid (∀ x∈q.set j y,x<18446744073709551616):=zF (xF af.out E);have aK:(j:Int)<8:=by omega
       have bB:(j:Int)<6:=by omega
       have bK:(q.set j y).length=8:=by simpa using aU
       clear Y A B L S f C aq au aU d;go_wp2_with fail;go_quiet (first|(go_at_call 98;exact Calls.quiet_of_same (Q.out _)));go_wp2_with fail;go_roundw;case rel=>exact⟨j+1,D+c1+F,q.set j y,by go_num,by go_num,by omega,ap,bq,ao,aC,qp ar _⟩
       case measure=>simp[intOf];omega
     · obtain rfl:j=n:=by omega
       have q3:=d.cell (i:=j) (by omega);have q4:=d.free j;have d1:dg q j<18446744073709551616:=jW (by omega) af.out j;obtain⟨s,c1,aa,bz,ab⟩:=yr (dg q j) l 0 d1 X (by omega);have ax:=fun w=>kR (dg q j) l 0 s c1 (by omega) aa ab w;simp only[qO]at ax;obtain⟨aV,ac⟩:=S.out.fin (s:=s) (c':=c1) (by have:=O.out;omega) (.inr tb) (by omega);have aD:∀ x∈(q.set j s).set (j+1) c1,x<18446744073709551616:=xF (xF af.out aa) (by omega);have I:=d.set j s;have q5:=I.cell (i:=j+1) (by simp;omega);have q6:=I.free (j+1);have W:=I.set (j+1) c1;have H:=(f.setCell (p:=⟨w.heap.size+1+1+1,j,none⟩) (zG _) (.int .u64 (s:Int))).setCell (p:=⟨w.heap.size+1+1+1,j+1,none⟩) (zG _) (.int .u64 (c1:Int));have aK:(j:Int)<8:=by omega
       have bC:(j:Int)+1<8:=by omega
       have aW:((q.set j s).set (j+1) c1).length=8:=by rw[aV];exact O.out
       generalize bw:(q.set j s).set (j+1) c1=o2 at *;have bJ:=H.size;have m0:dg ml 0<18446744073709551616:=jW (by omega) r.out.mlt 0;have t0:dg o2 0<18446744073709551616:=jW (by omega) aD 0;have aL:=zF ac;have ae:=zF aW;have aN:=zF aD;clear ab S ac aV aW aD d I f bw C aq au;go_wp2_with fail;generalize(World.setCell wr ⟨w.heap.size+1+1+1,j,none⟩ (.int .u64 (s:Int))).setCell ⟨w.heap.size+1+1+1,j+1,none⟩ (.int .u64 (c1:Int))=W2 at *;have aQ:Below w.heap.size w W2:=V.trans (H.mono (by omega));have av:=r.out.below aQ Z;have i7:=av.fld.inv_;have i1:=av.fld.m_ (j:=0) (by omega);have e0:=W.cell (i:=0) (by have:=ae.out;omega);obtain⟨u,hu⟩:=eV (dg o2 0*inv%18446744073709551616);have am:u<18446744073709551616:=by rw[←hu];exact qP _ (by omega)
       have bA:=t8 (dg o2 0) inv;rw[hu]at bA;have aw:(val 18446744073709551616 (o.take (j+1))+U*val 18446744073709551616 b)%18446744073709551616=dg o2 0:=by rw[←aL.out];exact fW aN.out (by omega) _
       have aR:M%18446744073709551616=dg ml 0:=by
        obtain⟨k,hk⟩:∃ k,j=k+1:=⟨j-1,by omega⟩
        rw[←r.out.mtake,hk];exact fW r.out.mlt (by omega) _
       have hz:=zA3 (by omega) r.out.invV aw aR hu.symm;obtain⟨D,lo,F,J,A,K,B,E,L⟩:=tF am m0 t0 hz;have Q:=zF (fun w=>yp u (dg ml 0) D lo am m0 J A w);have bu:=fun w=>kR lo (dg o2 0) 0 0 F (by omega) (by omega) B w;simp only[qO]at bu;obtain⟨p0,a8⟩:∃ p0,p0+1=j:=⟨j-1,by omega⟩
       have bn:=zF (yX.zero (t:=o2) (m:=ml) (u:=u) (c:=D+F) L);have Hu:=zF (show u=(val 18446744073709551616 (o.take (j+1))+dg a i*val 18446744073709551616 b)%18446744073709551616*inv%18446744073709551616 by rw[ad.out,aw,hu]);have bG:=zF a8;clear hu aw aR hz A B L a8;go_quiet (fail);go_wp2_with fail;refine(Q.out _).mono ?_;rintro e w3 ⟨rfl,rfl⟩;go_wp2_with fail;have aT:vm (W2.drewN nq) (w.heap.size+1+1+1) 175 o2:=W;have aP:=qp H nq;clear W H e0 i7 i1 av aQ q3 q4 q5 q6 Q;generalize W2.drewN nq=W3 at *;go_loopw [11,18] (fun cv qv wr=>∃(k l:Nat) (o3:List Nat),qv=.int .i64 ((k:Int)+1)∧cv=.int .u64 (l:Int)∧k+1≤j∧l<18446744073709551616∧Hid (yX 18446744073709551616 o2 ml o3 u k l)∧Hid (∀ x∈o3,x<18446744073709551616)∧vm wr (w.heap.size+1+1+1) 175 o3∧Below (w.heap.size+1+1+1) W0 wr) (fun _ qv _=>j-(intOf qv).toNat);case atStart=>exact⟨0,D+F,o2,rfl,by go_num,by omega,E,bn,aN,aT,aP⟩
       case round =>
        clear aT aP;obtain⟨k,l,o3,rfl,rfl,hk,X,HS,ag,d,f⟩:=hrel;have aX:o3.length=8:=by have:=HS.out.1;have:=ae.out;omega
        have C:Below w.heap.size w wr:=V.trans (f.mono (by omega));have G:=(r.out.below C Z).fld;by_cases hkt:k+1<j
        · have i1:=G.m_ (j:=k+1) (by omega);have q3:=d.cell (i:=k+1) (by omega);have q4:=d.free k;have q5:=d.cell (i:=k) (by omega);have dm:dg ml (k+1)<18446744073709551616:=jW (by omega) r.out.mlt (k+1);have d1:dg o3 (k+1)<18446744073709551616:=jW (by omega) ag.out (k+1);obtain⟨D,lo,s1,c1,y,F,J,A,K,B,E,L,b7,b8,b9,ap,Y⟩:=df u (dg ml (k+1)) (dg o3 (k+1)) l am dm d1 X;have Q:=zF (fun w=>yp u (dg ml (k+1)) D lo am dm J A w);have ay:=fun w=>kR lo (dg o3 (k+1)) 0 s1 c1 (by omega) K B w;have az:=fun w=>kR s1 l 0 y F (by omega) E L w;simp only[qO]at ay az;have bs:=zF (HS.out.step (s:=y) (c':=D+c1+F) (by have:=ae.out;omega) (by rw[Y];omega));have aC:=d.set k y;have ar:=f.setCell (p:=⟨w.heap.size+1+1+1,k,none⟩) (zG _) (.int .u64 (y:Int));have ao:Hid (∀ x∈o3.set k y,x<18446744073709551616):=zF (xF ag.out E);have aK:(k:Int)+1<8:=by omega
          have bB:(k:Int)+1<6:=by omega
          have bD:(k:Int)<8:=by omega
          clear Y A B L HS f C G aX d;go_wp2_with fail;refine(Q.out _).mono ?_;rintro e w3 ⟨rfl,rfl⟩;go_wp2;go_roundw;case rel=>exact⟨k+1,D+c1+F,o3.set k y,by go_num,by go_num,by omega,ap,bs,ao,aC,ar⟩
          case measure=>simp[intOf];omega
        · have P:k+1=j:=by omega
          have q3:=d.cell (i:=j) (by omega);have q4:=d.free k;have q5:=d.cell (i:=k) (by omega);have d1:dg o3 j<18446744073709551616:=jW (by omega) ag.out j;obtain⟨s,c1,aa,bz,ab⟩:=yr (dg o3 j) l 0 d1 X (by omega);have ax:=fun w=>kR (dg o3 j) l 0 s c1 (by omega) aa ab w;simp only[qO]at ax;obtain⟨aY,aI⟩:=HS.out.fin (s:=s) (c':=c1) (by have:=ae.out;omega) (by rw[P,r.out.mtake,r.out.mval]) (by rw[P];omega);rw[r.out.mval,show k+3=j+2 by omega,aL.out]at aI;have ai:=cU.step (by omega) HM.out (by rw[ad.out];exact ah) Hu.out rfl (T4:=val 18446744073709551616 (((o3.set k s).set (k+1) (dg o3 (k+2)+c1)).take (k+2))) (by rw[ad.out];exact aI.symm);have ba:dg o3 (k+2)+c1≤1:=by
           have e1:=qG 18446744073709551616 ((o3.set k s).set (k+1) (dg o3 (k+2)+c1)) (k+1);rw[vz (by simp;omega)]at e1;have e2:=ai.1;have e3:=r.out.room;rw[←P]at e3;exact sd e1 e2 (kA e3) T.out.lt
          have aE:∀ x∈(o3.set k s).set (k+1) (dg o3 (k+2)+c1),x<18446744073709551616:=xF (xF ag.out aa) (by omega);rw[show k+2=j+1 by omega,P]at ai aE aY;rw[show k+2=j+1 by omega]at ba;have I:=d.set k s;have q6:=I.cell (i:=j+1) (by simp;omega);rw[getD_set_ne (by omega)]at q6;have q7:=I.cell (i:=j) (by simp;omega);have q8:=I.free j;have W:=I.set j (dg o3 (j+1)+c1);have H:=(f.setCell (p:=⟨w.heap.size+1+1+1,k,none⟩) (zG _) (.int .u64 (s:Int))).setCell (p:=⟨w.heap.size+1+1+1,j,none⟩) (zG _) (.int .u64 ((dg o3 (j+1)+c1:Nat):Int));have aK:(j:Int)<8:=by omega
          have bC:(j:Int)+1<8:=by omega
          have bD:(k:Int)<8:=by omega
          have aZ:((o3.set k s).set j (dg o3 (j+1)+c1)).length=8:=by simpa using aX
          have be:=zF ai;have bi:=zF aE;have bg:=zF aZ;have aJ:=qf ((dg o3 (j+1):Int)+(c1:Int)) (by omega);have bp:=zF aJ;have bf:=zF P;clear ab HS aI ai aE aY aZ d I f C G ba P aJ;go_upto_region 30 with fail;have i0:(j:Int)-1=(k:Int):=by have:=bf.out;omega
          go_upto_region 31 with fail;have aJ:=bp.out;go_wp2_with fail;refine⟨⟨i+1,(o3.set k s).set j (dg o3 (j+1)+c1),by go_num,by omega,be,bg,bi,by simpa using W,by simpa using H⟩,by simp[intOf];omega⟩
  · obtain rfl:i=n:=by omega
    obtain⟨bt,kk,aS⟩:=HM.out;have G:=r.out.below C Z;have hT:val 18446744073709551616 (o.take i)+18446744073709551616^i*dg o i=val 18446744073709551616 (o.take (i+1)):=(qG _ _ _).symm;have q1:=d.cell (i:=i) (by have:=O.out;omega);have aB:=bO (w.heap.size+1+1+1) (dg o i) o wr G.fld G.mlt d (by omega) O.out an.out hn bv (by rw[G.mtake,G.mval]) (jW (by omega) an.out i) (by rw[hT,G.mval];have:=T.out.lt;omega);rw[hT,G.mval]at aB;have aH:=zAo (v:=val 18446744073709551616 (o.take (i+1))) (M:=M) (R:=18446744073709551616^i) aS;rw[ta]at aH;have a7:=rU (v:=val 18446744073709551616 (o.take (i+1))) (M:=M) (by have:=T.out.lt;omega);have bm:=zF aH;have bj:=zF a7;have aM:=zF aB;have bP:(i:Int)<8:=by omega
    clear aB hT G bt aS aH a7 d;go_wp2_with fail;refine aM.out.mono ?_;rintro e w2 ⟨o2,rfl,aF,a6,ac,H⟩;obtain⟨x0,x1,x2,x3,x4,x5,aG⟩:=six aF;have al:=(H.block (w.heap.size+1+1) (by have:=f.size;omega)).trans ((f.block (w.heap.size+1+1) (by omega)).trans l3);obtain⟨r0,r1,r2,r3,r4,r5⟩:=yJ al;have z:=fun i=>qz al i;have z0:=z 0;have z1:=z 1;have z2:=z 2;have z3:=z 3;have z4:=z 4;have z5:=z 5;have bx:=al;have br:Below w.heap.size w w2:=C.trans (H.mono C.size);have aO:=zF ac;have bk:=zF aF;have bh:=zF a6;have bl:=zF aG;have bd:EV o2=.agg #[.int .u64 (x0:Int),.int .u64 (x1:Int),.int .u64 (x2:Int),.int .u64 (x3:Int),.int .u64 (x4:Int),.int .u64 (x5:Int)]:=by rw[aG];rfl
    rw[bd];clear bd aG ac aF a6 z al H f aM;go_wp2_with fail;refine pW rfl rfl rfl (un bx _ _ _ _ _ _) ?_;exact⟨o2,by rw[bl.out];rfl,⟨bk.out,bh.out,by rw[aO.out];exact bj.out⟩,by rw[aO.out];exact bm.out,xf br (by omega) _ _ _ _ _ _⟩
theorem yt {a b c M:Nat}(h:(a+c)%M=(b+c)%M):a%M=b%M:=by
 have d:=congrArg (fun z:Nat=>(z:Int)) h;simp only[Int.natCast_emod,vj]at d;have e:((a:Int)+c-c)%M=((b:Int)+c-c)%M:=by rw[Int.sub_emod,d,←Int.sub_emod]
 rw[Int.add_sub_cancel,Int.add_sub_cancel]at e;exact_mod_cast e
theorem mP {x y M R:Nat}(a:0<M)(e:y≤M):aS (x*R%M) (y*R%M) M=(x+M-y)*R%M:=by
 have b:=qP (x*R) a;have d:=qP (y*R) a;rw[zAI b d];refine yt (c:=y*R%M) ?_;rw[show x*R%M+M-y*R%M+y*R%M=x*R%M+M by omega,Nat.add_mod_right,wF];rw[Nat.add_mod_mod,←qb,show x+M-y+y=x+M by omega,qb,qw]
theorem zCU {x M:Nat}(h:x<2*M):de x M=x%M:=by
 rw[de];split
 · rw[qF (by assumption)]
 · rw[show x=x-M+M by omega,Nat.add_mod_right,qF (by omega)];omega
structure FE (M n:Nat) (l:List Nat) (x:Nat):Prop where
 elt:Elt M l
 form:val 18446744073709551616 l=x*18446744073709551616^n%M
theorem FE.mod {M n:Nat}{l:List Nat}{x:Nat}(h:FE M n l x):FE M n l (x%M):=⟨h.elt,by rw[ye];exact h.form⟩
theorem FE.zero_iff {w:World}{g n inv M:Nat}{ml ol rl l:List Nat}{x:Nat}(h:FE M n l x)(m:FF w g n inv M ml ol rl):l=[0,0,0,0,0,0]↔x%M=0:=by
 constructor
 · intro j;have i:=h.form;rw[j]at i;have k:x*18446744073709551616^n%M=0*18446744073709551616^n%M:=by rw[←i];simp
   have:=bK m.invV k;simpa using this
 · intro j;have i:=h.form;rw[←ye,j,Nat.zero_mul,kS]at i;obtain⟨a,b,c,d,e,f,rfl⟩:=six h.elt.six;simp only[kB,zBt]at i;simp;omega
theorem uc {g n inv M:Nat}{ml ol rl:List Nat}{a b:List Nat}{x y:Nat}(w:World)(c:FF w g n inv M ml ol rl)(d:FE M n a x)(f:FE M n b y) :
 Calls Tryz.prog 102 #[.pointer (some ⟨g,0,none⟩),EV a,EV b] w fun e w'=>∃ o,e=.returned (EV o)∧FE M n o (x*y)∧Below w.heap.size w w':=by
 refine(bN a b w c d.elt f.elt).mono ?_
 rintro e w' ⟨o,rfl,h,i,l⟩
 refine⟨o,rfl,⟨h,?_⟩,l⟩
 rw[d.form,f.form,←vC]at i
 have j:val 18446744073709551616 o*18446744073709551616^n%M=(x*y*18446744073709551616^n)*18446744073709551616^n%M:=by
  rw[i];congr 1;generalize 18446744073709551616^n=R;rw[Nat.mul_mul_mul_comm,zd (x*y)]
 have k:=bK c.invV j
 rwa [qF h.lt]at k
theorem oK {g n inv M:Nat}{ml ol rl:List Nat}{a b:List Nat}{x y:Nat}(w:World)(h:FF w g n inv M ml ol rl)(c:FE M n a x)(d:FE M n b y) :
 Calls Tryz.prog 101 #[.pointer (some ⟨g,0,none⟩),EV a,EV b] w fun e w'=>∃ o,e=.returned (EV o)∧FE M n o (x+y)∧Below w.heap.size w w':=by
 refine(t6 a b w h c.elt d.elt).mono ?_
 rintro e w' ⟨o,rfl,i,j,f⟩
 refine⟨o,rfl,⟨i,?_⟩,f⟩
 have k:=c.elt.lt
 have l:=d.elt.lt
 rw[j,zCU (by omega),c.form,d.form,←wG,←qb]
theorem aH {g n inv M:Nat}{ml ol rl:List Nat}{a b:List Nat}{x y:Nat}(w:World)(c:FF w g n inv M ml ol rl)(d:FE M n a x)(f:FE M n b y)(k:y≤M) :
 Calls Tryz.prog 103 #[.pointer (some ⟨g,0,none⟩),EV a,EV b] w fun e w'=>∃ o,e=.returned (EV o)∧FE M n o (x+M-y)∧Below w.heap.size w w':=by
 refine(tn a b w c d.elt f.elt).mono ?_
 rintro e w' ⟨o,rfl,i,j,h⟩
 refine⟨o,rfl,⟨i,?_⟩,h⟩
 rw[j,d.form,f.form,mP (by have:=c.big;omega) k]
theorem zBW {x y b M:Nat}(j:3<M):(y*y+M-(((x*x+M-3)*x+b)%M))%M=0↔y*y%M=((x*x%M*x%M+M-3*x%M)%M+b)%M:=by
 have d:0<M:=by omega
 have k:=qP ((x*x+M-3)*x+b) d;have e:(y*y+M-(((x*x+M-3)*x+b)%M))%M=0↔y*y%M=((x*x+M-3)*x+b)%M:=by
  constructor
  · intro h;have a:(y*y+M-(((x*x+M-3)*x+b)%M)+(((x*x+M-3)*x+b)%M))%M=(0+((x*x+M-3)*x+b)%M)%M:=by rw[wG,h,wF,jL]
    rw[show y*y+M-(((x*x+M-3)*x+b)%M)+(((x*x+M-3)*x+b)%M)=y*y+M by omega,Nat.add_mod_right,jL,wF]at a;exact a
  · intro h;have a:(y*y+M-(((x*x+M-3)*x+b)%M)+(((x*x+M-3)*x+b)%M))%M=(0+((x*x+M-3)*x+b)%M)%M:=by
     rw[show y*y+M-(((x*x+M-3)*x+b)%M)+(((x*x+M-3)*x+b)%M)=y*y+M by omega,Nat.add_mod_right,jL,wF];exact h
    have f:=yt a;rwa [kS]at f
 have i:=qP (3*x) d;have g:(x*x+M-3)*x%M=(x*x%M*x%M+M-3*x%M)%M:=by
  refine yt (c:=3*x) ?_;rw[←qb,show x*x+M-3+3=x*x+M by omega,qb,qw];rw[wG (x*x%M*x%M+M-3*x%M),←wF (3*x) M,←wG,wF,show x*x%M*x%M+M-3*x%M+3*x%M=x*x%M*x%M+M by omega,Nat.add_mod_right,wF,ye]
 rw[e,wG ((x*x+M-3)*x),g,Nat.add_mod_mod]
structure FR (w:World) (g n inv M:Nat) (ml ol rl:List Nat):Prop where
 ff:FF w g n inv M ml ol rl
 oelt:Elt M ol
 oval:val 18446744073709551616 ol=18446744073709551616^n%M
 relt:Elt M rl
 rval:val 18446744073709551616 rl=18446744073709551616^n*18446744073709551616^n%M
theorem FR.below {w w':World}{g n inv M B:Nat}{ml ol rl:List Nat}(h:FR w g n inv M ml ol rl)(a:Below B w w')(b:g<B):FR w' g n inv M ml ol rl :=
 ⟨h.ff.below a b,h.oelt,h.oval,h.relt,h.rval⟩
theorem Fld.r_ {w:World}{g n inv:Nat}{ml ol rl:List Nat}(h:Fld w g n inv ml ol rl){j:Nat}(i:j<6):w.cell? ⟨g,14+j,none⟩=some (.int .u64 (dg rl j:Int)):=by
 rw[zP h.blk (14+j)];obtain⟨a,b,c,d,e,f,rfl⟩:=six h.m6;obtain⟨a,b,c,d,e,f,rfl⟩:=six h.o6;obtain⟨a,b,c,d,e,f,rfl⟩:=six h.r6;match j,i with
 | 0,_|1,_|2,_|3,_|4,_|5,_=>rfl
theorem fC {dT sT:TypeId}(n:Tryz.prog.underlying dT=some (.slice 65))(w:World)(g o d f:Nat)(b:List Value)(ty:TypeId)(i:w.heap[g]?=some (.cells b.toArray ty (0,0)))(P:Nat→Prop)(A:Option Addr)(c:Nat)(a:List Nat)(h:RN w P A c a)(y:a.length≤d)(u:o+a.length≤b.length) :
   ∃ W', (Builtin.copy_ #[dT, sT] 3 #[.slice (some ⟨g, o, none⟩) d f, .slice A a.length c]).run Tryz.prog w = .ok (goInt a.length) W' ∧ W'.heap[g]? = some (.cells (b.take o ++ nts a ++ b.drop (o + a.length)).toArray ty (0, 0)) ∧
     (∀ B m,B≤g→Below B m w→Below B m W')∧(∀ k,k≠g→W'.heap[k]?=w.heap[k]?)∧W'.heap.size=w.heap.size:=by
 rcases za a.length with r|z
 · obtain rfl:=qV r;refine⟨w,run_copy_none w dT sT 3 65 (some ⟨g,o,none⟩) A d f 0 c n gD (qU (xB _)),?_,fun _ _ _ h=>h,fun _ _=>rfl,rfl⟩;rw[i];simp[nts]
 · obtain⟨ad,rfl,_,_⟩:=h.at_ z
   have q:=run_copy_row (P:=Tryz.prog) w dT sT 3 65 g o d f ad a.length c b.toArray ty (nts a) n gD i (by rw[qk];exact(qU y).symm) (fun j v l=>by
     have p:j<a.length:=by have:=(List.getElem?_eq_some_iff.1 l).1;simpa[nts]using this
     rw[h.cells j p]
     rw[gA p]at l
     exact l) (by rw[qk];simpa using u) (vB a)
   rw[qk]at q;refine⟨_,q,setRow_heap w g _ _ _ _ i,fun B m s t=>fa t s _,fun k x=>?_,by simp[World.setRow]⟩;simp[World.setRow,vI,show ¬ g=k from fun e=>x e.symm]
theorem uB {g n inv M:Nat}{ml ol rl:List Nat}(P:Nat→Prop)(A:Option Addr)(c:Nat)(a:List Nat)(w:World)(k:FR w g n inv M ml ol rl)(h:RN w P A c a)(hP:∀ b,P b→b<w.heap.size)(hl:a.length≤6)(H:val 18446744073709551616 a<M) :
   Calls Tryz.prog 92 #[.pointer (some ⟨g,0,none⟩),.slice A a.length c] w fun e w'=>∃ o,e=.returned (EV o)∧FE M n o (val 18446744073709551616 a)∧Below w.heap.size w w':=by
 have hg:=k.ff.fld.lt;have U:((w.alloc (.cells #[.int .u64 0,.int .u64 0,.int .u64 0,.int .u64 0,.int .u64 0,.int .u64 0] 109)).alloc (.cells #[.int .u64 0,.int .u64 0,.int .u64 0,.int .u64 0,.int .u64 0,.int .u64 0] 109)).heap[w.heap.size]?=some (.cells #[.int .u64 0,.int .u64 0,.int .u64 0,.int .u64 0,.int .u64 0,.int .u64 0] 109 (0,0)):=(kJ _ _ _ (by simp)).trans (zS w _);have V:((w.alloc (.cells #[.int .u64 0,.int .u64 0,.int .u64 0,.int .u64 0,.int .u64 0,.int .u64 0] 109)).alloc (.cells #[.int .u64 0,.int .u64 0,.int .u64 0,.int .u64 0,.int .u64 0,.int .u64 0] 109)).heap[w.heap.size+1]?=some (.cells ([.int .u64 0,.int .u64 0,.int .u64 0,.int .u64 0,.int .u64 0,.int .u64 0]:List Value).toArray 109 (0,0)):=by
   have:=zS (w.alloc (.cells #[.int .u64 0,.int .u64 0,.int .u64 0,.int .u64 0,.int .u64 0,.int .u64 0] 109)) (.cells #[.int .u64 0,.int .u64 0,.int .u64 0,.int .u64 0,.int .u64 0,.int .u64 0] 109);rw[zz]at this;exact this
 have q:Below w.heap.size w ((w.alloc (.cells #[.int .u64 0,.int .u64 0,.int .u64 0,.int .u64 0,.int .u64 0,.int .u64 0] 109)).alloc (.cells #[.int .u64 0,.int .u64 0,.int .u64 0,.int .u64 0,.int .u64 0,.int .u64 0] 109)):=((zo _ w).alloc (zG _) _).alloc (by simp) _;obtain⟨W',ad,p,S,T,ab⟩:=fC (dT:=23) (sT:=24) Tryz.underlying23 _ (w.heap.size+1) 0 6 6 _ 109 V P A c a (h.below q hP) hl (by simp;omega);have m:=S w.heap.size w (by omega) q;have y:=(T w.heap.size (by omega)).trans U;clear U V S T ab q;have I:(([.int .u64 0,.int .u64 0,.int .u64 0,.int .u64 0,.int .u64 0,.int .u64 0]:List Value).take 0++nts a++([.int .u64 0,.int .u64 0,.int .u64 0,.int .u64 0,.int .u64 0,.int .u64 0]:List Value).drop (0+a.length))=nts (a++List.replicate (6-a.length) 0):=by
   have e:([.int .u64 0,.int .u64 0,.int .u64 0,.int .u64 0,.int .u64 0,.int .u64 0]:List Value)=List.replicate 6 (.int .u64 0):=rfl;rw[e,List.take_zero,vh,jL,List.drop_replicate];simp[nts]
 rw[I]at p;have v:(a++List.replicate (6-a.length) 0).length=6:=by simp;omega
 have L:val 18446744073709551616 (a++List.replicate (6-a.length) 0)=val 18446744073709551616 a:=bA _ _ _;have K:∀ x∈a++List.replicate (6-a.length) 0,x<18446744073709551616:=fun x hx=>by
   rcases List.mem_append.1 hx with l|l
   · exact h.2.1 x l
   · have:=(List.mem_replicate.1 l).2;omega
 generalize a++List.replicate (6-a.length) 0=pa at *;have J:Elt M pa:=⟨v,K,by rw[L];exact H⟩
 obtain⟨x0,x1,x2,x3,x4,x5,z⟩:=six v;obtain⟨y0,y1,y2,y3,y4,y5,B⟩:=six k.relt.six;have G:W'.heap[w.heap.size+1]?=some (.cells #[.int .u64 (x0:Int),.int .u64 (x1:Int),.int .u64 (x2:Int),.int .u64 (x3:Int),.int .u64 (x4:Int),.int .u64 (x5:Int)] 109 (0,0)):=by rw[z]at p;exact p
 obtain⟨e0,e1,e2,e3,e4,e5⟩:=yJ G;have r:=k.below m hg;have f:=fun j (hj:j<6)=>r.ff.fld.r_ hj;have D:=f 0 (by omega);have f1:=f 1 (by omega);have f2:=f 2 (by omega);have f3:=f 3 (by omega);have E:=f 4 (by omega);have F:=f 5 (by omega);rw[B]at D f1 f2 f3 E F;simp only[jF,Nat.reduceAdd,yV,xN]at D f1 f2 f3 E F;have s:=bN pa rl W'.drew (r.ff.below ((zo W'.heap.size W').drew) (by have:=m.size;omega)) J k.relt;have O:EV pa=.agg #[.int .u64 (x0:Int),.int .u64 (x1:Int),.int .u64 (x2:Int),.int .u64 (x3:Int),.int .u64 (x4:Int),.int .u64 (x5:Int)]:=by rw[z];rfl
 have Q:EV rl=.agg #[.int .u64 (y0:Int),.int .u64 (y1:Int),.int .u64 (y2:Int),.int .u64 (y3:Int),.int .u64 (y4:Int),.int .u64 (y5:Int)]:=by rw[B];rfl
 rw[O,Q]at s;have W:=zF s;have C:=zF k;have Y:=zF L;have z0:=qz y 0;have ac:=m.size;have aa:w.heap.size<W'.heap.size:=qd y;clear s O Q G p I v K J z B f k r H;go_enter Tryz.func92,Tryz.ntmps92;go_wp2_with fail
 go_region_with (first
   | (go_at_call 102
      refine W.out.mono ?_
      rintro e w2 ⟨o2,rfl,t,N,i⟩
      have d:=(i.block w.heap.size aa).trans y
      obtain⟨u0,u1,u2,u3,u4,u5,u⟩:=six t.six
      obtain⟨r0,r1,r2,r3,r4,r5⟩:=yJ d
      have z0:=qz d 0
      have z1:=qz d 1
      have z2:=qz d 2
      have z3:=qz d 3
      have z4:=qz d 4
      have z5:=qz d 5
      have R:EV o2=.agg #[.int .u64 (u0:Int),.int .u64 (u1:Int),.int .u64 (u2:Int),.int .u64 (u3:Int),.int .u64 (u4:Int),.int .u64 (u5:Int)]:=by rw[u];rfl
      rw[R]
      have X:=zF u
      have Z:=zF N
      clear R u N))
 all_goals
   go_wp2;refine pW rfl rfl rfl (un d _ _ _ _ _ _) ?_;refine⟨o2,by rw[X.out];rfl,⟨t,?_⟩,xf (m.trans ((⟨i.os,i.tape,i.output,i.size,i.block⟩:Below W'.heap.size W' w2).mono ac)) (zG _) _ _ _ _ _ _⟩;have l:val 18446744073709551616 o2*18446744073709551616^n%M=(val 18446744073709551616 a*18446744073709551616^n)*18446744073709551616^n%M:=by
     rw[Z.out,Y.out,C.out.rval,Nat.mul_mod_mod,zd]
   have h2:=bK C.out.ff.invV l;rwa [qF t.lt]at h2
end Go.Proofs.YtaemogcomplhiaaGreatDoor
namespace Go.Proofs.YtaemogcomplhiaaGreatDoor
def gG (m:Int) (r:Nat) (y:Int):Prop:=∃ t,m*y=1+2 ^(2^r)*t
theorem gG.zero {m:Int}(h:m%2=1):gG m 0 1:=⟨(m-1)/2,by omega⟩
theorem gG.step {m y:Int}{r:Nat}(h:gG m r y)(e:r<6):gG m (r+1) (y*((2-m*y%18446744073709551616)%18446744073709551616)%18446744073709551616):=by
 obtain⟨t,c⟩:=h;obtain⟨z,d⟩:=oB (m:=m) (y:=y);have a:∃ j,2^r+2^r+j=64:=by
  have:r=0∨r=1∨r=2∨r=3∨r=4∨r=5:=by omega
  rcases this with rfl|rfl|rfl|rfl|rfl|rfl
  · exact⟨62,rfl⟩
  · exact⟨60,rfl⟩
  · exact⟨56,rfl⟩
  · exact⟨48,rfl⟩
  · exact⟨32,rfl⟩
  · exact⟨0,rfl⟩
 obtain⟨j,a⟩:=a;obtain⟨s,b⟩:=zEC (z:=z) c d a;exact⟨s,by rw[zx,Nat.mul_two];exact b⟩
theorem gG.fin {m:Int}{y:Int}(h:gG m 6 y):∃ t,m*y=1+18446744073709551616*t:=by
 obtain⟨t,a⟩:=h;exact⟨t,a⟩
theorem zBs (n:Nat):val 18446744073709551616 (List.replicate n 0++[1])=18446744073709551616^n:=by
 rw[kg,kV,wS];simp
theorem fB {v M k:Nat}(h:v≤M)(a:(digs 18446744073709551616 M).length≤k):(digs 18446744073709551616 v).length≤k:=zK (jO (by omega) h) a
theorem sF {x y M k:Nat}(b:x≤M)(c:y≤M)(a:(digs 18446744073709551616 M).length≤k):(digs 18446744073709551616 (x*y)).length≤k+k:=by
 have d:=jR (B:=18446744073709551616) (by omega) M;have e:18446744073709551616 ^(digs 18446744073709551616 M).length≤18446744073709551616^k:=qE (by omega) a;refine qR (by omega) ?_;rw[qQ];have f:x*y≤M*M:=xn b c;have g:M*M<18446744073709551616^k*18446744073709551616^k:=Nat.mul_lt_mul'' (by omega) (by omega);omega
theorem sG {x y M k:Nat}(d:x≤M)(e:y≤M)(a:(digs 18446744073709551616 M).length≤k):(digs 18446744073709551616 (x+y)).length≤k+1:=by
 have b:=jR (B:=18446744073709551616) (by omega) M;have c:18446744073709551616 ^(digs 18446744073709551616 M).length≤18446744073709551616^k:=qE (by omega) a;refine qR (by omega) ?_;rw[zx];omega
def qD (x:Nat):Nat:=if x=0 then 0 else x.log2+1
theorem xk:qD 0=0:=rfl
theorem gc {x k:Nat}(b:2^k≤x)(c:x<2 ^(k+1)):qD x=k+1:=by
 have a:x≠0:=by have:=qS (n:=k) (show 0<2 by omega);omega
 have d:k≤x.log2:=(Nat.le_log2 a).2 b;have e:x.log2<k+1:=(Nat.log2_lt a).2 c;simp[qD,a];omega
theorem wJ {x:Nat}(a:x≠0):2 ^(qD x-1)≤x∧x<2^qD x∧1≤qD x:=by
 simp only[qD,a,ya,kG];exact⟨Nat.log2_self_le a,Nat.lt_log2_self,by omega⟩
theorem aB {x k:Nat}(h:x<2^k):qD x≤k:=by
 rcases za x with rfl|b
 · simp[qD]
 · obtain⟨c,d,e⟩:=wJ (Nat.pos_iff_ne_zero.1 b);rcases qH k (qD x)with a|a
   · have:2^k≤2 ^(qD x-1):=qE (by omega) (by omega);omega
   · exact a
theorem uG {x k:Nat}(h:qD x≤k):x<2^k:=by
 rcases za x with rfl|a
 · exact qS (by omega)
 · obtain⟨_,b,_⟩:=wJ (Nat.pos_iff_ne_zero.1 a);exact zH b (qE (by omega) h)
theorem av {m:Nat}(o:0<m){x:Nat}(q:0<x){k:Nat}(s:0<k)(b:2 ^(k-1)≤dg (digs (2^m) x) ((digs (2^m) x).length-1))(g:dg (digs (2^m) x) ((digs (2^m) x).length-1)<2^k) :
 qD x=m*((digs (2^m) x).length-1)+k:=by
 have a:2≤2^m:=by
  have:2^1≤2^m:=qE (by omega) o;simpa using this
 have p:=zi a x
 have n:=kL a x
 have u:0<(digs (2^m) x).length:=by rw[jq a q];simp
 generalize digs (2^m) x=l at *
 have c:=qG (2^m) l (l.length-1)
 rw[show l.length-1+1=l.length by omega,jB,p]at c
 have d:=kF (B:=2^m) (l:=l.take (l.length-1)) fun y r=>n y (qN r)
 rw[zh,qU (by omega)]at d
 have h:(2^m) ^(l.length-1)=2 ^(m*(l.length-1)):=by rw[vW]
 rw[h]at c d
 generalize m*(l.length-1)=e at *
 generalize dg l (l.length-1)=t at *
 obtain⟨j,rfl⟩:∃ j,k=j+1:=⟨k-1,by omega⟩
 rw[kG]at b
 have i:2^e*2^j≤2^e*t:=qI _ b
 have f:2^e*(t+1)≤2^e*2 ^(j+1):=qI _ g
 rw[←qQ]at i f
 rw[zl]at f
 exact gc (k:=e+j) (by omega) (by rw[show e+j+1=e+(j+1) by omega];omega)
theorem go {m:Nat}(l:List Nat)(d:∀ x∈l,x<2^m)(k j:Nat)(g:j≤m):∃ r,val (2^m) l/2 ^(m*k+j)=dg l k/2^j+2 ^(m-j)*r:=by
 refine⟨val (2^m) (l.drop (k+1)),?_⟩;have a:val (2^m) l=val (2^m) (l.take k)+(2^m)^k*(dg l k+2^m*val (2^m) (l.drop (k+1))):=by
  rcases qH k l.length with h|h
  · have:=jI (2^m) l (kA h);rw[this,qX h,kB,dg,ja h]
  · rw[zu h,yN (by omega),dg,zy,jH h];simp
 have b:val (2^m) (l.take k)<(2^m)^k:=by
  have c:=kF (B:=2^m) (l:=l.take k) fun y f=>d y (qN f);refine zH c (qE (qS (by omega)) ?_);rw[zh];omega
 rw[qQ,vW,←yM,a,ka _ _ (qS (qS (by omega))),ql b,jL];have e:2^m=2^j*2 ^(m-j):=by rw[←qQ,show j+(m-j)=m by omega]
 generalize i:val (2^m) (l.drop (k+1))=v;rw[e,zd,ka _ _ (qS (by omega))]
theorem rG {m:Nat}(l:List Nat)(a:∀ x∈l,x<2^m)(k j:Nat)(c:j<m):val (2^m) l/2 ^(m*k+j)%2=dg l k/2^j%2:=by
 obtain⟨r,b⟩:=go l a k j (by omega);rw[b,show m-j=(m-j-1)+1 by omega,zx,yK,wR]
theorem zAC {m:Nat}(l:List Nat)(a:∀ x∈l,x<2^m)(k j:Nat)(c:j+8≤m):val (2^m) l/2 ^(m*k+j)%256=dg l k/2^j%256:=by
 obtain⟨r,b⟩:=go l a k j (by omega);rw[b,show m-j=(m-j-8)+8 by omega,qQ,show(2:Nat)^8=256 by rfl,yK,wR]
def bytesOf (x n:Nat):List Nat:=(List.range n).map fun i=>x/2 ^(8*(n-1-i))%256
theorem vN (x n:Nat):(bytesOf x n).length=n:=by simp[bytesOf]
end Go.Proofs.YtaemogcomplhiaaGreatDoor
namespace Go.Proofs.YtaemogcomplhiaaGreatDoor
open Go.RowKit
theorem oR {x:Nat}(b:0<x):0<dg (digs 18446744073709551616 x) ((digs 18446744073709551616 x).length-1):=by
 have a:digs 18446744073709551616 x≠[]:=by rw[jq (by omega) b];simp
 have h:=uf (B:=18446744073709551616) (by omega) x a;have c:=List.length_pos_iff.2 a;rw[List.getLast_eq_getElem]at h;rw[dg,ja (by omega)];omega
theorem oC {x:Nat}(b:0<x):qD x=64*((digs 18446744073709551616 x).length-1)+Lib.bitLen (dg (digs 18446744073709551616 x) ((digs 18446744073709551616 x).length-1)):=by
 have e:=oR b;have c:=jW (B:=18446744073709551616) (by omega) (kL (by omega) x) ((digs 18446744073709551616 x).length-1);have a:=Lib.bitLenAux_bounds 64 _ c (by omega);have d:=av (m:=64) (by omega) b (k:=Lib.bitLen (dg (digs 18446744073709551616 x) ((digs 18446744073709551616 x).length-1))) a.1 a.2.1 a.2.2;exact d
theorem vO (P:Nat→Prop)(A:Option Addr)(c:Nat)(a:List Nat)(w:World)(h:RN w P A c a) :
 Calls Tryz.prog 62 #[.slice A a.length c] w fun e w'=>e=.returned (.int .i64 (qD (val 18446744073709551616 a):Int))∧w=w':=by
 have b:=jZ P A c a w h
 replace h:=h.trim
 generalize val 18446744073709551616 a=x at *
 rcases za x with rfl|m
 · rw[qW]at b;have d:=zF b;clear b;go_enter Tryz.func62,Tryz.ntmps62;go_wp2_with fail;refine d.out.mono ?_;rintro e q ⟨rfl,rfl⟩;go_wp2;go_ret;exact⟨rfl,rfl⟩
 · have f:=oC m;have p:=h.2.dgLt;obtain⟨t,y,u⟩:=h.cap;have v:0<(digs 18446744073709551616 x).length:=by rw[jq (by omega) m];simp
   generalize digs 18446744073709551616 x=l at *;obtain⟨n,j⟩:∃ n,l.length=n+1:=⟨l.length-1,by omega⟩
   obtain⟨ad,rfl,_,B⟩:=h.at_ (i:=n) (by omega);rw[j,kG]at f;have o:=p n;have z:Lib.bitLen (dg l n)≤64:=Lib.bitLen_le _ 64 (by omega) o;have g:=Tryz.bits_Len64 (dg l n:Int) w (by omega) (by omega);rw[yx]at g;generalize Lib.bitLen (dg l n)=k at *;have s:=zF g;have r:=zF f;rw[j]at b t u;have d:=zF b;clear b f g o p v m j h;go_enter Tryz.func62,Tryz.ntmps62;go_wp2_with fail;refine d.out.mono ?_;rintro e q ⟨rfl,rfl⟩;go_wp2_with fail;refine s.out.mono ?_;rintro e q ⟨rfl,rfl⟩;go_wp2;go_ret;exact⟨bD (by rw[r.out];simp),rfl⟩
def uK (x:Nat) (i:Int):Nat:=if i<0 then 0 else x/2^i.toNat%2
theorem mask1 (x:Nat):x &&& 1=x%2:=Nat.and_one_is_mod x
theorem zC9 (d j:Nat)(b:d<18446744073709551616):bits .and .u64 ((d:Int)/2^j) 1=((d/2^j%2:Nat):Int):=by
 have a:d/2^j≤d:=vD d _;have h:=bits_and_u64_nat (d/2^j) 1 (by omega) (by omega);rw[mask1]at h;rw[←h];simp
theorem zC5 (P:Nat→Prop)(A:Option Addr)(c:Nat)(a:List Nat)(i:Int)(w:World)(h:RN w P A c a)(l:i≤9223372036854775807) :
 Calls Tryz.prog 107 #[.slice A a.length c,.int .i64 i] w fun e w'=>e=.returned (.int .u64 (uK (val 18446744073709551616 a) i:Int))∧w=w':=by
 obtain⟨u,v,x⟩:=h.cap
 by_cases h0:i<0
 · have b:=zF (show uK (val 18446744073709551616 a) i=0 by simp[uK,h0]);go_enter Tryz.func107,Tryz.ntmps107;go_wp2;go_ret;rw[b.out];exact⟨rfl,rfl⟩
 · obtain⟨n,rfl⟩:∃ n:Nat,i=(n:Int):=⟨i.toNat,by omega⟩
   obtain⟨k,j,p,g⟩:∃ k j,j<64∧n=64*k+j:=⟨n/64,n%64,by omega,by omega⟩
   have b:uK (val 18446744073709551616 a) (n:Int)=dg a k/2^j%2:=by
    have:=rG (m:=64) a h.2.1 k j p;rw[uK,qo h0,yx,g];exact this
   have o:(n:Int)/64=(k:Int):=by omega
   have r:(n:Int)%64=(j:Int):=by omega
   have t:IntKind.i64.wrap ((n:Int)/64)=(k:Int):=by rw[o];exact qu _ (by omega)
   by_cases hk:k<a.length
   · obtain⟨ad,rfl,_,C⟩:=h.at_ hk;have d:=h.2.dgLt k;have s:=zC9 (dg a k) j d;have y:(j:Int)<64:=by omega
     have q:(k:Int)<(a.length:Int):=by omega
     have f:=zF b;clear b g d h l;go_enter Tryz.func107,Tryz.ntmps107;go_wp2;go_ret;exact⟨bD (by rw[f.out];simp),rfl⟩
   · have d:dg a k=0:=vJ (by omega);rw[d,Nat.zero_div]at b;have f:=zF b;have q:¬(k:Int)<(a.length:Int):=by omega
     have z:(a.length:Int)≤(k:Int):=by omega
     have B:(k:Int)≤144115188075855871:=by omega
     clear b g d h l;go_enter Tryz.func107,Tryz.ntmps107;go_wp2;go_ret;rw[f.out];exact⟨rfl,rfl⟩
theorem RN.one (w:World)(x:Nat)(a:x<18446744073709551616):RN (w.alloc (.cells #[.int .u64 (x:Int)] 65)) (In w.heap.size (w.heap.size+1)) (some ⟨w.heap.size,0,none⟩) 1 [x] :=
 ⟨RS.fresh #[.int .u64 (x:Int)] 65 1 1 rfl (by unfold maxLen;omega) ⟨zG _,by omega⟩,by simpa[Lim]using a⟩
abbrev RU (w:World) (A:Option Addr) (c:Nat) (l:List Nat):Prop:=RN w (fun b=>b<w.heap.size) A c l
theorem RN.up {w w':World}{A:Option Addr}{c:Nat}{l:List Nat}(h:RU w A c l)(b:Below w.heap.size w w'):RU w' A c l :=
 (h.below b fun _ a=>a).mono fun _ a=>zH a b.size
theorem OB.ru {w:World}{base:Nat}{A:Option Addr}{c:Nat}{l:List Nat}(h:OB w base A c l):RU w A c l:=h.rn.mono fun _ a=>a.2
theorem RN.ud {w:World}{A:Option Addr}{c:Nat}{l:List Nat}(h:RU w A c l)(n:Nat):RU (w.drewN n) A c l:=h
theorem xJ {w:World} : ∀ b,b<w.heap.size→b<w.heap.size:=fun _ h=>h
end Go.Proofs.YtaemogcomplhiaaGreatDoor
namespace Go.Proofs.YtaemogcomplhiaaGreatDoor
theorem zN:type_of% @RN.up:=@RN.up
theorem zAD {x k:Nat}(h:x<18446744073709551616)(j:k<64):∃ b lo t,x/2 ^(64-k)=b∧x*2^k%18446744073709551616=lo∧lo+18446744073709551616*b=x*2^k∧lo=t*2^k∧lo+2^k≤18446744073709551616∧b<2^k:=by
 have a:(18446744073709551616:Nat)=2^k*2 ^(64-k):=by rw[←qQ,show k+(64-k)=64 by omega]
 have g:0<2^k:=qS (by omega);have e:x*2^k/18446744073709551616=x/2 ^(64-k):=by rw[a,zp x,Nat.mul_div_mul_left _ _ g]
 have c:x*2^k%18446744073709551616=(x%2 ^(64-k))*2^k:=by
  rw[a,zp x,Nat.mul_mod_mul_left,zp]
 have i:=jj (x*2^k) 18446744073709551616;refine⟨_,_,_,rfl,rfl,by rw[←e];omega,c,?_,?_⟩
 · have f:x%2 ^(64-k)+1≤2 ^(64-k):=qP _ (qS (by omega));have d:(x%2 ^(64-k)+1)*2^k≤2 ^(64-k)*2^k:=qr _ f;rw[qb,kH,zp (2 ^(64-k)),←a,←c]at d;exact d
 · apply jN;rw[zp,←a];exact h
def dQ (l o:List Nat) (w k i:Nat):Prop:=val 18446744073709551616 o=2 ^(64*w+k)*val 18446744073709551616 (l.take i)∧(∀ j,i+w<j→dg o j=0)∧dg o (i+w)<2^k
theorem dF (n j:Nat):dg (List.replicate n 0) j=0:=by
 rw[dg,zy,List.getElem?_replicate];split<;>rfl
theorem dQ.zero (l:List Nat)(w k n:Nat):dQ l (List.replicate n 0) w k 0:=by
 refine⟨by rw[kV];simp,fun j _=>dF n j,by rw[dF];exact qS (by omega)⟩
theorem dQ.step {l o:List Nat}{w k i f lo:Nat}(h:dQ l o w k i)(v:i+w+1<o.length)(p:lo+18446744073709551616*f=dg l i*2^k)(q:f<2^k):dQ l ((o.set (i+w) (dg o (i+w)+lo)).set (i+w+1) f) w k (i+1):=by
 obtain⟨m,g,t⟩:=h;refine⟨?_,fun j u=>by rw[getD_set_ne (by omega),getD_set_ne (by omega)];exact g j (by omega),by rw[show i+1+w=i+w+1 by omega,vz (by simp;omega)];exact q⟩;have r:=xE 18446744073709551616 (show i+w<o.length by omega) (dg o (i+w)+lo);have s:=xE 18446744073709551616 (l:=o.set (i+w) (dg o (i+w)+lo)) (n:=i+w+1) (by simp;omega) f;rw[getD_set_ne (by omega:i+w≠i+w+1),g (i+w+1) (by omega)]at s;rw[qG,zl,←m];have e:2 ^(64*w+k)*(18446744073709551616^i*dg l i)=18446744073709551616 ^(i+w)*(dg l i*2^k):=by
  rw[qQ,vW,show(2:Nat)^64=18446744073709551616 by decide,qQ];generalize 18446744073709551616^w=a;generalize 18446744073709551616^i=b;generalize 2^k=c;generalize dg l i=d;rw[zp b d,←zd,zp _ b,zd a,zp c d,←zd b a]
 rw[e,←p,zl,←zd,←zx];rw[zl]at r;generalize 18446744073709551616 ^(i+w+1)*f=x at *;generalize 18446744073709551616 ^(i+w)*lo=y at *;generalize 18446744073709551616 ^(i+w)*dg o (i+w)=z at *;generalize val 18446744073709551616 (o.set (i+w) (dg o (i+w)+lo))=A at *;generalize val 18446744073709551616 ((o.set (i+w) (dg o (i+w)+lo)).set (i+w+1) f)=B at *;generalize val 18446744073709551616 o=C at *;omega
theorem dQ.fin {l o:List Nat}{w k:Nat}(h:dQ l o w k l.length):val 18446744073709551616 o=val 18446744073709551616 l*2 ^(64*w+k):=by
 have:=h.1;rwa [jB,zp]at this
theorem sh {x k:Nat}{l:List Nat}(z:k<64)(i w:Nat)(s:dg l (i+w+1)=x)(b:∀ y∈l,y<18446744073709551616) :
   ∃ t, x * 2 ^ (64 - k) % 18446744073709551616 = t * 2 ^ (64 - k) ∧ dg l (i + w) / 2 ^ k < 2 ^ (64 - k) ∧ dg l (i + w) / 2 ^ k + t * 2 ^ (64 - k) < 18446744073709551616 ∧
     val 18446744073709551616 l/2 ^(64*(i+w)+k)%18446744073709551616=dg l (i+w)/2^k+t*2 ^(64-k):=by
 have a:(18446744073709551616:Nat)=2^k*2 ^(64-k):=by rw[←qQ,show k+(64-k)=64 by omega]
 have A:0<2 ^(64-k):=qS (by omega);have q:dg l (i+w)<18446744073709551616:=jW (by omega) b _;have e:dg l (i+w)/2^k<2 ^(64-k):=jN (by rw[←a];exact q);have d:x*2 ^(64-k)%18446744073709551616=(x%2^k)*2 ^(64-k):=by
   rw[a,Nat.mul_mod_mul_right]
 have f:(x%2^k+1)*2 ^(64-k)≤2^k*2 ^(64-k):=qr _ (qP _ (qS (by omega)));rw[←a,qb,kH]at f;refine⟨x%2^k,d,e,by omega,?_⟩;have r:val 18446744073709551616 l/2 ^(64*(i+w)+k)=dg l (i+w)/2^k+2 ^(64-k)*(x+18446744073709551616*val 18446744073709551616 (l.drop (i+w+2))):=by
   have B:=go (m:=64) l b (i+w) k (by omega);have g:val 18446744073709551616 l=val 18446744073709551616 (l.take (i+w))+18446744073709551616 ^(i+w)*(dg l (i+w)+18446744073709551616*(x+18446744073709551616*val 18446744073709551616 (l.drop (i+w+2)))):=by
     have c:∀ j,val 18446744073709551616 (l.drop j)=dg l j+18446744073709551616*val 18446744073709551616 (l.drop (j+1)):=fun j=>by
       rcases qH j l.length with h|h
       · rw[qX h,kB,dg,ja h]
       · rw[yN h,yN (by omega),dg,zy,jH h];simp
     rw[←s,←c (i+w+1),←c (i+w)];rcases qH l.length (i+w)with h|h
     · rw[zu (by omega),yN (by omega)];simp
     · exact jI _ _ h
   have n:val 18446744073709551616 (l.take (i+w))<18446744073709551616 ^(i+w):=by
     refine zH (kF fun y u=>b y (qN u)) (qE (by omega) ?_);rw[zh];omega
   rw[qQ,vW,show(2:Nat)^64=18446744073709551616 by decide,←yM,g,ka _ _ (qS (by omega)),ql n,jL];generalize x+18446744073709551616*val 18446744073709551616 (l.drop (i+w+2))=v;have:dg l (i+w)+18446744073709551616*v=dg l (i+w)+2^k*(2 ^(64-k)*v):=by rw[←zd,←a]
   rw[this,ka _ _ (qS (by omega))]
 rw[r,zl,←kN];have o:2 ^(64-k)*(18446744073709551616*val 18446744073709551616 (l.drop (i+w+2)))=18446744073709551616*(2 ^(64-k)*val 18446744073709551616 (l.drop (i+w+2))):=jY _ _ _;rw[o,qw];have p:x*2 ^(64-k)=18446744073709551616*(x*2 ^(64-k)/18446744073709551616)+(x%2^k)*2 ^(64-k):=by
   have:=jj (x*2 ^(64-k)) 18446744073709551616;rw[d]at this;omega
 rw[zp (2 ^(64-k)) x,p,wC (18446744073709551616*_),←kN,qw];exact qF (by omega)
def oV (l o:List Nat) (w k i:Nat):Prop:=∀ j,j<i→dg o j=val 18446744073709551616 l/2 ^(64*(j+w)+k)%18446744073709551616
theorem mu {B:Nat}{o:List Nat}(x:Nat)(a:∀ j,j<o.length→dg o j=x/B^j%B)(b:x<B^o.length):val B o=x:=by
 have:∀ i,i≤o.length→val B (o.take i)=x%B^i:=by
   intro i;induction i with
   | zero=>intro _;simp[Nat.mod_one]
   | succ i ih =>
     intro c;rw[qG,ih (by omega),a i (by omega),zx,Nat.mod_mul]
 have h:=this o.length (zG _);rw[jB,qF b]at h;exact h
theorem oV.fin {l o:List Nat}{w k:Nat}(h:oV l o w k o.length)(d:∀ x∈l,x<18446744073709551616)(e:l.length=o.length+w):val 18446744073709551616 o=val 18446744073709551616 l/2 ^(64*w+k):=by
 apply mu
 · intro j c;rw[h j c,yM];congr 2;rw[show(18446744073709551616:Nat)=2^64 by decide,←vW,←qQ];congr 1;omega
 · apply jN;have a:=kF d;rw[e,qQ]at a;rw[qQ,vW,show(2:Nat)^64=18446744073709551616 by decide];have f:18446744073709551616^o.length*18446744073709551616^w*1≤18446744073709551616^o.length*18446744073709551616^w*2^k:=qI _ (qS (by omega));have b:18446744073709551616^w*2^k*18446744073709551616^o.length=18446744073709551616^o.length*18446744073709551616^w*2^k:=by
    rw[zp,zd]
   rw[b];omega
end Go.Proofs.YtaemogcomplhiaaGreatDoor
namespace Go.Proofs.YtaemogcomplhiaaGreatDoor
open Go.RowKit
theorem rN (P:Nat→Prop)(A:Option Addr)(c:Nat)(a:List Nat)(n:Nat)(w:World)(h:RN w P A c a)(Z:∀ b,P b→b<w.heap.size)(hl:a.length<100000)(K:n≤65536)(M:0<val 18446744073709551616 a) :
 Calls Tryz.prog 122 #[.slice A a.length c,.int .i64 (n:Int)] w fun e w'=>∃ v c1,e=.returned (.slice v (digs 18446744073709551616 (val 18446744073709551616 a*2^n)).length c1) ∧
  OB w' w.heap.size v c1 (digs 18446744073709551616 (val 18446744073709551616 a*2^n))∧c1≤a.length+n/64+1∧(∃ o,v=some ⟨w.heap.size,0,none⟩∧Blk w' w.heap.size o∧o.length=c1∧digs 18446744073709551616 (val 18446744073709551616 a*2^n)=o.take (digs 18446744073709551616 (val 18446744073709551616 a*2^n)).length)∧Below w.heap.size w w':=by
 have ta:=zF (jZ P A c a w h)
 have la:=jD (B:=18446744073709551616) (by omega) h.2.1
 replace h:=h.trim
 have ae:0<(digs 18446744073709551616 (val 18446744073709551616 a)).length:=by rw[jq (by omega) M];simp
 generalize val 18446744073709551616 a=x at *
 have N:=zi (B:=18446744073709551616) (by omega) x
 generalize digs 18446744073709551616 x=l at *
 have aj:l.length<100000:=by omega
 have S:=zF la
 have W:=zF N
 clear hl N M la
 obtain⟨h1,h2,h3⟩:=h.cap
 obtain⟨s,k,hk,L⟩:∃ s k,k<64∧n=64*s+k:=⟨n/64,n%64,by omega,by omega⟩
 have e1:(n:Int)/64=(s:Int):=by omega
 have e2:(n:Int)%64=(k:Int):=by omega
 have hs:s≤1024:=by omega
 have ai:((l.length:Int)==0)=false:=eqB (by omega)
 have ac:=qt (P:=Tryz.prog) 24 65 (.int .u64 0) 8 Tryz.underlying24 kU rfl .i64 .i64 (l.length+s+1) (by omega) (by omega)
 simp only[vj,qO]at ac
 have ah:(k:Int)<64:=by omega
 have G:=zF L
 clear ae L
 go_enter Tryz.func122,Tryz.ntmps122
 go_wp2_with fail
 refine ta.out.mono ?_
 rintro e w1 ⟨rfl,rfl⟩
 go_wp2
 go_loopw [36] (fun iv wr=>∃(i:Nat) (o:List Nat),iv=.int .i64 (i:Int)∧i≤l.length∧dQ l o s k i∧Hid (o.length=l.length+s+1)∧Lim o∧Blk wr w.heap.size o∧Below w.heap.size w wr) (fun iv _=>l.length-(intOf iv).toNat)
 case atStart=>exact⟨0,List.replicate (l.length+s+1) 0,rfl,by omega,dQ.zero _ _ _ _,zF (by simp),⟨by simp,by simp;omega⟩,wD w _,(zo _ w).alloc (zG _) _⟩
 case round =>
  obtain⟨i,o,rfl,hi,j,m,g,d,q⟩:=hrel;by_cases hlt:i<l.length
  · obtain⟨ad,rfl,ag,q1⟩:=(h.below q Z).at_ hlt;have af:=m.out;obtain⟨f,lo,t,p1,p2,p3,F,p5,Q⟩:=zAD (h.2.dgLt i) hk;have I:=j.step (by omega) p3 Q;obtain⟨y,E⟩:=eV (dg o (i+s)+lo);rw[E]at I;have O:y<18446744073709551616:=by have:=j.2.2;omega
    have J:f<18446744073709551616:=by
     have:2^k≤2^63:=qE (by omega) (by omega);omega
    have f1:IntKind.u64.wrap ((dg l i:Int)*2^k)=(lo:Int):=by
     rw[←p2];simp[IntKind.wrap,IntKind.bits,IntKind.signed]
    have f2:bits .or .u64 (dg o (i+s):Int) (lo:Int)=(y:Int):=by
     rw[bits_or_u64_nat _ _ (g.dgLt _) (by omega),Nat.or_comm,F,bw _ _ _ j.2.2,←F,←E,wC]
    have f3:(dg l i:Int)/2 ^(64-k)=(f:Int):=by rw[←p1];simp
    have q3:=d.cell (i:=i+s) (by omega);have q4:=d.free (i+s);have r:=d.set (i+s) y;have q5:=r.cell (i:=i+s+1) (by simp;omega);have q6:=r.free (i+s+1);have aa:=r.set (i+s+1) f;have Y:=(g.set (i+s) y O).set (i+s+1) f J;have X:=(q.setCell (p:=⟨w.heap.size,i+s,none⟩) (zG _) (.int .u64 (y:Int))).setCell (p:=⟨w.heap.size,i+s+1,none⟩) (zG _) (.int .u64 (f:Int));have T:Hid (((o.set (i+s) y).set (i+s+1) f).length=l.length+s+1):=zF (by simpa using m.out);have k1:(i:Int)+(s:Int)+1<(l.length:Int)+(s:Int)+1:=by omega
    clear j g d q r af p1 p2 p3 F p5 Q O J E;go_wp2;go_roundw;case rel=>exact⟨i+1,(o.set (i+s) y).set (i+s+1) f,by go_num,by omega,I,T,Y,aa,X⟩
    case measure=>simp[intOf];omega
  · obtain rfl:i=l.length:=by omega
    have u:=j.fin;rw[W.out,←G.out]at u;have z:OB wr w.heap.size (some ⟨w.heap.size,0,none⟩) (l.length+s+1) o:=kq d (zG _) g (by have:=m.out;omega) (by unfold maxLen;omega);have D:=jZ _ _ _ _ _ z.rn;have H:=z.trim;have C:digs 18446744073709551616 (val 18446744073709551616 o)=o.take (digs 18446744073709551616 (val 18446744073709551616 o)).length:=by
     obtain⟨n,K,e⟩:=g.trim;rw[e,zh,qU K]
    rw[u,m.out]at D;rw[u]at H C;have U:=zF C;have R:=zF d;have V:=zF D;have ab:Hid (l.length+s+1≤a.length+n/64+1):=zF (by have:=S.out;have:=G.out;omega);clear d g D u z j C;go_wp2_with fail;refine V.out.mono ?_;rintro e w1 ⟨rfl,rfl⟩;go_wp2;go_ret;exact⟨_,_,rfl,H,ab.out,⟨o,rfl,R.out,m.out,U.out⟩,q⟩
theorem zBz (P:Nat→Prop)(A:Option Addr)(c:Nat)(a:List Nat)(n:Nat)(w:World)(h:RN w P A c a)(X:∀ b,P b→b<w.heap.size)(hl:a.length<100000)(hn:n≤9223372036854775807) :
 Calls Tryz.prog 126 #[.slice A a.length c,.int .i64 (n:Int)] w fun e w'=>∃ T c1,e=.returned (.slice T (digs 18446744073709551616 (val 18446744073709551616 a/2^n)).length c1) ∧
  OB w' w.heap.size T c1 (digs 18446744073709551616 (val 18446744073709551616 a/2^n))∧Below w.heap.size w w':=by
 have ta:=zF (jZ P A c a w h)
 have la:=jD (B:=18446744073709551616) (by omega) h.2.1
 replace h:=h.trim
 generalize val 18446744073709551616 a=x at *
 have G:=zi (B:=18446744073709551616) (by omega) x
 generalize digs 18446744073709551616 x=l at *
 have am:l.length<100000:=by omega
 have Hx:=zF G
 obtain⟨h1,U,h3⟩:=h.cap
 obtain⟨s,k,hk,O⟩:∃ s k,k<64∧n=64*s+k:=⟨n/64,n%64,by omega,by omega⟩
 have e1:(n:Int)/64=(s:Int):=by omega
 have e2:(n:Int)%64=(k:Int):=by omega
 have e4:IntKind.i64.wrap ((n:Int)/64)=(s:Int):=by rw[e1];exact qu _ (by omega)
 have af:(s:Int)≤144115188075855871:=by omega
 by_cases hs:s<l.length
 · obtain⟨m,hm⟩:∃ m,l.length=m+s:=⟨l.length-s,by omega⟩
   have em:(l.length:Int)-(s:Int)=(m:Int):=by omega
   have al:=qt (P:=Tryz.prog) 24 65 (.int .u64 0) 8 Tryz.underlying24 kU rfl .i64 .i64 m (by omega) (by omega);have aj:(k:Int)<64:=by omega
   have ac:(s:Int)<(l.length:Int):=by omega
   have ae:¬(l.length:Int)≤(s:Int):=by omega
   have ab:=zF O;have Hm:=zF hm;have ak:m≤100000:=by omega
   clear hl G la O hn hm af hs;go_enter Tryz.func126,Tryz.ntmps126;go_wp2_with fail;refine ta.out.mono ?_;rintro e w1 ⟨rfl,rfl⟩;go_wp2;go_loopw [32] (fun iv wr=>∃(i:Nat) (o:List Nat),iv=.int .i64 (i:Int)∧i≤m∧oV l o s k i∧Hid (o.length=m)∧Lim o∧Blk wr w.heap.size o∧Below w.heap.size w wr) (fun iv _=>m-(intOf iv).toNat);case atStart=>exact⟨0,List.replicate m 0,rfl,by omega,fun j hj=>by omega,zF (by simp),⟨by simp,by simp;omega⟩,wD w _,(zo _ w).alloc (zG _) _⟩
   case round =>
    obtain⟨i,o,rfl,hi,v,I,q,f,g⟩:=hrel;have r:=I.out;have F:=Hm.out;by_cases hlt:i<m
    · obtain⟨ad,rfl,ai,q1⟩:=(h.below g X).at_ (i:=i+s) (by omega);obtain⟨t,p1,p2,p3,u⟩:=sh hk i s rfl h.2.1;obtain⟨z,d⟩:=eV (t*2 ^(64-k));obtain⟨y1,D⟩:=eV (dg l (i+s)/2^k);obtain⟨y,H⟩:=eV (y1+z);have Q:(y1 ||| z)=y:=by rw[Nat.or_comm,←d,bw _ _ _ (by rw[←D];exact p2),d,←H,wC]
      rw[d]at p1 p3 u;rw[D]at p2 p3 u;rw[H]at p3 u;have f1:(dg l (i+s):Int)/2^k=(y1:Int):=by rw[←D];simp
      have Y:oV l (o.set i y) s k (i+1):=fun j hj=>by
       rcases qH j i with h|h
       · rw[getD_set_ne (by omega)];exact v j h
       · obtain rfl:j=i:=by omega
         rw[vz (by omega)];exact u.symm
      have q3:=f.cell (i:=i) (by omega);have q4:=f.free i;have C:=f.set i y1;have S:y1<18446744073709551616:=by omega
      have k1:(i:Int)+(s:Int)<(l.length:Int):=by omega
      by_cases U:i+s+1<l.length
      · have K:=g.setCell (p:=⟨w.heap.size,i,none⟩) (zG _) (.int .u64 (y1:Int));have q2:=(h.below K X).cells (i+s+1) U;rw[oU]at q2;have f2:IntKind.u64.wrap ((dg l (i+s+1):Int)*2 ^(64-k))=(z:Int):=by
         rw[←p1];simp[IntKind.wrap,IntKind.bits,IntKind.signed]
        have aa:z<18446744073709551616:=by omega
        have f3:bits .or .u64 (y1:Int) (z:Int)=(y:Int):=by rw[bits_or_u64_nat _ _ S aa,Q]
        have q5:=C.cell (i:=i) (by simp;omega);rw[vz (by omega)]at q5;have q6:=C.free i;have Z:=C.set i y;rw[List.set_set]at Z;have M:=q.set i y p3;have L:=K.setCell (p:=⟨w.heap.size,i,none⟩) (zG _) (.int .u64 (y:Int));have J:Hid ((o.set i y).length=m):=zF (by simpa using I.out);have k2:(i:Int)+(s:Int)+1<(l.length:Int):=by omega
        clear v q f g C r p1 p2 p3 u d D H Q S aa F K;go_wp2;go_region
        all_goals
         go_wp2;go_roundw;case rel=>exact⟨i+1,o.set i y,by go_num,by omega,Y,J,M,Z,qp L 1⟩
         case measure=>simp[intOf];omega
      · have ah:z=0:=by
         rw[vJ (by omega:l.length≤i+s+1),Nat.zero_mul,kS]at p1;exact p1.symm
        have ag:y1=y:=by omega
        subst ag;have M:=q.set i y1 p3;have L:=g.setCell (p:=⟨w.heap.size,i,none⟩) (zG _) (.int .u64 (y1:Int));have J:Hid ((o.set i y1).length=m):=zF (by simpa using I.out);have k2:¬(i:Int)+(s:Int)+1<(l.length:Int):=by omega
        clear v q f g r p1 p2 p3 u d D H Q S F ah;go_wp2;go_roundw;case rel=>exact⟨i+1,o.set i y1,by go_num,by omega,Y,J,M,C,L⟩
        case measure=>simp[intOf];omega
    · obtain rfl:i=m:=by omega
      have E:=oV.fin (by rw[r];exact v) h.2.1 (by rw[r];exact F);rw[Hx.out,←ab.out]at E;have N:OB wr w.heap.size (some ⟨w.heap.size,0,none⟩) i o:=kq f (zG _) q (by omega) (by unfold maxLen;omega);have R:=jZ _ _ _ _ _ N.rn;have W:=N.trim;rw[E,r]at R;rw[E]at W;have Ht:=zF R;clear f q R E N v r F;go_wp2_with fail;refine Ht.out.mono ?_;rintro e w1 ⟨rfl,rfl⟩;go_wp2;go_ret;exact⟨_,_,rfl,W,g⟩
 · have d:x/2^n=0:=by
    apply ql;have V:=kF h.2.1;rw[G]at V;refine zH V ?_;rw[show(18446744073709551616:Nat)=2^64 by decide,←vW];exact qE (by omega) (by omega)
   rw[d,qW];have ac:¬(s:Int)<(l.length:Int):=by omega
   have ae:(l.length:Int)≤(s:Int):=by omega
   clear hl G la O hn d hs;go_enter Tryz.func126,Tryz.ntmps126;go_wp2_with fail;refine ta.out.mono ?_;rintro e w1 ⟨rfl,rfl⟩;go_wp2;go_ret;exact⟨none,0,rfl,OB.nil_ _ _,zo _ _⟩
theorem br {w:World}{base g n c:Nat}{o l:List Nat}(h:Blk w g o)(d:base≤g)(a:o.length=c)(b:c≤maxLen)(i:n≤c)(e:l=o.take n)(f:l.length=n) :
 w.ownsRow base 65 1 (.slice (some ⟨g,0,none⟩) n c) n (nts l) :=
 ⟨by simp[nts,f],.inr ⟨g,c,(nts o).toArray,rfl,d,h,i,b,by simp[nts,a],by simp[nts,e]⟩⟩
theorem su {y:Nat}(z:18446744073709551616≤y):∃ a s top,(digs 18446744073709551616 y).length=a+2∧dg (digs 18446744073709551616 y) (a+1)=top∧top<18446744073709551616∧s<64∧Lib.bitLen top=64-s ∧
 (digs 18446744073709551616 (y*2^s)).length=a+2∧18446744073709551616≤2*dg (digs 18446744073709551616 (y*2^s)) (a+1)∧18446744073709551616 ^(a+2)≤2*(y*2^s):=by
 have b:(2:Nat)≤18446744073709551616:=by omega
 have i:=kL b y
 have w:1<(digs 18446744073709551616 y).length:=by
  rcases qH 1 (digs 18446744073709551616 y).length with h|h
  · exact h
  · have e:=jR b y;have f:18446744073709551616 ^(digs 18446744073709551616 y).length≤18446744073709551616^1:=qE (by omega) h;omega
 obtain⟨a,c⟩:∃ a,(digs 18446744073709551616 y).length=a+2:=⟨(digs 18446744073709551616 y).length-2,by omega⟩
 obtain⟨top,d⟩:=eV (dg (digs 18446744073709551616 y) (a+1))
 have j:top<18446744073709551616:=by rw[←d];exact jW (by omega) i _
 have n:top≠0:=by
  rintro rfl;have e:=gT b (v:=y) (by omega);rw[c]at e;have f:y=val 18446744073709551616 ((digs 18446744073709551616 y).take (a+1)):=by
   have:=qG 18446744073709551616 (digs 18446744073709551616 y) (a+1);rw[d,je,jF,←c,jB,zi b]at this;exact this
  have g:=kF (B:=18446744073709551616) (l:=(digs 18446744073709551616 y).take (a+1)) fun x q=>i x (qN q);rw[←f,zh,qU (by omega)]at g;exact absurd g (Nat.not_lt.2 e)
 obtain⟨s,p,o,g1,m⟩:=nM n j
 have k:(18446744073709551616:Nat)=2 ^(64-s)*2^s:=by rw[←qQ,show 64-s+s=64 by omega]
 obtain⟨r,t,u⟩:=zEB b (by decide) k c d (by omega) m
 exact⟨a,s,top,c,d,j,p,o,r,t,u⟩
theorem zBC {L lD:List Nat}{j n n1 a:Nat}(l:a+2=n)(o:a+1=n1)(b:∀ x∈L,x<18446744073709551616)(c:∀ x∈lD,x<18446744073709551616)(k:lD.length=n)(v:j+n<L.length)
 (q:18446744073709551616≤2*dg lD n1) (d:val 18446744073709551616 L<18446744073709551616 ^(j+1)*val 18446744073709551616 lD) :
 (∀ i, j + n + 1 ≤ i → dg L i = 0) ∧ val 18446744073709551616 L / (18446744073709551616 ^ j * val 18446744073709551616 lD) ≤ gE (dg L (j + n)) (dg L (j + n1)) (dg L (j + a)) (dg lD n1) (dg lD a) ∧
  gE (dg L (j+n)) (dg L (j+n1)) (dg L (j+a)) (dg lD n1) (dg lD a)<18446744073709551616:=by
 subst l o
 have e:=kF c
 rw[k]at e
 have g:∀ i,j+(a+2)+1≤i→dg L i=0:=fun i f=>yk b (m:=j+(a+2)+1) (Nat.lt_trans d (by
  rw[show j+(a+2)+1=(j+1)+(a+2) by omega,qQ _ (j+1)]
  exact kt e (qS (by omega)))) f
 obtain⟨s,u⟩:=tM (x2:=dg L (j+(a+2))) (jW (by omega) b (j+(a+1))) (jW (by omega) b (j+a)) (jW (by omega) c (a+1)) (jW (by omega) c a) q
 refine⟨g,u _ ?_ ?_,s⟩
 · apply jN;rw[zx,yK]at d;exact d
 · obtain⟨rv,p,r⟩:=sY (t:=j+a) b (by omega) (fun i f=>g i (by omega));obtain⟨rd,h⟩:=zBq (B:=18446744073709551616) (L:=lD) (t:=a) (by omega);refine aj (B:=18446744073709551616) (t:=j+a) (DB:=18446744073709551616^j*val 18446744073709551616 lD) (rd:=18446744073709551616^j*rd) (Nat.div_mul_le_self _ _) ?_ r p;rw[h,zl,←zd,←qQ]
theorem Row.alloc_ {w:World}{g:Nat}{l:List Nat}(h:Row w g l)(o:Obj):Row (w.alloc o) g l:=h.of_heap (kJ w o g h.lt)
theorem RN.alloc_ {w:World}{P:Nat→Prop}{A:Option Addr}{c:Nat}{l:List Nat}(h:RN w P A c l)(a:∀ b,P b→b<w.heap.size)(o:Obj):RN (w.alloc o) P A c l:=h.below ((zo w.heap.size w).alloc (zG _) o) a
theorem zB0 (x:Nat){s:Nat}(c:s<64):(digs 18446744073709551616 (x*2^s)).length≤(digs 18446744073709551616 x).length+1:=by
 apply qR (by omega);have b:=jR (B:=18446744073709551616) (by omega) x;have a:2^s≤2^64:=qE (by omega) (by omega);rw[show(2:Nat)^64=18446744073709551616 by decide]at a;rw[zx];exact jh (qI _ a) (Nat.mul_lt_mul_of_pos_right b (by omega))
theorem zCJ (P P':Nat→Prop)(A A':Option Addr)(c c':Nat)(a b:List Nat)(w:World)(h:RN w P A c a)(K:RN w P' A' c' b)(hP:∀ b,P b→b<w.heap.size)(bk:∀ b,P' b→b<w.heap.size)(hl:a.length<90000)(cu:b.length<90000)
 (M:val 18446744073709551616 b≤val 18446744073709551616 a) (bt:18446744073709551616≤val 18446744073709551616 b) :
 Calls Tryz.prog 95 #[.slice A a.length c,.slice A' b.length c'] w fun e w'=>∃ A1 c1 A2 C,e=.returned (.tuple #[.slice A1 (digs 18446744073709551616 (val 18446744073709551616 a/val 18446744073709551616 b)).length c1,.slice A2 (digs 18446744073709551616 (val 18446744073709551616 a%val 18446744073709551616 b)).length C,.bool true]) ∧
  OB w' w.heap.size A1 c1 (digs 18446744073709551616 (val 18446744073709551616 a/val 18446744073709551616 b))∧OB w' w.heap.size A2 C (digs 18446744073709551616 (val 18446744073709551616 a%val 18446744073709551616 b))∧Below w.heap.size w w':=by
 have ta:=zF (jZ P A c a w h)
 have tb:=jZ P' A' c' b w K
 have U:=xO P P' A A' c c' _ _ w h.trim K.trim
 have la:=jD (B:=18446744073709551616) (by omega) h.2.1
 have lb:=jD (B:=18446744073709551616) (by omega) K.2.1
 rw[zi (by omega),zi (by omega)]at U
 replace h:=h.trim
 replace K:=K.trim
 generalize val 18446744073709551616 a=x at *
 generalize val 18446744073709551616 b=y at *
 have bA:0≤wK x y:=by rcases wA x y with h|h|h<;>omega
 generalize wK x y=v at U bA
 obtain⟨i0,hi,ar,au,av⟩:=yz kU
 obtain⟨H,s,top,hn,aV,cy,hs,bu,aa,aC,bg⟩:=su bt
 have a0:=zi (B:=18446744073709551616) (by omega) x
 have a1:=zi (B:=18446744073709551616) (by omega) y
 have bJ:(digs 18446744073709551616 x).length≤(digs 18446744073709551616 (x*2^s)).length:=jO (by omega) (Nat.le_mul_of_pos_right _ (qS (by omega)))
 have cv:(digs 18446744073709551616 y).length≤(digs 18446744073709551616 x).length:=jO (by omega) M
 have bT:=zB0 x hs
 have bq:0<x:=by omega
 have aJ:0<y:=by omega
 generalize digs 18446744073709551616 x=l at *
 generalize digs 18446744073709551616 y=m at *
 have T1:=zF fun W (E:RN W P A c l) (S:∀ b,P b→b<W.heap.size)=>rN P A c l s W E S (by omega) (by omega) (by rw[a0];exact bq)
 have T2:=zF fun W (E:RN W P' A' c' m) (S:∀ b,P' b→b<W.heap.size)=>rN P' A' c' m s W E S (by omega) (by omega) (by rw[a1];exact aJ)
 rw[a0]at T1
 rw[a1,aa,hn]at T2
 rw[hn]at tb U
 have ab:=zEA (B:=18446744073709551616) (x:=x*2^s) (D:=y*2^s) (n:=H+2) (by omega) (by omega) bg
 have aj:=jR (B:=18446744073709551616) (by omega) (y*2^s)
 rw[aa]at aj
 have aB:=kL (B:=18446744073709551616) (by omega) (y*2^s)
 have bh:=zi (B:=18446744073709551616) (by omega) (y*2^s)
 have bs:=zi (B:=18446744073709551616) (by omega) (x*2^s)
 have bf:0<y*2^s:=Nat.mul_pos aJ (qS (by omega))
 have bP:(x*2^s) /(y*2^s)=x/y:=Nat.mul_div_mul_right _ _ (qS (by omega))
 have bS:(x*2^s)%(y*2^s)/2^s=x%y:=by
  rw[Nat.mul_mod_mul_right];exact Nat.mul_div_cancel _ (qS (by omega))
 generalize y*2^s=D at *
 generalize x*2^s=X at *
 generalize digs 18446744073709551616 D=lD at *
 generalize digs 18446744073709551616 X=lX at *
 obtain⟨n,aP⟩:=eV (H+2)
 obtain⟨n1,aQ⟩:=eV (H+1)
 rw[aP]at hn aa aj ab tb U T2
 have a5:=zF aa
 rw[aQ]at aV aC
 obtain⟨d,aL⟩:=eV lX.length
 have aF:Lim lX→True:=fun _=>trivial
 clear aF
 rw[aL]at bJ T1 ab bT
 obtain⟨t,aW⟩:=eV (d+1-n)
 rw[aW]at ab
 have aO:=fun w=>Tryz.bits_LeadingZeros64 (top:Int) w (by omega) (by omega)
 rw[yx,bu,show(64-((64-s:Nat):Int))=(s:Int) by omega]at aO
 have cV:((n:Int)==0)=false:=eqB (by omega)
 have cW:((n:Int)==1)=false:=eqB (by omega)
 have i1:(n:Int)-1=(n1:Int):=by omega
 have i2:n1<n:=by omega
 have i3:¬ d<l.length:=by omega
 have i4:(d:Int)+1-(n:Int)=(t:Int):=by omega
 have cU:¬ v<0:=by omega
 have c5:n<90000:=by omega
 have cZ:l.length<90000:=by omega
 have cY:d≤90001:=by omega
 obtain⟨a7,rfl,cN,q1⟩:=K.at_ (i:=n1) (by omega)
 rw[aV]at q1
 have ce:=zF tb
 have cf:=zF U
 have b7:=zF aO
 have b9:=zF aP
 have b8:=zF aQ
 have ax:=zF aL
 have bX:=zF ab
 have cg:=zF aW
 have cb:=zF bP
 have cc:=zF bS
 have ae:=zF bh
 have bY:=zF bs
 have a2:=zF aj
 have a3:=zF aC
 have cG:=zF la
 have Hl:=zF hl
 clear tb U aO aP aQ aL ab aW bP bS bh bs aj aC la hl bt M a0 a1 cv bq aJ bg lb cu bu cy aV bA aa bJ bT
 go_enter Tryz.func95,Tryz.ntmps95
 go_wp2_with fail
 refine ta.out.mono ?_
 rintro e w1 ⟨rfl,rfl⟩
 go_wp2_with fail
 refine ce.out.mono ?_
 rintro e w1 ⟨rfl,rfl⟩
 go_wp2_with fail
 refine cf.out.mono ?_
 rintro e w1 ⟨rfl,nd,rfl⟩
 obtain⟨W,E⟩:=eW (w.drewN nd)
 have q2:W.cell? (a7.add n1)=some (.int .u64 (top:Int)):=by rw[E];exact q1
 have aU:W.heap.size=w.heap.size:=by rw[E];rfl
 have cl:Below w.heap.size w W:=by rw[E];exact qp (zo _ _) _
 have bn:RN W P A c l:=by rw[E];exact h.drewN _
 have bo:RN W P' (some a7) c' m:=by rw[E];exact K.drewN _
 rw[←E]
 have ch:=zF (T1.out W bn (by rw[aU];exact hP))
 have Y:=zF aU
 clear E q1 T1 bn h K aU
 go_wp2_with fail
 refine(b7.out _).mono ?_
 rintro e w1 ⟨rfl,cC⟩
 obtain rfl:W=w1:=cC.symm
 go_wp2_with fail
 refine ch.out.mono ?_
 rintro e w2 ⟨A1,c1,rfl,am,cQ,⟨o,rfl,bv,ho,bO⟩,aA⟩
 have aR:=br bv (zG _) ho (by unfold maxLen;have:=am.cap;omega) (by have:=am.cap;have:=ax.out;omega) bO ax.out
 have aF:=am.1
 have a9:=aA.size
 clear bv bO ho
 go_wp2_with (at_builtin;refine jd _ rfl _ _ 24 rfl W.heap.size 65 i0 (.int .u64 0) 1 8 Tryz.underlying24 hi ar au av rfl (by decide) _ d (nts lX) rfl (aR.alloc _) (In w2.heap.size (w2.heap.size+1)) (some ⟨w2.heap.size,0,none⟩) 1 1 [.int .u64 0] rfl (RS.fresh #[.int .u64 0] 65 1 1 rfl (by unfold maxLen;omega) ⟨zG _,by omega⟩) (by simp[Value.oneCell']) (d+1) rfl (by unfold maxLen;omega) (by omega) (by simp;omega) ?_)
 intro A2 C w3 bK bC _
 have ac:(lX++[0]).length=d+1:=by rw[zf,ax.out];rfl
 have bL:w3.ownsRow W.heap.size 65 1 (.slice A2 (lX++[0]).length C) (lX++[0]).length (nts (lX++[0])):=by
  rw[ac];have:nts (lX++[0])=nts lX++[.int .u64 0]:=by simp[nts]
  rw[this];exact bK
 have aG:Lim (lX++[0]):=⟨fun x hx=>by
  rcases List.mem_append.1 hx with h|h
  · exact aF.1 x h
  · rw[List.mem_singleton.1 h];omega,by rw[ac];omega⟩
 have T:=OB.of_own bL aG
 obtain⟨g,rfl,hg,aS⟩:=T.row (by omega)
 have ao:=T.cap
 rw[ac]at ao
 have ct:=aS.lt
 have ah:Below W.heap.size W w3:=(aA.alloc a9 _).grown bC (by simp;omega) (by intro j hj;exact uw aR hj)
 have aZ:val 18446744073709551616 (lX++[0])=X:=by rw[kg,bY.out];simp
 generalize lX++[0]=R at *
 obtain⟨p,S⟩:∃ p:Addr,p=⟨g,0,none⟩:=⟨_,rfl⟩
 rw[←S]
 have V:=zF S
 have T3:=zF (T2.out w3 (bo.below ah (by rw[Y.out];exact bk)) (by have:=ah.size;have:=Y.out;intro b O;have:=bk b O;omega))
 have cS:d+1≤C:=ao.1
 have cT:C≤9223372036854775807:=ao.2.1
 clear S aR bK bL am aA a9 ao T2 bo q2 bC T
 go_wp2_with fail
 go_loopw [11] (fun rv wr=>rv=.slice (some p) (d+1) C∧w3=wr) (fun _ _=>0)
 case atStart=>exact⟨rfl,rfl⟩
 case round =>
  obtain⟨rfl,rfl⟩:=hrel;go_wp2_with fail;refine T3.out.mono ?_;rintro e w4 ⟨A3,c3,rfl,aH,cR,⟨o3,ci,cz,cA,cB⟩,ai⟩;clear cz cA cB;have cj:=aH.row (by rw[a5.out];omega);have bp:=aH.rn;have cL:=ai.size;have cX:g<w4.heap.size:=by omega
  have bQ:=aS.below ai ct;have bc:Below W.heap.size W w4:=ah.trans (ai.mono (by have:=ah.size;omega));have bd:=bc.alloc (by omega) (.cells (madeCells #[.int .u64 0] t) 65);have bw:=wD w4 t;have c2:=qt (P:=Tryz.prog) 24 65 (.int .u64 0) 8 Tryz.underlying24 kU rfl .i64 .i64 t (by omega) (by omega);have Hs:=zF (xW t);clear aH ai bc aS T3 ci;go_wp2_with fail;go_loopw [14] (fun iv wr=>∃(k:Nat) (z:Int) (L qs:List Nat),iv=.int .i64 z∧wB k z∧k≤t∧gm 18446744073709551616 X D L qs k∧Hid (L.length=d+1)∧Hid (qs.length=t)∧Lim L∧Lim qs∧Row wr g L∧Blk wr w4.heap.size qs∧RN wr (In w3.heap.size w4.heap.size) A3 c3 lD∧Below w.heap.size w wr) (fun iv _=>(intOf iv+1).toNat);case atStart=>exact⟨t,_,R,List.replicate t 0,rfl,Hs.out,by omega,by rw[←aZ];exact gm.start (by simp) (by rw[aZ];exact bX.out),zF ac,zF (by simp),aG,⟨by simp,by simp;omega⟩,bQ.alloc_ _,bw,bp.alloc_ (fun b O=>O.2) _,(cl.trans (bd.mono (by rw[Y.out];exact zG _)))⟩
  case round =>
   obtain⟨k,z,L,qs,rfl,hz,hk,hQ,J,ag,f,al,u,F,r,I⟩:=hrel;clear bQ bw bp bd ac aG aZ cj;rcases hz with⟨rfl,rfl⟩|⟨j,rfl,rfl⟩
   · obtain⟨v1,v2⟩:=hQ.fin;rw[cb.out]at v1;have bV:=I.size;have cO:=Y.out;have aI:OB wr w.heap.size (some ⟨w4.heap.size,0,none⟩) t qs:=kq F (by omega) al (by have:=ag.out;omega) (by unfold maxLen;omega);have T:=u.ob (base:=w.heap.size) (c:=C) (by omega) f (by have:=J.out;omega) (by unfold maxLen;omega);have tq:=jZ _ _ _ _ _ aI.rn;have bj:=aI.trim;rw[v1]at bj;rw[v1,ag.out]at tq;have tr:=zBz _ _ _ _ s wr T.rn (fun b O=>O.2) (by have:=J.out;omega) (by omega);rw[v2,cc.out,J.out,←V.out]at tr;have Tq:=zF tq;have Tr:=zF tr;clear hQ f al u F r T aI tq tr;go_wp2_with fail;refine Tq.out.mono ?_;rintro e w5 ⟨rfl,rfl⟩;go_wp2_with fail;refine Tr.out.mono ?_;rintro e w6 ⟨A6,c6,rfl,cp,be⟩;go_wp2;go_ret3;exact⟨_,_,_,_,rfl,bj.below be (zG _),cp.mono bV,I.trans (be.mono bV)⟩
   · have cn:=J.out;have aN:=a5.out;have e2:=b9.out;have e1:=b8.out;have bG:=cg.out;obtain⟨ar,M,Q⟩:=zBC (j:=j) e2 e1 f.1 aB aN (by omega) a3.out (by rw[ae.out];exact hQ.2);obtain⟨ad,rfl,cP,d1⟩:=r.at_ (i:=n1) (by omega);have d2:=r.cells H (by omega);obtain⟨y0,bW⟩:=eV (j+n);obtain⟨y1,cD⟩:=eV (j+n1);obtain⟨y2,cE⟩:=eV (j+H);rw[bW,cD,cE]at M Q;rw[ae.out]at M;have r0:=u.cell V.out (j:=y0) (by omega);have r1:=u.cell V.out (j:=y1) (by omega);have r2:=u.cell V.out (j:=y2) (by omega);rw[jL]at r0 r1 r2;have bE:=tL (dg L y0) (dg L y1) (dg L y2) (dg lD n1) (dg lD H);have aK:=fun w=>bE w (f.dgLt y1) (f.dgLt y2) (jW (by omega) aB n1) (jW (by omega) aB H) a3.out;obtain⟨G,hG⟩:=eV (gE (dg L y0) (dg L y1) (dg L y2) (dg lD n1) (dg lD H));rw[hG]at M Q aK;have bZ:=zF aK;have c0:(j:Int)+(n:Int)=(y0:Int):=by omega
     have cI:(y0:Int)-1=(y1:Int):=by omega
     have cJ:(y0:Int)-2=(y2:Int):=by omega
     have cK:(n:Int)-2=(H:Int):=by omega
     have c4:y0+1-j=n+1:=by omega
     have bM:p.add j=⟨g,j,none⟩:=by rw[V.out,dP,jL]
     have az:=zF bM;have b0:(y0:Int)<(d:Int)+1:=by omega
     have b1:(y1:Int)<(d:Int)+1:=by omega
     have b2:(y2:Int)<(d:Int)+1:=by omega
     have b3:H<n:=by omega
     have b4:j≤y0+1:=by omega
     have b5:(y0:Int)+1≤(C:Int):=by omega
     have b6:y0≤90001:=by omega
     clear bE aK hG e1 e2 cn bM;have cF:=zF bG;have ay:Hid (j+n<L.length):=zF (by have:=J.out;omega);have a6:=zF aN;have an:∀ b,In w3.heap.size w4.heap.size b→b≠g:=fun b O=>by have:=O.1;omega
     have bD:w4.heap.size≠g:=by omega
     have bU:w.heap.size≤g:=by have:=Y.out;omega
     clear bG aN;go_wp2_with fail;go_quiet ((go_at_call 123;exact Calls.quiet_of (bZ.out _)));go_wp2_with fail;refine(se g j (p.add j) az.out (In w3.heap.size w4.heap.size) (some ad) c3 (C-j) n G L lD _ (u.drewN _) f (r.drewN _) an a6.out ay.out Q).mono ?_;rintro e w5 ⟨L1,bb,rfl,bR,aD,ap,bH,aX,au⟩;have bi:=gJ.start (n:=n) (D:=D) M Q au ar (by rw[ae.out]at aX;exact aX) aD.1 (by omega) a2.out;have bx:Blk w5 w4.heap.size qs:=(ap.block _ bD).trans F;have bl:=(r.drewN nq).only ap an;have a8:=(qp I nq).trans (ap.below bU);have bI:=zF (bH.trans J.out);clear u f F r I ap aX au bH M Q r0 r1 r2 d1 d2 ar;go_wp2_with fail;go_loopw [15,17] (fun gv tv wr=>∃(G:Nat) (aw:Bool) (L':List Nat),gv=.int .u64 (G:Int)∧tv=.bool aw∧gJ 18446744073709551616 (val 18446744073709551616 L) j n D L' G aw∧Hid (L'.length=d+1)∧Lim L'∧Row wr g L'∧Blk wr w4.heap.size qs∧RN wr (In w3.heap.size w4.heap.size) (some ad) c3 lD∧Below w.heap.size w wr) (fun gv _ _=>(intOf gv).toNat);case atStart=>exact⟨G,_,L1,rfl,rfl,bi,bI,aD,bR,bx,bl,a8⟩
     case round =>
      clear bi bI aD bR bx bl a8;obtain⟨G,aw,L',rfl,rfl,N,af,f,u,F,r,I⟩:=hrel;rcases aw with _|_
      · obtain⟨f1,f2⟩:=N.fin (by omega) bf;have bF:j<qs.length:=by have:=ag.out;omega
        have cq:=hQ.step bF f1 f2;have q3:=F.cell bF;have q4:=F.free j;have cs:=F.set j G;have co:=al.set j G N.2.1;have ck:=I.setCell (p:=⟨w4.heap.size,j,none⟩) (by show w.heap.size≤w4.heap.size;omega) (.int .u64 (G:Int));have cr:RN (World.setCell _ ⟨w4.heap.size,j,none⟩ (.int .u64 (G:Int))) (In w3.heap.size w4.heap.size) (some ad) c3 lD:=r.keep fun q hq=>qB (w:=_) (ji _ _ _ q.block (by have:=hq.2;show q.block≠w4.heap.size;omega));have cx:=u.of_heap (ji _ ⟨w4.heap.size,j,none⟩ (.int .u64 (G:Int)) g (by show g≠w4.heap.size;omega));have ca:Hid ((qs.set j G).length=t):=zF (by simpa using ag.out);have k1:j<t:=by omega
        have cd:=zF (xW j);clear N f1 f2 hQ F al I r u;go_wp2;go_roundw;case rel=>exact⟨j,_,L',qs.set j G,rfl,cd.out,by omega,cq,af,ca,f,co,cx,cs,cr,ck⟩
        case measure=>simp[intOf]
      · have bN:=N.pos f.1 (by omega);have cw:=jh (xB _) bN;clear bN;obtain⟨G,rfl⟩:∃ k,G=k+1:=⟨G-1,by omega⟩
        have Q:=N.2.1;have cM:(G:Int)<18446744073709551616:=by omega
        clear cw Q;go_wp2_with fail;refine(tO g j (p.add j) az.out (In w3.heap.size w4.heap.size) (some ad) c3 (C-j) n L' lD _ u f r an a6.out (by rw[af.out,←J.out];exact ay.out)).mono ?_;rintro e w6 ⟨Z,cH,rfl,aT,aE,aq,aM,aY,av⟩;rw[ae.out]at aY;have ak:=N.step f.1 aE.1 (by omega) bf a2.out aY av;have bz:Blk w6 w4.heap.size qs:=(aq.block _ bD).trans F;have bm:=r.only aq an;have ba:=I.trans (aq.below bU);have r4:=aT.cell az.out (j:=n) (by rw[aM,af.out,←J.out];exact ay.out);have a4:=zF (aM.trans af.out);have k2:(n:Int)<(n:Int)+1:=by omega
        clear N f u F r I aq aM aY av;by_cases hd0:dg Z (j+n)=0
        · rw[hd0]at r4 ak;clear hd0;go_wp2;go_roundw;case rel=>exact⟨G,false,Z,by go_num,rfl,by simpa using ak,a4,aE,aT,bz,bm,ba⟩
          case measure=>simp[intOf]
        · have bB:((dg Z (j+n):Int) != 0)=true:=neB (by omega);have cm:gJ 18446744073709551616 (val 18446744073709551616 L) j n D Z G true:=by simpa[hd0]using ak
          clear ak;go_wp2;go_roundw;case rel=>exact⟨G,true,Z,by go_num,congrArg Value.bool (by first|exact bB|(rw[←bW];exact bB)),cm,a4,aE,aT,bz,bm,ba⟩
          case measure=>simp[intOf]
theorem fq (P P':Nat→Prop)(A A':Option Addr)(c c':Nat)(a b:List Nat)(w:World)(h:RN w P A c a)(f:RN w P' A' c' b)(l:∀ b,P b→b<w.heap.size)(q:∀ b,P' b→b<w.heap.size)(r:a.length<90000)(s:b.length<90000)(n:0<val 18446744073709551616 b) :
 Calls Tryz.prog 95 #[.slice A a.length c,.slice A' b.length c'] w fun e w'=>∃ d c1 j k,e=.returned (.tuple #[.slice d (digs 18446744073709551616 (val 18446744073709551616 a/val 18446744073709551616 b)).length c1,.slice j (digs 18446744073709551616 (val 18446744073709551616 a%val 18446744073709551616 b)).length k,.bool true]) ∧
  OB w' w.heap.size d c1 (digs 18446744073709551616 (val 18446744073709551616 a/val 18446744073709551616 b))∧OB w' w.heap.size j k (digs 18446744073709551616 (val 18446744073709551616 a%val 18446744073709551616 b))∧Below w.heap.size w w':=by
 rcases qH (val 18446744073709551616 a) (val 18446744073709551616 b)with i|m
 · have t:=quo_lt P P' A A' c c' a b w h f i;rw[ql i,qF i,qW];refine t.mono ?_;rintro e w' ⟨d,c1,rfl,p,o⟩;exact⟨none,0,d,c1,rfl,OB.nil_ _ _,p,o⟩
 · rcases qH (val 18446744073709551616 b) 18446744073709551616 with g|g
   · exact zCI P P' A A' c c' a b w h f l (by omega) m n g
   · exact zCJ P P' A A' c c' a b w h f l q r s m g
def z6:List Nat:=[0,0,0,0,0,0]
theorem fc_m (n inv:Nat)(a ol rl:List Nat)(b:a.length≤6):(kj n inv z6 ol rl).take 1++nts a++(kj n inv z6 ol rl).drop (1+a.length)=kj n inv (a++List.replicate (6-a.length) 0) ol rl:=by
 match a,b with
 | [],_ | [_],_ | [_,_],_ | [_,_,_],_ | [_,_,_,_],_ | [_,_,_,_,_],_ | [_,_,_,_,_,_],_=>rfl
theorem fc_o (n inv:Nat)(a ml rl:List Nat)(c:ml.length=6)(b:a.length≤6):(kj n inv ml z6 rl).take 8++nts a++(kj n inv ml z6 rl).drop (8+a.length)=kj n inv ml (a++List.replicate (6-a.length) 0) rl:=by
 obtain⟨_,_,_,_,_,_,rfl⟩:=six c;match a,b with
 | [],_ | [_],_ | [_,_],_ | [_,_,_],_ | [_,_,_,_],_ | [_,_,_,_,_],_ | [_,_,_,_,_,_],_=>rfl
theorem fc_r (n inv:Nat)(a ml ol:List Nat)(c:ml.length=6)(d:ol.length=6)(b:a.length≤6):(kj n inv ml ol z6).take 14++nts a++(kj n inv ml ol z6).drop (14+a.length)=kj n inv ml ol (a++List.replicate (6-a.length) 0):=by
 obtain⟨_,_,_,_,_,_,rfl⟩:=six c;obtain⟨_,_,_,_,_,_,rfl⟩:=six d;match a,b with
 | [],_ | [_],_ | [_,_],_ | [_,_,_],_ | [_,_,_,_],_ | [_,_,_,_,_],_ | [_,_,_,_,_,_],_=>rfl
theorem zET (n inv:Nat)(ml ol rl:List Nat)(a:ml.length=6):(kj n 0 ml ol rl).toArray.setIfInBounds 7 (.int .u64 (inv:Int))=(kj n inv ml ol rl).toArray:=by
 obtain⟨_,_,_,_,_,_,rfl⟩:=six a;simp[kj,nts]
theorem pU (n inv:Nat)(ml ol rl:List Nat)(a:ml.length=6)(b:ol.length=6)(c:rl.length=6):(kj n inv ml ol rl).length=20:=by simp[kj,nts,a,b,c]
theorem mV {a:List Nat}(h:a.length≤6):(a++List.replicate (6-a.length) 0).length=6:=by simp;omega
theorem mW {a:List Nat}(h:∀ x∈a,x<18446744073709551616):∀ x∈a++List.replicate (6-a.length) 0,x<18446744073709551616:=fun x c=>by
 rcases List.mem_append.1 c with b|b
 · exact h x b
 · have:=(List.mem_replicate.1 b).2;omega
theorem nF (P:Nat→Prop)(A:Option Addr)(c:Nat)(a:List Nat)(M:Nat)(w:World)(h:RN w P A c a)(hM:val 18446744073709551616 a=M)(h1:1<M)(bH:M%2=1)(_hl:a.length<40000)(a0:(digs 18446744073709551616 M).length≤6) :
 Calls Tryz.prog 91 #[.slice A a.length c] w fun e w'=>∃ g inv ml ol rl,e=.returned (.pointer (some ⟨g,0,none⟩))∧w.heap.size≤g∧FR w' g (digs 18446744073709551616 M).length inv M ml ol rl∧Below w.heap.size w w':=by
 obtain⟨i0,hi,bM,bN,bO⟩:=yz kU
 have E:=yn P A c a w h
 have am:=jD (B:=18446744073709551616) (by omega) h.2.1
 rw[hM]at E am
 have v:=zi (B:=18446744073709551616) (by omega) M
 have K:=kL (B:=18446744073709551616) (by omega) M
 have D:=cR K (by omega)
 rw[v]at D
 obtain⟨ml,aq⟩:=eV (digs 18446744073709551616 M)
 rw[aq]at E am v D K a0 ⊢
 obtain⟨l,a1⟩:=eV (dg ml 0)
 rw[a1]at D
 have a2:(l:Int)%2=1:=by omega
 obtain⟨n,L⟩:=eV ml.length
 have a3:0<n:=by
  rcases za n with u|u
  · have:ml=[]:=qV (L.trans u);rw[this]at v;simp at v;omega
  · exact u
 have N:n≤6:=by omega
 have kn:(0:Int)<(n:Int):=by omega
 rw[L]at E ⊢
 have bo:=zF E
 have aa:=zF aq
 have j:=zF L
 have s:=zF v
 have bi:=zF D
 have bk:=zF a2
 have bg:=zF K
 clear E am aq L v D a2 _hl bH hM K a0
 go_enter Tryz.func91,Tryz.ntmps91
 go_wp2_with fail
 refine bo.out.mono ?_
 rintro e d ⟨A1,c1,rfl,bw,aB⟩
 have r1:=bw.rn
 have aH:=zS d (.cells (kj n 0 z6 z6 z6).toArray 165)
 have ae:Below d.heap.size d (d.alloc (.cells (kj n 0 z6 z6 z6).toArray 165)):=(zo _ d).alloc (zG _) _
 have bd:=r1.below ae (fun b f=>f.2)
 have aV:=fC (dT:=23) (sT:=24) Tryz.underlying23 (d.alloc (.cells (kj n 0 z6 z6 z6).toArray 165)) d.heap.size 1 6 6 (kj n 0 z6 z6 z6) 165 aH _ A1 c1 ml bd (by rw[j.out];exact N) (by rw[pU _ _ _ _ _ rfl rfl rfl,j.out];omega)
 rw[fc_m _ _ _ _ _ (by rw[j.out];exact N),j.out]at aV
 obtain⟨X,aU,C,aS,bC,bD⟩:=aV
 have af:Below d.heap.size d X:=aS _ d (zG _) ae
 have bc:=r1.below af (fun b f=>f.2)
 have aW:(kj n 0 z6 z6 z6).toArray=#[.int .i64 (n:Int),.int .u64 0,.int .u64 0,.int .u64 0,.int .u64 0,.int .u64 0,.int .u64 0,.int .u64 0,.int .u64 0,.int .u64 0,.int .u64 0,.int .u64 0,.int .u64 0,.int .u64 0,.int .u64 0,.int .u64 0,.int .u64 0,.int .u64 0,.int .u64 0,.int .u64 0]:=rfl
 rw[aW]at aU
 have ar:=mV (a:=ml) (by rw[j.out];exact N)
 have au:=mW bg.out
 have aw:val 18446744073709551616 (ml++List.replicate (6-ml.length) 0)=M:=by rw[bA];exact s.out
 have av:val 18446744073709551616 ((ml++List.replicate (6-ml.length) 0).take n)=M:=by rw[←j.out,List.take_left'];exact s.out;rfl
 rw[j.out]at ar au aw av
 generalize ml++List.replicate (6-n) 0=G at *
 have bT:d.heap.size<X.heap.size:=qd C
 obtain⟨ad,rfl,bW,q1⟩:=bc.at_ (i:=0) (by rw[j.out];exact a3)
 rw[a1]at q1
 have bQ:X.cell? ad=some (.int .u64 (l:Int)):=by simpa[Addr.add]using q1
 have m:=zF ar
 have bl:=zF au
 have bn:=zF aw
 have bm:=zF av
 clear aW ae aH bd aS bC bD q1 ar au aw av
 go_wp2_with fail
 go_loopw [4,23] (fun iv jv wr=>∃(y:Int) (r:Nat),jv=.int .i64 (r:Int)∧iv=.int .u64 y∧r≤6∧gG (l:Int) r y∧X=wr) (fun _ jv _=>6-(intOf jv).toNat)
 case atStart=>exact⟨1,0,rfl,rfl,by omega,gG.zero bk.out,rfl⟩
 case round =>
  obtain⟨y,r,rfl,rfl,hr,J,rfl⟩:=hrel;by_cases hlt:r<6
  · have aM:=J.step hlt;have V:IntKind.u64.wrap ((l:Int)*y)=(l:Int)*y%18446744073709551616:=ww _;have bK:IntKind.u64.wrap (2-(l:Int)*y%18446744073709551616)=(2-(l:Int)*y%18446744073709551616)%18446744073709551616:=ww _;have bL:IntKind.u64.wrap (y*((2-(l:Int)*y%18446744073709551616)%18446744073709551616))=y*((2-(l:Int)*y%18446744073709551616)%18446744073709551616)%18446744073709551616:=ww _;generalize(l:Int)*y%18446744073709551616=x1 at *;generalize(2-x1)%18446744073709551616=x2 at *;generalize y*x2%18446744073709551616=x3 at *;have HN:=zF aM;clear J aM;go_wp2;go_roundw;case rel=>exact⟨x3,r+1,by go_num,by first|rfl|simp[V,bK,bL],by omega,HN.out,by first|rfl|trivial⟩
    case measure=>simp[intOf];omega
  · obtain rfl:r=6:=by omega
    obtain⟨t,ht⟩:=J.fin;have al:=zCb bi.out ht;have u:0≤(-y)%18446744073709551616:=Int.emod_nonneg _ (by decide);have ao:(-y)%18446744073709551616<18446744073709551616:=Int.emod_lt_of_pos _ (by decide);obtain⟨inv,R⟩:∃ inv:Nat,(-y)%18446744073709551616=(inv:Int):=⟨_,(Int.toNat_of_nonneg u).symm⟩
    have bG:IntKind.u64.wrap (-y)=(inv:Int):=by rw[ww];exact R
    rw[R,yx]at al;rw[R]at ao;have bf:=zF al;have bh:=zF ao;have bF:=qt (P:=Tryz.prog) 24 65 (.int .u64 0) 8 Tryz.underlying24 kU rfl .i64 .i64 n (by omega) (by omega);clear ht al u R J hlt ao;have g7:=zP C 7;rw[show(kj n 0 G z6 z6).toArray[7]?=some (.int .u64 0) by obtain⟨_,_,_,_,_,_,e⟩:=six m.out;rw[e];rfl]at g7;have f7:=qz C 7;have I:=jA C 7 (.int .u64 (inv:Int));rw[zET _ _ _ _ _ m.out]at I;have ag:Below d.heap.size d (X.setCell ⟨d.heap.size,7,none⟩ (.int .u64 (inv:Int))):=af.setCell (p:=⟨d.heap.size,7,none⟩) (zG _) _;have bP:(X.setCell ⟨d.heap.size,7,none⟩ (.int .u64 (inv:Int))).heap.size=X.heap.size:=by simp[World.setCell]
    have bR:=r1.below ag (fun b f=>f.2);have n0:(X.setCell ⟨d.heap.size,7,none⟩ (.int .u64 (inv:Int))).cell? ⟨d.heap.size,0,none⟩=some (.int .i64 (n:Int)):=by rw[zP I 0];rfl
    go_upto_region 10 with fail;generalize X.setCell ⟨d.heap.size,7,none⟩ (.int .u64 (inv:Int))=Y at *;have bv:d.heap.size<Y.heap.size:=by omega
    clear bP C bc bQ g7 f7 af aU bG;have aT:=wD Y n
    have a5:(Y.alloc (.cells (madeCells #[.int .u64 0] n) 65)).ownsRow Y.heap.size 65 1 (.slice (some ⟨Y.heap.size,0,none⟩) n n) n (nts (List.replicate n 0)) :=
     br (o:=List.replicate n 0) aT (zG _) (by simp) (by unfold maxLen;omega) (zG _) (by simp) (by simp)
    have aY:RS ((Y.alloc (.cells (madeCells #[.int .u64 0] n) 65)).alloc (.cells #[.int .u64 1] 65)) (fun _=>True) 1 (some ⟨Y.heap.size+1,0,none⟩) 1 1 (nts [1]):=by
     have:=RS.fresh (w:=Y.alloc (.cells (madeCells #[.int .u64 0] n) 65)) (P:=fun _=>True) #[.int .u64 1] 65 1 1 rfl (by unfold maxLen;omega) trivial;rw[zz]at this;exact this
    have a6:=a5.alloc (.cells #[.int .u64 1] 65);have aF:Below Y.heap.size Y ((Y.alloc (.cells (madeCells #[.int .u64 0] n) 65)).alloc (.cells #[.int .u64 1] 65)):=((zo _ Y).alloc (zG _) _).alloc (by simp) _;have b3:((Y.alloc (.cells (madeCells #[.int .u64 0] n) 65)).alloc (.cells #[.int .u64 1] 65)).heap.size=Y.heap.size+2:=by simp
    clear aT a5;go_wp2_with (at_builtin;generalize(Y.alloc (.cells (madeCells #[.int .u64 0] n) 65)).alloc (.cells #[.int .u64 1] 65)=W at *;refine jd _ rfl _ _ 24 rfl Y.heap.size 65 i0 (.int .u64 0) 1 8 Tryz.underlying24 hi bM bN bO rfl (by decide) (.slice (some ⟨Y.heap.size,0,none⟩) n n) n _ rfl a6 (fun _=>True) _ 1 1 (nts [1]) rfl aY (vB [1]) (n+1) rfl (by unfold maxLen;omega) (by omega) (by omega) ?_;intro A2 c2 w2 a7 ak bI);have b4:=ak.size;have z:Below Y.heap.size Y w2:=aF.grown ak (by omega) (fun k hk=>by simp[Value.ownBlock]at hk;omega);have b1:=z.size;have aI:=(z.block d.heap.size bv).trans I
    have aL:Lim (List.replicate n 0++[1]):=⟨fun x hx=>by
     rcases List.mem_append.1 hx with h|h
     · simp at h;omega
     · simp at h;omega,by simp;omega⟩
    have an:(List.replicate n 0++[1]).length=n+1:=by simp
    have aO:OB w2 Y.heap.size A2 c2 (List.replicate n 0++[1]):=OB.of_own (by rw[an];simpa[nts]using a7) aL;have bb:=zBs n;generalize List.replicate n 0++[1]=bS at *;have V:=aB.size;have bE:=ag.size;have bu:=aB.trans ((ag.trans (z.mono bE)).mono V);have r2:=bR.below z (fun b f=>by have:=f.2;omega);have O:=fq _ _ A2 (some ad) c2 c1 bS ml w2 aO.rn r2 (fun b f=>f.2) (fun b f=>by have:=f.2;omega) (by omega) (by have:=j.out;omega) (by rw[s.out];omega);rw[bb,s.out,an,j.out]at O;obtain⟨v1,S⟩:=eV (18446744073709551616^n%M);rw[S]at O;have T:v1<M:=by rw[←S];exact qP _ (by omega)
    have bZ:(digs 18446744073709551616 v1).length≤n:=by
     have:=jO (B:=18446744073709551616) (by omega) (kA T);rw[aa.out,j.out]at this;exact this
    have bp:=zF O;have aA:=zF S;clear O a7 ak bI aY a6 I aF aO bb an aL bF S n0 z;refine bp.out.mono ?_;rintro e w3 ⟨A3,c3,Z,c4,rfl,_,aj,H⟩;have aJ:=(H.block d.heap.size (qd aI)).trans aI;have a9:=H.size;have ap:=me _ _ Z Z c4 c4 _ _ w3 aj.rn aj.rn (fun b f=>f.2) (fun b f=>f.2) (by omega) (by omega);rw[zi (by omega)]at ap;have bj:=zF ap;clear ap;go_wp2_with fail;refine bj.out.mono ?_;rintro e w4 ⟨A5,c5,rfl,bx,ac⟩;have bJ:=ac.size;have bt:=H.trans (ac.mono a9);have r4:=r2.below bt fun b f=>by have:=f.2;omega
    have aZ:(digs 18446744073709551616 (v1*v1)).length<90000:=by
     have:=sF (kA T) (kA T) (show(digs 18446744073709551616 M).length≤n by rw[aa.out,j.out];exact zG _);omega
    have Q:=fq _ _ A5 (some ad) c5 c1 _ ml w4 bx.rn r4 (fun b f=>f.2) (fun b f=>by have:=f.2;omega) aZ (by have:=j.out;omega) (by rw[s.out];omega);rw[zi (by omega),s.out,j.out]at Q;obtain⟨v2,U⟩:=eV (v1*v1%M);rw[U]at Q;have ba:v2<M:=by rw[←U];exact qP _ (by omega)
    have b0:(digs 18446744073709551616 v2).length≤n:=by
     have:=jO (B:=18446744073709551616) (by omega) (kA ba);rw[aa.out,j.out]at this;exact this
    have bq:=zF Q;have bs:=zF U;clear Q U aZ;go_wp2_with fail;refine bq.out.mono ?_;rintro e w5 ⟨A6,c6,A7,c7,rfl,_,bz,aC⟩;have b2:=aC.size;have ab:=ac.trans (aC.mono bJ);have aK:=(ab.block d.heap.size (qd aJ)).trans aJ;have aN:=aj.below ab (zG _);have aG:=bu.trans ((H.trans (ab.mono a9)).mono (by omega));obtain⟨V1,bX,ah,aP,aQ,bU⟩:=fC (dT:=23) (sT:=24) Tryz.underlying23 w5 d.heap.size 8 6 6 (kj n inv G z6 z6) 165 aK _ Z c4 _ aN.rn (by omega) (by rw[pU _ _ _ _ _ m.out rfl rfl];omega);rw[fc_o _ _ _ _ _ m.out (by omega)]at ah;have aD:=aP w.heap.size w (by omega) aG;have r7:RN V1 (In w4.heap.size w5.heap.size) A7 c7 (digs 18446744073709551616 v2):=bz.rn.keep fun q hq=>qB (aQ q.block (by have:=hq.1;omega));have F:=mV (a:=digs 18446744073709551616 v1) (by omega);have a4:=mW (kL (B:=18446744073709551616) (by omega) v1);have ax:val 18446744073709551616 (digs 18446744073709551616 v1++List.replicate (6-(digs 18446744073709551616 v1).length) 0)=v1:=by rw[bA];exact zi (by omega) v1
    generalize digs 18446744073709551616 v1++List.replicate (6-(digs 18446744073709551616 v1).length) 0=op at *;obtain⟨V2,bY,ai,aR,bB,bV⟩:=fC (dT:=23) (sT:=24) Tryz.underlying23 V1 d.heap.size 14 6 6 (kj n inv G op z6) 165 ah _ A7 c7 _ r7 (by omega) (by rw[pU _ _ _ _ _ m.out F rfl];omega);rw[fc_r _ _ _ _ _ m.out F (by omega)]at ai;have aE:=aR w.heap.size w (by omega) aD;have ay:=mV (a:=digs 18446744073709551616 v2) (by omega);have a8:=mW (kL (B:=18446744073709551616) (by omega) v2);have az:val 18446744073709551616 (digs 18446744073709551616 v2++List.replicate (6-(digs 18446744073709551616 v2).length) 0)=v2:=by rw[bA];exact zi (by omega) v2
    generalize digs 18446744073709551616 v2++List.replicate (6-(digs 18446744073709551616 v2).length) 0=rp at *;have aX:FR V2 d.heap.size n inv M G op rp:=⟨⟨⟨ai,m.out,F,ay⟩,bl.out,bn.out,bm.out,a3,N,h1,by have:=bh.out;omega,bf.out⟩,⟨F,a4,by rw[ax];exact T⟩,by rw[ax];exact aA.out.symm,⟨ay,a8,by rw[az];exact ba⟩,by rw[az,←bs.out,←aA.out,←vC]⟩
    have be:=zF aX;have HB:=zF aE;clear aX aE az a8 ay ax a4 F ah ai aP aQ aR bB aK r7 aD aN aG;go_wp2;go_ret;exact⟨_,inv,G,op,rp,rfl,V,be.out,HB.out⟩
def vU (size:Nat) (d c b e f a:Value) (tl fl:List Nat):List Value:=[Value.int .i64 (size:Int),d,c,b,e,f,a]++nts tl++nts fl
structure Num (w:World) (P:Nat→Prop) (k g size n inv M bb:Nat) (pl nl bl xl yl ml ol rl tl fl:List Nat) (Ap An Ab Ax Ay:Option Addr) (cp cn cb cx cy:Nat):Prop where
 blk:w.heap[k]?=some (.cells (vU size (.slice Ap pl.length cp) (.slice An nl.length cn) (.slice Ab bl.length cb) (.slice Ax xl.length cx) (.slice Ay yl.length cy) (.pointer (some ⟨g,0,none⟩)) tl fl).toArray 111 (0,0))
 p:RN w P Ap cp pl
 nn:RN w P An cn nl
 b:RN w P Ab cb bl
 x:RN w P Ax cx xl
 y:RN w P Ay cy yl
 fr:FR w g n inv M ml ol rl
 pv:val 18446744073709551616 pl=M
 three:FE M n tl 3
 fb:FE M n fl bb
theorem cW {w:World}{g i:Nat}{v a b c d e f:Value}(j:Nat)(m:i<j)(_h2:i<100)(h:w.cell? ⟨g,i,none⟩=some v) :
 ((((((w.setCell ⟨g,j,none⟩ a).setCell ⟨g,j+1,none⟩ b).setCell ⟨g,j+2,none⟩ c).setCell ⟨g,j+3,none⟩ d).setCell ⟨g,j+4,none⟩ e).setCell ⟨g,j+5,none⟩ f).cell? ⟨g,i,none⟩=some v:=by
 have key:∀(w:World) (k:Nat) (u:Value),i<k→(w.setCell ⟨g,k,none⟩ u).cell? ⟨g,i,none⟩=w.cell? ⟨g,i,none⟩:=fun w k u n=>by
  have l:k≠i:=by omega
  simp[go_sem]
 rw[key _ _ _ (by omega),key _ _ _ (by omega),key _ _ _ (by omega),key _ _ _ (by omega),key _ _ _ (by omega),key _ _ _ (by omega)]
 exact h
theorem cN {w:World}{k size:Nat}{e d c f g b:Value}{ty:TypeId}(h:w.heap[k]?=some (.cells (vU size e d c f g b z6 z6).toArray ty (0,0))):∀ i,7≤i→i<19→w.cell? ⟨k,i,none⟩=some (.int .u64 0)∧w.frozen? ⟨k,i,none⟩=false:=by
 intro i l a;refine⟨?_,qz h i⟩;rw[zP h i];obtain⟨j,rfl⟩:∃ j,i=j+7:=⟨i-7,by omega⟩
 match j,a with
 | 0,_|1,_|2,_|3,_|4,_|5,_|6,_|7,_|8,_|9,_|10,_|11,_=>rfl
 | j+12,a=>omega
theorem mQ {w:World}{g j:Nat}{ty:TypeId}{x0 x1 x2 x3 x4 x5 a b c d e f:Value}(pre i:List Value)(k:pre.length=j)(h:w.heap[g]?=some (.cells (pre++x0::x1::x2::x3::x4::x5::i).toArray ty (0,0))) :
 ((((((w.setCell ⟨g,j,none⟩ a).setCell ⟨g,j+1,none⟩ b).setCell ⟨g,j+2,none⟩ c).setCell ⟨g,j+3,none⟩ d).setCell ⟨g,j+4,none⟩ e).setCell ⟨g,j+5,none⟩ f).heap[g]?=some (.cells (pre++a::b::c::d::e::f::i).toArray ty (0,0)):=by
 subst k
 rw[jA (jA (jA (jA (jA (jA h pre.length a) (pre.length+1) b) (pre.length+2) c) (pre.length+3) d) (pre.length+4) e) (pre.length+5) f]
 simp only[jn]
 rw[kM _ _ (by omega),kM _ _ (by omega),kM _ _ (by omega),kM _ _ (by omega),kM _ _ (by omega),kM _ _ (by omega)]
 simp
theorem zAG {w:World}{g size:Nat}{o n m q r l:Value}{ty:TypeId}(h:w.heap[g]?=some (.cells (vU size o n m q r l z6 z6).toArray ty (0,0)))(u0 u1 u2 u3 u4 k v0 v1 v2 v3 v4 v5:Nat) :
 ((((((((((((w.setCell ⟨g,7,none⟩ (.int .u64 (u0:Int))).setCell ⟨g,8,none⟩ (.int .u64 (u1:Int))).setCell ⟨g,9,none⟩ (.int .u64 (u2:Int))).setCell ⟨g,10,none⟩ (.int .u64 (u3:Int))).setCell ⟨g,11,none⟩ (.int .u64 (u4:Int))).setCell ⟨g,12,none⟩ (.int .u64 (k:Int))).setCell ⟨g,13,none⟩ (.int .u64 (v0:Int))).setCell ⟨g,14,none⟩ (.int .u64 (v1:Int))).setCell ⟨g,15,none⟩ (.int .u64 (v2:Int))).setCell ⟨g,16,none⟩ (.int .u64 (v3:Int))).setCell ⟨g,17,none⟩ (.int .u64 (v4:Int))).setCell ⟨g,18,none⟩ (.int .u64 (v5:Int))).heap[g]?=some (.cells (vU size o n m q r l [u0,u1,u2,u3,u4,k] [v0,v1,v2,v3,v4,v5]).toArray ty (0,0)) ∧
 (∀ b,b≠g→((((((((((((w.setCell ⟨g,7,none⟩ (.int .u64 (u0:Int))).setCell ⟨g,8,none⟩ (.int .u64 (u1:Int))).setCell ⟨g,9,none⟩ (.int .u64 (u2:Int))).setCell ⟨g,10,none⟩ (.int .u64 (u3:Int))).setCell ⟨g,11,none⟩ (.int .u64 (u4:Int))).setCell ⟨g,12,none⟩ (.int .u64 (k:Int))).setCell ⟨g,13,none⟩ (.int .u64 (v0:Int))).setCell ⟨g,14,none⟩ (.int .u64 (v1:Int))).setCell ⟨g,15,none⟩ (.int .u64 (v2:Int))).setCell ⟨g,16,none⟩ (.int .u64 (v3:Int))).setCell ⟨g,17,none⟩ (.int .u64 (v4:Int))).setCell ⟨g,18,none⟩ (.int .u64 (v5:Int))).heap[b]?=w.heap[b]?)∧((((((((((((w.setCell ⟨g,7,none⟩ (.int .u64 (u0:Int))).setCell ⟨g,8,none⟩ (.int .u64 (u1:Int))).setCell ⟨g,9,none⟩ (.int .u64 (u2:Int))).setCell ⟨g,10,none⟩ (.int .u64 (u3:Int))).setCell ⟨g,11,none⟩ (.int .u64 (u4:Int))).setCell ⟨g,12,none⟩ (.int .u64 (k:Int))).setCell ⟨g,13,none⟩ (.int .u64 (v0:Int))).setCell ⟨g,14,none⟩ (.int .u64 (v1:Int))).setCell ⟨g,15,none⟩ (.int .u64 (v2:Int))).setCell ⟨g,16,none⟩ (.int .u64 (v3:Int))).setCell ⟨g,17,none⟩ (.int .u64 (v4:Int))).setCell ⟨g,18,none⟩ (.int .u64 (v5:Int))).heap.size=w.heap.size∧∀ B s,B≤g→Below B s w→Below B s ((((((((((((w.setCell ⟨g,7,none⟩ (.int .u64 (u0:Int))).setCell ⟨g,8,none⟩ (.int .u64 (u1:Int))).setCell ⟨g,9,none⟩ (.int .u64 (u2:Int))).setCell ⟨g,10,none⟩ (.int .u64 (u3:Int))).setCell ⟨g,11,none⟩ (.int .u64 (u4:Int))).setCell ⟨g,12,none⟩ (.int .u64 (k:Int))).setCell ⟨g,13,none⟩ (.int .u64 (v0:Int))).setCell ⟨g,14,none⟩ (.int .u64 (v1:Int))).setCell ⟨g,15,none⟩ (.int .u64 (v2:Int))).setCell ⟨g,16,none⟩ (.int .u64 (v3:Int))).setCell ⟨g,17,none⟩ (.int .u64 (v4:Int))).setCell ⟨g,18,none⟩ (.int .u64 (v5:Int))):=by
 refine⟨?_,?_,by simp[World.setCell],?_⟩
 · have u:=mQ [Value.int .i64 (size:Int),o,n,m,q,r,l] (nts z6) (j:=7) (ty:=ty) (x0:=.int .u64 0) (x1:=.int .u64 0) (x2:=.int .u64 0) (x3:=.int .u64 0) (x4:=.int .u64 0) (x5:=.int .u64 0) rfl (a:=.int .u64 (u0:Int)) (b:=.int .u64 (u1:Int)) (c:=.int .u64 (u2:Int)) (d:=.int .u64 (u3:Int)) (e:=.int .u64 (u4:Int)) (f:=.int .u64 (k:Int)) (h.trans (by simp[vU,nts,z6]));have v:=mQ ([Value.int .i64 (size:Int),o,n,m,q,r,l]++nts [u0,u1,u2,u3,u4,k]) [] (j:=13) (ty:=ty) (x0:=.int .u64 0) (x1:=.int .u64 0) (x2:=.int .u64 0) (x3:=.int .u64 0) (x4:=.int .u64 0) (x5:=.int .u64 0) (by simp[nts]) (a:=.int .u64 (v0:Int)) (b:=.int .u64 (v1:Int)) (c:=.int .u64 (v2:Int)) (d:=.int .u64 (v3:Int)) (e:=.int .u64 (v4:Int)) (f:=.int .u64 (v5:Int)) (u.trans (by simp[nts,z6]));exact v.trans (by simp[vU,nts])
 · intro b x;repeat rw[ji _ _ _ _ x]
 · intro B s i t;exact((((((((((((t.setCell (p:=⟨g,7,none⟩) i (.int .u64 (u0:Int))).setCell (p:=⟨g,8,none⟩) i (.int .u64 (u1:Int))).setCell (p:=⟨g,9,none⟩) i (.int .u64 (u2:Int))).setCell (p:=⟨g,10,none⟩) i (.int .u64 (u3:Int))).setCell (p:=⟨g,11,none⟩) i (.int .u64 (u4:Int))).setCell (p:=⟨g,12,none⟩) i (.int .u64 (k:Int))).setCell (p:=⟨g,13,none⟩) i (.int .u64 (v0:Int))).setCell (p:=⟨g,14,none⟩) i (.int .u64 (v1:Int))).setCell (p:=⟨g,15,none⟩) i (.int .u64 (v2:Int))).setCell (p:=⟨g,16,none⟩) i (.int .u64 (v3:Int))).setCell (p:=⟨g,17,none⟩) i (.int .u64 (v4:Int))).setCell (p:=⟨g,18,none⟩) i (.int .u64 (v5:Int)))
def vu:List Nat:=[18446744073709551615,4294967295,0,18446744069414584321]
def gZ:List Nat:=[17562291160714782033,13611842547513532036,18446744073709551615,18446744069414584320]
def x8:List Nat:=[4309448131093880907,7285987128567378166,12964664127075681980,6540974713487397863]
def gY:List Nat:=[17627433388654248598,8575836109218198432,17923454489921339634,7716867327612699207]
def gX:List Nat:=[14678990851816772085,3156516839386865358,10297457778147434006,5756518291402817435]
def tk (l:List Nat):Prop:=(∀ x∈l,x<18446744073709551616)∧l.length≤6
theorem RN.lits (w:World)(l:List Nat)(h:tk l):RN (w.alloc (.cells (nts l).toArray 65)) (In w.heap.size (w.heap.size+1)) (some ⟨w.heap.size,0,none⟩) l.length l:=by
 have a:Blk (w.alloc (.cells (nts l).toArray 65)) w.heap.size l:=zS w _;have:=(kq (c:=l.length) a (base:=w.heap.size) (zG _) ⟨h.1,by have:=h.2;omega⟩ (zG _) (by have:=h.2;unfold maxLen;omega)).rn;exact this.mono fun b a=>by have:=a.2;rw[zz]at this;exact⟨a.1,this⟩
theorem mA (w:World)(c d f g h:List Nat)(o:Obj)(j:tk c)(k:tk d)(q:tk f)(r:tk g)(s:tk h) :
 ∀ W,W=(((((w.alloc (.cells (nts c).toArray 65)).alloc (.cells (nts d).toArray 65)).alloc (.cells (nts f).toArray 65)).alloc (.cells (nts g).toArray 65)).alloc (.cells (nts h).toArray 65)).alloc o →
 RN W (In w.heap.size (w.heap.size+5)) (some ⟨w.heap.size,0,none⟩) c.length c∧RN W (In w.heap.size (w.heap.size+5)) (some ⟨w.heap.size+1,0,none⟩) d.length d∧RN W (In w.heap.size (w.heap.size+5)) (some ⟨w.heap.size+1+1,0,none⟩) f.length f ∧
 RN W (In w.heap.size (w.heap.size+5)) (some ⟨w.heap.size+1+1+1,0,none⟩) g.length g∧RN W (In w.heap.size (w.heap.size+5)) (some ⟨w.heap.size+1+1+1+1,0,none⟩) h.length h∧W.heap[w.heap.size+1+1+1+1+1]?=some o∧W.heap.size=w.heap.size+6∧Below w.heap.size w W:=by
 rintro W rfl
 have t:=RN.lits w c j
 have l:=RN.lits (w.alloc (.cells (nts c).toArray 65)) d k
 have m:=RN.lits ((w.alloc (.cells (nts c).toArray 65)).alloc (.cells (nts d).toArray 65)) f q
 have n:=RN.lits (((w.alloc (.cells (nts c).toArray 65)).alloc (.cells (nts d).toArray 65)).alloc (.cells (nts f).toArray 65)) g r
 have p:=RN.lits ((((w.alloc (.cells (nts c).toArray 65)).alloc (.cells (nts d).toArray 65)).alloc (.cells (nts f).toArray 65)).alloc (.cells (nts g).toArray 65)) h s
 have e:=zS (((((w.alloc (.cells (nts c).toArray 65)).alloc (.cells (nts d).toArray 65)).alloc (.cells (nts f).toArray 65)).alloc (.cells (nts g).toArray 65)).alloc (.cells (nts h).toArray 65)) o
 have i:Below (w.heap.size+5) (((((w.alloc (.cells (nts c).toArray 65)).alloc (.cells (nts d).toArray 65)).alloc (.cells (nts f).toArray 65)).alloc (.cells (nts g).toArray 65)).alloc (.cells (nts h).toArray 65)) ((((((w.alloc (.cells (nts c).toArray 65)).alloc (.cells (nts d).toArray 65)).alloc (.cells (nts f).toArray 65)).alloc (.cells (nts g).toArray 65)).alloc (.cells (nts h).toArray 65)).alloc o):=(zo _ _).alloc (by simp<;>omega) _
 simp only[zz]at l m n p e
 have y:=(n.below ((zo (w.heap.size+4) _).alloc (by simp<;>omega) (.cells (nts h).toArray 65)) (fun b a=>by have:=a.2;omega)).below i (fun b a=>by have:=a.2;omega)
 have x:=((m.below ((zo (w.heap.size+3) _).alloc (by simp<;>omega) (.cells (nts g).toArray 65)) (fun b a=>by have:=a.2;omega)).below ((zo (w.heap.size+4) _).alloc (by simp<;>omega) (.cells (nts h).toArray 65)) (fun b a=>by have:=a.2;omega)).below i (fun b a=>by have:=a.2;omega)
 have v:=(((l.below ((zo (w.heap.size+2) _).alloc (by simp) (.cells (nts f).toArray 65)) (fun b a=>by have:=a.2;omega)).below ((zo (w.heap.size+3) _).alloc (by simp<;>omega) (.cells (nts g).toArray 65)) (fun b a=>by have:=a.2;omega)).below ((zo (w.heap.size+4) _).alloc (by simp<;>omega) (.cells (nts h).toArray 65)) (fun b a=>by have:=a.2;omega)).below i (fun b a=>by have:=a.2;omega)
 have u:=((((t.below ((zo (w.heap.size+1) _).alloc (by simp) (.cells (nts d).toArray 65)) (fun b a=>by have:=a.2;omega)).below ((zo (w.heap.size+2) _).alloc (by simp) (.cells (nts f).toArray 65)) (fun b a=>by have:=a.2;omega)).below ((zo (w.heap.size+3) _).alloc (by simp<;>omega) (.cells (nts g).toArray 65)) (fun b a=>by have:=a.2;omega)).below ((zo (w.heap.size+4) _).alloc (by simp<;>omega) (.cells (nts h).toArray 65)) (fun b a=>by have:=a.2;omega)).below i (fun b a=>by have:=a.2;omega)
 have z:=p.below i (fun b a=>by have:=a.2;omega)
 refine⟨u.mono ?_,v.mono ?_,x.mono ?_,y.mono ?_,z.mono ?_,e,by simp,?_⟩
 any_goals (intro b a;have j:=a.1;have k:=a.2;exact⟨by omega,by omega⟩)
 exact((((((zo _ w).alloc (zG _) _).alloc (by simp) _).alloc (by simp<;>omega) _).alloc (by simp<;>omega) _).alloc (by simp<;>omega) _).alloc (by simp<;>omega) _
theorem rW (w:World):Calls Tryz.prog 64 #[.int .i64 1] w fun e w'=>∃ k g inv ml ol rl tl fl,e=.returned (.pointer (some ⟨k,0,none⟩))∧w.heap.size≤k ∧
 Num w' (In w.heap.size w'.heap.size) k g 32 4 inv (val 18446744073709551616 vu) (val 18446744073709551616 x8) vu gZ x8 gY gX ml ol rl tl fl (some ⟨w.heap.size,0,none⟩) (some ⟨w.heap.size+1,0,none⟩) (some ⟨w.heap.size+1+1,0,none⟩) (some ⟨w.heap.size+1+1+1,0,none⟩) (some ⟨w.heap.size+1+1+1+1,0,none⟩) 4 4 4 4 4∧Below w.heap.size w w':=by
 obtain⟨z,E⟩:=eW (World.alloc (((((w.alloc (.cells (nts vu).toArray 65)).alloc (.cells (nts gZ).toArray 65)).alloc (.cells (nts x8).toArray 65)).alloc (.cells (nts gY).toArray 65)).alloc (.cells (nts gX).toArray 65)) (.cells (vU 32 (.slice (some ⟨w.heap.size,0,none⟩) 4 4) (.slice (some ⟨w.heap.size+1,0,none⟩) 4 4) (.slice (some ⟨w.heap.size+1+1,0,none⟩) 4 4) (.slice (some ⟨w.heap.size+1+1+1,0,none⟩) 4 4) (.slice (some ⟨w.heap.size+1+1+1+1,0,none⟩) 4 4) (.pointer none) z6 z6).toArray 111))
 obtain⟨R,q2,S,q4,q5,T,q7,U⟩:=mA w vu gZ x8 gY gX _ ⟨by decide,by decide⟩ ⟨by decide,by decide⟩ ⟨by decide,by decide⟩ ⟨by decide,by decide⟩ ⟨by decide,by decide⟩ z E
 have hd:digs 18446744073709551616 (val 18446744073709551616 vu)=vu:=gi (by omega) (by decide) (by decide)
 have I:(digs 18446744073709551616 (val 18446744073709551616 vu)).length=4:=by rw[hd];rfl
 have ad:1<val 18446744073709551616 vu:=by decide +kernel
 have af:val 18446744073709551616 vu%2=1:=by decide +kernel
 have ae:3<val 18446744073709551616 vu:=by decide +kernel
 have ag:val 18446744073709551616 x8<val 18446744073709551616 vu:=by decide +kernel
 have D:=nF _ _ _ vu _ z R rfl ad af (by decide) (by rw[I];omega)
 rw[I,q7]at D
 obtain⟨M,hM⟩:=eV (val 18446744073709551616 vu)
 rw[hM]at D ad af ae ag ⊢
 have Z:=zF D
 have aB:vu.length=4:=rfl
 have Hz:=zF E
 have F:=Z.out
 rw[E,aB]at F
 have ar:=zF F
 obtain⟨K,hK⟩:=eV (w.heap.size+1+1+1+1+1)
 clear hd I D F Z E
 go_enter Tryz.func64,Tryz.ntmps64
 go_wp2_with fail
 refine ar.out.mono ?_
 rintro e w2 ⟨g,inv,ml,ol,rl,rfl,hg,d,B⟩
 rw[←Hz.out]at B
 rw[hK]at T
 have aP:=B.size
 have G:=(B.block K (by omega)).trans T
 have k6:=zP G 6
 rw[show(vU 32 (.slice (some ⟨w.heap.size,0,none⟩) 4 4) (.slice (some ⟨w.heap.size+1,0,none⟩) 4 4) (.slice (some ⟨w.heap.size+1+1,0,none⟩) 4 4) (.slice (some ⟨w.heap.size+1+1+1,0,none⟩) 4 4) (.slice (some ⟨w.heap.size+1+1+1+1,0,none⟩) 4 4) (.pointer none) z6 z6).toArray[6]?=some (.pointer none) by rfl]at k6
 have kf:=qz G 6
 have o:=jA G 6 (.pointer (some ⟨g,0,none⟩))
 rw[show(vU 32 (.slice (some ⟨w.heap.size,0,none⟩) 4 4) (.slice (some ⟨w.heap.size+1,0,none⟩) 4 4) (.slice (some ⟨w.heap.size+1+1,0,none⟩) 4 4) (.slice (some ⟨w.heap.size+1+1+1,0,none⟩) 4 4) (.slice (some ⟨w.heap.size+1+1+1+1,0,none⟩) 4 4) (.pointer none) z6 z6).toArray.setIfInBounds 6 (.pointer (some ⟨g,0,none⟩))=(vU 32 (.slice (some ⟨w.heap.size,0,none⟩) 4 4) (.slice (some ⟨w.heap.size+1,0,none⟩) 4 4) (.slice (some ⟨w.heap.size+1+1,0,none⟩) 4 4) (.slice (some ⟨w.heap.size+1+1+1,0,none⟩) 4 4) (.slice (some ⟨w.heap.size+1+1+1+1,0,none⟩) 4 4) (.pointer (some ⟨g,0,none⟩)) z6 z6).toArray by rfl]at o
 have ai:g≠K:=by omega
 have v:FR (w2.setCell ⟨K,6,none⟩ (.pointer (some ⟨g,0,none⟩))) g 4 inv M ml ol rl:=⟨⟨⟨(ji _ _ _ _ ai).trans d.ff.fld.blk,d.ff.fld.m6,d.ff.fld.o6,d.ff.fld.r6⟩,d.ff.mlt,d.ff.mval,d.ff.mtake,d.ff.npos,d.ff.nle,d.ff.big,d.ff.invLt,d.ff.invV⟩,d.oelt,d.oval,d.relt,d.rval⟩
 have C:Below K z (w2.setCell ⟨K,6,none⟩ (.pointer (some ⟨g,0,none⟩))):=(B.mono (show K≤w.heap.size+6 by omega)).setCell (p:=⟨K,6,none⟩) (zG _) _
 have aR:(w2.setCell ⟨K,6,none⟩ (.pointer (some ⟨g,0,none⟩))).heap.size=w2.heap.size:=by simp[World.setCell]
 go_upto_region 9 with fail
 generalize w2.setCell ⟨K,6,none⟩ (.pointer (some ⟨g,0,none⟩))=w3 at *
 have n:=zP o 6
 have c3:=zP o 3
 rw[show(vU 32 (.slice (some ⟨w.heap.size,0,none⟩) 4 4) (.slice (some ⟨w.heap.size+1,0,none⟩) 4 4) (.slice (some ⟨w.heap.size+1+1,0,none⟩) 4 4) (.slice (some ⟨w.heap.size+1+1+1,0,none⟩) 4 4) (.slice (some ⟨w.heap.size+1+1+1+1,0,none⟩) 4 4) (.pointer (some ⟨g,0,none⟩)) z6 z6).toArray[6]?=some (.pointer (some ⟨g,0,none⟩)) by rfl]at n
 rw[show(vU 32 (.slice (some ⟨w.heap.size,0,none⟩) 4 4) (.slice (some ⟨w.heap.size+1,0,none⟩) 4 4) (.slice (some ⟨w.heap.size+1+1,0,none⟩) 4 4) (.slice (some ⟨w.heap.size+1+1+1,0,none⟩) 4 4) (.slice (some ⟨w.heap.size+1+1+1+1,0,none⟩) 4 4) (.pointer (some ⟨g,0,none⟩)) z6 z6).toArray[3]?=some (.slice (some ⟨w.heap.size+1+1,0,none⟩) 4 4) by rfl]at c3
 have i:K<w3.heap.size:=qd o
 have aD:RN w3 (In w.heap.size (w.heap.size+5)) (some ⟨w.heap.size+1+1,0,none⟩) 4 x8:=S.below C (fun b h=>by have:=h.2;omega)
 have P:=fP 3 w3.drew (by omega)
 rw[show digs 18446744073709551616 3=[3] by rw[jq (by omega) (by omega),qF (by omega),ql (by omega),qW]]at P
 have N:g<w3.heap.size:=v.ff.fld.lt
 have aj:=fun(X:World) (x:Below w3.heap.size w3 X) (m:Option Addr) (c1:Nat) (hO:OB X w3.heap.size m c1 [3])=>uB _ m c1 [3] X (v.below x N) hO.rn (fun b h=>h.2) (by simp) (by simp;exact ae)
 have ak:=fun(X:World) (x:Below w3.heap.size w3 X)=>uB _ _ 4 x8 X (v.below x N) (aD.below x (fun b h=>by have:=h.2;omega)) (fun b h=>by have:=h.2;have:=x.size;omega) (by decide) ag
 have aw:=zF P
 have ax:=zF aj
 have ay:=zF ak
 clear P aj ak
 have aF:w3.drew.cell? ⟨K,6,none⟩=some (.pointer (some ⟨g,0,none⟩)):=n
 have aE:w3.drew.cell? ⟨K,3,none⟩=some (.slice (some ⟨w.heap.size+1+1,0,none⟩) 4 4):=c3
 go_region_held3 (fun w'=>w'.cell? ⟨K,6,none⟩=some (.pointer (some ⟨g,0,none⟩))∧w'.cell? ⟨K,3,none⟩=some (.slice (some ⟨w.heap.size+1+1,0,none⟩) 4 4))
  (first|with_reducible exact⟨cW 7 (by decide) (by decide) c63,cW 7 (by decide) (by decide) c33⟩|with_reducible exact⟨cW 13 (by decide) (by decide) (cW 7 (by decide) (by decide) c63),cW 13 (by decide) (by decide) (cW 7 (by decide) (by decide) c33)⟩|exact⟨n,c3⟩|exact⟨c61,c31⟩|exact⟨c62,c32⟩|exact⟨c63,c33⟩)
  (first
   | (go_at_call 67;refine aw.out.mono ?_;rintro e x1 ⟨m,aa,rfl,az,t⟩;have s:Below w3.heap.size w3 x1:=⟨t.os,t.tape,t.output,t.size,t.block⟩;have aA:OB x1 w3.heap.size m aa [3]:=az;have c61:=(s.cell (p:=⟨K,6,none⟩) i).trans n;have c31:=(s.cell (p:=⟨K,3,none⟩) i).trans c3;have T1:=zF (ax.out x1 s m aa aA))
   | (go_at_call_has 92 m;refine T1.out.mono ?_;rintro e x2 ⟨o3,rfl,J,an⟩;obtain⟨u0,u1,u2,u3,u4,Y,O⟩:=six J.elt.six;have am:EV o3=.agg #[.int .u64 (u0:Int),.int .u64 (u1:Int),.int .u64 (u2:Int),.int .u64 (u3:Int),.int .u64 (u4:Int),.int .u64 (Y:Int)]:=(by rw[O];rfl);rw[am];clear am;have av:=zF O;clear O;have u:=s.trans (an.mono s.size);have c62:=(u.cell (p:=⟨K,6,none⟩) i).trans n;have c32:=(u.cell (p:=⟨K,3,none⟩) i).trans c3;have T2:=zF (ay.out x2 u))
   | (go_at_call 92;refine T2.out.mono ?_;rintro e x3 ⟨ob,rfl,L,ao⟩;obtain⟨v0,v1,v2,v3,v4,v5,y⟩:=six L.elt.six;have al:EV ob=.agg #[.int .u64 (v0:Int),.int .u64 (v1:Int),.int .u64 (v2:Int),.int .u64 (v3:Int),.int .u64 (v4:Int),.int .u64 (v5:Int)]:=(by rw[y];rfl);rw[al];clear al;have au:=zF y;clear y;have j:=u.trans (ao.mono u.size);have c63:=(j.cell (p:=⟨K,6,none⟩) i).trans n;have c33:=(j.cell (p:=⟨K,3,none⟩) i).trans c3;have H:=(j.block K i).trans o;have f:=cN H;obtain⟨d7,y7⟩:=f 7 (by decide) (by decide);obtain⟨d8,y8⟩:=f 8 (by decide) (by decide);obtain⟨d9,y9⟩:=f 9 (by decide) (by decide);obtain⟨aG,aT⟩:=f 10 (by decide) (by decide);obtain⟨aH,aU⟩:=f 11 (by decide) (by decide);obtain⟨aI,aV⟩:=f 12 (by decide) (by decide);obtain⟨aJ,aW⟩:=f 13 (by decide) (by decide);obtain⟨aK,aX⟩:=f 14 (by decide) (by decide);obtain⟨aL,aY⟩:=f 15 (by decide) (by decide);obtain⟨aM,aZ⟩:=f 16 (by decide) (by decide);obtain⟨aN,a0⟩:=f 17 (by decide) (by decide);obtain⟨aO,a1⟩:=f 18 (by decide) (by decide);clear f))
 obtain⟨V,W,t3,t4⟩:=zAG H u0 u1 u2 u3 u4 Y v0 v1 v2 v3 v4 v5
 have ab:=t4 w.heap.size w (by omega) (U.trans ((C.trans (j.mono (by omega))).mono (by have:=U.size;omega)))
 have a:=v.below j N
 have aQ:w3.heap.size≤x3.heap.size:=j.size
 clear c61 c31 c62 c32 c63 c33 T1 T2 H t s an ao u
 generalize((((((((((((x3.setCell ⟨K,7,none⟩ (.int .u64 (u0:Int))).setCell ⟨K,8,none⟩ (.int .u64 (u1:Int))).setCell ⟨K,9,none⟩ (.int .u64 (u2:Int))).setCell ⟨K,10,none⟩ (.int .u64 (u3:Int))).setCell ⟨K,11,none⟩ (.int .u64 (u4:Int))).setCell ⟨K,12,none⟩ (.int .u64 (Y:Int))).setCell ⟨K,13,none⟩ (.int .u64 (v0:Int))).setCell ⟨K,14,none⟩ (.int .u64 (v1:Int))).setCell ⟨K,15,none⟩ (.int .u64 (v2:Int))).setCell ⟨K,16,none⟩ (.int .u64 (v3:Int))).setCell ⟨K,17,none⟩ (.int .u64 (v4:Int))).setCell ⟨K,18,none⟩ (.int .u64 (v5:Int)))=w9 at *
 have ac:FR w9 g 4 inv M ml ol rl:=⟨⟨⟨(W g ai).trans a.ff.fld.blk,a.ff.fld.m6,a.ff.fld.o6,a.ff.fld.r6⟩,a.ff.mlt,a.ff.mval,a.ff.mtake,a.ff.npos,a.ff.nle,a.ff.big,a.ff.invLt,a.ff.invV⟩,a.oelt,a.oval,a.relt,a.rval⟩
 have aS:w.heap.size+6≤w9.heap.size:=by have:=C.size;omega
 have r:∀(l:List Nat) (A:Option Addr) (c:Nat),RN z (In w.heap.size (w.heap.size+5)) A c l→RN w9 (In w.heap.size w9.heap.size) A c l:=fun l A c hR =>
  (hR.keep fun q Q=>qB ((W q.block (by have:=Q.2;omega)).trans ((j.block q.block (by have:=Q.2;omega)).trans (C.block q.block (by have:=Q.2;omega))))).mono fun b h=>⟨h.1,by have:=h.2;omega⟩
 have r1:=r _ _ _ R
 have r2:=r _ _ _ q2
 have r3:=r _ _ _ S
 have r4:=r _ _ _ q4
 have r5:=r _ _ _ q5
 have aC:=av.out
 have y:=au.out
 rw[←aC,←y]at V
 have ah:Num w9 (In w.heap.size w9.heap.size) K g 32 4 inv M (val 18446744073709551616 x8) vu gZ x8 gY gX ml ol rl o3 ob (some ⟨w.heap.size,0,none⟩) (some ⟨w.heap.size+1,0,none⟩) (some ⟨w.heap.size+1+1,0,none⟩) (some ⟨w.heap.size+1+1+1,0,none⟩) (some ⟨w.heap.size+1+1+1+1,0,none⟩) 4 4 4 4 4 :=
  ⟨V,r1,r2,r3,r4,r5,ac,hM,by have:=J;simpa using this,L⟩
 have aq:=zF ah
 have ap:=zF ab
 clear ah ab V W t3 t4 r1 r2 r3 r4 r5 r a ac J L v o R q2 S q4 q5 T U
 go_wp2
 go_ret
 exact⟨K,g,inv,ml,ol,rl,o3,ob,rfl,by omega,aq.out,ap.out⟩
def vr:List Nat:=[4294967295,18446744069414584320,18446744073709551614,18446744073709551615,18446744073709551615,18446744073709551615]
def gW:List Nat:=[17072048233947408755,6348401684107011962,14367412456785391071,18446744073709551615,18446744073709551615,18446744073709551615]
def x6:List Nat:=[3064076045283764975,14291673747578343837,221811693264799578,1737717031765098770,10992729701402291481,12912154004749740004]
def gV:List Nat:=[4203087948775033527,6125724927633205612,6482722621138151992,7934563412932533144,10282218360005504372,12288012358878168375]
def gU:List Nat:=[8809917716911230559,747793036959711645,16850834916486723776,17938995913990739068,6745997240412855337,3897828414440483951]
theorem rV (w:World):Calls Tryz.prog 64 #[.int .i64 2] w fun e w'=>∃ k g inv ml ol rl tl fl,e=.returned (.pointer (some ⟨k,0,none⟩))∧w.heap.size≤k ∧
 Num w' (In w.heap.size w'.heap.size) k g 48 6 inv (val 18446744073709551616 vr) (val 18446744073709551616 x6) vr gW x6 gV gU ml ol rl tl fl (some ⟨w.heap.size,0,none⟩) (some ⟨w.heap.size+1,0,none⟩) (some ⟨w.heap.size+1+1,0,none⟩) (some ⟨w.heap.size+1+1+1,0,none⟩) (some ⟨w.heap.size+1+1+1+1,0,none⟩) 6 6 6 6 6∧Below w.heap.size w w':=by
 obtain⟨z,E⟩:=eW (World.alloc (((((w.alloc (.cells (nts vr).toArray 65)).alloc (.cells (nts gW).toArray 65)).alloc (.cells (nts x6).toArray 65)).alloc (.cells (nts gV).toArray 65)).alloc (.cells (nts gU).toArray 65)) (.cells (vU 48 (.slice (some ⟨w.heap.size,0,none⟩) 6 6) (.slice (some ⟨w.heap.size+1,0,none⟩) 6 6) (.slice (some ⟨w.heap.size+1+1,0,none⟩) 6 6) (.slice (some ⟨w.heap.size+1+1+1,0,none⟩) 6 6) (.slice (some ⟨w.heap.size+1+1+1+1,0,none⟩) 6 6) (.pointer none) z6 z6).toArray 111))
 obtain⟨R,q2,S,q4,q5,T,q7,U⟩:=mA w vr gW x6 gV gU _ ⟨by decide,by decide⟩ ⟨by decide,by decide⟩ ⟨by decide,by decide⟩ ⟨by decide,by decide⟩ ⟨by decide,by decide⟩ z E
 have hd:digs 18446744073709551616 (val 18446744073709551616 vr)=vr:=gi (by omega) (by decide) (by decide)
 have I:(digs 18446744073709551616 (val 18446744073709551616 vr)).length=6:=by rw[hd];rfl
 have ad:1<val 18446744073709551616 vr:=by decide +kernel
 have af:val 18446744073709551616 vr%2=1:=by decide +kernel
 have ae:3<val 18446744073709551616 vr:=by decide +kernel
 have ag:val 18446744073709551616 x6<val 18446744073709551616 vr:=by decide +kernel
 have D:=nF _ _ _ vr _ z R rfl ad af (by decide) (by rw[I];omega)
 rw[I,q7]at D
 obtain⟨M,hM⟩:=eV (val 18446744073709551616 vr)
 rw[hM]at D ad af ae ag ⊢
 have Z:=zF D
 have aB:vr.length=6:=rfl
 have Hz:=zF E
 have F:=Z.out
 rw[E,aB]at F
 have ar:=zF F
 obtain⟨K,hK⟩:=eV (w.heap.size+1+1+1+1+1)
 clear hd I D F Z E
 go_enter Tryz.func64,Tryz.ntmps64
 go_wp2_with fail
 refine ar.out.mono ?_
 rintro e w2 ⟨g,inv,ml,ol,rl,rfl,hg,d,B⟩
 rw[←Hz.out]at B
 rw[hK]at T
 have aP:=B.size
 have G:=(B.block K (by omega)).trans T
 have k6:=zP G 6
 rw[show(vU 48 (.slice (some ⟨w.heap.size,0,none⟩) 6 6) (.slice (some ⟨w.heap.size+1,0,none⟩) 6 6) (.slice (some ⟨w.heap.size+1+1,0,none⟩) 6 6) (.slice (some ⟨w.heap.size+1+1+1,0,none⟩) 6 6) (.slice (some ⟨w.heap.size+1+1+1+1,0,none⟩) 6 6) (.pointer none) z6 z6).toArray[6]?=some (.pointer none) by rfl]at k6
 have kf:=qz G 6
 have o:=jA G 6 (.pointer (some ⟨g,0,none⟩))
 rw[show(vU 48 (.slice (some ⟨w.heap.size,0,none⟩) 6 6) (.slice (some ⟨w.heap.size+1,0,none⟩) 6 6) (.slice (some ⟨w.heap.size+1+1,0,none⟩) 6 6) (.slice (some ⟨w.heap.size+1+1+1,0,none⟩) 6 6) (.slice (some ⟨w.heap.size+1+1+1+1,0,none⟩) 6 6) (.pointer none) z6 z6).toArray.setIfInBounds 6 (.pointer (some ⟨g,0,none⟩))=(vU 48 (.slice (some ⟨w.heap.size,0,none⟩) 6 6) (.slice (some ⟨w.heap.size+1,0,none⟩) 6 6) (.slice (some ⟨w.heap.size+1+1,0,none⟩) 6 6) (.slice (some ⟨w.heap.size+1+1+1,0,none⟩) 6 6) (.slice (some ⟨w.heap.size+1+1+1+1,0,none⟩) 6 6) (.pointer (some ⟨g,0,none⟩)) z6 z6).toArray by rfl]at o
 have ai:g≠K:=by omega
 have v:FR (w2.setCell ⟨K,6,none⟩ (.pointer (some ⟨g,0,none⟩))) g 6 inv M ml ol rl:=⟨⟨⟨(ji _ _ _ _ ai).trans d.ff.fld.blk,d.ff.fld.m6,d.ff.fld.o6,d.ff.fld.r6⟩,d.ff.mlt,d.ff.mval,d.ff.mtake,d.ff.npos,d.ff.nle,d.ff.big,d.ff.invLt,d.ff.invV⟩,d.oelt,d.oval,d.relt,d.rval⟩
 have C:Below K z (w2.setCell ⟨K,6,none⟩ (.pointer (some ⟨g,0,none⟩))):=(B.mono (show K≤w.heap.size+6 by omega)).setCell (p:=⟨K,6,none⟩) (zG _) _
 have aR:(w2.setCell ⟨K,6,none⟩ (.pointer (some ⟨g,0,none⟩))).heap.size=w2.heap.size:=by simp[World.setCell]
 go_upto_region 9 with fail
 generalize w2.setCell ⟨K,6,none⟩ (.pointer (some ⟨g,0,none⟩))=w3 at *
 have n:=zP o 6
 have c3:=zP o 3
 rw[show(vU 48 (.slice (some ⟨w.heap.size,0,none⟩) 6 6) (.slice (some ⟨w.heap.size+1,0,none⟩) 6 6) (.slice (some ⟨w.heap.size+1+1,0,none⟩) 6 6) (.slice (some ⟨w.heap.size+1+1+1,0,none⟩) 6 6) (.slice (some ⟨w.heap.size+1+1+1+1,0,none⟩) 6 6) (.pointer (some ⟨g,0,none⟩)) z6 z6).toArray[6]?=some (.pointer (some ⟨g,0,none⟩)) by rfl]at n
 rw[show(vU 48 (.slice (some ⟨w.heap.size,0,none⟩) 6 6) (.slice (some ⟨w.heap.size+1,0,none⟩) 6 6) (.slice (some ⟨w.heap.size+1+1,0,none⟩) 6 6) (.slice (some ⟨w.heap.size+1+1+1,0,none⟩) 6 6) (.slice (some ⟨w.heap.size+1+1+1+1,0,none⟩) 6 6) (.pointer (some ⟨g,0,none⟩)) z6 z6).toArray[3]?=some (.slice (some ⟨w.heap.size+1+1,0,none⟩) 6 6) by rfl]at c3
 have i:K<w3.heap.size:=qd o
 have aD:RN w3 (In w.heap.size (w.heap.size+5)) (some ⟨w.heap.size+1+1,0,none⟩) 6 x6:=S.below C (fun b h=>by have:=h.2;omega)
 have P:=fP 3 w3.drew (by omega)
 rw[show digs 18446744073709551616 3=[3] by rw[jq (by omega) (by omega),qF (by omega),ql (by omega),qW]]at P
 have N:g<w3.heap.size:=v.ff.fld.lt
 have aj:=fun(X:World) (x:Below w3.heap.size w3 X) (m:Option Addr) (c1:Nat) (hO:OB X w3.heap.size m c1 [3])=>uB _ m c1 [3] X (v.below x N) hO.rn (fun b h=>h.2) (by simp) (by simp;exact ae)
 have ak:=fun(X:World) (x:Below w3.heap.size w3 X)=>uB _ _ 6 x6 X (v.below x N) (aD.below x (fun b h=>by have:=h.2;omega)) (fun b h=>by have:=h.2;have:=x.size;omega) (by decide) ag
 have aw:=zF P
 have ax:=zF aj
 have ay:=zF ak
 clear P aj ak
 have aF:w3.drew.cell? ⟨K,6,none⟩=some (.pointer (some ⟨g,0,none⟩)):=n
 have aE:w3.drew.cell? ⟨K,3,none⟩=some (.slice (some ⟨w.heap.size+1+1,0,none⟩) 6 6):=c3
 go_region_held3 (fun w'=>w'.cell? ⟨K,6,none⟩=some (.pointer (some ⟨g,0,none⟩))∧w'.cell? ⟨K,3,none⟩=some (.slice (some ⟨w.heap.size+1+1,0,none⟩) 6 6))
  (first|with_reducible exact⟨cW 7 (by decide) (by decide) c63,cW 7 (by decide) (by decide) c33⟩|with_reducible exact⟨cW 13 (by decide) (by decide) (cW 7 (by decide) (by decide) c63),cW 13 (by decide) (by decide) (cW 7 (by decide) (by decide) c33)⟩|exact⟨n,c3⟩|exact⟨c61,c31⟩|exact⟨c62,c32⟩|exact⟨c63,c33⟩)
  (first
   | (go_at_call 67;refine aw.out.mono ?_;rintro e x1 ⟨m,aa,rfl,az,t⟩;have s:Below w3.heap.size w3 x1:=⟨t.os,t.tape,t.output,t.size,t.block⟩;have aA:OB x1 w3.heap.size m aa [3]:=az;have c61:=(s.cell (p:=⟨K,6,none⟩) i).trans n;have c31:=(s.cell (p:=⟨K,3,none⟩) i).trans c3;have T1:=zF (ax.out x1 s m aa aA))
   | (go_at_call_has 92 m;refine T1.out.mono ?_;rintro e x2 ⟨o3,rfl,J,an⟩;obtain⟨u0,u1,u2,u3,u4,Y,O⟩:=six J.elt.six;have am:EV o3=.agg #[.int .u64 (u0:Int),.int .u64 (u1:Int),.int .u64 (u2:Int),.int .u64 (u3:Int),.int .u64 (u4:Int),.int .u64 (Y:Int)]:=(by rw[O];rfl);rw[am];clear am;have av:=zF O;clear O;have u:=s.trans (an.mono s.size);have c62:=(u.cell (p:=⟨K,6,none⟩) i).trans n;have c32:=(u.cell (p:=⟨K,3,none⟩) i).trans c3;have T2:=zF (ay.out x2 u))
   | (go_at_call 92;refine T2.out.mono ?_;rintro e x3 ⟨ob,rfl,L,ao⟩;obtain⟨v0,v1,v2,v3,v4,v5,y⟩:=six L.elt.six;have al:EV ob=.agg #[.int .u64 (v0:Int),.int .u64 (v1:Int),.int .u64 (v2:Int),.int .u64 (v3:Int),.int .u64 (v4:Int),.int .u64 (v5:Int)]:=(by rw[y];rfl);rw[al];clear al;have au:=zF y;clear y;have j:=u.trans (ao.mono u.size);have c63:=(j.cell (p:=⟨K,6,none⟩) i).trans n;have c33:=(j.cell (p:=⟨K,3,none⟩) i).trans c3;have H:=(j.block K i).trans o;have f:=cN H;obtain⟨d7,y7⟩:=f 7 (by decide) (by decide);obtain⟨d8,y8⟩:=f 8 (by decide) (by decide);obtain⟨d9,y9⟩:=f 9 (by decide) (by decide);obtain⟨aG,aT⟩:=f 10 (by decide) (by decide);obtain⟨aH,aU⟩:=f 11 (by decide) (by decide);obtain⟨aI,aV⟩:=f 12 (by decide) (by decide);obtain⟨aJ,aW⟩:=f 13 (by decide) (by decide);obtain⟨aK,aX⟩:=f 14 (by decide) (by decide);obtain⟨aL,aY⟩:=f 15 (by decide) (by decide);obtain⟨aM,aZ⟩:=f 16 (by decide) (by decide);obtain⟨aN,a0⟩:=f 17 (by decide) (by decide);obtain⟨aO,a1⟩:=f 18 (by decide) (by decide);clear f))
 obtain⟨V,W,t3,t4⟩:=zAG H u0 u1 u2 u3 u4 Y v0 v1 v2 v3 v4 v5
 have ab:=t4 w.heap.size w (by omega) (U.trans ((C.trans (j.mono (by omega))).mono (by have:=U.size;omega)))
 have a:=v.below j N
 have aQ:w3.heap.size≤x3.heap.size:=j.size
 clear c61 c31 c62 c32 c63 c33 T1 T2 H t s an ao u
 generalize((((((((((((x3.setCell ⟨K,7,none⟩ (.int .u64 (u0:Int))).setCell ⟨K,8,none⟩ (.int .u64 (u1:Int))).setCell ⟨K,9,none⟩ (.int .u64 (u2:Int))).setCell ⟨K,10,none⟩ (.int .u64 (u3:Int))).setCell ⟨K,11,none⟩ (.int .u64 (u4:Int))).setCell ⟨K,12,none⟩ (.int .u64 (Y:Int))).setCell ⟨K,13,none⟩ (.int .u64 (v0:Int))).setCell ⟨K,14,none⟩ (.int .u64 (v1:Int))).setCell ⟨K,15,none⟩ (.int .u64 (v2:Int))).setCell ⟨K,16,none⟩ (.int .u64 (v3:Int))).setCell ⟨K,17,none⟩ (.int .u64 (v4:Int))).setCell ⟨K,18,none⟩ (.int .u64 (v5:Int)))=w9 at *
 have ac:FR w9 g 6 inv M ml ol rl:=⟨⟨⟨(W g ai).trans a.ff.fld.blk,a.ff.fld.m6,a.ff.fld.o6,a.ff.fld.r6⟩,a.ff.mlt,a.ff.mval,a.ff.mtake,a.ff.npos,a.ff.nle,a.ff.big,a.ff.invLt,a.ff.invV⟩,a.oelt,a.oval,a.relt,a.rval⟩
 have aS:w.heap.size+6≤w9.heap.size:=by have:=C.size;omega
 have r:∀(l:List Nat) (A:Option Addr) (c:Nat),RN z (In w.heap.size (w.heap.size+5)) A c l→RN w9 (In w.heap.size w9.heap.size) A c l:=fun l A c hR =>
  (hR.keep fun q Q=>qB ((W q.block (by have:=Q.2;omega)).trans ((j.block q.block (by have:=Q.2;omega)).trans (C.block q.block (by have:=Q.2;omega))))).mono fun b h=>⟨h.1,by have:=h.2;omega⟩
 have r1:=r _ _ _ R
 have r2:=r _ _ _ q2
 have r3:=r _ _ _ S
 have r4:=r _ _ _ q4
 have r5:=r _ _ _ q5
 have aC:=av.out
 have y:=au.out
 rw[←aC,←y]at V
 have ah:Num w9 (In w.heap.size w9.heap.size) K g 48 6 inv M (val 18446744073709551616 x6) vr gW x6 gV gU ml ol rl o3 ob (some ⟨w.heap.size,0,none⟩) (some ⟨w.heap.size+1,0,none⟩) (some ⟨w.heap.size+1+1,0,none⟩) (some ⟨w.heap.size+1+1+1,0,none⟩) (some ⟨w.heap.size+1+1+1+1,0,none⟩) 6 6 6 6 6 :=
  ⟨V,r1,r2,r3,r4,r5,ac,hM,by have:=J;simpa using this,L⟩
 have aq:=zF ah
 have ap:=zF ab
 clear ah ab V W t3 t4 r1 r2 r3 r4 r5 r a ac J L v o R q2 S q4 q5 T U
 go_wp2
 go_ret
 exact⟨K,g,inv,ml,ol,rl,o3,ob,rfl,by omega,aq.out,ap.out⟩
def xR (X:World) (b:Nat) (l:List Nat):Prop:=X.heap[b]?=some (.cells (nts l).toArray 109 (0,0))
theorem xR.ext {X Y:World}{b:Nat}{l:List Nat}(h:xR X b l)(a:Ext X Y):xR Y b l:=a.at_ h
theorem xR.range {X:World}{b:Nat}{l:List Nat}(h:xR X b l):X.rangeAt b 0 (nts l):=fun j v a=>by
 rw[jL,zP h j];simpa using a
theorem xR.lt {X:World}{b:Nat}{l:List Nat}(h:xR X b l):b<X.heap.size:=qd h
theorem aF:(Tryz.prog.info? 109).map (·.size)=some 6:=by kernel_rfl
theorem loadE {X:World}{b o:Nat}{l:List Nat}(h:X.rangeAt b o (nts l))(a:l.length=6):(Instr.loadAt 109 (.pointer (some ⟨b,o,none⟩))).run Tryz.prog X=.ok (EV l) X :=
 run_loadAt_mid X b o 109 (nts l) _ h Tryz.underlying109 rfl (by rw[qk,a];exact aF)
structure Lay (b:Nat) (l:List Nat) (X Y:World):Prop where
 just:jE b X Y
 blk:xR Y b l
 size:Y.heap.size=X.heap.size
theorem zDg {X:World}{b:Nat}{l:List Nat}{cs:List Value}(h:X.heap[b]?=some (.cells cs.toArray 109 (0,0)))(n:cs.length=6)(g:l.length=6) :
 ∃ Y,(Instr.storeAt 109 (.pointer (some ⟨b,0,none⟩)) (EV l)).run Tryz.prog X=.ok () Y∧Lay b l X Y:=by
 have r:X.there b 0 (nts l).toArray.size:=fun j o=>by
  have p:j<6:=by simpa[nts,g]using o
  refine⟨?_,qz h _⟩;rw[jL,zP h j];simp[n,p]
 have q:=run_storeAt_mid (P:=Tryz.prog) X b 0 109 (nts l).toArray r (by rw[qZ,qk,g];exact aF) (all_oneCell_toArray (vB l))
 obtain⟨i,k,m,a3,a4,a5,rfl⟩:=six g
 obtain⟨c0,c1,s,c3,t,u,rfl⟩:∃ a b c d e f,cs=[a,b,c,d,e,f]:=by
  match cs,n with
  | [a,b,c,d,e,f],_=>exact⟨a,b,c,d,e,f,rfl⟩
 refine⟨_,q,?_⟩
 have e:X.setCells b 0 (nts [i,k,m,a3,a4,a5]).toArray.toList=((((((X.setCell ⟨b,0,none⟩ (.int .u64 (i:Int))).setCell ⟨b,0+1,none⟩ (.int .u64 (k:Int))).setCell ⟨b,0+2,none⟩ (.int .u64 (m:Int))).setCell ⟨b,0+3,none⟩ (.int .u64 (a3:Int))).setCell ⟨b,0+4,none⟩ (.int .u64 (a4:Int))).setCell ⟨b,0+5,none⟩ (.int .u64 (a5:Int))):=rfl
 rw[e]
 refine⟨((((((q9 b X).set _ _).set _ _).set _ _).set _ _).set _ _).set _ _,?_,by simp[World.setCell]⟩
 exact mQ [] [] (j:=0) rfl h
theorem vA {c:Oper}{a:Act}{X:World}{K:Act→World→Prop}{Q:Exit→Act→World→Prop}(x:Operand)(f:c.op=.load 109 x){b o:Nat}{l:List Nat}(g:a.eval x=.pointer (some ⟨b,o,none⟩))(h:X.rangeAt b o (nts l))(d:l.length=6)(e:K (a.put c.dst (EV l)) X):c.wp Tryz.prog a X K Q :=
 wp_load_mid 109 x f b o g (nts l) _ h Tryz.underlying109 rfl (by rw[qk,d];exact aF) e
theorem qi {c:Oper}{a:Act}{X:World}{K:Act→World→Prop}{Q:Exit→Act→World→Prop}(x y:Operand)(j:c.op=.store 109 x y)(g:c.dst=none){b:Nat}{l:List Nat}{cs:List Value}
 (m:a.eval x=.pointer (some ⟨b,0,none⟩)) (n:a.eval y=EV l) (h:X.heap[b]?=some (.cells cs.toArray 109 (0,0))) (f:cs.length=6) (d:l.length=6) (e:∀ Y,Lay b l X Y→K a Y):c.wp Tryz.prog a X K Q:=by
 obtain⟨Y,k,i⟩:=zDg h f d
 unfold Oper.wp execOp
 simp only[j,m,n,km,k,jC]
 rw[Sem.run_pure]
 show K (a.put c.dst undef) Y
 rw[g]
 exact e Y i
theorem Lay.ext {b:Nat}{l:List Nat}{w X Y:World}(h:Lay b l X Y)(a:Ext w X)(c:w.heap.size≤b):Ext w Y:=jJ a (h.just.below c a.bsize)
theorem Lay.other {b c:Nat}{l:List Nat}{X Y:World}{o:Obj}(h:Lay b l X Y)(d:c≠b)(a:X.heap[c]?=some o):Y.heap[c]?=some o:=(h.just.block c (qd a) d).trans a
def VE (X:World) (M n b x:Nat):Prop:=∃ l,xR X b l∧FE M n l x
theorem VE.ext {X Y:World}{M n b x:Nat}(h:VE X M n b x)(a:Ext X Y):VE Y M n b x:=let ⟨l,h1,h2⟩:=h;⟨l,h1.ext a,h2⟩
theorem VE.load {X:World}{M n b x:Nat}(h:VE X M n b x):∃ l,(Instr.loadAt 109 (.pointer (some ⟨b,0,none⟩))).run Tryz.prog X=.ok (EV l) X∧FE M n l x:=let ⟨l,h1,h2⟩:=h;⟨l,loadE h1.range h2.elt.six,h2⟩
theorem Lay.ve {b c x M n:Nat}{l:List Nat}{X Y:World}(h:Lay b l X Y)(a:c≠b)(d:VE X M n c x):VE Y M n c x:=let ⟨o,h1,h2⟩:=d;⟨o,h.other a h1,h2⟩
theorem Lay.mk' {b x M n:Nat}{l:List Nat}{X Y:World}(h:Lay b l X Y)(a:FE M n l x):VE Y M n b x:=⟨l,h.blk,a⟩
section
variable {Q:Exit→Act→World→Prop} {ol:List Oper} {m:Nat} {L AL:List Nat} {R:Nat→(Nat→Value)→World→Prop} {a:Act} {w:World} {F:List Oper→Prop} {k n:Nat} {o:Oper} {l:List Oper} {u:Value}
theorem lE (d g j:Nat){b i M n1 z:Nat}{e:List Nat}{x:Operand}(h:∀ X,Ext w X→X.rangeAt b i (nts e))(c:FE M n1 e z)(C:Par.qT (Par.jV Tryz.prog ol Q Ext m L AL R a w) F d g l)(A:∀ f X,R j (Par.qh (fun i=>L.getD i 0) j f) X→f j=u:=by exact fun _ _ h=>h)(hR:∀ f X,(∃ o,f k=EV o∧FE M n1 o z)→R k (Par.qh (fun i=>L.getD i 0) k f) X:=by exact fun _ _ h=>h)(s:k+1=d:=by rfl)(t:g+1=n:=by rfl)(q:AL.contains k=false:=by kernel_rfl)
 (r:(L.getD k 0).testBit j=true:=by kernel_rfl)
 (D:∀ f,Region.wanted o (yielded ol.toArray (Par.put ol.toArray (Par.nd (fun i=>L.getD i 0) k) (Par.upd f j u) (List.range m) a).tmps)=true:=by intro _;kernel_rfl)
 (y:o.op=.load 109 x:=by rfl) (E:∀ f,(Par.put ol.toArray (Par.nd (fun i=>L.getD i 0) k) (Par.upd f j u) (List.range m) a).eval x=.pointer (some ⟨b,i,none⟩):=by intro _;kernel_rfl):Par.qT (Par.jV Tryz.prog ol Q Ext m L AL R a w) F k n (o::l) :=
 Par.vx (v:=EV e) (fun f=>Par.upd f j u) C (fun f X h=>Par.xz (A f X (h j r))) (fun f X h=>hR f X ⟨e,h,c⟩) s t q D (fun f X p=>by
  have B:=run_loadAt_mid (P:=Tryz.prog) X b i 109 (nts e) _ (h X p) Tryz.underlying109 rfl (by rw[qk,c.elt.six];exact aF)
  unfold execOp
  simp only[y,km,E,B,jC]
  rfl)
theorem lX (d g:Nat){b i M n1 z:Nat}{x:Operand}(h:∀ X,Ext w X→∃ e,X.rangeAt b i (nts e)∧FE M n1 e z)(v:Par.qT (Par.jV Tryz.prog ol Q Ext m L AL R a w) F d g l)(hR:∀ f X,(∃ o,f k=EV o∧FE M n1 o z)→R k (Par.qh (fun i=>L.getD i 0) k f) X:=by exact fun _ _ h=>h)(r:k+1=d:=by rfl)(s:g+1=n:=by rfl)(q:AL.contains k=false:=by kernel_rfl)
 (y:∀ f,Region.wanted o (yielded ol.toArray (Par.put ol.toArray (Par.nd (fun i=>L.getD i 0) k) f (List.range m) a).tmps)=true:=by intro _;kernel_rfl)
 (t:o.op=.load 109 x:=by rfl) (A:∀ f,(Par.put ol.toArray (Par.nd (fun i=>L.getD i 0) k) f (List.range m) a).eval x=.pointer (some ⟨b,i,none⟩):=by intro _;kernel_rfl):Par.qT (Par.jV Tryz.prog ol Q Ext m L AL R a w) F k n (o::l) :=
 Par.vy v r s q y (fun f X p=>by
  obtain⟨e,j,c⟩:=h X p
  have u:=run_loadAt_mid (P:=Tryz.prog) X b i 109 (nts e) _ j Tryz.underlying109 rfl (by rw[qk,c.elt.six];exact aF)
  refine⟨EV e,?_,fun Y _=>hR _ _ ⟨e,by simp[Par.upd],c⟩⟩
  unfold execOp
  simp only[t,km,A,u,jC]
  rfl)
theorem fc (d g i j b:Nat){F':FuncId}{pf:Value}{M n1 x y z p:Nat}(D:∀ X,Ext w X→∀ c o2,FE M n1 c x→FE M n1 o2 y→Calls Tryz.prog F' #[pf,EV c,EV o2] X fun e w'=>∃ o,e=.returned (EV o)∧FE M n1 o p∧Ext X w')(T:p=z)(O:Par.qT (Par.jV Tryz.prog ol Q Ext m L AL R a w) F d g l)
 (K:∀ f X,R i (Par.qh (fun i=>L.getD i 0) i f) X→f i=pf:=by exact fun _ _ h=>h) (t:∀ f X,R j (Par.qh (fun i=>L.getD i 0) j f) X→∃ o,f j=EV o∧FE M n1 o x:=by exact fun _ _ h=>h) (u:∀ f X,R b (Par.qh (fun i=>L.getD i 0) b f) X→∃ o,f b=EV o∧FE M n1 o y:=by exact fun _ _ h=>h)
 (hR:∀ f X,(∃ o,f k=EV o∧FE M n1 o z)→R k (Par.qh (fun i=>L.getD i 0) k f) X:=by exact fun _ _ h=>h) (I:k+1=d:=by rfl) (J:g+1=n:=by rfl) (C:AL.contains k=false:=by kernel_rfl) (E:(L.getD k 0).testBit i=true:=by kernel_rfl) (G:(L.getD k 0).testBit j=true:=by kernel_rfl) (H:(L.getD k 0).testBit b=true:=by kernel_rfl)
 (S:∀ f,Region.wanted o (yielded ol.toArray (Par.put ol.toArray (Par.nd (fun i=>L.getD i 0) k) f (List.range m) a).tmps)=true:=by intro _;kernel_rfl)
 (N:∀ f X,(execOp (Par.put ol.toArray (Par.nd (fun i=>L.getD i 0) k) f (List.range m) a).eval o).run Tryz.prog X=.ok (.enter F' #[f i,f j,f b]) X:=by intro _ _;kernel_rfl):Par.qT (Par.jV Tryz.prog ol Q Ext m L AL R a w) F k n (o::l) :=
 Par.cx (args:=fun f=>#[f i,f j,f b]) O I J C (fun f _ _=>S f) N fun f X B h=>by
  obtain⟨c,q,g1⟩:=t f X (h.out j G);obtain⟨o2,r,s⟩:=u f X (h.out b H);rw[K f X (h.out i E),q,r];refine(D X B c o2 g1 s).mono ?_;rintro e w' ⟨v,rfl,P,A⟩;exact⟨EV v,rfl,A,fun Y _=>hR _ _ ⟨v,by simp[Par.upd],T▸P⟩⟩
end
section
variable {w X:World} {P0:Nat→Prop} {k g size n inv M bb:Nat} {pl nl bl xl yl ml ol rl tl fl:List Nat} {Ap An Ab Ax Ay:Option Addr} {cp cn cb cx cy:Nat}
theorem Num.ext (h:Num w P0 k g size n inv M bb pl nl bl xl yl ml ol rl tl fl Ap An Ab Ax Ay cp cn cb cx cy)(c:∀ b,P0 b→b<w.heap.size)(a:Ext w X):Num X P0 k g size n inv M bb pl nl bl xl yl ml ol rl tl fl Ap An Ab Ax Ay cp cn cb cx cy :=
 ⟨a.at_ h.blk,h.p.below a c,h.nn.below a c,h.b.below a c,h.x.below a c,h.y.below a c,h.fr.below a h.fr.ff.fld.lt,h.pv,h.three,h.fb⟩
theorem Num.c_size (h:Num w P0 k g size n inv M bb pl nl bl xl yl ml ol rl tl fl Ap An Ab Ax Ay cp cn cb cx cy):w.cell? ⟨k,0,none⟩=some (.int .i64 (size:Int)):=zP h.blk 0
theorem Num.c_p (h:Num w P0 k g size n inv M bb pl nl bl xl yl ml ol rl tl fl Ap An Ab Ax Ay cp cn cb cx cy):w.cell? ⟨k,1,none⟩=some (.slice Ap pl.length cp):=zP h.blk 1
theorem Num.c_n (h:Num w P0 k g size n inv M bb pl nl bl xl yl ml ol rl tl fl Ap An Ab Ax Ay cp cn cb cx cy):w.cell? ⟨k,2,none⟩=some (.slice An nl.length cn):=zP h.blk 2
theorem Num.c_x (h:Num w P0 k g size n inv M bb pl nl bl xl yl ml ol rl tl fl Ap An Ab Ax Ay cp cn cb cx cy):w.cell? ⟨k,4,none⟩=some (.slice Ax xl.length cx):=zP h.blk 4
theorem Num.c_y (h:Num w P0 k g size n inv M bb pl nl bl xl yl ml ol rl tl fl Ap An Ab Ax Ay cp cn cb cx cy):w.cell? ⟨k,5,none⟩=some (.slice Ay yl.length cy):=zP h.blk 5
theorem Num.c_f (h:Num w P0 k g size n inv M bb pl nl bl xl yl ml ol rl tl fl Ap An Ab Ax Ay cp cn cb cx cy):w.cell? ⟨k,6,none⟩=some (.pointer (some ⟨g,0,none⟩)):=zP h.blk 6
theorem Num.r_three (h:Num w P0 k g size n inv M bb pl nl bl xl yl ml ol rl tl fl Ap An Ab Ax Ay cp cn cb cx cy):w.rangeAt k 7 (nts tl):=fun j v i=>by
 rw[zP h.blk];obtain⟨a,b,c,d,e,f,rfl⟩:=six h.three.elt.six;match j,i with
 | 0,i|1,i|2,i|3,i|4,i|5,i=>exact i
 | j+6,i=>simp[nts]at i
theorem Num.r_fb (h:Num w P0 k g size n inv M bb pl nl bl xl yl ml ol rl tl fl Ap An Ab Ax Ay cp cn cb cx cy):w.rangeAt k 13 (nts fl):=fun j v i=>by
 rw[zP h.blk];obtain⟨a,b,c,d,e,f,rfl⟩:=six h.three.elt.six;obtain⟨a,b,c,d,e,f,rfl⟩:=six h.fb.elt.six;match j,i with
 | 0,i|1,i|2,i|3,i|4,i|5,i=>exact i
 | j+6,i=>simp[nts]at i
theorem Num.six (h:Num w P0 k g size n inv M bb pl nl bl xl yl ml ol rl tl fl Ap An Ab Ax Ay cp cn cb cx cy){x:Nat}(a:x<M):(digs 18446744073709551616 x).length≤6 :=
 qR (by omega) (zH (Nat.lt_trans a h.fr.ff.room) (qE (by omega) h.fr.ff.nle))
end
end Go.Proofs.YtaemogcomplhiaaGreatDoor
