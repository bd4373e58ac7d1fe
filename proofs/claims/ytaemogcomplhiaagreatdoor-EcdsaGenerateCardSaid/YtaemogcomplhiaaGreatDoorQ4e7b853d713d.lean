/- Laws that the proof rests on. -/
import Derived.Test.YtaemogcomplhiaaGreatDoorQ62a5237e8c88
set_option maxRecDepth 100000
set_option maxHeartbeats 16000000
namespace Go.Proofs.YtaemogcomplhiaaGreatDoor
open Go.RowKit
open Sha
theorem rof3 {P:Nat→Prop}{A:Option Addr}{c:Nat}{bs:List Nat}(w:World)(n:RB w P A c bs)(f:∀ k,P k→k<w.heap.size)(l:bs.length≤900000) :
 Calls Tryz.prog 132 #[.int .i64 3,.slice A bs.length c] w fun e w'=>∃ A' c',e=.returned (.slice A' 32 c')∧OW w' w.heap.size A' c' (sha bs)∧Ext w w':=by
 have h:VB (w.alloc (.cells (vs yG.list).toArray 144)) w.heap.size yG.list 144:=zS _ _
 have b:Ext w (w.alloc (.cells (vs yG.list).toArray 144)):=zL _ _
 obtain⟨W1,g⟩:=eV (w.alloc (.cells (vs yG.list).toArray 144))
 have i:=zF (show ∀ cs:Array Value,cs=(vs yG.list).toArray→w.alloc (.cells cs 144)=W1 from fun cs e=>by rw[e];exact g)
 rw[g]at h b
 have H:=zF (zAS w.heap.size yG W1 (n.below b f) (fun k q=>zH (f k q) b.bsize) l h)
 have d:=zF b
 clear h b g n f l
 go_enter Tryz.func132,Tryz.ntmps132
 go_wp2_with fail
 rw[i.out]
 case a=>rfl
 refine H.out.mono ?_
 rintro e w2 ⟨A',c',rfl,m,j⟩
 have p:=zF (m.mono d.out.bsize)
 have o:=zF (j.ext' d.out (zG _) d.out.bsize)
 clear m j H i
 go_wp2_with fail
 go_ret
 exact⟨A',c',rfl,p.out,o.out⟩
theorem zCG (w:World):Calls Tryz.prog 131 #[.int .i64 3] w fun e w'=>e=.returned (.int .i64 64)∧w'=w:=by
 go_enter Tryz.func131,Tryz.ntmps131;go_wp2;go_ret;exact⟨rfl,rfl⟩
theorem mi {l:List (List Nat)}{k:Nat}(h:k<l.length):(l.take (k+1)).flatten=(l.take k).flatten++l.getD k []:=by
 rw[List.take_add_one,List.flatten_append,qL h];simp[h]
theorem cf (l:List (List Nat))(k:Nat):(l.take k).flatten.length≤l.flatten.length:=by
 have e:l.flatten=(l.take k).flatten++(l.drop k).flatten:=by rw[←List.flatten_append,List.take_append_drop]
 rw[e,zf];omega
theorem sr {P:Nat→Prop}{A:Option Addr}{c:Nat}{ps:List (List Nat)}(w:World)(i:RP w P A c ps)(p:∀ k,P k→k<w.heap.size)(s:ps.flatten.length≤1000000) :
 Calls Tryz.prog 116 #[.slice A ps.length c] w fun e w'=>∃ A' c',e=.returned (.slice A' ps.flatten.length c')∧OW w' w.heap.size A' c' ps.flatten∧Ext w w':=by
 have I:=zF i
 have J:=zF p
 have D:=zF s
 have L:ps.length≤maxLen:=by obtain⟨_,h,_⟩:=i;exact zK h.1 h.2.1
 unfold maxLen at L
 have o:=zF (OW.nil_ w w.heap.size)
 clear i p s
 go_enter Tryz.func116,Tryz.ntmps116
 go_wp2_with fail
 go_loopw [3,4] (fun s3 s4 wr=>∃(k:Nat) (A:Option Addr) (c:Nat) (m:List Nat),s4=.int .i64 (k:Int)∧k≤ps.length∧s3=.slice A m.length c∧Hid (m=(ps.take k).flatten)∧Hid (OW wr w.heap.size A c m)∧Hid (Ext w wr)) (fun _ s4 _=>(ps.length-intOf s4).toNat)
 case atStart=>exact⟨0,none,0,[],rfl,by omega,rfl,zF rfl,o,zF (zT _)⟩
 case round =>
  clear o;obtain⟨k,z,c1,m,rfl,O,rfl,n,f,d⟩:=hrel;by_cases hlt:k<ps.length
  · have Q:(k:Int)<(ps.length:Int):=by omega
    obtain⟨ad,M,N,rfl,r,j⟩:=(I.out.ext d.out J.out).at_ hlt;have b:=mi hlt;rw[←n.out]at b;have t:=cf ps (k+1);obtain⟨x,y⟩:=eV (ps.getD k []);rw[y]at b r j;have u:m.length+x.length≤1000000:=by rw[←zf,←b];exact zK t D.out
    have F:=zF b;have a:=f.out;have g:=d.out;have E:=zF u;clear b t y f u;go_wp2_with (at_builtin;refine nA rfl (.tmp 11) (.tmp 15) rfl w.heap.size rfl a rfl j (by have:=E.out;omega) g.bsize ?_;intro B K w5 v q);have H:=zF v;have C:=zF (jJ g q);clear a g v q d r j;go_roundw;case rel=>exact⟨k+1,B,K,_,by go_num,by omega,by rw[zf],zF F.out.symm,H,C⟩
    case measure=>simp[intOf];omega
  · obtain rfl:k=ps.length:=by omega
    have l:=zF (show ps.flatten=m by rw[n.out,jB]);have a:=f.out;rw[←l.out]at a;have G:=zF a;rw[←l.out];clear a f;go_wp2_with fail;go_ret;exact⟨z,c1,rfl,G.out,d.out⟩
theorem OW.of_blk {w:World}{g base:Nat}{l:List Nat}(h:js w g l)(a:base≤g)(b:∀ x∈l,x<256)(c:l.length≤1000000):OW w base (some ⟨g,0,none⟩) l.length l :=
 ⟨⟨by simp[bys],.inr ⟨g,l.length,_,rfl,a,h,zG _,by unfold maxLen;omega,by simp[bys],by rw[jM];exact zu (by simp[bys])⟩⟩,b⟩
theorem zCj {key:List Nat}{c k:Nat}(h:k<64):dg (qh key c) k=dg key k ^^^ c:=by
 simp[dg,qh,h]
def Mk (L key:List Nat) (c k:Nat):Prop:=L.length=64∧∀ j,j<k→dg L j=dg key j ^^^ c
theorem Mk.zero (L key:List Nat)(c:Nat)(h:L.length=64):Mk L key c 0:=⟨h,fun _ h=>absurd h (by omega)⟩
theorem Mk.step {L key:List Nat}{c k x:Nat}(h:Mk L key c k)(e:k<64)(b:x=dg key k ^^^ c):Mk (L.set k x) key c (k+1):=by
 refine⟨by simpa using h.1,fun j d=>?_⟩;rcases qH j k with a|a
 · rw[←h.2 j a];simp[dg,List.getElem?_set_ne (show k≠j by omega)]
 · obtain rfl:j=k:=by omega
   have:=h.1;simp[dg,show j<L.length by omega,b]
theorem Mk.fin {L key:List Nat}{c:Nat}(h:Mk L key c 64):L=qh key c:=by
 apply List.ext_getElem (h.1.trans (kC _ _).symm);intro i e f;have b:i<64:=by have:=h.1;omega
 have a:=h.2 i b;have d:=zCj (key:=key) (c:=c) b;rw[←d]at a;simpa[dg,e,f]using a
theorem ss {P P2:Nat→Prop}{A X:Option Addr}{c c2:Nat}{key b:List Nat}(w:World)(hp:RB w P A c key)(hP:∀ k,P k→k<w.heap.size)(aD:RB w P2 X c2 b)(ap:∀ k,P2 k→k<w.heap.size)(hl:key.length≤64)(av:b.length≤800000) :
 Calls Tryz.prog 115 #[.int .i64 3,.slice A key.length c,.slice X b.length c2] w fun e w'=>∃ A' c',e=.returned (.slice A' 32 c')∧OW w' w.heap.size A' c' (xY key b)∧Ext w w':=by
 have aS:¬(64:Int)<(key.length:Int):=by omega
 have s:=zF hp
 have aJ:=zF hP
 have HQ:=zF aD
 have aK:=zF ap
 have af:=zF av
 clear hp hP aD ap av
 have ay:=qt (P:=Tryz.prog) 22 5 (.int .u8 0) 1 Tryz.underlying22 ub rfl .i64 .i64 64 (by omega) (by omega)
 simp only[qO]at ay
 go_enter Tryz.func115,Tryz.ntmps115
 go_upto_region 2 with(go_at_call 131;refine(zCG _).mono ?_;rintro e a ⟨rfl,rfl⟩)
 go_upto_region 8 with fail
 have B:=(zL (a.alloc (.cells (madeCells #[.int .u8 0] 64) 5)) (.cells (madeCells #[.int .u8 0] 64) 5)).at_ (js.made a 64)
 have r:=js.made (a.alloc (.cells (madeCells #[.int .u8 0] 64) 5)) 64
 have V:Ext a ((a.alloc (.cells (madeCells #[.int .u8 0] 64) 5)).alloc (.cells (madeCells #[.int .u8 0] 64) 5)):=(zL _ _).trans (zL _ _)
 rw[zz]at r
 rw[show decide ((64:Int)<(key.length:Int))=false from jT (by omega)]
 obtain⟨W0,aq⟩:=eV ((a.alloc (.cells (madeCells #[.int .u8 0] 64) 5)).alloc (.cells (madeCells #[.int .u8 0] 64) 5))
 obtain⟨g,J⟩:=eV a.heap.size
 rw[aq]at B r V ⊢
 rw[J]at B r ⊢
 have l:=zF J
 have M1:=zF B
 have M2:=zF r
 have ME:=zF V
 clear aq J B r V ay
 go_wp2_with fail
 go_loopw [10] (fun s10 wr=>∃(k:Nat) (t Lo:List Nat),s10=.int .i64 (k:Int)∧k≤64∧Hid (Mk t key 54 k)∧Hid (Mk Lo key 92 k)∧Hid (js wr g t)∧Hid (js wr (g+1) Lo)∧Hid (Ext a wr)) (fun s10 _=>(64-intOf s10).toNat)
 case atStart=>exact⟨0,_,_,rfl,by omega,zF (Mk.zero _ _ _ wS),zF (Mk.zero _ _ _ wS),M1,M2,ME⟩
 case round =>
  clear M1 M2 ME;obtain⟨k,t,Lo,rfl,aO,o,q,f,j,d⟩:=hrel;by_cases hlt:k<64
  · have aR:(k:Int)<64:=by omega
    have q5:=f.out.cell (i:=k) (by have:=o.out.1;omega);have f5:=f.out.free k;have R:dg key k<256:=jW (by omega) s.out.2.1 k;obtain⟨x,m⟩:=eV (dg key k);rw[m]at R;have E:=u8_xor_nat x 54 R (by omega);have F:=u8_xor_nat x 92 R (by omega);obtain⟨n,S⟩:=eV (x ^^^ 54);obtain⟨W,T⟩:=eV (x ^^^ 92);rw[S]at E;rw[T]at F;simp only[qO]at E F;have ae:=zF (o.out.step (x:=n) hlt (by rw[m,S]));have aj:=zF (q.out.step (x:=W) hlt (by rw[m,T]));have z:=(q9 g wr).set k (.int .u8 (n:Int));have q6:=j.out.cell (i:=k) (by have:=q.out.1;omega);have aT:=(z.cell (p:=⟨g+1,k,none⟩) (qd j.out) (by show g+1≠g;omega)).trans q6;have C:js (wr.setCell ⟨g,k,none⟩ (.int .u8 (n:Int))) (g+1) Lo:=z.at_ (by omega) j.out;have f6:=C.free k;have U:=(q9 (g+1) (wr.setCell ⟨g,k,none⟩ (.int .u8 (n:Int)))).set k (.int .u8 (W:Int));have Y:=zF (show js _ g (t.set k n)from U.at_ (by omega) (f.out.set k n));have Z:=zF (C.set k W);have ac:=zF (U.ext (z.ext d.out (by rw[l.out];exact zG _)) (by rw[l.out];omega));have M:=fun(h:k<key.length)=>(s.out.below d.out aJ.out).dg h;have ab:=d.out.bsize;clear S T z U C o q q6;by_cases hkk:k<key.length
    · have aN:(k:Int)<(key.length:Int):=by omega
      obtain⟨ad,rfl,hc,_⟩:=M hkk;rw[m]at hc;clear M m d ab f j;go_wp2_with fail;go_roundw;case rel=>exact⟨k+1,_,_,by go_num,by omega,ae,aj,Y,Z,ac⟩
      case measure=>simp[intOf];omega
    · have aN:¬(k:Int)<(key.length:Int):=by omega
      obtain rfl:x=0:=by rw[←m,dg,zy,jH (by omega)];rfl
      simp only[qO]at E F;clear M m d ab f j;go_wp2_with fail;go_roundw;case rel=>exact⟨k+1,_,_,by go_num,by omega,ae,aj,Y,Z,ac⟩
      case measure=>simp[intOf];omega
  · obtain rfl:k=64:=by omega
    rw[show((64:Nat):Int)=64 from rfl];have h1:js wr g (qh key 54):=o.out.fin▸f.out;have G:js wr (g+1) (qh key 92):=q.out.fin▸j.out;have O:OW wr g (some ⟨g,0,none⟩) 64 (qh key 54):=by
     have:=OW.of_blk (base:=g) h1 (zG _) (gz s.out.2.1 (by omega)) (by rw[kC];omega);rwa [kC]at this
    have aE:=HQ.out.below d.out aK.out;obtain⟨mb,N⟩:=eV (qh key 54++b);have ax:mb.length≤900000:=by rw[←N,zf,kC];have:=af.out;omega
    have u:g≤wr.heap.size:=by rw[←l.out];exact d.out.bsize
    have aw:=qd G;have ag:=zF N;have ah:=zF ax;clear o q f j h1 ax
    go_upto_region 17 with(first
     | (go_at_call 132;refine(rof3 w5 (ho5.rb (by have:=ah.out;omega)) (fun k L=>L.2) ah.out).mono ?_;rintro e w6 ⟨A6,c6,rfl,aB,an⟩;have ak:=zF aB;have D:=zF an;clear aB an)
     | (at_builtin;refine oS rfl (.tmp 52) (.tmp 53) rfl g (by rw[kC];rfl) O rfl aE (by rw[kC];have:=af.out;omega) u ?_;intro A5 c5 w5 ho5 K;rw[ag.out]at ho5 ⊢;have I:Below g wr w5:=Below.grown (zo g wr) K u (ua O.1);have al:js w5 (g+1) (qh key 92):=(K.block (g+1) aw (by simp[Value.ownBlock])).trans G))
    have am:=D.out.at_ al;have aA:OW w6 g (some ⟨g+1,0,none⟩) 64 (qh key 92):=by
     have:=OW.of_blk (base:=g) am (by omega) (gz s.out.2.1 (by omega)) (by rw[kC];omega);rwa [kC]at this
    have aF:=ak.out.rb (by rw[fM];omega);obtain⟨sm,y⟩:=eV (sha mb);have Q:sm.length=32:=by rw[←y];rfl
    rw[y]at aF;obtain⟨nb,v⟩:=eV (qh key 92++sm);have az:nb.length=96:=by rw[←v,zf,kC,Q]
    have H:Below g a w6:=jJ (show Below g a wr by rw[←l.out];exact d.out) (jJ I (D.out.mono (zK u I.size)));have aL:=zF (show xY key b=sha nb by rw[xY,ag.out,y,v]);have aH:=zF v;have ai:=zF az;have aa:=zF H;have au:g≤w6.heap.size:=by have:=H.size;have:=l.out;omega
    clear N y v az H I al ho5 K ak D G O aE d am u aw
    go_wp2_with (first
     | (go_at_call 132;refine(rof3 w7 (ho7.rb (by rw[ai.out];omega)) (fun k L=>L.2) (by rw[ai.out];omega)).mono ?_;rintro e w8 ⟨A8,c8,rfl,aC,ao⟩;have aI:=zF aC;have aG:=zF ao;clear aC ao)
     | (at_builtin;refine oS rfl (.tmp 57) (.tmp 58) rfl g (by rw[kC];rfl) aA (by rw[Q];rfl) aF (by rw[kC,Q];omega) au ?_;intro A7 c7 w7 ho7 aM;rw[aH.out]at ho7 ⊢;have ar:Below g w6 w7:=Below.grown (zo g w6) aM au (ua aA.1)))
    go_ret;have aP:=ar.size;have aQ:=aa.out.size;refine⟨A8,c8,rfl,?_,?_⟩
    · rw[aL.out];exact aI.out.mono (by rw[l.out];omega)
    · rw[show Ext a w8=Below g a w8 by rw[←l.out];rfl];exact jJ aa.out (jJ ar (aG.out.mono (by omega)))
def ER (w:World) (b:Nat) (k v:List Nat) (n:Int):Prop :=
 ∃ a d c cv,w.heap[b]?=some (.cells #[.slice a 32 d,.slice c 32 cv,.int .i64 n] 89 (0,0))∧RB w (fun g=>g<w.heap.size) a d k∧RB w (fun g=>g<w.heap.size) c cv v∧k.length=32∧v.length=32
theorem ER.lt {w:World}{b:Nat}{k v:List Nat}{n:Int}(h:ER w b k v n):b<w.heap.size:=let ⟨_,_,_,_,h,_⟩:=h;qd h
theorem ER.ext {w X:World}{b:Nat}{k v:List Nat}{n:Int}(h:ER w b k v n)(a:Ext w X):ER X b k v n:=by
 obtain⟨c,e,d,cv,f,g,i,j,l⟩:=h;exact⟨c,e,d,cv,a.at_ f,g.upE a,i.upE a,j,l⟩
theorem RB.er {w X:World}{b:Nat}{k v:List Nat}{n:Int}{P:Nat→Prop}{A:Option Addr}{c:Nat}{d:List Nat}(h:RB w P A c d)(o:∀ k,P k→k<w.heap.size)(p:ER w b k v n)(r:Fr b w.heap.size w X):RB X P A c d :=
 h.by_ fun q u t a=>(qB (r.block _ (o _ t) (fun e=>by
  obtain⟨f,j,g,cv,m,_⟩:=p
  unfold World.cell? at a
  rw[e,m]at a
  simp only at a
  split at a
  · cases a
  · have s:=xC (l:=[Value.slice f 32 j,.slice g 32 cv,.int .i64 n]) (i:=q.off) (by simpa using a)
    simp at s))).trans a
theorem RB.er' {w X:World}{b:Nat}{k v:List Nat}{n:Int}{A:Option Addr}{c:Nat}{d:List Nat}(h:RB w (fun g=>g<w.heap.size) A c d)(e:ER w b k v n)(a:Fr b w.heap.size w X):RB X (fun g=>g<X.heap.size) A c d :=
 (h.er (fun _ h=>h) e a).mono fun _ f=>zH f a.size
theorem ER.fr {w X:World}{b b':Nat}{k v p r:List Nat}{n q:Int}(h:ER w b k v n)(a:Fr b' w.heap.size w X)(d:ER w b' p r q)(o:b≠b'):ER X b k v n:=by
 obtain⟨e,g,f,cv,c,i,j,l,m⟩:=h;exact⟨e,g,f,cv,a.at_ (qd c) o c,i.er' d a,j.er' d a,l,m⟩
theorem ER.frS {w:World}{b:Nat}(i:Nat)(u:Value):Fr b w.heap.size w (w.setCell ⟨b,i,none⟩ u):=xT ((q9 b w).set i u) (zG _)
theorem ER.setK {w:World}{b c:Nat}{A:Option Addr}{k a v:List Nat}{n:Int}(h:ER w b k v n)(m:RB w (fun g=>g<w.heap.size) A c a)(l:a.length=32):ER (w.setCell ⟨b,0,none⟩ (.slice A 32 c)) b a v n:=by
 have d:=h;obtain⟨o,p,e,cv,f,q,i,r,j⟩:=h;exact⟨A,c,e,cv,jA f 0 _,m.er' d (ER.frS _ _),i.er' d (ER.frS _ _),l,j⟩
theorem ER.setV {w:World}{b c:Nat}{A:Option Addr}{k v a:List Nat}{n:Int}(h:ER w b k v n)(o:RB w (fun g=>g<w.heap.size) A c a)(m:a.length=32):ER (w.setCell ⟨b,1,none⟩ (.slice A 32 c)) b k a n:=by
 have d:=h;obtain⟨e,f,p,cv,i,j,q,l,r⟩:=h;exact⟨e,f,A,c,jA i 1 _,j.er' d (ER.frS _ _),o.er' d (ER.frS _ _),l,m⟩
theorem ER.setN {w:World}{b:Nat}{k v:List Nat}{n:Int}(h:ER w b k v n)(m:Int):ER (w.setCell ⟨b,2,none⟩ (.int .i64 m)) b k v m:=by
 have a:=h;obtain⟨c,e,d,cv,f,g,i,j,l⟩:=h;exact⟨c,e,d,cv,jA f 2 _,g.er' a (ER.frS _ _),i.er' a (ER.frS _ _),j,l⟩
theorem ER.vcell {w:World}{b:Nat}{k v:List Nat}{n:Int}(h:ER w b k v n):∃ a cv,w.cell? ⟨b,1,none⟩=some (.slice a 32 cv):=by
 obtain⟨d,e,a,cv,c,_⟩:=h;exact⟨a,cv,zP c 1⟩
theorem ER.free {w:World}{b:Nat}{k v:List Nat}{n:Int}(h:ER w b k v n)(i:Nat):w.frozen? ⟨b,i,none⟩=false:=by
 obtain⟨c,e,d,cv,a,_⟩:=h;exact qz a i
theorem ER.kcell {w:World}{b:Nat}{k v:List Nat}{n:Int}(h:ER w b k v n):∃ a cv,w.cell? ⟨b,0,none⟩=some (.slice a 32 cv):=by
 obtain⟨c,d,a,cv,e,_⟩:=h;exact⟨c,d,zP e 0⟩
theorem ER.v0 {w:World}{b:Nat}{k v:List Nat}{n:Int}{y:Value}(h:ER w b k v n)(d:w.cell? ⟨b,1,none⟩=some y)(u:Value):(w.setCell ⟨b,0,none⟩ u).cell? ⟨b,1,none⟩=some y:=by
 obtain⟨e,g,f,cv,c,_⟩:=h;have a:=zP c 1;rw[d]at a;rw[zP (jA c 0 u) 1,a];rfl
theorem zBJ {w a:World}{b:Nat}{k v e:List Nat}{n:Int}{A:Option Addr}{c:Nat}(f:ER w b k v n)(d:Ext w a)(h:OW a w.heap.size A c e)(g:e.length=32) :
 ER (a.setCell ⟨b,0,none⟩ (.slice A 32 c)) b e v n∧Fr b w.heap.size w (a.setCell ⟨b,0,none⟩ (.slice A 32 c)) :=
 ⟨(f.ext d).setK (h.rb' (by omega)) g,(jc d (zG _)).trans (xT ((q9 b a).set 0 _) d.bsize)⟩
theorem zBI {w a:World}{b:Nat}{k v e:List Nat}{n:Int}{A:Option Addr}{c:Nat}(f:ER w b k v n)(d:Ext w a)(h:OW a w.heap.size A c e)(g:e.length=32) :
 ER (a.setCell ⟨b,1,none⟩ (.slice A 32 c)) b k e n∧Fr b w.heap.size w (a.setCell ⟨b,1,none⟩ (.slice A 32 c)) :=
 ⟨(f.ext d).setV (h.rb' (by omega)) g,(jc d (zG _)).trans (xT ((q9 b a).set 1 _) d.bsize)⟩
theorem gQ {P:Nat→Prop}{A i:Option Addr}{c o:Nat}{key:List Nat}{ps:List (List Nat)}(w:World)(r:RB w (fun g=>g<w.heap.size) i o key)(z:key.length=32)(s:RP w P A c ps)(p:∀ k,P k→k<w.heap.size)(f:ps.flatten.length≤500000) :
 Calls Tryz.prog 84 #[.slice i 32 o,.slice A ps.length c] w fun e w'=>∃ A' c',e=.returned (.slice A' 32 c')∧OW w' w.heap.size A' c' (xY key ps.flatten)∧Ext w w':=by
 have d:=sr w s p (by omega)
 obtain⟨fl,q⟩:=eV ps.flatten
 rw[q]at d f ⊢
 have l:=zF d
 clear d q
 have v:=zF r
 have m:=zF f
 clear r s p f
 go_enter Tryz.func84,Tryz.ntmps84
 go_wp2_with fail
 refine l.out.mono ?_
 rintro e B ⟨C,c1,rfl,b,a⟩
 have H:=ss B (v.out.upE a) (fun _ h=>h) (b.rb (by have:=m.out;omega)) (fun _ h=>h.2) (by omega) (by have:=m.out;omega)
 rw[z]at H
 have n:=zF H
 have j:=zF a
 clear b a H l
 go_wp2_with fail
 refine n.out.mono ?_
 rintro e w2 ⟨t,y,rfl,b,a⟩
 have x:=zF (b.mono j.out.bsize)
 have u:=zF (j.out.trans a)
 clear b a n
 go_wp2_with fail
 go_ret
 exact⟨t,y,rfl,x.out,u.out⟩
theorem RP.up {w X:World}{A:Option Addr}{c:Nat}{ps:List (List Nat)}(h:RP w (fun k=>k<w.heap.size) A c ps)(a:Ext w X):RP X (fun k=>k<X.heap.size) A c ps:=by
 obtain⟨cs,d,f⟩:=h.ext a (fun _ h=>h);exact⟨cs,d.mono fun k b=>zH b a.bsize,fun i g=>let ⟨Ai,ci,e,h3⟩:=f i g;⟨Ai,ci,e,h3.mono fun k b=>zH b a.bsize⟩⟩
theorem RP.lit3 (w:World){a b c:Option Addr}{c1 d c3 n1 g h:Nat}{p1 p2 p3:List Nat}(n:RB w (fun k=>k<w.heap.size) a c1 p1)(o:RB w (fun k=>k<w.heap.size) b d p2)(p:RB w (fun k=>k<w.heap.size) c c3 p3)(j:p1.length=n1)(l:p2.length=g)(m:p3.length=h) :
 RP (w.alloc (.cells #[.slice a n1 c1,.slice b g d,.slice c h c3] 22)) (fun k=>k<(w.alloc (.cells #[.slice a n1 c1,.slice b g d,.slice c h c3] 22)).heap.size) (some ⟨w.heap.size,0,none⟩) 3 [p1,p2,p3]:=by
 subst j l m
 have e:=zL w (.cells #[.slice a p1.length c1,.slice b p2.length d,.slice c p3.length c3] 22)
 refine⟨_,RS.lit w #[.slice a p1.length c1,.slice b p2.length d,.slice c p3.length c3] 22 (by simp[maxLen]),fun i f=>?_⟩
 match i,f with
 | 0,_=>exact⟨a,c1,by simp,n.upE e⟩
 | 1,_=>exact⟨b,d,by simp,o.upE e⟩
 | 2,_=>exact⟨c,c3,by simp,p.upE e⟩
 | i+3,f=>exact absurd f (by simp only[jP,jk];omega)
theorem RP.lit1 (w:World){a:Option Addr}{c1 n1:Nat}{p1:List Nat}(d:RB w (fun k=>k<w.heap.size) a c1 p1)(c:p1.length=n1) :
 RP (w.alloc (.cells #[.slice a n1 c1] 22)) (fun k=>k<(w.alloc (.cells #[.slice a n1 c1] 22)).heap.size) (some ⟨w.heap.size,0,none⟩) 1 [p1]:=by
 subst c
 have e:=zL w (.cells #[.slice a p1.length c1] 22)
 refine⟨_,RS.lit w #[.slice a p1.length c1] 22 (by simp[maxLen]),fun i b=>?_⟩
 match i,b with
 | 0,_=>exact⟨a,c1,by simp,d.upE e⟩
 | i+1,b=>exact absurd b (by simp only[jP,jk];omega)
theorem cF {b:Nat}{k v d:List Nat}{n:Int}{P:Nat→Prop}{A:Option Addr}{c:Nat}(w:World)(hd:ER w b k v n)(hp:RB w P A c d)(hP:∀ k,P k→k<w.heap.size)(hl:d.length≤200000) :
 Calls Tryz.prog 46 #[.pointer (some ⟨b,0,none⟩),.slice A d.length c] w fun e w'=>e=.returned (.tuple #[])∧ER w' b (xX k v d).1 (xX k v d).2 n∧Fr b w.heap.size w w':=by
 have l:=zF hd
 have HP:=zF hp
 have ab:=zF hP
 have HL:=zF hl
 have am:=zF hd
 clear hd hp hP hl
 go_enter Tryz.func46,Tryz.ntmps46
 go_upto_region 0 with fail
 obtain⟨u,C,x,cv,q,G,H,I,J⟩:=id l.out
 have r:w.cell? ⟨b,0,none⟩=some (.slice u 32 C):=zP q 0
 have vc:w.cell? ⟨b,1,none⟩=some (.slice x 32 cv):=zP q 1
 have y:=zF G
 have z:=zF H
 have B:=zF I
 have p:=zF J
 clear q G H I J
 refine zZ (by kernel_rfl) 15 [0,0,2,6,14,0,32,96,224,0,0,2016,4094,8191,16383,32767] [] (fun j f X=>match j with
  | 0=>f 0=.pointer (some ⟨b,0,none⟩)
  | 1=>f 1=.pointer (some ⟨b,0,none⟩)
  | 2=>f 2=.pointer (some ⟨b,0,none⟩)
  | 3=>f 3=.pointer (some ⟨b,0,none⟩)
  | 4=>f 4=.slice u 32 C
  | 5=>f 5=.pointer (some ⟨b,0,none⟩)
  | 6=>f 6=.pointer (some ⟨b,0,none⟩)
  | 7=>f 7=.pointer (some ⟨b,1,none⟩)
  | 8=>f 8=.slice x 32 cv
  | 9=>∃ g,f 9=.slice (some ⟨g,0,none⟩) 1 1∧RB X (fun k=>k<X.heap.size) (some ⟨g,0,none⟩) 1 [0]
  | 10=>f 10=.slice A d.length c
  | 11=>∃ g,f 11=.slice (some ⟨g,0,none⟩) 3 3∧RP X (fun k=>k<X.heap.size) (some ⟨g,0,none⟩) 3 [v,[0],d]
  | 12=>∃ A c,f 12=.slice A 32 c∧OW X w.heap.size A c (xY k (v++[0]++d))
  | 13=>f 13=.pointer (some ⟨b,0,none⟩)
  | 14=>f 14=.pointer (some ⟨b,0,none⟩)
  | _=>True) (by kernel_rfl) [(4,0),(5,1),(6,2),(7,3),(8,4),(9,5),(10,6),(11,7),(12,8),(13,9),(14,10),(15,11),(16,12),(17,13),(18,14)] (by kernel_rfl) ?_
 refine zJ 1 14 ?_
 refine zJ 2 13 ?_
 refine zt 3 12 1 ?_
 refine zt 4 11 2 ?_
 refine qC 5 10 3 r ?_
 refine zJ 6 9 ?_
 refine zt 7 8 5 ?_
 refine zt 8 7 6 ?_
 refine qC 9 6 7 vc ?_
 refine zv 10 5 [(4,0),(5,1),(6,2),(7,3),(8,4),(9,5),(10,6),(11,7),(12,8),(14,10)] (fun f X a hR K m=>?_) ?_
 · simp only[yZ];refine⟨?_⟩;go_simp;exact m.out _ _ _ (by simp only[yZ]) (zL _ _) trivial (fun Y o=>⟨_,rfl,(RB.lit8' X [0] (by decide) (by decide) rfl).upE o⟩)
 refine zJ 11 4 ?_
 refine zv 12 3 [(4,0),(5,1),(6,2),(7,3),(8,4),(9,5),(10,6),(11,7),(12,8),(13,9),(14,10)] (fun f X a hR K m=>?_) ?_
 · have F:f 8=_:=hR.out 8 rfl;obtain⟨S,(i:f 9=_),s⟩:=hR.out 9 rfl;have D:f 10=_:=hR.out 10 rfl;simp only[yZ,F,i,D];refine⟨?_⟩;go_simp;exact m.out _ _ _ (by simp only[yZ,F,i,D]) (zL _ _) trivial (fun Y o=>⟨_,rfl,(RP.lit3 X (z.out.upE a) s ((HP.out.below a ab.out).mono fun k hk=>zH (ab.out k hk) a.bsize) p.out rfl rfl).up o⟩)
 refine qK 13 2 (fun f=>#[f 4,f 11]) (F':=84) (fun f X a hR=>?_) ?_
 · have R:f 4=_:=hR.out 4 rfl;obtain⟨aj,(N:f 11=_),aa⟩:=hR.out 11 rfl;simp only[R,N];refine(gQ X (y.out.upE a) B.out aa (fun _ h=>h) (by have:=HL.out;have:=p.out;simp;omega)).mono ?_;rintro e w2 ⟨O,Q,rfl,W,T⟩;exact⟨_,rfl,T,fun Y o=>⟨O,Q,rfl,by have:=(W.mono a.bsize).extE o;simpa using this⟩⟩
 refine zt 14 1 0 ?_
 refine zt 15 0 13 ?_
 refine yF ⟨fun f X a hR U V=>?_⟩
 obtain⟨S,(i:f 9=_),s⟩:=hR 9 (by decide)
 obtain⟨aj,(N:f 11=_),aa⟩:=hR 11 (by decide)
 obtain⟨ag,ai,(E:f 12=_),ae⟩:=hR 12 (by decide)
 have ac:f 14=_:=hR 14 (by decide)
 simp only[yZ,i,N,E,ac]
 clear hR U V i N E ac
 replace r:=a.cell r
 have fr:=(l.out.ext a).free 0
 refine zO (fun K m=>⟨zU (by kernel_rfl) ?_⟩)
 go_simp
 refine m.out _ _ ?_
 refine zI ?_
 have Z:=zBJ l.out a ae (vv _ _)
 obtain⟨L,M⟩:=Z
 have t:=zF M
 replace l:=zF L
 clear L M a ae r vc fr y z B p
 generalize X.setCell ⟨b,0,none⟩ (.slice ag 32 ai)=w1 at *
 have ap:=zF (HP.out.er ab.out am.out t.out)
 clear s aa
 go_upto_region 1 with fail
 obtain⟨u,C,x,cv,q,G,H,I,J⟩:=id l.out
 have r:w1.cell? ⟨b,0,none⟩=some (.slice u 32 C):=zP q 0
 have vc:w1.cell? ⟨b,1,none⟩=some (.slice x 32 cv):=zP q 1
 have y:=zF G
 have z:=zF H
 have B:=zF I
 have p:=zF J
 clear q G H I J
 refine zZ (by kernel_rfl) 13 [0,0,2,6,14,0,32,96,224,480,1022,2047,4095,8191] [] (fun j f X=>match j with
  | 0=>f 0=.pointer (some ⟨b,0,none⟩)
  | 1=>f 1=.pointer (some ⟨b,0,none⟩)
  | 2=>f 2=.pointer (some ⟨b,0,none⟩)
  | 3=>f 3=.pointer (some ⟨b,0,none⟩)
  | 4=>f 4=.slice u 32 C
  | 5=>f 5=.pointer (some ⟨b,0,none⟩)
  | 6=>f 6=.pointer (some ⟨b,0,none⟩)
  | 7=>f 7=.pointer (some ⟨b,1,none⟩)
  | 8=>f 8=.slice x 32 cv
  | 9=>∃ g,f 9=.slice (some ⟨g,0,none⟩) 1 1∧RP X (fun k=>k<X.heap.size) (some ⟨g,0,none⟩) 1 [v]
  | 10=>∃ A c,f 10=.slice A 32 c∧OW X w1.heap.size A c (xY (xY k (v++[0]++d)) v)
  | 11=>f 11=.pointer (some ⟨b,0,none⟩)
  | 12=>f 12=.pointer (some ⟨b,1,none⟩)
  | _=>True) (by kernel_rfl) [(19,0),(20,1),(21,2),(22,3),(23,4),(24,5),(25,6),(26,7),(27,8),(28,9),(29,10),(30,11),(31,12)] (by kernel_rfl) ?_
 refine zJ 1 12 ?_
 refine zJ 2 11 ?_
 refine zt 3 10 1 ?_
 refine zt 4 9 2 ?_
 refine qC 5 8 3 r ?_
 refine zJ 6 7 ?_
 refine zt 7 6 5 ?_
 refine zt 8 5 6 ?_
 refine qC 9 4 7 vc ?_
 refine zv 10 3 [(19,0),(20,1),(21,2),(22,3),(23,4),(24,5),(25,6),(26,7),(27,8)] (fun f X a hR K m=>?_) ?_
 · have F:f 8=_:=hR.out 8 rfl;simp only[yZ,F];refine⟨?_⟩;go_simp;exact m.out _ _ _ (by simp only[yZ,F]) (zL _ _) trivial (fun Y o=>⟨_,rfl,(RP.lit1 X (z.out.upE a) p.out).up o⟩)
 refine qK 11 2 (fun f=>#[f 4,f 9]) (F':=84) (fun f X a hR=>?_) ?_
 · have R:f 4=_:=hR.out 4 rfl;obtain⟨S,(i:f 9=_),s⟩:=hR.out 9 rfl;simp only[R,i];refine(gQ X (y.out.upE a) B.out s (fun _ h=>h) (by have:=p.out;simp;omega)).mono ?_;rintro e w2 ⟨O,Q,rfl,W,T⟩;exact⟨_,rfl,T,fun Y o=>⟨O,Q,rfl,by have:=(W.mono a.bsize).extE o;simpa using this⟩⟩
 refine zt 12 1 0 ?_
 refine zt 13 0 11 ?_
 refine yF ⟨fun f X a hR U V=>?_⟩
 obtain⟨S,(i:f 9=_),s⟩:=hR 9 (by decide)
 obtain⟨af,ah,(D:f 10=_),ad⟩:=hR 10 (by decide)
 have E:f 12=_:=hR 12 (by decide)
 simp only[yZ,i,D,E]
 clear hR U V i D E
 replace vc:=a.cell vc
 have fr:=(l.out.ext a).free 1
 refine zO (fun K m=>⟨zU (by kernel_rfl) ?_⟩)
 go_simp
 refine m.out _ _ ?_
 refine zI ?_
 have Z:=zBI l.out a ad (vv _ _)
 obtain⟨L,M⟩:=Z
 replace t:=zF (t.out.trans (M.mono t.out.size))
 replace l:=zF L
 clear L M a ad r vc fr y z B p
 generalize X.setCell ⟨b,1,none⟩ (.slice af 32 ah)=w2 at *
 have aq:=zF (HP.out.er ab.out am.out t.out)
 have an:=zF (show ∀ k,P k→k<w2.heap.size from fun k hk=>zH (ab.out k hk) t.out.size)
 clear s ap
 have HH:=zF (show dp k v d 0=(xY k (v++[0]++d),xY (xY k (v++[0]++d)) v)from rfl)
 go_upto_region 2 with fail
 by_cases h0:d.length=0
 · have l0:¬(0:Int)<(d.length:Int):=by omega
   go_wp2_with fail;have hu:xX k v d=dp k v d 0:=qg h0;have av:ER w2 b (xX k v d).1 (xX k v d).2 n:=by rw[hu];exact l.out
   go_end0;exact⟨rfl,av,t.out⟩
 · have l0:(0:Int)<(d.length:Int):=by omega
   obtain⟨k1,ak⟩:=eV (xY k (v++[0]++d));obtain⟨v1,al⟩:=eV (xY k1 v);have ao:=zF ak;have ar:=zF al;rw[ak,al]at l;clear ak al;go_upto_region 3 with fail;rw[show decide (0<d.length)=true from qm (by omega)];obtain⟨u,C,x,cv,q,G,H,I,J⟩:=id l.out;have r:w2.cell? ⟨b,0,none⟩=some (.slice u 32 C):=zP q 0;have vc:w2.cell? ⟨b,1,none⟩=some (.slice x 32 cv):=zP q 1;have y:=zF G;have z:=zF H;have B:=zF I;have p:=zF J;clear q G H I J
   refine zZ (by kernel_rfl) 15 [0,0,2,6,14,0,32,96,224,0,0,2016,4094,8191,16383,32767] [] (fun j f X=>match j with
    | 0=>f 0=.pointer (some ⟨b,0,none⟩)
    | 1=>f 1=.pointer (some ⟨b,0,none⟩)
    | 2=>f 2=.pointer (some ⟨b,0,none⟩)
    | 3=>f 3=.pointer (some ⟨b,0,none⟩)
    | 4=>f 4=.slice u 32 C
    | 5=>f 5=.pointer (some ⟨b,0,none⟩)
    | 6=>f 6=.pointer (some ⟨b,0,none⟩)
    | 7=>f 7=.pointer (some ⟨b,1,none⟩)
    | 8=>f 8=.slice x 32 cv
    | 9=>∃ g,f 9=.slice (some ⟨g,0,none⟩) 1 1∧RB X (fun k=>k<X.heap.size) (some ⟨g,0,none⟩) 1 [1]
    | 10=>f 10=.slice A d.length c
    | 11=>∃ g,f 11=.slice (some ⟨g,0,none⟩) 3 3∧RP X (fun k=>k<X.heap.size) (some ⟨g,0,none⟩) 3 [v1,[1],d]
    | 12=>∃ A c,f 12=.slice A 32 c∧OW X w2.heap.size A c (xY k1 (v1++[1]++d))
    | 13=>f 13=.pointer (some ⟨b,0,none⟩)
    | 14=>f 14=.pointer (some ⟨b,0,none⟩)
    | _=>True) (by kernel_rfl) [(35,0),(36,1),(37,2),(38,3),(39,4),(40,5),(41,6),(42,7),(43,8),(44,9),(45,10),(46,11),(47,12),(48,13),(49,14)] (by kernel_rfl) ?_
   refine zJ 1 14 ?_;refine zJ 2 13 ?_;refine zt 3 12 1 ?_;refine zt 4 11 2 ?_;refine qC 5 10 3 r ?_;refine zJ 6 9 ?_;refine zt 7 8 5 ?_;refine zt 8 7 6 ?_;refine qC 9 6 7 vc ?_;refine zv 10 5 [(35,0),(36,1),(37,2),(38,3),(39,4),(40,5),(41,6),(42,7),(43,8),(45,10)] (fun f X a hR K m=>?_) ?_
   · simp only[yZ];refine⟨?_⟩;go_simp;exact m.out _ _ _ (by simp only[yZ]) (zL _ _) trivial (fun Y o=>⟨_,rfl,(RB.lit8' X [1] (by decide) (by decide) rfl).upE o⟩)
   refine zJ 11 4 ?_;refine zv 12 3 [(35,0),(36,1),(37,2),(38,3),(39,4),(40,5),(41,6),(42,7),(43,8),(44,9),(45,10)] (fun f X a hR K m=>?_) ?_
   · have F:f 8=_:=hR.out 8 rfl;obtain⟨S,(i:f 9=_),s⟩:=hR.out 9 rfl;have D:f 10=_:=hR.out 10 rfl;simp only[yZ,F,i,D];refine⟨?_⟩;go_simp;exact m.out _ _ _ (by simp only[yZ,F,i,D]) (zL _ _) trivial (fun Y o=>⟨_,rfl,(RP.lit3 X (z.out.upE a) s ((aq.out.below a an.out).mono fun k hk=>zH (an.out k hk) a.bsize) p.out rfl rfl).up o⟩)
   refine qK 13 2 (fun f=>#[f 4,f 11]) (F':=84) (fun f X a hR=>?_) ?_
   · have R:f 4=_:=hR.out 4 rfl;obtain⟨aj,(N:f 11=_),aa⟩:=hR.out 11 rfl;simp only[R,N];refine(gQ X (y.out.upE a) B.out aa (fun _ h=>h) (by have:=HL.out;have:=p.out;simp;omega)).mono ?_;rintro e w2 ⟨O,Q,rfl,W,T⟩;exact⟨_,rfl,T,fun Y o=>⟨O,Q,rfl,by have:=(W.mono a.bsize).extE o;simpa using this⟩⟩
   refine zt 14 1 0 ?_;refine zt 15 0 13 ?_;refine yF ⟨fun f X a hR U V=>?_⟩;obtain⟨S,(i:f 9=_),s⟩:=hR 9 (by decide);obtain⟨aj,(N:f 11=_),aa⟩:=hR 11 (by decide);obtain⟨ag,ai,(E:f 12=_),ae⟩:=hR 12 (by decide);have ac:f 14=_:=hR 14 (by decide);simp only[yZ,i,N,E,ac];clear hR U V i N E ac;replace r:=a.cell r;have fr:=(l.out.ext a).free 0;refine zO (fun K m=>⟨zU (by kernel_rfl) ?_⟩);go_simp;refine m.out _ _ ?_;refine zI ?_;have Z:=zBJ l.out a ae (vv _ _);obtain⟨L,M⟩:=Z;replace t:=zF (t.out.trans (M.mono t.out.size));replace l:=zF L;clear L M a ae r vc fr y z B p;generalize X.setCell ⟨b,0,none⟩ (.slice ag 32 ai)=w3 at *;clear s aa;go_upto_region 4 with fail;obtain⟨u,C,x,cv,q,G,H,I,J⟩:=id l.out;have r:w3.cell? ⟨b,0,none⟩=some (.slice u 32 C):=zP q 0;have vc:w3.cell? ⟨b,1,none⟩=some (.slice x 32 cv):=zP q 1;have y:=zF G;have z:=zF H;have B:=zF I;have p:=zF J;clear q G H I J
   refine zZ (by kernel_rfl) 13 [0,0,2,6,14,0,32,96,224,480,1022,2047,4095,8191] [] (fun j f X=>match j with
    | 0=>f 0=.pointer (some ⟨b,0,none⟩)
    | 1=>f 1=.pointer (some ⟨b,0,none⟩)
    | 2=>f 2=.pointer (some ⟨b,0,none⟩)
    | 3=>f 3=.pointer (some ⟨b,0,none⟩)
    | 4=>f 4=.slice u 32 C
    | 5=>f 5=.pointer (some ⟨b,0,none⟩)
    | 6=>f 6=.pointer (some ⟨b,0,none⟩)
    | 7=>f 7=.pointer (some ⟨b,1,none⟩)
    | 8=>f 8=.slice x 32 cv
    | 9=>∃ g,f 9=.slice (some ⟨g,0,none⟩) 1 1∧RP X (fun k=>k<X.heap.size) (some ⟨g,0,none⟩) 1 [v1]
    | 10=>∃ A c,f 10=.slice A 32 c∧OW X w3.heap.size A c (xY (xY k1 (v1++[1]++d)) v1)
    | 11=>f 11=.pointer (some ⟨b,0,none⟩)
    | 12=>f 12=.pointer (some ⟨b,1,none⟩)
    | _=>True) (by kernel_rfl) [(50,0),(51,1),(52,2),(53,3),(54,4),(55,5),(56,6),(57,7),(58,8),(59,9),(60,10),(61,11),(62,12)] (by kernel_rfl) ?_
   refine zJ 1 12 ?_;refine zJ 2 11 ?_;refine zt 3 10 1 ?_;refine zt 4 9 2 ?_;refine qC 5 8 3 r ?_;refine zJ 6 7 ?_;refine zt 7 6 5 ?_;refine zt 8 5 6 ?_;refine qC 9 4 7 vc ?_;refine zv 10 3 [(50,0),(51,1),(52,2),(53,3),(54,4),(55,5),(56,6),(57,7),(58,8)] (fun f X a hR K m=>?_) ?_
   · have F:f 8=_:=hR.out 8 rfl;simp only[yZ,F];refine⟨?_⟩;go_simp;exact m.out _ _ _ (by simp only[yZ,F]) (zL _ _) trivial (fun Y o=>⟨_,rfl,(RP.lit1 X (z.out.upE a) p.out).up o⟩)
   refine qK 11 2 (fun f=>#[f 4,f 9]) (F':=84) (fun f X a hR=>?_) ?_
   · have R:f 4=_:=hR.out 4 rfl;obtain⟨S,(i:f 9=_),s⟩:=hR.out 9 rfl;simp only[R,i];refine(gQ X (y.out.upE a) B.out s (fun _ h=>h) (by have:=p.out;simp;omega)).mono ?_;rintro e w2 ⟨O,Q,rfl,W,T⟩;exact⟨_,rfl,T,fun Y o=>⟨O,Q,rfl,by have:=(W.mono a.bsize).extE o;simpa using this⟩⟩
   refine zt 12 1 0 ?_;refine zt 13 0 11 ?_;refine yF ⟨fun f X a hR U V=>?_⟩;obtain⟨S,(i:f 9=_),s⟩:=hR 9 (by decide);obtain⟨af,ah,(D:f 10=_),ad⟩:=hR 10 (by decide);have E:f 12=_:=hR 12 (by decide);simp only[yZ,i,D,E];clear hR U V i D E;replace vc:=a.cell vc;have fr:=(l.out.ext a).free 1;refine zO (fun K m=>⟨zU (by kernel_rfl) ?_⟩);go_simp;refine m.out _ _ ?_;refine zI ?_;have Z:=zBI l.out a ad (vv _ _);obtain⟨L,M⟩:=Z;replace t:=zF (t.out.trans (M.mono t.out.size));replace l:=zF L;clear L M a ad r vc fr y z B p;generalize X.setCell ⟨b,1,none⟩ (.slice af 32 ah)=w4 at *;have hu:xX k v d=dp (dp k v d 0).1 (dp k v d 0).2 d 1:=qo h0;have au:=zF (show ER w4 b (xX k v d).1 (xX k v d).2 n by rw[hu,HH.out,ao.out,ar.out];exact l.out);clear hu l s;go_wp2_with fail;go_end0;exact⟨rfl,au.out,t.out⟩
theorem jg (w:World)(cs:Array Value)(t:TypeId) :
 js (((w.alloc (.cells (madeCells #[.int .u8 0] 32) 5)).alloc (.cells (madeCells #[.int .u8 0] 32) 5)).alloc (.cells cs t)) w.heap.size (List.replicate 32 0) ∧
 js (((w.alloc (.cells (madeCells #[.int .u8 0] 32) 5)).alloc (.cells (madeCells #[.int .u8 0] 32) 5)).alloc (.cells cs t)) (w.heap.size+1) (List.replicate 32 0) ∧
 (((w.alloc (.cells (madeCells #[.int .u8 0] 32) 5)).alloc (.cells (madeCells #[.int .u8 0] 32) 5)).alloc (.cells cs t)).heap[w.heap.size+1+1]?=some (.cells cs t (0,0)) ∧
 Ext w (((w.alloc (.cells (madeCells #[.int .u8 0] 32) 5)).alloc (.cells (madeCells #[.int .u8 0] 32) 5)).alloc (.cells cs t)):=by
 have a:=js.made (w.alloc (.cells (madeCells #[.int .u8 0] 32) 5)) 32
 have b:=zS ((w.alloc (.cells (madeCells #[.int .u8 0] 32) 5)).alloc (.cells (madeCells #[.int .u8 0] 32) 5)) (.cells cs t)
 rw[zz]at a
 rw[zz,zz]at b
 exact⟨(zL _ _).at_ ((zL _ _).at_ (js.made w 32)),(zL _ _).at_ a,b,((zL _ _).trans (zL _ _)).trans (zL _ _)⟩
theorem tD {k:Nat}(h:k<32):List.set (List.replicate k 1++List.replicate (32-k) 0:List Nat) k 1=List.replicate (k+1) 1++List.replicate (32-(k+1)) 0:=by
 rw[show 32-k=(32-(k+1))+1 by omega,List.replicate_succ (n:=32-(k+1)),kM _ _ (by simp),List.replicate_succ' (n:=k)];simp
theorem nP {P:Nat→Prop}{A:Option Addr}{c:Nat}{d:List Nat}(w:World)(v:RB w P A c d)(q:∀ k,P k→k<w.heap.size)(F:d.length≤200000) :
 Calls Tryz.prog 19 #[.slice A d.length c] w fun e w'=>∃ b,e=.returned (.pointer (some ⟨b,0,none⟩))∧w.heap.size≤b∧ER w' b (yH d).1 (yH d).2 0∧Ext w w':=by
 have D:=zF v
 have p:=zF q
 clear v q
 have u:=qt (P:=Tryz.prog) 22 5 (.int .u8 0) 1 Tryz.underlying22 ub rfl .i64 .i64 32 (by omega) (by omega)
 simp only[qO]at u
 go_enter Tryz.func19,Tryz.ntmps19
 go_upto_region 1 with fail
 go_cut [3]from 4 (fun s3 wx=>∃ b m a:Nat,s3=.pointer (some ⟨b,0,none⟩)∧m≠a∧b≠a∧w.heap.size≤b∧w.heap.size≤a∧Hid (js wx m (List.replicate 32 0))∧Hid (js wx a (List.replicate 32 0))∧Hid (wx.heap[b]?=some (.cells #[.slice (some ⟨m,0,none⟩) 32 32,.slice (some ⟨a,0,none⟩) 32 32,.int .i64 0] 89 (0,0)))∧Hid (Ext w wx))
 case first =>
  go_region_with fail
  all_goals
   go_wp2_with fail;go_meet
   case rel=>first
    | exact⟨_,_,_,rfl,by omega,by omega,by omega,by omega,zF ((vR _).at_ (jg w _ _).1),zF ((vR _).at_ (jg w _ _).2.1),zF ((vR _).at_ (jg w _ _).2.2.1),zF ((jg w _ _).2.2.2.trans (vR _))⟩
    | exact⟨_,_,_,rfl,by omega,by omega,by omega,by omega,zF ((vR _).at_ (jg w _ _).2.1),zF ((vR _).at_ (jg w _ _).1),zF ((vR _).at_ (jg w _ _).2.2.1),zF ((jg w _ _).2.2.2.trans (vR _))⟩
    | exact⟨_,_,_,rfl,by omega,by omega,by omega,by omega,zF ((kE _ _).at_ (jg w _ _).1),zF ((kE _ _).at_ (jg w _ _).2.1),zF ((kE _ _).at_ (jg w _ _).2.2.1),zF ((jg w _ _).2.2.2.trans (kE _ _))⟩
    | exact⟨_,_,_,rfl,by omega,by omega,by omega,by omega,zF ((kE _ _).at_ (jg w _ _).2.1),zF ((kE _ _).at_ (jg w _ _).1),zF ((kE _ _).at_ (jg w _ _).2.2.1),zF ((jg w _ _).2.2.2.trans (kE _ _))⟩
    | exact⟨_,_,_,rfl,by omega,by omega,by omega,by omega,zF ((zT _).at_ (jg w _ _).1),zF ((zT _).at_ (jg w _ _).2.1),zF ((zT _).at_ (jg w _ _).2.2.1),zF ((jg w _ _).2.2.2.trans (zT _))⟩
    | exact⟨_,_,_,rfl,by omega,by omega,by omega,by omega,zF ((zT _).at_ (jg w _ _).2.1),zF ((zT _).at_ (jg w _ _).1),zF ((zT _).at_ (jg w _ _).2.2.1),zF ((jg w _ _).2.2.2.trans (zT _))⟩
 case rest =>
  obtain⟨b,m,a,rfl,G,I,r,J,l,h,HB,f⟩:=hcut;clear u;go_wp2_with fail;go_loopw [4] (fun s4 wx=>∃ k:Nat,s4=.int .i64 (k:Int)∧k≤32∧Hid (js wx m (List.replicate 32 0))∧Hid (js wx a (List.replicate k 1++List.replicate (32-k) 0))∧Hid (wx.heap[b]?=some (.cells #[.slice (some ⟨m,0,none⟩) 32 32,.slice (some ⟨a,0,none⟩) 32 32,.int .i64 0] 89 (0,0)))∧Hid (Ext w wx)) (fun s4 _=>(32-intOf s4).toNat);case atStart=>exact⟨0,rfl,by omega,l,h,HB,f⟩
  case round =>
   clear l h HB f;obtain⟨k,rfl,t,l,h,HB,f⟩:=hrel;by_cases hlt:k<32
   · have M:(k:Int)<32:=by omega
     have vc:wr.cell? ⟨b,1,none⟩=some (.slice (some ⟨a,0,none⟩) 32 32):=zP HB.out 1;have K:=h.out.cell (i:=k) (by simp;omega);have L:=h.out.free k;have j:=(q9 a wr).set k (.int .u8 1)
     have E:=zF (show js (wr.setCell ⟨a,k,none⟩ (.int .u8 1)) a (List.replicate (k+1) 1++List.replicate (32-(k+1)) 0) by
      have:=h.out.set k 1
      rw[tD hlt]at this
      exact this)
     have C:=zF (show js (wr.setCell ⟨a,k,none⟩ (.int .u8 1)) m (List.replicate 32 0)from j.at_ G l.out);have x:=zF (j.at_ I HB.out);have z:=zF (j.ext f.out J);clear j l h HB f;go_wp2_with fail;go_roundw;case rel=>exact⟨k+1,by go_num,by omega,C,E,x,z⟩
     case measure=>simp[intOf];omega
   · obtain rfl:k=32:=by omega
     rw[show((32:Nat):Int)=32 from rfl];have o:js wr a (List.replicate 32 1):=by simpa using h.out
     have n:ER wr b (List.replicate 32 0) (List.replicate 32 1) 0:=⟨_,_,_,_,HB.out,by simpa using l.out.rb (P:=fun g=>g<wr.heap.size) (qd l.out) (by simp) (by simp),by simpa using o.rb (P:=fun g=>g<wr.heap.size) (qd o) (by simp) (by simp),by simp,by simp⟩
     have H:=zF (cF wr n (D.out.below f.out p.out) (fun k t=>zH (p.out k t) f.out.bsize) F);clear o n l h HB;go_wp2_with fail;refine H.out.mono ?_;rintro e N ⟨rfl,n,s⟩;have y:=zF n;have B:=zF (s.ext' f.out r f.out.bsize);clear n s H;go_wp2_with fail;go_ret;exact⟨b,rfl,r,y.out,B.out⟩
def CL (w:World) (F b:Nat) (k v:List Nat) (n:Int) (A:Option Addr) (c:Nat) (out:List Nat):Prop :=
 ∃ a e d cv,w.heap[b]?=some (.cells #[.slice a 32 e,.slice d 32 cv,.int .i64 n] 89 (0,0))∧RB w (fun g=>g<F) a e k∧F≤w.heap.size∧RB w (fun g=>g<w.heap.size) d cv v∧k.length=32∧v.length=32∧OW w F A c out
theorem CL.er {w:World}{F b c:Nat}{k v out:List Nat}{n:Int}{A:Option Addr}(h:CL w F b k v n A c out):ER w b k v n:=by
 obtain⟨a,e,d,cv,f,g,m,i,j,l,_⟩:=h;exact⟨a,e,d,cv,f,g.mono fun _ o=>zH o m,i,j,l⟩
theorem CL.ow {w:World}{F b c:Nat}{k v out:List Nat}{n:Int}{A:Option Addr}(h:CL w F b k v n A c out):OW w F A c out:=let ⟨_,_,_,_,_,_,_,_,_,_,h⟩:=h;h
theorem ER.cl {w:World}{b:Nat}{k v:List Nat}{n:Int}(h:ER w b k v n):CL w w.heap.size b k v n none 0 []:=by
 obtain⟨a,d,c,cv,e,f,g,i,j⟩:=h;exact⟨a,d,c,cv,e,f,zG _,g,i,j,⟨⟨by simp[bys],.inl ⟨rfl,rfl⟩⟩,by simp⟩⟩
theorem OW.erb {w X:World}{b:Nat}{cs:Array Value}{A:Option Addr}{c base:Nat}{l:List Nat}(h:OW w base A c l)(f:jE b w X)(d:w.heap[b]?=some (.cells cs 89 (0,0))):OW X base A c l :=
 h.same fun g _ cs' a=>f.at_ (fun e=>by
  rw[e,d]at a
  injection jU a with _ e2
  exact absurd e2 (by decide)) a
theorem zCR {w:World}{b g base c:Nat}{cs:Array Value}{A:Option Addr}{l:List Nat}(d:w.heap[b]?=some (.cells cs 89 (0,0)))(h:OW w base A c l)(f:(Value.slice A l.length c).ownBlock=some g):b≠g:=by
 intro e;obtain⟨_,cs',a⟩:=h.own f;rw[←e,d]at a;injection jU a with _ e2
 exact absurd e2 (by decide)
theorem CL.turn {w d:World}{F b c c':Nat}{k v i out:List Nat}{n:Int}{A A':Option Addr}(h:CL w F b k v n A c out)(a:Ext w d)(z:OW d w.heap.size A' c' i)(y:i.length=32) :
 CL (d.setCell ⟨b,1,none⟩ (.slice A' 32 c')) F b k i n A c out∧OW (d.setCell ⟨b,1,none⟩ (.slice A' 32 c')) w.heap.size A' c' i∧(d.setCell ⟨b,1,none⟩ (.slice A' 32 c')).cell? ⟨b,1,none⟩=some (.slice A' 32 c')∧(∀ g,(Value.slice A out.length c).ownBlock=some g→g<w.heap.size):=by
 have u:=h.er.ext a
 obtain⟨p,q,B,cv,r,s,l,C,t,D,m⟩:=h
 have j:=(q9 b d).set 1 (.slice A' 32 c')
 have f:=a.at_ r
 have o:=z.erb j f
 exact⟨⟨p,q,A',c',jA f 1 _,(s.below a (fun _ e=>zH e l)).er (fun _ e=>zH e (zK l a.bsize)) u (ER.frS _ _),zK l (zK a.bsize (ER.frS (b:=b) 1 (.slice A' 32 c')).size),o.rb' (by omega),t,y,(m.same fun g _ cs x=>a.at_ x).erb j f⟩,o,by rw[zP (jA f 1 _) 1];rfl,fun g e=>let ⟨_,cs,hc⟩:=m.own e;qd hc⟩
theorem CL.app {w w':World}{F B b c j:Nat}{k v out:List Nat}{n:Int}{A A' i:Option Addr}{c':Nat}(h:CL w F b k v n A c out)(q:OW w B A' c' v)(C:w.cell? ⟨b,1,none⟩=some (.slice A' 32 c'))(z:∀ g,(Value.slice A out.length c).ownBlock=some g→g<B)
 (d:w.grownBy w' (Value.slice A out.length c).ownBlock) (D:OW w' F i j (out++v)):CL w' F b k v n i j (out++v):=by
 obtain⟨r,s,I,cv,a,t,m,J,u,x,l⟩:=h
 have f:=zP a 1
 rw[C]at f
 simp only[zQ,ze,qe,Option.some.injEq,Value.slice.injEq]at f
 obtain⟨rfl,_,rfl⟩:=f
 have H:=(d.block b (qd a) (fun e=>zCR a l e.symm rfl)).trans a
 refine⟨r,s,A',c',H,t.keep fun p E=>qB (d.block _ (zH E m) (fun e=>?_)),zK m d.size,(q.keepOwn fun g cs G o=>(d.block g (qd o) (fun e=>?_)).trans o).rb' (by omega),u,x,D⟩
 · have y:=(l.own e.symm).1;omega
 · have K:=(q.own G).1;have y:=z g e.symm;omega
theorem pB {b m:Nat}{k v:List Nat}{num:Int}(w:World)(Q:ER w b k v num)(hm:0<m)(aQ:m≤65536)(hn:0≤num)(aR:num<1000000000) :
 Calls Tryz.prog 113 #[.pointer (some ⟨b,0,none⟩),.int .i64 (m:Int)] w fun e w'=>∃ A c,e=.returned (.slice A m c)∧RB w' (In w.heap.size w'.heap.size) A c ((kQ k v ((m+31)/32)).take m)∧ER w' b (xX k (dvs k v ((m+31)/32)) []).1 (xX k (dvs k v ((m+31)/32)) []).2 (num+1)∧Fr b w.heap.size w w':=by
 have ab:=zF Q.cl
 have aO:=zF Q
 have m1:¬(m:Int)<1:=by omega
 have m2:¬(65536:Int)<(m:Int):=by omega
 clear Q
 go_enter Tryz.func113,Tryz.ntmps113
 go_wp2_with fail
 go_loopw [5] (fun sv wr=>∃(q:Nat) (A:Option Addr) (c:Nat),sv=.slice A (kQ k v q).length c∧32*q<m+32∧Hid (CL wr w.heap.size b k (dvs k v q) num A c (kQ k v q))∧Hid (Fr b w.heap.size w wr)) (fun sv _=>m+32-(match sv with | .slice _ l _=>l|_=>0))
 case atStart=>exact⟨0,none,0,rfl,by omega,ab,zF (Fr.refl _ _ _)⟩
 case round =>
  clear ab;obtain⟨q,A,c,rfl,hq,HB,r⟩:=hrel;have y:=ue k v q;by_cases hlt:32*q<m
  · have S:((kQ k v q).length:Int)<(m:Int):=by omega
    have z:=zF HB.out.er;have i:=zF y;have B:=zF (show xY k (dvs k v q)=dvs k v (q+1)from rfl);have af:=zF (show kQ k v (q+1)=kQ k v q++dvs k v (q+1)from rfl);have p:(kQ k v (q+1)).length=32*q+32:=by rw[ue];omega
    have aE:=zF p;have L:=zF r.out.size;obtain⟨o,E⟩:=eV (kQ k v q);obtain⟨v0,aM⟩:=eV (dvs k v q);rw[E]at HB i af S y;rw[aM]at HB z B;rw[E];clear y p;go_upto_region 5 with fail;obtain⟨l,p⟩:=eV o.length;rw[p];rw[p]at S i;obtain⟨G,J,Av,cv,t,h2,h3,h4,h5⟩:=id z.out;have kc:wr.cell? ⟨b,0,none⟩=some (.slice G 32 J):=zP t 0;have vc:wr.cell? ⟨b,1,none⟩=some (.slice Av 32 cv):=zP t 1;have u:=zF h2;have H3:=zF h3;have H4:=zF h4;have H:=zF h5;clear t h2 h3 h4 h5
    refine zZ (by kernel_rfl) 13 [0,0,2,6,14,0,32,96,224,480,1022,2047,4095,8191] [] (fun j f X=>match j with
     | 0=>f 0=.pointer (some ⟨b,0,none⟩)
     | 1=>f 1=.pointer (some ⟨b,0,none⟩)
     | 2=>f 2=.pointer (some ⟨b,0,none⟩)
     | 3=>f 3=.pointer (some ⟨b,0,none⟩)
     | 4=>f 4=.slice G 32 J
     | 5=>f 5=.pointer (some ⟨b,0,none⟩)
     | 6=>f 6=.pointer (some ⟨b,0,none⟩)
     | 7=>f 7=.pointer (some ⟨b,1,none⟩)
     | 8=>f 8=.slice Av 32 cv
     | 9=>∃ g,f 9=.slice (some ⟨g,0,none⟩) 1 1∧RP X (fun k=>k<X.heap.size) (some ⟨g,0,none⟩) 1 [v0]
     | 10=>∃ A c,f 10=.slice A 32 c∧OW X wr.heap.size A c (xY k v0)
     | 11=>f 11=.pointer (some ⟨b,0,none⟩)
     | 12=>f 12=.pointer (some ⟨b,1,none⟩)
     | _=>True) (by kernel_rfl) [(16,0),(17,1),(18,2),(19,3),(20,4),(21,5),(22,6),(23,7),(24,8),(25,9),(26,10),(27,11),(28,12)] (by kernel_rfl) ?_
    refine zJ 1 12 ?_;refine zJ 2 11 ?_;refine zt 3 10 1 ?_;refine zt 4 9 2 ?_;refine qC 5 8 3 kc ?_;refine zJ 6 7 ?_;refine zt 7 6 5 ?_;refine zt 8 5 6 ?_;refine qC 9 4 7 vc ?_;refine zv 10 3 [(16,0),(17,1),(18,2),(19,3),(20,4),(21,5),(22,6),(23,7),(24,8)] (fun f X a hR K N=>?_) ?_
    · have e8:f 8=_:=hR.out 8 rfl;simp only[yZ,e8];refine⟨?_⟩;go_simp;exact N.out _ _ _ (by simp only[yZ,e8]) (zL _ _) trivial (fun Y O=>⟨_,rfl,(RP.lit1 X (H3.out.upE a) H.out).up O⟩)
    refine qK 11 2 (fun f=>#[f 4,f 9]) (F':=84) (fun f X a hR=>?_) ?_
    · have e4:f 4=_:=hR.out 4 rfl;obtain⟨g9,(D:f 9=_),Z⟩:=hR.out 9 rfl;simp only[e4,D];refine(gQ X (u.out.upE a) H4.out Z (fun _ h=>h) (by have:=H.out;simp;omega)).mono ?_;rintro e w2 ⟨F,I,rfl,E,hE⟩;exact⟨_,rfl,hE,fun Y O=>⟨F,I,rfl,by have:=(E.mono a.bsize).extE O;simpa using this⟩⟩
    refine zt 12 1 0 ?_;refine zt 13 0 11 ?_;refine yF ⟨fun f X a hR aI aJ=>?_⟩;obtain⟨g9,(D:f 9=_),Z⟩:=hR 9 (by decide);obtain⟨aa,ah,(ai:f 10=_),W⟩:=hR 10 (by decide);have aj:f 12=_:=hR 12 (by decide);simp only[yZ,D,ai,aj];clear hR aI aJ D ai aj;replace vc:=a.cell vc;have fr:=(z.out.ext a).free 1;refine zO (fun K N=>⟨zU (by kernel_rfl) ?_⟩);go_simp;refine N.out _ _ ?_;refine zI ?_;obtain⟨v',U⟩:=eV (xY k v0);have V:v'.length=32:=by rw[←U];exact vv _ _
    rw[U]at W B;obtain⟨an,ax,aK,av⟩:=HB.out.turn a W V;have n:=(jc a (zG _)).trans (xT ((q9 b X).set 1 (.slice aa 32 ah)) a.bsize);have s:=zF (r.out.trans (n.mono L.out));have ac:=zF an;have ae:=zF ax;have aF:=zF av;have C:=zF V;clear an ax av V n a W HB r z u H3 H4 H fr vc kc Z U;generalize X.setCell ⟨b,1,none⟩ (.slice aa 32 ah)=X1 at *;go_upto_region 6 with fail;have ak:=zF ac.out.ow;have aH:=zF (ae.out.rb (by rw[C.out];omega));have aL:=zF (show o.length+v'.length≤100000000 by rw[C.out,p,i.out];omega);have ao:=zF s.out.size;go_wp2_with (at_builtin;refine oS rfl (.tmp 29) (.tmp 33) rfl w.heap.size (by rw[p];rfl) ak.out (by rw[C.out];rfl) aH.out aL.out ao.out ?_;intro F I W2 au ar;have aC:=zF au;have ad:=zF ar;clear au ar);have P:=ac.out.app ae.out aK aF.out ad.out aC.out;have e1:o++v'=kQ k v (q+1):=by rw[af.out,←B.out]
    rw[e1,B.out]at P;have ay:=zF P;have aB:=zF (s.out.trans (jc (b:=b) (Below.grown (zo w.heap.size X1) ad.out ao.out (ua ak.out.1)) (zG _)));have E1:=zF (show l+32=(kQ k v (q+1)).length by rw[aE.out,i.out]);have ag:=C.out;clear P e1;go_roundw;case rel=>exact⟨q+1,F,I,by rw[←E1.out,←ag],by omega,ay,aB⟩
    case measure=>simp[p,ag];have:=i.out;omega
  · obtain⟨M,hM⟩:=eV ((m+31)/32);obtain rfl:q=M:=by omega
    have HM:=zF hM;have S:¬((kQ k v q).length:Int)<(m:Int):=by omega
    have u:=zF (cF (d:=[]) wr HB.out.er (RB.nil_ wr (fun _=>False)) (fun _ h=>h.elim) (by simp));have i:=zF y;have T:=HB.out.ow.rb (by omega);have L:=r.out.size;clear y hM;go_wp2_with fail;refine u.out.mono ?_;rintro e w1 ⟨rfl,x,n⟩;have al:=zF (T.er (fun _ R=>R.2) HB.out.er n);have s:=zF (r.out.trans (n.mono L));obtain⟨G,J,aN,aP,t,_⟩:=id x;have nc:=zP t 2;simp only[zQ,ze,qe]at nc;have fr:=x.free 2;have ap:=x.setN (num+1);have aq:=s.out.trans ((xT (b:=b) ((q9 b w1).set 2 (.int .i64 (num+1))) (zG _)).mono s.out.size);have am:=al.out.er (fun _ R=>zH R.2 n.size) x (xT (b:=b) ((q9 b w1).set 2 (.int .i64 (num+1))) (zG _));have az:=zF ap;have aA:=zF aq;have aD:=zF am;have hc:=T.cap;have b1:(0:Int)≤(m:Int):=by omega
    have b2:(m:Int)≤(c:Int):=by have:=i.out;omega
    have aS:=qu (num+1) (by omega);have aG:wr.heap.size≤(w1.setCell ⟨b,2,none⟩ (.int .i64 (num+1))).heap.size:=by simpa[World.setCell]using n.size
    clear x n ap aq am t T u HB r al s;go_upto_region 9 with fail;go_wp2_with fail;go_ret;rw[HM.out];have aw:=aD.out.mid' (k:=0) (m:=m) (c':=c) (by omega) (by have:=i.out;omega) (by have:=i.out;omega) (by have:=hc.2.1;unfold maxLen;omega) (A':=A) (fun _=>by cases A<;>simp[Addr.add]);rw[List.drop_zero,Nat.sub_zero]at aw;exact⟨A,c,rfl,aw.mono fun g hg=>⟨hg.1,zH hg.2 aG⟩,az.out,aA.out⟩
end Go.Proofs.YtaemogcomplhiaaGreatDoor
namespace Go.Proofs.YtaemogcomplhiaaGreatDoor
open Go.RowKit
theorem aY {x:Nat}(b:0<x):0<dg (digs 4294967296 x) ((digs 4294967296 x).length-1):=by
 have a:digs 4294967296 x≠[]:=by rw[jq (by omega) b];simp
 have h:=uf (B:=4294967296) (by omega) x a;have c:=List.length_pos_iff.2 a;rw[List.getLast_eq_getElem]at h;rw[dg,ja (by omega)];omega
theorem tJ (t k:Nat):t/2^k/2=t/2 ^(k+1):=by rw[yM,zx]
theorem cI (P:Nat→Prop)(A:Option Addr)(c:Nat)(x:Nat)(w:World)(h:RN w P A c (digs 4294967296 x)) :
 Calls Tryz.prog 39 #[.slice A (digs 4294967296 x).length c] w fun e w'=>e=.returned (.int .i64 (qD x:Int))∧w=w':=by
 rcases za x with rfl|d
 · rw[qW];go_enter Tryz.func39,Tryz.ntmps39;go_wp2;go_ret;exact⟨rfl,rfl⟩
 · have b:=fun k v g q=>av (m:=32) (by omega) d (k:=k) v g q;have o:=aY d;have r:=xU x;obtain⟨g,q,K⟩:=h.cap;have M:0<(digs 4294967296 x).length:=by rw[jq (by omega) d];simp
   rw[show(2:Nat)^32=4294967296 by decide]at b;generalize digs 4294967296 x=l at *;obtain⟨n,j⟩:∃ n,l.length=n+1:=⟨l.length-1,by omega⟩
   obtain⟨ad,rfl,_,S⟩:=h.at_ (i:=n) (by omega);rw[j,kG]at b o;have y:=r.dgLt n;generalize dg l n=t at *;rw[j]at g K ⊢;have J:=zF b;have I:=zF o;clear b o d j M h r;have p:=zF y;clear y;go_enter Tryz.func39,Tryz.ntmps39;go_wp2;go_loop [4,5] (fun kv tv=>∃ k z:Nat,kv=.int .i64 (k:Int)∧tv=.int .u64 (z:Int)∧Hid (z=t/2^k)∧Hid (z<4294967296)∧k≤32∧(k=0∨2 ^(k-1)≤t)) (fun kv _=>(33-intOf kv).toNat);case atStart=>exact⟨0,t,rfl,rfl,zF (by simp),p,by omega,.inl rfl⟩
   case round =>
    obtain⟨k,z,rfl,rfl,f,N,v,C⟩:=hrel;have H:=zF C;clear C;by_cases h0:z=0
    · have s:qD x=32*n+k:=by
       have e:=f.out;rw[h0]at e;have B:t<2^k:=by
        rcases qH t (2^k)with h|h
        · exact h
        · have:=Nat.div_pos h (qS (by omega));omega
       have L:0<k:=by
        rcases za k with rfl|h
        · have:=I.out;simp at B;omega
        · exact h
       rcases H.out with h|h
       · omega
       · exact J.out k L h B
      have F:=zF s;subst h0;clear s;go_wp2;go_ret;exact⟨bD (by rw[F.out];simp),rfl⟩
    · have R:k<32:=by
       rcases qH k 32 with h|h
       · exact h
       · exfalso;apply h0;rw[f.out];exact ql (zH p.out (by rw[show(4294967296:Nat)=2^32 by decide];exact qE (by omega) h))
      have u:2^k≤t:=by
       rcases qH t (2^k)with h|h
       · exfalso;apply h0;rw[f.out];exact ql h
       · exact h
      have G:=zF u;obtain⟨a,D,Q⟩:∃ a:Nat,z/2=a∧(z:Int)/2=(a:Int):=⟨z/2,rfl,by omega⟩
      have O:Hid (a=t/2 ^(k+1)):=zF (by rw[←D,f.out,tJ]);have E:Hid (a<4294967296):=zF (by have:=N.out;omega);have p1:(0:Int)<(z:Int):=by omega
      clear u D h0;go_wp2;go_round;case rel=>exact⟨k+1,a,by go_num,by first|rfl|exact congrArg (Value.int .u64) (qf _ (by have:=E.out;omega)),O,E,by omega,.inr (by rw[kG];exact G.out)⟩
      case measure=>simp[intOf];omega
theorem tmod2 (d j:Nat):((d:Int)/2^j).tmod 2=((d/2^j%2:Nat):Int):=by
 rw[show(d:Int)/2^j=((d/2^j:Nat):Int) by simp];generalize d/2^j=z;rw[Int.tmod_eq_emod_of_nonneg (by omega)];omega
theorem mod2 (d j:Nat):IntKind.u64.wrap ((d:Int)/2^j%2)=((d/2^j%2:Nat):Int):=by
 rw[show(d:Int)/2^j%2=((d/2^j%2:Nat):Int) by simp];generalize d/2^j=z;exact qf _ (by omega)
theorem pA (P:Nat→Prop)(A:Option Addr)(c:Nat)(x:Nat)(i:Int)(w:World)(h:RN w P A c (digs 4294967296 x))(o:i≤9223372036854775807) :
 Calls Tryz.prog 41 #[.slice A (digs 4294967296 x).length c,.int .i64 i] w fun e w'=>e=.returned (.int .u64 (uK x i:Int))∧w=w':=by
 obtain⟨y,z,C⟩:=h.cap
 have s:=zi (B:=4294967296) (by omega) x
 have g:=xU x
 generalize digs 4294967296 x=a at *
 by_cases h0:i<0
 · have b:=zF (show uK x i=0 by simp[uK,h0]);go_enter Tryz.func41,Tryz.ntmps41;go_wp2;go_ret;rw[b.out];exact⟨rfl,rfl⟩
 · obtain⟨n,rfl⟩:∃ n:Nat,i=(n:Int):=⟨i.toNat,by omega⟩
   obtain⟨k,j,q,l⟩:∃ k j,j<32∧n=32*k+j:=⟨n/32,n%32,by omega,by omega⟩
   have b:uK x (n:Int)=dg a k/2^j%2:=by
    have:=rG (m:=32) a g k j q;rw[show(2:Nat)^32=4294967296 by decide,s]at this;rw[uK,qo h0,yx,l];exact this
   have p:(n:Int)/32=(k:Int):=by omega
   have t:(n:Int)%32=(j:Int):=by omega
   have v:IntKind.i64.wrap ((n:Int)/32)=(k:Int):=by rw[p];exact qu _ (by omega)
   by_cases hk:k<a.length
   · obtain⟨ad,rfl,_,G⟩:=h.at_ hk;have d:=h.2.dgLt k;have u:=mod2 (dg a k) j;have D:(j:Int)<32:=by omega
     have r:(k:Int)<(a.length:Int):=by omega
     have f:=zF b;clear b l d h o g;go_enter Tryz.func41,Tryz.ntmps41;go_wp2;go_ret;exact⟨bD (by rw[f.out];exact tmod2 _ _),rfl⟩
   · have d:dg a k=0:=vJ (by omega);rw[d,Nat.zero_div]at b;have f:=zF b;have r:¬(k:Int)<(a.length:Int):=by omega
     have E:(a.length:Int)≤(k:Int):=by omega
     have F:(k:Int)≤288230376151711743:=by omega
     clear b l d h o g;go_enter Tryz.func41,Tryz.ntmps41;go_wp2;go_ret;rw[f.out];exact⟨rfl,rfl⟩
def fT (x n:Nat) (o:List Nat) (k:Nat):Prop:=o.length=n∧(∀ j,j<n→n-1-j<k→dg o j=x/2 ^(8*(n-1-j))%256)∧(∀ j,k≤n-1-j→dg o j=0)∧∀ b∈o,b<256
theorem fT.zero (x n:Nat):fT x n (List.replicate n 0) 0:=by
 refine⟨by simp,fun j _ c=>by omega,fun j _=>?_,fun b a=>by simp at a;omega⟩;rw[dg,zy,List.getElem?_replicate];split<;>rfl
theorem fT.step {x n:Nat}{o:List Nat}{k b:Nat}(h:fT x n o k)(l:k<n)(f:x/2 ^(8*k)%256=b):fT x n (o.set (n-1-k) b) (k+1):=by
 obtain⟨a,c,d,e⟩:=h;refine⟨by simpa using a,fun j i g=>?_,fun j g=>by rw[getD_set_ne (by omega)];exact d j (by omega),xF e (by omega)⟩;rcases qH (n-1-j) k with h|h
 · rw[getD_set_ne (by omega)];exact c j i h
 · obtain rfl:j=n-1-k:=by omega
   rw[vz (by omega),show n-1-(n-1-k)=k by omega];exact f.symm
theorem fT.fin {x n:Nat}{o:List Nat}{k:Nat}(h:fT x n o k)(f:∀ j,k≤j→j<n→x/2 ^(8*j)%256=0):o=bytesOf x n:=by
 obtain⟨a,b,c,_⟩:=h;apply List.ext_getElem (by rw[a,vN]);intro i d g;have e:dg o i=x/2 ^(8*(n-1-i))%256:=by
  rcases qH (n-1-i) k with h|h
  · exact b i (by omega) h
  · rw[c i h,f _ h (by omega)]
 rw[dg,ja d]at e;rw[e];simp[bytesOf]
end Go.Proofs.YtaemogcomplhiaaGreatDoor
namespace Go.Proofs.YtaemogcomplhiaaGreatDoor
open Go.RowKit
open Sha
theorem pC {b q y:Nat}{P:Nat→Prop}{A:Option Addr}{c:Nat}{k v:List Nat}{num:Int}(w:World)(z:ER w b k v num)(h:RN w P A c (digs 4294967296 y))(K:∀ b,P b→b<w.heap.size)(ad:¬ P b)(hq:qD y=q)(aj:0<q)(ak:q≤4096)(ag:0<y)(O:0≤num)(Q:num<1000000000) :
 Calls Tryz.prog 83 #[.pointer (some ⟨b,0,none⟩),.slice A (digs 4294967296 y).length c] w fun e w'=>∃ d i r m,m=(q+71)/8∧r=kO ((kQ k v ((m+31)/32)).take m)%y∧e=.returned (.slice d (digs 4294967296 r).length i) ∧
  RU w' d i (digs 4294967296 r)∧ER w' b (xX k (dvs k v ((m+31)/32)) []).1 (xX k (dvs k v ((m+31)/32)) []).2 (num+1)∧Fr b w.heap.size w w':=by
 have H:=zF (cI P A c y w h)
 rw[hq]at H
 obtain⟨m,N⟩:=eV ((q+71)/8)
 have ai:((q:Int)+71)/8=(m:Int):=by omega
 have HB:=zF (pB (m:=m) w z (by omega) (by omega) O Q)
 have F:=zF N
 have I:=zF h
 have HD:=zF z
 have G:=zF K
 obtain⟨ly,C⟩:=eV (digs 4294967296 y)
 rw[C]at H I ⊢
 have J:=zF C
 clear z h K N O Q C
 go_enter Tryz.func83,Tryz.ntmps83
 go_wp2_with fail
 refine H.out.mono ?_
 rintro e w1 ⟨rfl,rfl⟩
 clear H
 go_wp2_with fail
 refine HB.out.mono ?_
 rintro e w2 ⟨W,c1,rfl,l,L,M⟩
 have B:((kQ k v ((m+31)/32)).take m).length=m:=by rw[zh,ue];omega
 obtain⟨bs,x⟩:=eV ((kQ k v ((m+31)/32)).take m)
 rw[x]at l B
 have n:=zF (dY _ W c1 bs w2 l (fun g a=>a.2) (by omega))
 rw[B]at n
 have Z:=zF L
 have f:=zF M
 have Y:=zF x
 have ae:=l.2.1
 clear l L M x HB
 go_wp2_with fail
 refine n.out.mono ?_
 rintro e w3 ⟨d,i,rfl,R,j⟩
 have ah:(digs 4294967296 (kO bs)).length≤m:=qR (by omega) (zH (n9 ae) (by rw[B];exact Nat.pow_le_pow_left (by omega) m))
 have U:RN w2 P A c ly:=I.out.keep fun p T=>qB (f.out.block _ (G.out _ T) (fun e=>ad (e▸T)))
 have t:∀ g,P g→g<w2.heap.size:=fun g a=>zH (G.out g a) f.out.size
 have D:RU w3 A c ly:=(U.below j t).mono fun g a=>zH (t g a) j.size
 rw[←J.out]at D
 have o:=xg d A i c (kO bs) y w3 (R.rn.mono fun g a=>a.2) D (by have:=F.out;omega) ag
 rw[J.out]at o
 have E:=zF o
 have s:=zF j
 clear R j U t n D o
 go_wp2_with fail
 refine E.out.mono ?_
 rintro e w4 ⟨X,c4,rfl,S,u⟩
 have ac:=zF S
 have aa:=zF ((Z.out.ext s.out).ext u)
 have V:=f.out.size
 have af:=s.out.size
 have ab:=zF ((f.out.trans (jc (b:=b) s.out V)).trans (jc (b:=b) u (zK V af)))
 clear S u E
 go_wp2_with fail
 go_ret
 exact⟨X,c4,_,m,F.out.symm,by rw[Y.out],rfl,ac.out,aa.out,ab.out⟩
end Go.Proofs.YtaemogcomplhiaaGreatDoor
namespace Go.Proofs.YtaemogcomplhiaaGreatDoor.Ec
open Go.RowKit Go.Shelf
attribute [local go_sem] Oper.semAt_some
theorem pZ {x:Nat}(h:0<x):0<(digs 4294967296 x).length:=by
 rcases za (digs 4294967296 x).length with a|a
 · have c:=qV a;have b:=zi (B:=4294967296) (by decide) x;rw[c]at b;simp[val]at b;omega
 · exact a
theorem zAV {c:Int}{C:Crv}(g:IsU c C)(P:Nat→Prop)(A:Option Addr)(cap x:Nat)(w:World)(h:RN w P A cap (digs 4294967296 x))(s:∀ b,P b→b<w.heap.size) :
 Calls Tryz.prog 14 #[.int .i64 c,.slice A (digs 4294967296 x).length cap] w fun e w'=>e=.returned (.bool (vX C x))∧Ext w w':=by
 have O:=zF (rQ g w)
 have HX:=zF (fun X (t:Ext w X)=>(show RN X P A cap (digs 4294967296 x)from h.below t s))
 have B:C.size=0→vX C x=false:=fun f=>by
  rcases g with g|⟨_,_,rfl⟩
  · have:=g.fine.pos;omega
  · simp[vX,c0]
 have E:x=0→vX C x=false:=fun f=>by subst f;simp[vX]
 have F:0<x→vX C x=decide (wK x (val 18446744073709551616 C.nl)<0):=fun f=>by
  unfold vX wK;rw[qm f,Bool.true_and];by_cases h1:x<val 18446744073709551616 C.nl
  · rw[qg h1,qm h1];rfl
  · rw[qo h1,jT h1];split<;>rfl
 have S:(digs 4294967296 x).length=0→x=0:=fun f=>by
  rcases za x with q|q
  · exact q
  · have:=pZ q;omega
 have R:=zF (show x=0→(digs 4294967296 x).length=0 from fun f=>by subst f;rw[qW];rfl)
 have L:=zF (fun X (t:Ext w X) A' c'=>fun(i:RU X A' c' (digs 4294967296 (val 18446744073709551616 C.nl)))=>uo P (fun b=>b<X.heap.size) A A' cap c' x (val 18446744073709551616 C.nl) X (h.below t s) i)
 obtain⟨m,a⟩:=eV (vX C x)
 rw[a]at B E F ⊢
 have Q:=zF B
 have ab:=zF E
 have ac:=zF F
 have N:=zF S
 clear h s g a B E F S HX
 go_enter Tryz.func14,Tryz.ntmps14
 go_wp2_with fail
 refine O.out.mono ?_
 rintro e n ⟨v,rfl,⟨Ap,An,Ab,Ax,Ay,cp,cn,cb,cx,cy,rfl,h1,i,h3,h4,h5⟩,r⟩
 obtain⟨G,T⟩:=eV ((digs 4294967296 C.M).length)
 obtain⟨H,y⟩:=eV ((digs 4294967296 (val 18446744073709551616 C.nl)).length)
 obtain⟨I,U⟩:=eV ((digs 4294967296 C.bb).length)
 obtain⟨J,V⟩:=eV ((digs 4294967296 (val 18446744073709551616 C.xl)).length)
 obtain⟨K,W⟩:=eV ((digs 4294967296 (val 18446744073709551616 C.yl)).length)
 obtain⟨sz,D⟩:=eV C.size
 obtain⟨Y,k⟩:=eV ((digs 4294967296 x).length)
 have j:=zL n (.cells #[.slice Ap G cp,.slice An H cn,.slice Ab I cb,.slice Ax J cx,.slice Ay K cy,.int .i64 (sz:Int)] 30)
 have l:=zS n (.cells #[.slice Ap G cp,.slice An H cn,.slice Ab I cb,.slice Ax J cx,.slice Ay K cy,.int .i64 (sz:Int)] 30)
 have p:=zF (jb r j)
 have o:=L.out _ (jb r j) An cn (i.up j)
 rw[y,k]at o
 have Z:=zF o
 rw[T,y,U,V,W,D,k]
 rw[D]at Q
 rw[k]at N R
 obtain⟨b,u⟩:=eV n.heap.size
 rw[u]at l
 have Hb:=zF u
 have q5:=zP l 5
 have q1:=zP l 1
 simp only[zQ,ze,qe]at q5 q1
 clear h1 i h3 h4 h5 r j T y U V W D k o l u L O
 go_upto_region 2 with fail
 rw[Hb.out]
 generalize n.alloc (.cells #[.slice Ap G cp,.slice An H cn,.slice Ab I cb,.slice Ax J cx,.slice Ay K cy,.int .i64 (sz:Int)] 30)=W1 at *
 by_cases g0:sz=0
 · have a:=Q.out g0;subst g0 a;have k0:¬(0:Int)<((0:Nat):Int):=by omega
   go_wp2;go_ret;exact⟨rfl,p.out⟩
 have k0:(0:Int)<(sz:Int):=by omega
 by_cases g1:Y=0
 · have a:=ab.out (N.out g1);subst g1 a;have k1:¬(0:Int)<((0:Nat):Int):=by omega
   clear g0;go_wp2;go_ret;exact⟨rfl,p.out⟩
 have k1:(0:Int)<(Y:Int):=by omega
 have a:=ac.out (by rcases za x with h|h;exact absurd (R.out h) g1;exact h)
 have Hm:=zF a
 clear g0 g1 a
 go_wp2_with fail
 refine Z.out.mono ?_
 rintro e w2 ⟨rfl,d,rfl⟩
 have aa:=zF (jb p.out (kE W1 d))
 generalize wK x (val 18446744073709551616 C.nl)=z at *
 go_wp2
 go_ret
 exact⟨by rw[Hm.out];rfl,aa.out⟩
end Go.Proofs.YtaemogcomplhiaaGreatDoor.Ec
namespace Go.Proofs.YtaemogcomplhiaaGreatDoor
open Go.RowKit
theorem kh {M:Nat}(h:0<M)(a b:Nat):mm M a b<M:=qP _ h
theorem am_lt {M:Nat}(h:0<M)(a b:Nat):am M a b<M:=qP _ h
theorem yQ {M:Nat}(h:0<M)(a b:Nat):sm M a b<M:=qP _ h
theorem Crv.Fine.len' {C:Crv}(h:C.Fine){x:Nat}(a:x<C.M):(digs 4294967296 x).length≤96:=oQ (kA a) h.len
section
variable {C:Crv} {v:Value} {A A':Option Addr} {c c' x y:Nat}
theorem jl (w:World)(a:C.Fine)(f:RC w C v)(h:RU w A c (digs 4294967296 x))(d:RU w A' c' (digs 4294967296 y))(g:x<C.M)(i:y<C.M) :
 Calls Tryz.prog 44 #[v,.slice A (digs 4294967296 x).length c,.slice A' (digs 4294967296 y).length c'] w fun e w'=>∃ b c1,e=.returned (.slice b (digs 4294967296 (mm C.M x y)).length c1)∧RU w' b c1 (digs 4294967296 (mm C.M x y))∧Ext w w' :=
 dV A A' c c' x y w f h d (by have:=a.len' g;omega) (by have:=a.len' i;omega) (by have:=a.three;omega)
theorem wX (w:World)(a:C.Fine)(f:RC w C v)(h:RU w A c (digs 4294967296 x))(d:RU w A' c' (digs 4294967296 y))(g:x<C.M)(i:y<C.M) :
 Calls Tryz.prog 51 #[v,.slice A (digs 4294967296 x).length c,.slice A' (digs 4294967296 y).length c'] w fun e w'=>∃ b c1,e=.returned (.slice b (digs 4294967296 (sm C.M x y)).length c1)∧RU w' b c1 (digs 4294967296 (sm C.M x y))∧Ext w w':=by
 rw[show sm C.M x y=(x+C.M-y)%C.M by rw[sm,qF i]]
 exact tE A A' c c' x y w f h d (by have:=a.len' g;omega) (by have:=a.len;omega) (by omega) (by have:=a.three;omega)
theorem add_r (w:World)(b:C.Fine)(h:RU w A c (digs 4294967296 x))(d:RU w A' c' (digs 4294967296 y))(j:x<C.M)(k:y<C.M) :
 Calls Tryz.prog 50 #[.slice A (digs 4294967296 x).length c,.slice A' (digs 4294967296 y).length c'] w fun e w'=>∃ a c1,e=.returned (.slice a (digs 4294967296 (x+y)).length c1)∧RU w' a c1 (digs 4294967296 (x+y))∧Ext w w' :=
 (uq _ _ A A' c c' x y w h d (fun _ h=>h) (fun _ h=>h) (by have:=b.len' j;omega) (by have:=b.len' k;omega)).mono fun _ _ ⟨a,c1,f,g,i⟩=>⟨a,c1,f,g.ru,i⟩
theorem mod_r (w:World)(b:C.Fine)(h:RU w A c (digs 4294967296 x))(d:RU w A' c' (digs 4294967296 C.M))(j:x<2*C.M) :
 Calls Tryz.prog 49 #[.slice A (digs 4294967296 x).length c,.slice A' (digs 4294967296 C.M).length c'] w fun e w'=>∃ a c1,e=.returned (.slice a (digs 4294967296 (x%C.M)).length c1)∧RU w' a c1 (digs 4294967296 (x%C.M))∧Ext w w' :=
 xg A A' c c' x C.M w h d (by
  have f:x<4294967296^97:=by
   have g:=b.len
   have i:C.M<4294967296^96:=by
    have:=kF (kL (B:=4294967296) (by omega) C.M)
    rw[zi (by omega)]at this
    exact zH this (qE (by omega) g)
   rw[zx]
   omega
  have:=qR (by omega) f
  omega) (by have:=b.three;omega)
theorem zAp (x:Nat)(w:World)(f:x<18446744073709551616) :
 Calls Tryz.prog 48 #[.int .u64 (x:Int)] w fun e w'=>∃ A' c',e=.returned (.slice A' (digs 4294967296 x).length c')∧RU w' A' c' (digs 4294967296 x)∧Ext w w' :=
 (gu x w f).mono fun _ _ ⟨a,c1,b,c,d⟩=>⟨a,c1,b,c.ru,d⟩
end
section
variable {Q:Exit→Act→World→Prop} {ol:List Oper} {m:Nat} {L AL:List Nat} {R:Nat→(Nat→Value)→World→Prop} {a:Act} {w:World} {F:List Oper→Prop} {k n:Nat} {o:Oper} {l:List Oper}
theorem rc (q r i j b:Nat){F':FuncId}{pf:Value}{x y z p:Nat}(v:∀ f X,Ext w X→R j (Par.qh (fun i=>L.getD i 0) j f) X→∃ A c,f j=.slice A (digs 4294967296 x).length c∧RU X A c (digs 4294967296 x))(B:∀ f X,Ext w X→R b (Par.qh (fun i=>L.getD i 0) b f) X→∃ A c,f b=.slice A (digs 4294967296 y).length c∧RU X A c (digs 4294967296 y))
 (G:∀ X,Ext w X→∀ A c A' c',RU X A c (digs 4294967296 x)→RU X A' c' (digs 4294967296 y)→Calls Tryz.prog F' #[pf,.slice A (digs 4294967296 x).length c,.slice A' (digs 4294967296 y).length c'] X fun e w'=>∃ d c1,e=.returned (.slice d (digs 4294967296 p).length c1)∧RU w' d c1 (digs 4294967296 p)∧Ext X w') (U:p=z) (P:Par.qT (Par.jV Tryz.prog ol Q Ext m L AL R a w) F q r l)
 (N:∀ f X,R i (Par.qh (fun i=>L.getD i 0) i f) X→f i=pf:=by exact fun _ _ h=>h)
 (hR:∀ f X,(∃ A c,f k=.slice A (digs 4294967296 z).length c∧RU X A c (digs 4294967296 z))→R k (Par.qh (fun i=>L.getD i 0) k f) X:=by exact fun _ _ h=>h) (K:k+1=q:=by rfl) (M:r+1=n:=by rfl) (E:AL.contains k=false:=by kernel_rfl) (H:(L.getD k 0).testBit i=true:=by kernel_rfl) (I:(L.getD k 0).testBit j=true:=by kernel_rfl) (J:(L.getD k 0).testBit b=true:=by kernel_rfl)
 (T:∀ f,Region.wanted o (yielded ol.toArray (Par.put ol.toArray (Par.nd (fun i=>L.getD i 0) k) f (List.range m) a).tmps)=true:=by intro _;kernel_rfl)
 (O:∀ f X,(execOp (Par.put ol.toArray (Par.nd (fun i=>L.getD i 0) k) f (List.range m) a).eval o).run Tryz.prog X=.ok (.enter F' #[f i,f j,f b]) X:=by intro _ _;kernel_rfl):Par.qT (Par.jV Tryz.prog ol Q Ext m L AL R a w) F k n (o::l) :=
 Par.cx (args:=fun f=>#[f i,f j,f b]) P K M E (fun f _ _=>T f) O fun f X g h=>by
  obtain⟨A,c,s,g1⟩:=v f X g (h.out j I);obtain⟨A',c',t,u⟩:=B f X g (h.out b J);rw[N f X (h.out i H),s,t];refine(G X g A c A' c' g1 u).mono ?_;rintro e w' ⟨d,c1,rfl,S,C⟩;subst U;exact⟨_,rfl,C,fun Y D=>hR _ _ ⟨d,c1,by simp[Par.upd],zN S D⟩⟩
end
def JN (w:World) (C:Crv) (v:Value) (p:Nat×Nat×Nat):Prop:=∃(a b c:Option Addr) (c1 d c3:Nat),v=.agg #[.slice a (digs 4294967296 p.1).length c1,.slice b (digs 4294967296 p.2.1).length d,.slice c (digs 4294967296 p.2.2).length c3] ∧
 RU w a c1 (digs 4294967296 p.1)∧RU w b d (digs 4294967296 p.2.1)∧RU w c c3 (digs 4294967296 p.2.2)∧p.1<C.M∧p.2.1<C.M∧p.2.2<C.M
theorem JN.ext {w X:World}{C:Crv}{v:Value}{p:Nat×Nat×Nat}(h:JN w C v p)(a:Ext w X):JN X C v p:=by
 obtain⟨b,c,d,c1,f,c3,e,g,i,j,k⟩:=h;exact⟨b,c,d,c1,f,c3,e,zN g a,zN i a,zN j a,k⟩
theorem uQ:(Tryz.prog.info? 78).map (·.size)=some 3:=by kernel_rfl
theorem fR {fn:Func}{R:Ending→World→Prop}{a:Act}{W:World}{p:Tmp}{g:Nat}{ty:TypeId}{fr:Nat×Nat}{x0 x1 x2:Value}(e:fn.results=#[.cell p 78])(d:a.tmps.getD p undef=.pointer (some ⟨g,0,none⟩))(b:a.defers=[])
 (c:W.heap[g]?=some (.cells #[x0,x1,x2] ty fr)) (hR:R (.returned (.agg #[x0,x1,x2])) W):bodyPost Tryz.prog fn R .ret a W :=
 vg (wu e a.tmps W g _ _ _ _ d c Tryz.underlying78 rfl uQ) b hR
theorem dX (a b c:Option Addr)(n1 e f c1 d c3:Nat):(#[Value.slice a n1 c1,.slice b e d,.slice c f c3]:Array Value).all (·.oneCell')=true:=by simp[Value.oneCell']
theorem yj {x:Nat} : (digs 4294967296 x).length=0↔x=0:=by
 constructor
 · intro h;have:=zi (B:=4294967296) (by omega) x;rw[qV h]at this;simpa[val]using this.symm
 · rintro rfl;rw[qW];rfl
theorem xc {x:Nat}(h:x=0):decide ((digs 4294967296 x).length=0)=true:=qm (yj.2 h)
theorem wi {x:Nat}(h:¬ x=0):decide ((digs 4294967296 x).length=0)=false:=jT (fun e=>h (yj.1 e))
theorem xd {x:Nat}(h:x=0):decide (((digs 4294967296 x).length:Int)=0)=true:=qm (by have:=yj.2 h;omega)
theorem wj {x:Nat}(h:¬ x=0):decide (((digs 4294967296 x).length:Int)=0)=false:=jT (fun e=>h (yj.1 (by omega)))
theorem xe {x:Nat}(h:x=0):((((digs 4294967296 x).length:Nat):Int)==0)=true:=by rw[yj.2 h];rfl
theorem wk {x:Nat}(h:¬ x=0):((((digs 4294967296 x).length:Nat):Int)==0)=false:=by rw[beq_eq_false_iff_ne];exact fun e=>h (yj.1 (by omega))
theorem mM (w:World)(a o2 o3:Obj):(((w.alloc a).alloc o2).alloc o3).heap[w.heap.size]?=some a∧(((w.alloc a).alloc o2).alloc o3).heap[w.heap.size+1]?=some o2∧(((w.alloc a).alloc o2).alloc o3).heap[w.heap.size+2]?=some o3∧(((w.alloc a).alloc o2).alloc o3).heap.size=w.heap.size+3 :=
 ⟨(zL _ _).at_ (wV w a o2).1,(zL _ _).at_ (wV w a o2).2.1,by have:=zS ((w.alloc a).alloc o2) o3;rwa [(wV w a o2).2.2]at this,by simp⟩
def twP (M x y z:Nat):Nat×Nat×Nat:=if z=0 then(0,0,0)else if y=0 then(0,0,0)else let u1:=mm M z z;let u2:=am M x u1;let u3:=sm M x u1;let u4:=mm M u3 u2;let u5:=mm M 3 u4;let u6:=mm M y y;let u7:=mm M x u6;let u8:=mm M 4 u7;let u9:=mm M u5 u5;let u10:=sm M u9 u8;let u11:=sm M u10 u8;let u12:=sm M u8 u11;let u13:=mm M u5 u12;let u14:=mm M u6 u6;let u15:=mm M 8 u14;let u16:=sm M u13 u15;let u17:=mm M y z;let u18:=mm M 2 u17;(u11,u16,u18)
theorem rH {C:Crv}{m:Array Value}{v:Value}{p:Nat×Nat×Nat}(hF:C.Fine)(h8:8<C.M)(w:World)(hc:RC w C (.agg m))(hj:JN w C v p) :
 Calls Tryz.prog 40 #[.agg m,v] w fun e w'=>∃ o,e=.returned o∧JN w' C o (twP C.M p.1 p.2.1 p.2.2)∧Ext w w':=by
 obtain⟨b,A2,A3,k1,k2,k3,rfl,aZ,a0,a1,hx,hy,hz⟩:=hj
 obtain⟨x,y,z⟩:=p
 simp only at aZ a0 a1 hx hy hz ⊢
 obtain⟨Ap,An,Ab,Ax,Ay,cp,cn,cb,cx,cy,ab,hP,hN,Q,bP,ai⟩:=hc
 injection ab with ab
 have bO:RC w C (.agg m):=⟨Ap,An,Ab,Ax,Ay,cp,cn,cb,cx,cy,by rw[ab],hP,hN,Q,bP,ai⟩
 obtain⟨W0,U⟩:=eW (((w.alloc (.cells m 30)).alloc (.cells #[.slice b (digs 4294967296 x).length k1,.slice A2 (digs 4294967296 y).length k2,.slice A3 (digs 4294967296 z).length k3] 78)).alloc (.cells #[.slice none 0 0,.slice none 0 0,.slice none 0 0] 78))
 obtain⟨q,hq⟩:=eV w.heap.size
 have aa:Ext w W0:=by rw[U];exact((zL _ _).trans (zL _ _)).trans (zL _ _)
 obtain⟨I,ae,ak,D⟩:=mM w (.cells m 30) (.cells #[.slice b (digs 4294967296 x).length k1,.slice A2 (digs 4294967296 y).length k2,.slice A3 (digs 4294967296 z).length k3] 78) (.cells #[.slice none 0 0,.slice none 0 0,.slice none 0 0] 78)
 rw[←U,hq]at I ae ak D
 have j0:=zP ae 0
 have j1:=zP ae 1
 have j2:=zP ae 2
 have cP:=zP I 0
 rw[ab]at cP
 simp only[zQ,ze,qe]at j0 j1 j2 cP
 have N:=zF (bO.ext aa)
 have J:=zF (show m.size=6 by rw[ab];rfl)
 have b2:=zF (zN hP aa)
 have ay:=zF (zN aZ aa)
 have az:=zF (zN a0 aa)
 have aA:=zF (zN a1 aa)
 have G:=zF hF
 have H8:=zF h8
 have l:0<C.M:=by omega
 have ax:=zF aa
 have cR:=zF D
 replace hx:=zF hx
 replace hy:=zF hy
 replace hz:=zF hz
 clear bO ab hP hN Q bP ai aZ a0 a1 hF h8 aa D ae
 by_cases D:z=0
 · rw[show twP C.M x y z=(0,0,0) by rw[twP,qg D]];replace D:=zF D;go_enter Tryz.func40,Tryz.ntmps40;go_upto_region 1 with fail;rw[←U];have Hq:=zF hq;have bB:=zF U;have d:=zT W0;clear hq U
   refine zR 10 [0,1,3,7,15,31,63,127,255,511] [] (fun j f X=>match j with
    | 0=>f 0=.pointer (some ⟨q+1,2,none⟩)
    | 1=>f 1=.slice A3 (digs 4294967296 z).length k3
    | 2=>f 2=.int .i64 ((digs 4294967296 z).length:Int)
    | 3=>f 3=.bool true
    | 4=>f 4=.bool true
    | 5=>f 5=undef
    | 6=>f 6=undef
    | 7=>f 7=undef
    | 8=>f 8=undef
    | 9=>f 9=.bool true
    | _=>True) (by kernel_rfl) [(12,0),(13,1),(14,2),(15,3),(16,4),(17,5),(18,6),(19,7),(20,8),(21,9)] (by kernel_rfl) ?_
   refine zJ 1 9 ?_;refine qC 2 8 0 (d.cell j2) ?_;refine zv 3 7 [(12,0),(13,1)] (fun f X a hR K g=>?_) ?_
   · have H:f 1=_:=hR.out 1 rfl;simp only[yZ,H];refine⟨?_⟩;go_simp;exact qY g (s:=by simp only[yZ,H])
   refine zv 4 6 [(12,0),(13,1),(14,2)] (fun f X a hR K g=>?_) ?_
   · have W:f 2=_:=hR.out 2 rfl;have al:decide (((digs 4294967296 z).length:Int)=0)=true:=xd D.out;have an:decide ((digs 4294967296 z).length=0)=true:=xc D.out;have ao:((((digs 4294967296 z).length:Nat):Int)==0)=true:=xe D.out;simp only[yZ,W];refine⟨?_⟩;go_simp;exact qY g (s:=by simp only[yZ,W])
   refine zt 5 5 3 ?_;refine kZ 6 4 4 ?_;refine kZ 7 3 4 ?_;refine kZ 8 2 4 ?_;refine kZ 9 1 4 ?_;refine qj 10 0 4 8 ?_;refine yF ⟨fun f X a hR E F=>?_⟩;have u:f 9=_:=hR 9 (by decide);simp only[yZ,u];clear hR E F u;refine zI ?_;replace d:=d.trans a;clear a  ;rename World=>X1_k;have Z:=d.at_ ak;obtain⟨z0,z1,z2,f0,f1,f2⟩:=jQ Z;go_wp2;exact fR rfl rfl rfl (xG Z _ _ _) ⟨_,rfl,⟨none,none,none,0,0,0,by rw[qW];rfl,RN.nil0 _,RN.nil0 _,RN.nil0 _,l,l,l⟩,xi (ax.out.trans d) (by have:=Hq.out;omega) _ _ _⟩
 by_cases hy0:y=0
 · rw[show twP C.M x y z=(0,0,0) by rw[twP,qo D,qg hy0]];replace D:=zF D;replace hy0:=zF hy0;go_enter Tryz.func40,Tryz.ntmps40;go_upto_region 1 with fail;rw[←U];have Hq:=zF hq;have bB:=zF U;have d:=zT W0;clear hq U
   refine zR 10 [0,1,3,7,15,31,63,127,255,511] [] (fun j f X=>match j with
    | 0=>f 0=.pointer (some ⟨q+1,2,none⟩)
    | 1=>f 1=.slice A3 (digs 4294967296 z).length k3
    | 2=>f 2=.int .i64 ((digs 4294967296 z).length:Int)
    | 3=>f 3=.bool false
    | 4=>f 4=.bool false
    | 5=>f 5=.pointer (some ⟨q+1,1,none⟩)
    | 6=>f 6=.slice A2 (digs 4294967296 y).length k2
    | 7=>f 7=.int .i64 ((digs 4294967296 y).length:Int)
    | 8=>f 8=.bool true
    | 9=>f 9=.bool true
    | _=>True) (by kernel_rfl) [(12,0),(13,1),(14,2),(15,3),(16,4),(17,5),(18,6),(19,7),(20,8),(21,9)] (by kernel_rfl) ?_
   refine zJ 1 9 ?_;refine qC 2 8 0 (d.cell j2) ?_;refine zv 3 7 [(12,0),(13,1)] (fun f X a hR K g=>?_) ?_
   · have H:f 1=_:=hR.out 1 rfl;simp only[yZ,H];refine⟨?_⟩;go_simp;exact qY g (s:=by simp only[yZ,H])
   refine zv 4 6 [(12,0),(13,1),(14,2)] (fun f X a hR K g=>?_) ?_
   · have W:f 2=_:=hR.out 2 rfl;have al:decide (((digs 4294967296 z).length:Int)=0)=false:=wj D.out;have an:decide ((digs 4294967296 z).length=0)=false:=wi D.out;have ao:((((digs 4294967296 z).length:Nat):Int)==0)=false:=wk D.out;simp only[yZ,W];refine⟨?_⟩;go_simp;exact qY g (s:=by simp only[yZ,W])
   refine zt 5 5 3 ?_;refine zt 6 4 4 ?_;refine zv 7 3 [(12,0),(13,1),(14,2),(15,3),(16,4),(17,5)] (fun f X a hR K g=>?_) ?_
   · have L:f 4=_:=hR.out 4 rfl;have B:f 5=_:=hR.out 5 rfl;have x0:=(d.trans a).cell j1;simp only[yZ,L,B];refine⟨zU (by kernel_rfl) ?_⟩;go_simp;exact qY g (s:=by simp only[yZ,L,B])
   refine zv 8 2 [(12,0),(13,1),(14,2),(15,3),(16,4),(17,5),(18,6)] (fun f X a hR K g=>?_) ?_
   · have L:f 4=_:=hR.out 4 rfl;have n:f 6=_:=hR.out 6 rfl;simp only[yZ,L,n];refine⟨zU (by kernel_rfl) ?_⟩;go_simp;exact qY g (s:=by simp only[yZ,L,n])
   refine zv 9 1 [(12,0),(13,1),(14,2),(15,3),(16,4),(17,5),(18,6),(19,7)] (fun f X a hR K g=>?_) ?_
   · have L:f 4=_:=hR.out 4 rfl;have r:f 7=_:=hR.out 7 rfl;have al:decide (((digs 4294967296 y).length:Int)=0)=true:=xd hy0.out;have an:decide ((digs 4294967296 y).length=0)=true:=xc hy0.out;have ao:((((digs 4294967296 y).length:Nat):Int)==0)=true:=xe hy0.out;simp only[yZ,L,r];refine⟨zU (by kernel_rfl) ?_⟩;go_simp;exact qY g (s:=by simp only[yZ,L,r])
   refine qj 10 0 4 8 ?_;refine yF ⟨fun f X a hR E F=>?_⟩;have u:f 9=_:=hR 9 (by decide);simp only[yZ,u];clear hR E F u;refine zI ?_;replace d:=d.trans a;clear a  ;rename World=>X1_k;have Z:=d.at_ ak;obtain⟨z0,z1,z2,f0,f1,f2⟩:=jQ Z;go_wp2;exact fR rfl rfl rfl (xG Z _ _ _) ⟨_,rfl,⟨none,none,none,0,0,0,by rw[qW];rfl,RN.nil0 _,RN.nil0 _,RN.nil0 _,l,l,l⟩,xi (ax.out.trans d) (by have:=Hq.out;omega) _ _ _⟩
 obtain⟨u1,dw⟩:=eV (mm C.M z z)
 have aB:=zF (show u1<C.M by rw[←dw];exact kh l _ _)
 have bi:=zF dw
 clear dw
 obtain⟨u2,dv⟩:=eV (am C.M x u1)
 have cc:=zF (show u2<C.M by rw[←dv];exact am_lt l _ _)
 have bs:=zF dv
 clear dv
 obtain⟨u3,aS⟩:=eV (sm C.M x u1)
 have cd:=zF (show u3<C.M by rw[←aS];exact yQ l _ _)
 have bt:=zF aS
 clear aS
 obtain⟨u4,aT⟩:=eV (mm C.M u3 u2)
 have ce:=zF (show u4<C.M by rw[←aT];exact kh l _ _)
 have bu:=zF aT
 clear aT
 obtain⟨V,aU⟩:=eV (mm C.M 3 u4)
 have aC:=zF (show V<C.M by rw[←aU];exact kh l _ _)
 have bv:=zF aU
 clear aU
 obtain⟨u6,aV⟩:=eV (mm C.M y y)
 have aD:=zF (show u6<C.M by rw[←aV];exact kh l _ _)
 have bw:=zF aV
 clear aV
 obtain⟨u7,aW⟩:=eV (mm C.M x u6)
 have cf:=zF (show u7<C.M by rw[←aW];exact kh l _ _)
 have bx:=zF aW
 clear aW
 obtain⟨u8,aX⟩:=eV (mm C.M 4 u7)
 have aE:=zF (show u8<C.M by rw[←aX];exact kh l _ _)
 have bz:=zF aX
 clear aX
 obtain⟨u9,aY⟩:=eV (mm C.M V V)
 have cg:=zF (show u9<C.M by rw[←aY];exact kh l _ _)
 have bA:=zF aY
 clear aY
 obtain⟨u10,aJ⟩:=eV (sm C.M u9 u8)
 have b3:=zF (show u10<C.M by rw[←aJ];exact yQ l _ _)
 have bj:=zF aJ
 clear aJ
 obtain⟨u11,aK⟩:=eV (sm C.M u10 u8)
 have bC:=zF (show u11<C.M by rw[←aK];exact yQ l _ _)
 have bk:=zF aK
 clear aK
 obtain⟨u12,aL⟩:=eV (sm C.M u8 u11)
 have b4:=zF (show u12<C.M by rw[←aL];exact yQ l _ _)
 have bl:=zF aL
 clear aL
 obtain⟨u13,aM⟩:=eV (mm C.M V u12)
 have b5:=zF (show u13<C.M by rw[←aM];exact kh l _ _)
 have bm:=zF aM
 clear aM
 obtain⟨ap,aN⟩:=eV (mm C.M u6 u6)
 have b6:=zF (show ap<C.M by rw[←aN];exact kh l _ _)
 have bn:=zF aN
 clear aN
 obtain⟨aq,aO⟩:=eV (mm C.M 8 ap)
 have b7:=zF (show aq<C.M by rw[←aO];exact kh l _ _)
 have bo:=zF aO
 clear aO
 obtain⟨u16,aP⟩:=eV (sm C.M u13 aq)
 have b8:=zF (show u16<C.M by rw[←aP];exact yQ l _ _)
 have bp:=zF aP
 clear aP
 obtain⟨u17,aQ⟩:=eV (mm C.M y z)
 have b9:=zF (show u17<C.M by rw[←aQ];exact kh l _ _)
 have bq:=zF aQ
 clear aQ
 obtain⟨u18,aR⟩:=eV (mm C.M 2 u17)
 have ca:=zF (show u18<C.M by rw[←aR];exact kh l _ _)
 have br:=zF aR
 clear aR
 have bQ:twP C.M x y z=(u11,u16,u18):=by rw[twP,qo D,qo hy0];simp only[bi.out,bs.out,bt.out,bu.out,bv.out,bw.out,bx.out,bz.out,bA.out,bj.out,bk.out,bl.out,bm.out,bn.out,bo.out,bp.out,bq.out,br.out]
 rw[bQ]
 clear bQ
 replace D:=zF D
 replace hy0:=zF hy0
 go_enter Tryz.func40,Tryz.ntmps40
 go_upto_region 1 with fail
 rw[←U]
 have Hq:=zF hq
 have bB:=zF U
 have d:=zT W0
 clear hq U
 refine zR 10 [0,1,3,7,15,31,63,127,255,511] [] (fun j f X=>match j with
  | 0=>f 0=.pointer (some ⟨q+1,2,none⟩)
  | 1=>f 1=.slice A3 (digs 4294967296 z).length k3
  | 2=>f 2=.int .i64 ((digs 4294967296 z).length:Int)
  | 3=>f 3=.bool false
  | 4=>f 4=.bool false
  | 5=>f 5=.pointer (some ⟨q+1,1,none⟩)
  | 6=>f 6=.slice A2 (digs 4294967296 y).length k2
  | 7=>f 7=.int .i64 ((digs 4294967296 y).length:Int)
  | 8=>f 8=.bool false
  | 9=>f 9=.bool false
  | _=>True) (by kernel_rfl) [(12,0),(13,1),(14,2),(15,3),(16,4),(17,5),(18,6),(19,7),(20,8),(21,9)] (by kernel_rfl) ?_
 refine zJ 1 9 ?_
 refine qC 2 8 0 (d.cell j2) ?_
 refine zv 3 7 [(12,0),(13,1)] (fun f X a hR K g=>?_) ?_
 · have H:f 1=_:=hR.out 1 rfl;simp only[yZ,H];refine⟨?_⟩;go_simp;exact qY g (s:=by simp only[yZ,H])
 refine zv 4 6 [(12,0),(13,1),(14,2)] (fun f X a hR K g=>?_) ?_
 · have W:f 2=_:=hR.out 2 rfl;have al:decide (((digs 4294967296 z).length:Int)=0)=false:=wj D.out;have an:decide ((digs 4294967296 z).length=0)=false:=wi D.out;have ao:((((digs 4294967296 z).length:Nat):Int)==0)=false:=wk D.out;simp only[yZ,W];refine⟨?_⟩;go_simp;exact qY g (s:=by simp only[yZ,W])
 refine zt 5 5 3 ?_
 refine zt 6 4 4 ?_
 refine zv 7 3 [(12,0),(13,1),(14,2),(15,3),(16,4),(17,5)] (fun f X a hR K g=>?_) ?_
 · have L:f 4=_:=hR.out 4 rfl;have B:f 5=_:=hR.out 5 rfl;have x0:=(d.trans a).cell j1;simp only[yZ,L,B];refine⟨zU (by kernel_rfl) ?_⟩;go_simp;exact qY g (s:=by simp only[yZ,L,B])
 refine zv 8 2 [(12,0),(13,1),(14,2),(15,3),(16,4),(17,5),(18,6)] (fun f X a hR K g=>?_) ?_
 · have L:f 4=_:=hR.out 4 rfl;have n:f 6=_:=hR.out 6 rfl;simp only[yZ,L,n];refine⟨zU (by kernel_rfl) ?_⟩;go_simp;exact qY g (s:=by simp only[yZ,L,n])
 refine zv 9 1 [(12,0),(13,1),(14,2),(15,3),(16,4),(17,5),(18,6),(19,7)] (fun f X a hR K g=>?_) ?_
 · have L:f 4=_:=hR.out 4 rfl;have r:f 7=_:=hR.out 7 rfl;have al:decide (((digs 4294967296 y).length:Int)=0)=false:=wj hy0.out;have an:decide ((digs 4294967296 y).length=0)=false:=wi hy0.out;have ao:((((digs 4294967296 y).length:Nat):Int)==0)=false:=wk hy0.out;simp only[yZ,L,r];refine⟨zU (by kernel_rfl) ?_⟩;go_simp;exact qY g (s:=by simp only[yZ,L,r])
 refine qj 10 0 4 8 ?_
 refine yF ⟨fun f X a hR E F=>?_⟩
 have u:f 9=_:=hR 9 (by decide)
 simp only[yZ,u]
 clear hR E F u
 refine zI ?_
 replace d:=d.trans a
 clear a  
 rename World=>X1_k
 go_upto_region 3 with fail
 refine zR 7 [0,0,2,0,8,31,63] [] (fun j f X=>match j with
  | 0=>f 0=.agg m
  | 1=>f 1=.pointer (some ⟨q+1,2,none⟩)
  | 2=>f 2=.slice A3 (digs 4294967296 z).length k3
  | 3=>f 3=.pointer (some ⟨q+1,2,none⟩)
  | 4=>f 4=.slice A3 (digs 4294967296 z).length k3
  | 5=>∃ b c1,f 5=.slice b (digs 4294967296 u1).length c1∧RU X b c1 (digs 4294967296 u1)
  | 6=>∃ b c1,f 6=.slice b (digs 4294967296 u1).length c1∧RU X b c1 (digs 4294967296 u1)
  | _=>True) (by kernel_rfl) [(23,0),(24,1),(25,2),(26,3),(27,4),(28,5),(5,6)] (by kernel_rfl) ?_
 refine lV0 1 6 (d.at_ I) (by rw[J.out];exact jG) ?_
 refine zJ 2 5 ?_
 refine qC 3 4 1 (d.cell j2) ?_
 refine zJ 4 3 ?_
 refine qC 5 2 3 (d.cell j2) ?_
 refine rc 6 1 0 2 4 (fun _ _ a h=>⟨_,_,h,(zN aA.out (d.trans a))⟩) (fun _ _ a h=>⟨_,_,h,(zN aA.out (d.trans a))⟩) (fun X a _ _ _ _ h i=>jl X G.out (N.out.ext (d.trans a)) h i hz.out hz.out) bi.out ?_
 refine zv 7 0 [(23,0),(24,1),(25,2),(26,3),(27,4),(28,5)] (fun f X a hR K g=>?_) ?_
 · obtain⟨ba,bD,(B:f 5=_),a2⟩:=hR.out 5 rfl;simp only[yZ,B];refine⟨?_⟩;go_simp;exact g.out _ _ _ (by simp only[yZ,B]) (zT _) trivial (fun Y k=>⟨ba,bD,rfl,zN a2 k⟩)
 refine yF ⟨fun f X a hR E F=>?_⟩
 obtain⟨ba,bD,(B:f 5=_),a2⟩:=hR 5 (by decide)
 obtain⟨bb,bE,(n:f 6=_),bS⟩:=hR 6 (by decide)
 simp only[yZ,B,n]
 clear hR E F B n
 refine zI ?_
 replace d:=d.trans a
 have O:=zF bS
 clear a a2 bS 
 rename World=>X3_k
 go_upto_region 4 with fail
 refine zZ (by kernel_rfl) 8 [0,1,0,7,0,16,63,127] [] (fun j f X=>match j with
  | 0=>f 0=.pointer (some ⟨q+1,0,none⟩)
  | 1=>f 1=.slice b (digs 4294967296 x).length k1
  | 2=>f 2=.slice bb (digs 4294967296 u1).length bE
  | 3=>∃ b c1,f 3=.slice b (digs 4294967296 (x+u1)).length c1∧RU X b c1 (digs 4294967296 (x+u1))
  | 4=>f 4=.pointer (some ⟨q,0,none⟩)
  | 5=>f 5=.slice Ap (digs 4294967296 C.M).length cp
  | 6=>∃ b c1,f 6=.slice b (digs 4294967296 u2).length c1∧RU X b c1 (digs 4294967296 u2)
  | 7=>∃ b c1,f 7=.slice b (digs 4294967296 u2).length c1∧RU X b c1 (digs 4294967296 u2)
  | _=>True) (by kernel_rfl) [(29,0),(30,1),(31,2),(32,3),(33,4),(34,5),(35,6),(6,7)] (by kernel_rfl) ?_
 refine zJ 1 7 ?_
 refine qC 2 6 0 (d.cell j0) ?_
 refine zJ 3 5 ?_
 refine qK 4 4 (fun f=>#[f 1,f 2]) (F':=50) (fun f X a hR=>?_) ?_
 · have H:f 1=_:=hR.out 1 rfl;have W:f 2=_:=hR.out 2 rfl;simp only[H,W];refine(add_r X G.out (zN ay.out (d.trans a)) (zN O.out a) hx.out aB.out).mono ?_;rintro e w2 ⟨b,c1,rfl,T,Q⟩;exact⟨_,rfl,Q,fun Y k=>⟨b,c1,rfl,zN T k⟩⟩
 refine zJ 5 3 ?_
 refine qC 6 2 4 (d.cell cP) ?_
 refine qK 7 1 (fun f=>#[f 3,f 5]) (F':=49) (fun f X a hR=>?_) ?_
 · obtain⟨b0,cj,(e3:f 3=_),a3⟩:=hR.out 3 rfl;have B:f 5=_:=hR.out 5 rfl;simp only[e3,B];refine(mod_r X G.out a3 (zN b2.out (d.trans a)) (show x+u1<2*C.M by have:=hx.out;have:=aB.out;omega)).mono ?_;rw[show(x+u1)%C.M=u2 from bs.out];rintro e w2 ⟨b,c1,rfl,T,Q⟩;exact⟨_,rfl,Q,fun Y k=>⟨b,c1,rfl,zN T k⟩⟩
 refine zv 8 0 [(29,0),(30,1),(31,2),(32,3),(33,4),(34,5),(35,6)] (fun f X a hR K g=>?_) ?_
 · obtain⟨bc,bF,(n:f 6=_),a4⟩:=hR.out 6 rfl;simp only[yZ,n];refine⟨?_⟩;go_simp;exact g.out _ _ _ (by simp only[yZ,n]) (zT _) trivial (fun Y k=>⟨bc,bF,rfl,zN a4 k⟩)
 refine yF ⟨fun f X a hR E F=>?_⟩
 obtain⟨b0,cj,(e3:f 3=_),a3⟩:=hR 3 (by decide)
 obtain⟨bc,bF,(n:f 6=_),a4⟩:=hR 6 (by decide)
 obtain⟨b1,ck,(r:f 7=_),bT⟩:=hR 7 (by decide)
 simp only[yZ,e3,n,r]
 clear hR E F e3 n r
 refine zI ?_
 replace d:=d.trans a
 replace O:=zF (zN O.out a)
 have R:=zF bT
 clear a a3 a4 bT
 rename World=>X4_k
 go_upto_region 5 with fail
 refine zZ (by kernel_rfl) 12 [0,0,0,0,0,16,0,122,0,510,1023,2047] [] (fun j f X=>match j with
  | 0=>f 0=.agg m
  | 1=>∃ b c1,f 1=.slice b (digs 4294967296 3).length c1∧RU X b c1 (digs 4294967296 3)
  | 2=>f 2=.agg m
  | 3=>f 3=.agg m
  | 4=>f 4=.pointer (some ⟨q+1,0,none⟩)
  | 5=>f 5=.slice b (digs 4294967296 x).length k1
  | 6=>f 6=.slice bb (digs 4294967296 u1).length bE
  | 7=>∃ b c1,f 7=.slice b (digs 4294967296 u3).length c1∧RU X b c1 (digs 4294967296 u3)
  | 8=>f 8=.slice b1 (digs 4294967296 u2).length ck
  | 9=>∃ b c1,f 9=.slice b (digs 4294967296 u4).length c1∧RU X b c1 (digs 4294967296 u4)
  | 10=>∃ b c1,f 10=.slice b (digs 4294967296 V).length c1∧RU X b c1 (digs 4294967296 V)
  | 11=>∃ b c1,f 11=.slice b (digs 4294967296 V).length c1∧RU X b c1 (digs 4294967296 V)
  | _=>True) (by kernel_rfl) [(36,0),(37,1),(38,2),(39,3),(40,4),(41,5),(42,6),(43,7),(44,8),(45,9),(46,10),(7,11)] (by kernel_rfl) ?_
 refine lV0 1 11 (d.at_ I) (by rw[J.out];exact jG) ?_
 refine qK 2 10 (fun _=>#[Value.int IntKind.u64 3]) (F':=48) (fun f X a hR=>?_) ?_
 · refine(zAp 3 X (by omega)).mono ?_;rintro e w2 ⟨b,c1,rfl,T,Q⟩;exact⟨_,rfl,Q,fun Y k=>⟨b,c1,rfl,zN T k⟩⟩
 refine lV0 3 9 (d.at_ I) (by rw[J.out];exact jG) ?_
 refine lV0 4 8 (d.at_ I) (by rw[J.out];exact jG) ?_
 refine zJ 5 7 ?_
 refine qC 6 6 4 (d.cell j0) ?_
 refine zJ 7 5 ?_
 refine rc 8 4 3 5 6 (fun _ _ a h=>⟨_,_,h,(zN ay.out (d.trans a))⟩) (fun _ _ a h=>⟨_,_,h,(zN O.out a)⟩) (fun X a _ _ _ _ h i=>wX X G.out (N.out.ext (d.trans a)) h i hx.out aB.out) bt.out ?_
 refine zJ 9 3 ?_
 refine rc 10 2 2 7 8 (fun _ _ _ h=>h) (fun _ _ a h=>⟨_,_,h,(zN R.out a)⟩) (fun X a _ _ _ _ h i=>jl X G.out (N.out.ext (d.trans a)) h i cd.out cc.out) bu.out ?_
 refine rc 11 1 0 1 9 (fun _ _ _ h=>h) (fun _ _ _ h=>h) (fun X a _ _ _ _ h i=>jl X G.out (N.out.ext (d.trans a)) h i (show 3<C.M by have:=H8.out;omega) ce.out) bv.out ?_
 refine zv 12 0 [(36,0),(37,1),(38,2),(39,3),(40,4),(41,5),(42,6),(43,7),(44,8),(45,9),(46,10)] (fun f X a hR K g=>?_) ?_
 · obtain⟨bd,bG,(P:f 10=_),a5⟩:=hR.out 10 rfl;simp only[yZ,P];refine⟨?_⟩;go_simp;exact g.out _ _ _ (by simp only[yZ,P]) (zT _) trivial (fun Y k=>⟨bd,bG,rfl,zN a5 k⟩)
 refine yF ⟨fun f X a hR E F=>?_⟩
 obtain⟨cE,cU,(H:f 1=_),cl⟩:=hR 1 (by decide)
 obtain⟨cF,cV,(r:f 7=_),cm⟩:=hR 7 (by decide)
 obtain⟨cG,cW,(u:f 9=_),co⟩:=hR 9 (by decide)
 obtain⟨bd,bG,(P:f 10=_),a5⟩:=hR 10 (by decide)
 obtain⟨ar,aF,(ac:f 11=_),bU⟩:=hR 11 (by decide)
 simp only[yZ,H,r,u,P,ac]
 clear hR E F H r u P ac
 refine zI ?_
 replace d:=d.trans a
 replace O:=zF (zN O.out a)
 replace R:=zF (zN R.out a)
 have S:=zF bU
 clear a cl cm co a5 bU
 rename World=>X5_k
 go_upto_region 6 with fail
 refine zR 7 [0,0,2,0,8,31,63] [] (fun j f X=>match j with
  | 0=>f 0=.agg m
  | 1=>f 1=.pointer (some ⟨q+1,1,none⟩)
  | 2=>f 2=.slice A2 (digs 4294967296 y).length k2
  | 3=>f 3=.pointer (some ⟨q+1,1,none⟩)
  | 4=>f 4=.slice A2 (digs 4294967296 y).length k2
  | 5=>∃ b c1,f 5=.slice b (digs 4294967296 u6).length c1∧RU X b c1 (digs 4294967296 u6)
  | 6=>∃ b c1,f 6=.slice b (digs 4294967296 u6).length c1∧RU X b c1 (digs 4294967296 u6)
  | _=>True) (by kernel_rfl) [(47,0),(48,1),(49,2),(50,3),(51,4),(52,5),(8,6)] (by kernel_rfl) ?_
 refine lV0 1 6 (d.at_ I) (by rw[J.out];exact jG) ?_
 refine zJ 2 5 ?_
 refine qC 3 4 1 (d.cell j1) ?_
 refine zJ 4 3 ?_
 refine qC 5 2 3 (d.cell j1) ?_
 refine rc 6 1 0 2 4 (fun _ _ a h=>⟨_,_,h,(zN az.out (d.trans a))⟩) (fun _ _ a h=>⟨_,_,h,(zN az.out (d.trans a))⟩) (fun X a _ _ _ _ h i=>jl X G.out (N.out.ext (d.trans a)) h i hy.out hy.out) bw.out ?_
 refine zv 7 0 [(47,0),(48,1),(49,2),(50,3),(51,4),(52,5)] (fun f X a hR K g=>?_) ?_
 · obtain⟨be,bH,(B:f 5=_),a6⟩:=hR.out 5 rfl;simp only[yZ,B];refine⟨?_⟩;go_simp;exact g.out _ _ _ (by simp only[yZ,B]) (zT _) trivial (fun Y k=>⟨be,bH,rfl,zN a6 k⟩)
 refine yF ⟨fun f X a hR E F=>?_⟩
 obtain⟨be,bH,(B:f 5=_),a6⟩:=hR 5 (by decide)
 obtain⟨au,aG,(n:f 6=_),bV⟩:=hR 6 (by decide)
 simp only[yZ,B,n]
 clear hR E F B n
 refine zI ?_
 replace d:=d.trans a
 replace O:=zF (zN O.out a)
 replace R:=zF (zN R.out a)
 replace S:=zF (zN S.out a)
 have N8:=zF bV
 clear a a6 bV
 rename World=>X6_k
 go_upto_region 7 with fail
 refine zZ (by kernel_rfl) 9 [0,0,0,0,8,0,62,127,255] [] (fun j f X=>match j with
  | 0=>f 0=.agg m
  | 1=>∃ b c1,f 1=.slice b (digs 4294967296 4).length c1∧RU X b c1 (digs 4294967296 4)
  | 2=>f 2=.agg m
  | 3=>f 3=.pointer (some ⟨q+1,0,none⟩)
  | 4=>f 4=.slice b (digs 4294967296 x).length k1
  | 5=>f 5=.slice au (digs 4294967296 u6).length aG
  | 6=>∃ b c1,f 6=.slice b (digs 4294967296 u7).length c1∧RU X b c1 (digs 4294967296 u7)
  | 7=>∃ b c1,f 7=.slice b (digs 4294967296 u8).length c1∧RU X b c1 (digs 4294967296 u8)
  | 8=>∃ b c1,f 8=.slice b (digs 4294967296 u8).length c1∧RU X b c1 (digs 4294967296 u8)
  | _=>True) (by kernel_rfl) [(53,0),(54,1),(55,2),(56,3),(57,4),(58,5),(59,6),(60,7),(9,8)] (by kernel_rfl) ?_
 refine lV0 1 8 (d.at_ I) (by rw[J.out];exact jG) ?_
 refine qK 2 7 (fun _=>#[Value.int IntKind.u64 4]) (F':=48) (fun f X a hR=>?_) ?_
 · refine(zAp 4 X (by omega)).mono ?_;rintro e w2 ⟨b,c1,rfl,T,Q⟩;exact⟨_,rfl,Q,fun Y k=>⟨b,c1,rfl,zN T k⟩⟩
 refine lV0 3 6 (d.at_ I) (by rw[J.out];exact jG) ?_
 refine zJ 4 5 ?_
 refine qC 5 4 3 (d.cell j0) ?_
 refine zJ 6 3 ?_
 refine rc 7 2 2 4 5 (fun _ _ a h=>⟨_,_,h,(zN ay.out (d.trans a))⟩) (fun _ _ a h=>⟨_,_,h,(zN N8.out a)⟩) (fun X a _ _ _ _ h i=>jl X G.out (N.out.ext (d.trans a)) h i hx.out aD.out) bx.out ?_
 refine rc 8 1 0 1 6 (fun _ _ _ h=>h) (fun _ _ _ h=>h) (fun X a _ _ _ _ h i=>jl X G.out (N.out.ext (d.trans a)) h i (show 4<C.M by have:=H8.out;omega) cf.out) bz.out ?_
 refine zv 9 0 [(53,0),(54,1),(55,2),(56,3),(57,4),(58,5),(59,6),(60,7)] (fun f X a hR K g=>?_) ?_
 · obtain⟨bf,bI,(r:f 7=_),a7⟩:=hR.out 7 rfl;simp only[yZ,r];refine⟨?_⟩;go_simp;exact g.out _ _ _ (by simp only[yZ,r]) (zT _) trivial (fun Y k=>⟨bf,bI,rfl,zN a7 k⟩)
 refine yF ⟨fun f X a hR E F=>?_⟩
 obtain⟨cH,cX,(H:f 1=_),cq⟩:=hR 1 (by decide)
 obtain⟨cI,cY,(n:f 6=_),cr⟩:=hR 6 (by decide)
 obtain⟨bf,bI,(r:f 7=_),a7⟩:=hR 7 (by decide)
 obtain⟨av,aH,(e8:f 8=_),bW⟩:=hR 8 (by decide)
 simp only[yZ,H,n,r,e8]
 clear hR E F H n r e8
 refine zI ?_
 replace d:=d.trans a
 replace O:=zF (zN O.out a)
 replace R:=zF (zN R.out a)
 replace S:=zF (zN S.out a)
 replace N8:=zF (zN N8.out a)
 have N9:=zF bW
 clear a cq cr a7 bW
 rename World=>X7_k
 go_upto_region 8 with fail
 refine zZ (by kernel_rfl) 11 [0,0,0,0,0,28,0,126,0,511,1023] [] (fun j f X=>match j with
  | 0=>f 0=.agg m
  | 1=>f 1=.agg m
  | 2=>f 2=.agg m
  | 3=>f 3=.slice ar (digs 4294967296 V).length aF
  | 4=>f 4=.slice ar (digs 4294967296 V).length aF
  | 5=>∃ b c1,f 5=.slice b (digs 4294967296 u9).length c1∧RU X b c1 (digs 4294967296 u9)
  | 6=>f 6=.slice av (digs 4294967296 u8).length aH
  | 7=>∃ b c1,f 7=.slice b (digs 4294967296 u10).length c1∧RU X b c1 (digs 4294967296 u10)
  | 8=>f 8=.slice av (digs 4294967296 u8).length aH
  | 9=>∃ b c1,f 9=.slice b (digs 4294967296 u11).length c1∧RU X b c1 (digs 4294967296 u11)
  | 10=>∃ b c1,f 10=.slice b (digs 4294967296 u11).length c1∧RU X b c1 (digs 4294967296 u11)
  | _=>True) (by kernel_rfl) [(61,0),(62,1),(63,2),(64,3),(65,4),(66,5),(67,6),(68,7),(69,8),(70,9),(10,10)] (by kernel_rfl) ?_
 refine lV0 1 10 (d.at_ I) (by rw[J.out];exact jG) ?_
 refine lV0 2 9 (d.at_ I) (by rw[J.out];exact jG) ?_
 refine lV0 3 8 (d.at_ I) (by rw[J.out];exact jG) ?_
 refine zJ 4 7 ?_
 refine zJ 5 6 ?_
 refine rc 6 5 2 3 4 (fun _ _ a h=>⟨_,_,h,(zN S.out a)⟩) (fun _ _ a h=>⟨_,_,h,(zN S.out a)⟩) (fun X a _ _ _ _ h i=>jl X G.out (N.out.ext (d.trans a)) h i aC.out aC.out) bA.out ?_
 refine zJ 7 4 ?_
 refine rc 8 3 1 5 6 (fun _ _ _ h=>h) (fun _ _ a h=>⟨_,_,h,(zN N9.out a)⟩) (fun X a _ _ _ _ h i=>wX X G.out (N.out.ext (d.trans a)) h i cg.out aE.out) bj.out ?_
 refine zJ 9 2 ?_
 refine rc 10 1 0 7 8 (fun _ _ _ h=>h) (fun _ _ a h=>⟨_,_,h,(zN N9.out a)⟩) (fun X a _ _ _ _ h i=>wX X G.out (N.out.ext (d.trans a)) h i b3.out aE.out) bk.out ?_
 refine zv 11 0 [(61,0),(62,1),(63,2),(64,3),(65,4),(66,5),(67,6),(68,7),(69,8),(70,9)] (fun f X a hR K g=>?_) ?_
 · obtain⟨bg,bJ,(u:f 9=_),a8⟩:=hR.out 9 rfl;simp only[yZ,u];refine⟨?_⟩;go_simp;exact g.out _ _ _ (by simp only[yZ,u]) (zT _) trivial (fun Y k=>⟨bg,bJ,rfl,zN a8 k⟩)
 refine yF ⟨fun f X a hR E F=>?_⟩
 obtain⟨cJ,cZ,(B:f 5=_),cs⟩:=hR 5 (by decide)
 obtain⟨cK,c0,(r:f 7=_),ct⟩:=hR 7 (by decide)
 obtain⟨bg,bJ,(u:f 9=_),a8⟩:=hR 9 (by decide)
 obtain⟨af,ah,(P:f 10=_),bX⟩:=hR 10 (by decide)
 simp only[yZ,B,r,u,P]
 clear hR E F B r u P
 refine zI ?_
 replace d:=d.trans a
 replace O:=zF (zN O.out a)
 replace R:=zF (zN R.out a)
 replace S:=zF (zN S.out a)
 replace N8:=zF (zN N8.out a)
 replace N9:=zF (zN N9.out a)
 have ag:=zF bX
 clear a cs ct a8 bX
 rename World=>X8_k
 go_upto_region 9 with fail
 refine zZ (by kernel_rfl) 17 [0,0,0,0,0,0,56,126,0,254,0,0,0,7934,16382,32767,65535] [] (fun j f X=>match j with
  | 0=>f 0=.agg m
  | 1=>f 1=.agg m
  | 2=>f 2=.slice ar (digs 4294967296 V).length aF
  | 3=>f 3=.agg m
  | 4=>f 4=.slice av (digs 4294967296 u8).length aH
  | 5=>f 5=.slice af (digs 4294967296 u11).length ah
  | 6=>∃ b c1,f 6=.slice b (digs 4294967296 u12).length c1∧RU X b c1 (digs 4294967296 u12)
  | 7=>∃ b c1,f 7=.slice b (digs 4294967296 u13).length c1∧RU X b c1 (digs 4294967296 u13)
  | 8=>f 8=.agg m
  | 9=>∃ b c1,f 9=.slice b (digs 4294967296 8).length c1∧RU X b c1 (digs 4294967296 8)
  | 10=>f 10=.agg m
  | 11=>f 11=.slice au (digs 4294967296 u6).length aG
  | 12=>f 12=.slice au (digs 4294967296 u6).length aG
  | 13=>∃ b c1,f 13=.slice b (digs 4294967296 ap).length c1∧RU X b c1 (digs 4294967296 ap)
  | 14=>∃ b c1,f 14=.slice b (digs 4294967296 aq).length c1∧RU X b c1 (digs 4294967296 aq)
  | 15=>∃ b c1,f 15=.slice b (digs 4294967296 u16).length c1∧RU X b c1 (digs 4294967296 u16)
  | 16=>∃ b c1,f 16=.slice b (digs 4294967296 u16).length c1∧RU X b c1 (digs 4294967296 u16)
  | _=>True) (by kernel_rfl) [(71,0),(72,1),(73,2),(74,3),(75,4),(76,5),(77,6),(78,7),(79,8),(80,9),(81,10),(82,11),(83,12),(84,13),(85,14),(86,15),(11,16)] (by kernel_rfl) ?_
 refine lV0 1 16 (d.at_ I) (by rw[J.out];exact jG) ?_
 refine lV0 2 15 (d.at_ I) (by rw[J.out];exact jG) ?_
 refine zJ 3 14 ?_
 refine lV0 4 13 (d.at_ I) (by rw[J.out];exact jG) ?_
 refine zJ 5 12 ?_
 refine zJ 6 11 ?_
 refine rc 7 10 3 4 5 (fun _ _ a h=>⟨_,_,h,(zN N9.out a)⟩) (fun _ _ a h=>⟨_,_,h,(zN ag.out a)⟩) (fun X a _ _ _ _ h i=>wX X G.out (N.out.ext (d.trans a)) h i aE.out bC.out) bl.out ?_
 refine rc 8 9 1 2 6 (fun _ _ a h=>⟨_,_,h,(zN S.out a)⟩) (fun _ _ _ h=>h) (fun X a _ _ _ _ h i=>jl X G.out (N.out.ext (d.trans a)) h i aC.out b4.out) bm.out ?_
 refine lV0 9 8 (d.at_ I) (by rw[J.out];exact jG) ?_
 refine qK 10 7 (fun _=>#[Value.int IntKind.u64 8]) (F':=48) (fun f X a hR=>?_) ?_
 · refine(zAp 8 X (by omega)).mono ?_;rintro e w2 ⟨b,c1,rfl,T,Q⟩;exact⟨_,rfl,Q,fun Y k=>⟨b,c1,rfl,zN T k⟩⟩
 refine lV0 11 6 (d.at_ I) (by rw[J.out];exact jG) ?_
 refine zJ 12 5 ?_
 refine zJ 13 4 ?_
 refine rc 14 3 10 11 12 (fun _ _ a h=>⟨_,_,h,(zN N8.out a)⟩) (fun _ _ a h=>⟨_,_,h,(zN N8.out a)⟩) (fun X a _ _ _ _ h i=>jl X G.out (N.out.ext (d.trans a)) h i aD.out aD.out) bn.out ?_
 refine rc 15 2 8 9 13 (fun _ _ _ h=>h) (fun _ _ _ h=>h) (fun X a _ _ _ _ h i=>jl X G.out (N.out.ext (d.trans a)) h i (show 8<C.M by have:=H8.out;omega) b6.out) bo.out ?_
 refine rc 16 1 0 7 14 (fun _ _ _ h=>h) (fun _ _ _ h=>h) (fun X a _ _ _ _ h i=>wX X G.out (N.out.ext (d.trans a)) h i b5.out b7.out) bp.out ?_
 refine zv 17 0 [(71,0),(72,1),(73,2),(74,3),(75,4),(76,5),(77,6),(78,7),(79,8),(80,9),(81,10),(82,11),(83,12),(84,13),(85,14),(86,15)] (fun f X a hR K g=>?_) ?_
 · obtain⟨bh,bK,(ad:f 15=_),a9⟩:=hR.out 15 rfl;simp only[yZ,ad];refine⟨?_⟩;go_simp;exact g.out _ _ _ (by simp only[yZ,ad]) (zT _) trivial (fun Y k=>⟨bh,bK,rfl,zN a9 k⟩)
 refine yF ⟨fun f X a hR E F=>?_⟩
 obtain⟨cN,c4,(n:f 6=_),cw⟩:=hR 6 (by decide)
 obtain⟨cO,c5,(r:f 7=_),cA⟩:=hR 7 (by decide)
 obtain⟨cQ,c6,(u:f 9=_),cB⟩:=hR 9 (by decide)
 obtain⟨cL,c2,(bL:f 13=_),cu⟩:=hR 13 (by decide)
 obtain⟨cM,c3,(bM:f 14=_),cv⟩:=hR 14 (by decide)
 obtain⟨bh,bK,(ad:f 15=_),a9⟩:=hR 15 (by decide)
 obtain⟨aw,aI,(bN:f 16=_),bY⟩:=hR 16 (by decide)
 simp only[yZ,n,r,u,bL,bM,ad,bN]
 clear hR E F n r u bL bM ad bN
 refine zI ?_
 replace d:=d.trans a
 replace O:=zF (zN O.out a)
 replace R:=zF (zN R.out a)
 replace S:=zF (zN S.out a)
 replace N8:=zF (zN N8.out a)
 replace N9:=zF (zN N9.out a)
 replace ag:=zF (zN ag.out a)
 have ch:=zF bY
 clear a cw cA cB cu cv a9 bY
 rename World=>X9_k
 have Z:=d.at_ ak
 go_upto_region 10 with fail
 refine zZ (by kernel_rfl) 12 [0,0,0,0,0,0,32,0,128,504,1020,2047,4095] [] (fun j f X=>match j with
  | 0=>f 0=.slice af (digs 4294967296 u11).length ah
  | 1=>f 1=.slice aw (digs 4294967296 u16).length aI
  | 2=>f 2=.agg m
  | 3=>∃ b c1,f 3=.slice b (digs 4294967296 2).length c1∧RU X b c1 (digs 4294967296 2)
  | 4=>f 4=.agg m
  | 5=>f 5=.pointer (some ⟨q+1,1,none⟩)
  | 6=>f 6=.slice A2 (digs 4294967296 y).length k2
  | 7=>f 7=.pointer (some ⟨q+1,2,none⟩)
  | 8=>f 8=.slice A3 (digs 4294967296 z).length k3
  | 9=>∃ b c1,f 9=.slice b (digs 4294967296 u17).length c1∧RU X b c1 (digs 4294967296 u17)
  | 10=>∃ b c1,f 10=.slice b (digs 4294967296 u18).length c1∧RU X b c1 (digs 4294967296 u18)
  | 11=>∃ A c,f 11=.agg #[.slice af (digs 4294967296 u11).length ah,.slice aw (digs 4294967296 u16).length aI,.slice A (digs 4294967296 u18).length c]∧RU X A c (digs 4294967296 u18)
  | _=>True) (by kernel_rfl) [(87,0),(88,1),(89,2),(90,3),(91,4),(92,5),(93,6),(94,7),(95,8),(96,9),(97,10),(98,11)] (by kernel_rfl) ?_
 refine zJ 1 11 ?_
 refine zJ 2 10 ?_
 refine lV0 3 9 (d.at_ I) (by rw[J.out];exact jG) ?_
 refine qK 4 8 (fun _=>#[Value.int IntKind.u64 2]) (F':=48) (fun f X a hR=>?_) ?_
 · refine(zAp 2 X (by omega)).mono ?_;rintro e w2 ⟨b,c1,rfl,T,Q⟩;exact⟨_,rfl,Q,fun Y k=>⟨b,c1,rfl,zN T k⟩⟩
 refine lV0 5 7 (d.at_ I) (by rw[J.out];exact jG) ?_
 refine zJ 6 6 ?_
 refine qC 7 5 5 (d.cell j1) ?_
 refine zJ 8 4 ?_
 refine qC 9 3 7 (d.cell j2) ?_
 refine rc 10 2 4 6 8 (fun _ _ a h=>⟨_,_,h,(zN az.out (d.trans a))⟩) (fun _ _ a h=>⟨_,_,h,(zN aA.out (d.trans a))⟩) (fun X a _ _ _ _ h i=>jl X G.out (N.out.ext (d.trans a)) h i hy.out hz.out) bq.out ?_
 refine rc 11 1 2 3 9 (fun _ _ _ h=>h) (fun _ _ _ h=>h) (fun X a _ _ _ _ h i=>jl X G.out (N.out.ext (d.trans a)) h i (show 2<C.M by have:=H8.out;omega) b9.out) br.out ?_
 refine zv 12 0 [(87,0),(88,1),(89,2),(90,3),(91,4),(92,5),(93,6),(94,7),(95,8),(96,9),(97,10)] (fun f X a hR K g=>?_) ?_
 · have e0:f 0=_:=hR.out 0 rfl;have H:f 1=_:=hR.out 1 rfl;obtain⟨bZ,ci,(P:f 10=_),bR⟩:=hR.out 10 rfl;simp only[yZ,e0,H,P];refine⟨?_⟩;go_simp;exact g.out _ _ _ (by simp only[yZ,e0,H,P]) (zT _) trivial (fun Y k=>⟨_,_,rfl,zN bR k⟩)
 refine yF ⟨fun f X a hR E F=>?_⟩
 obtain⟨cC,cS,(e3:f 3=_),c8⟩:=hR 3 (by decide)
 obtain⟨cD,cT,(u:f 9=_),c9⟩:=hR 9 (by decide)
 obtain⟨bZ,ci,(P:f 10=_),bR⟩:=hR 10 (by decide)
 obtain⟨Az,cz,(ac:f 11=_),oz⟩:=hR 11 (by decide)
 simp only[yZ,e3,u,P,ac]
 clear hR E F e3 u P ac
 refine zO (fun K g=>⟨zU (by kernel_rfl) (jX (cs':=#[.slice af (digs 4294967296 u11).length ah,.slice aw (digs 4294967296 u16).length aI,.slice Az (digs 4294967296 u18).length cz]) (t:=78) 78 (.tmp 4) (.tmp 98) rfl rfl rfl rfl (a.at_ Z) uQ rfl (dX _ _ _ _ _ _ _ _ _) (fun Y ai aj c7=>g.out _ _ ?_))⟩)
 refine zI ?_
 go_wp2
 exact fR rfl rfl rfl ai ⟨_,rfl,⟨_,_,_,_,_,_,rfl,(zN ag.out a).offJ aj (a.at_ Z) (by kernel_rfl),(zN ch.out a).offJ aj (a.at_ Z) (by kernel_rfl),oz.offJ aj (a.at_ Z) (by kernel_rfl),bC.out,b8.out,ca.out⟩,aj.ext (ax.out.trans (d.trans a)) (by have:=Hq.out;omega)⟩
theorem zES (w:World)(a o2 o3 b:Obj):((((w.alloc a).alloc o2).alloc o3).alloc b).heap[w.heap.size]?=some a∧((((w.alloc a).alloc o2).alloc o3).alloc b).heap[w.heap.size+1]?=some o2∧((((w.alloc a).alloc o2).alloc o3).alloc b).heap[w.heap.size+2]?=some o3∧((((w.alloc a).alloc o2).alloc o3).alloc b).heap[w.heap.size+3]?=some b∧((((w.alloc a).alloc o2).alloc o3).alloc b).heap.size=w.heap.size+4:=by
 obtain⟨c,d,e,f⟩:=mM w a o2 o3;refine⟨(zL _ _).at_ c,(zL _ _).at_ d,(zL _ _).at_ e,?_,by simp⟩;have:=zS (((w.alloc a).alloc o2).alloc o3) b;rwa [f]at this
def uP (M x y z qx qy:Nat):Nat×Nat×Nat:=if z=0 then(qx,qy,1)else let u1:=mm M z z;let u2:=mm M qx u1;let u3:=mm M u1 z;let u4:=mm M qy u3;let u5:=sm M u2 x;let u6:=sm M u4 y;let u7:=mm M u5 u5;let u8:=mm M u7 u5;let u9:=mm M x u7;let u10:=mm M u6 u6;let u11:=sm M u10 u8;let u12:=sm M u11 u9;let u13:=sm M u12 u9;let u14:=sm M u9 u13;let u15:=mm M u6 u14;let u16:=mm M y u8;let u17:=sm M u15 u16;let u18:=mm M z u5;if u5=0 then(if u6=0 then twP M x y z else(0,0,0))else(u13,u17,u18)
theorem zCf {C:Crv}{G:Array Value}{v:Value}{p:Nat×Nat×Nat}{B1 B2:Option Addr}{m1 m2 qx qy:Nat}(hF:C.Fine)(h8:8<C.M)(w:World)(hc:RC w C (.agg G))(hj:JN w C v p)(cd:RU w B1 m1 (digs 4294967296 qx))(ce:RU w B2 m2 (digs 4294967296 qy))(aB:qx<C.M)(aC:qy<C.M) :
 Calls Tryz.prog 42 #[.agg G,v,.agg #[.bool false,.slice B1 (digs 4294967296 qx).length m1,.slice B2 (digs 4294967296 qy).length m2]] w fun e w'=>∃ o,e=.returned o∧JN w' C o (uP C.M p.1 p.2.1 p.2.2 qx qy)∧Ext w w':=by
 obtain⟨d,A2,Z,k1,k2,k3,rfl,a3,a4,a5,hx,hy,hz⟩:=hj
 obtain⟨x,y,z⟩:=p
 simp only at a3 a4 a5 hx hy hz ⊢
 obtain⟨Ap,An,Ab,Ax,Ay,cp,cn,cb,cx,cy,ak,hP,hN,hB,ca,ag⟩:=hc
 injection ak with ak
 have b9:RC w C (.agg G):=⟨Ap,An,Ab,Ax,Ay,cp,cn,cb,cx,cy,by rw[ak],hP,hN,hB,ca,ag⟩
 obtain⟨W0,af⟩:=eW ((((w.alloc (.cells G 30)).alloc (.cells #[.slice d (digs 4294967296 x).length k1,.slice A2 (digs 4294967296 y).length k2,.slice Z (digs 4294967296 z).length k3] 78)).alloc (.cells #[.bool false,.slice B1 (digs 4294967296 qx).length m1,.slice B2 (digs 4294967296 qy).length m2] 45)).alloc (.cells #[.slice none 0 0,.slice none 0 0,.slice none 0 0] 78))
 obtain⟨q,hq⟩:=eV w.heap.size
 have ab:Ext w W0:=by rw[af];exact(((zL _ _).trans (zL _ _)).trans (zL _ _)).trans (zL _ _)
 obtain⟨L,ar,aA,au,U⟩:=zES w (.cells G 30) (.cells #[.slice d (digs 4294967296 x).length k1,.slice A2 (digs 4294967296 y).length k2,.slice Z (digs 4294967296 z).length k3] 78) (.cells #[.bool false,.slice B1 (digs 4294967296 qx).length m1,.slice B2 (digs 4294967296 qy).length m2] 45) (.cells #[.slice none 0 0,.slice none 0 0,.slice none 0 0] 78)
 rw[←af,hq]at L ar aA au U
 have j0:=zP ar 0
 have j1:=zP ar 1
 have j2:=zP ar 2
 have t1:=zP aA 1
 have t2:=zP aA 2
 have cP:=zP L 0
 rw[ak]at cP
 simp only[zQ,ze,qe]at j0 j1 j2 t1 t2 cP
 have S:=zF (b9.ext ab)
 have Q:=zF (show G.size=6 by rw[ak];rfl)
 have c7:=zF (zN hP ab)
 have aH:=zF (zN a3 ab)
 have aI:=zF (zN a4 ab)
 have ap:=zF (zN a5 ab)
 have bO:=zF (zN cd ab)
 have bP:=zF (zN ce ab)
 have P:=zF hF
 have H8:=zF h8
 have J:0<C.M:=by omega
 have aw:=zF ab
 have c8:=zF U
 replace hx:=zF hx
 replace hy:=zF hy
 replace hz:=zF hz
 replace aB:=zF aB
 replace aC:=zF aC
 clear b9 ak hP hN hB ca ag a3 a4 a5 hF h8 ab U cd ce aA
 by_cases U:z=0
 · rw[show uP C.M x y z qx qy=(qx,qy,1) by rw[uP,qg U]];replace U:=zF U;go_enter Tryz.func42,Tryz.ntmps42;go_upto_region 1 with fail;rw[←af];have Hq:=zF hq;have cA:=zF af;have b:=zT W0;clear hq af
   refine zR 4 [0,1,3,7] [] (fun j f X=>match j with
    | 0=>f 0=.pointer (some ⟨q+1,2,none⟩)
    | 1=>f 1=.slice Z (digs 4294967296 z).length k3
    | 2=>f 2=.int .i64 ((digs 4294967296 z).length:Int)
    | 3=>f 3=.bool true
    | _=>True) (by kernel_rfl) [(17,0),(18,1),(19,2),(20,3)] (by kernel_rfl) ?_
   refine zJ 1 3 ?_;refine qC 2 2 0 (b.cell j2) ?_;refine zv 3 1 [(17,0),(18,1)] (fun f X a hR K g=>?_) ?_
   · have u:f 1=_:=hR.out 1 rfl;simp only[yZ,u];refine⟨?_⟩;go_simp;exact qY g (s:=by simp only[yZ,u])
   refine zv 4 0 [(17,0),(18,1),(19,2)] (fun f X a hR K g=>?_) ?_
   · have I:f 2=_:=hR.out 2 rfl;have al:decide (((digs 4294967296 z).length:Int)=0)=true:=xd U.out;have am:decide ((digs 4294967296 z).length=0)=true:=xc U.out;have an:((((digs 4294967296 z).length:Nat):Int)==0)=true:=xe U.out;simp only[yZ,I];refine⟨?_⟩;go_simp;exact qY g (s:=by simp only[yZ,I])
   refine yF ⟨fun f X a hR i k=>?_⟩;have N:f 3=_:=hR 3 (by decide);simp only[yZ,N];clear hR i k N;refine zI ?_;replace b:=b.trans a;clear a  ;rename World=>X1_k;have T:=b.at_ au;go_upto_region 2 with fail
   refine zZ (by kernel_rfl) 6 [0,1,0,4,0,31,63] [] (fun j f X=>match j with
    | 0=>f 0=.pointer (some ⟨q+2,1,none⟩)
    | 1=>f 1=.slice B1 (digs 4294967296 qx).length m1
    | 2=>f 2=.pointer (some ⟨q+2,2,none⟩)
    | 3=>f 3=.slice B2 (digs 4294967296 qy).length m2
    | 4=>∃ d c1,f 4=.slice d (digs 4294967296 1).length c1∧RU X d c1 (digs 4294967296 1)
    | 5=>∃ A c,f 5=.agg #[.slice B1 (digs 4294967296 qx).length m1,.slice B2 (digs 4294967296 qy).length m2,.slice A (digs 4294967296 1).length c]∧RU X A c (digs 4294967296 1)
    | _=>True) (by kernel_rfl) [(21,0),(22,1),(23,2),(24,3),(25,4),(26,5)] (by kernel_rfl) ?_
   refine zJ 1 5 ?_;refine qC 2 4 0 (b.cell t1) ?_;refine zJ 3 3 ?_;refine qC 4 2 2 (b.cell t2) ?_;refine qK 5 1 (fun _=>#[Value.int IntKind.u64 1]) (F':=48) (fun f X a hR=>?_) ?_
   · refine(zAp 1 X (by omega)).mono ?_;rintro e w2 ⟨d,c1,rfl,hO,hB⟩;exact⟨_,rfl,hB,fun Y D=>⟨d,c1,rfl,zN hO D⟩⟩
   refine zv 6 0 [(21,0),(22,1),(23,2),(24,3),(25,4)] (fun f X a hR K g=>?_) ?_
   · have u:f 1=_:=hR.out 1 rfl;have N:f 3=_:=hR.out 3 rfl;obtain⟨cu,cO,(l:f 4=_),cl⟩:=hR.out 4 rfl;simp only[yZ,u,N,l];refine⟨?_⟩;go_simp;exact g.out _ _ _ (by simp only[yZ,u,N,l]) (zT _) trivial (fun Y D=>⟨_,_,rfl,zN cl D⟩)
   refine yF ⟨fun f X a hR i k=>?_⟩;obtain⟨cu,cO,(l:f 4=_),cl⟩:=hR 4 (by decide);obtain⟨Az,cz,(O:f 5=_),oz⟩:=hR 5 (by decide);simp only[yZ,l,O];clear hR i k l O;refine zO (fun K g=>⟨zU (by kernel_rfl) (jX (cs':=#[.slice B1 (digs 4294967296 qx).length m1,.slice B2 (digs 4294967296 qy).length m2,.slice Az (digs 4294967296 1).length cz]) (t:=78) 78 (.tmp 6) (.tmp 26) rfl rfl rfl rfl (a.at_ T) uQ rfl (dX _ _ _ _ _ _ _ _ _) (fun Y ag W cc=>g.out _ _ ?_))⟩);refine zI ?_;go_wp2;exact fR rfl rfl rfl ag ⟨_,rfl,⟨_,_,_,_,_,_,rfl,(zN bO.out (b.trans a)).offJ W (a.at_ T) (by kernel_rfl),(zN bP.out (b.trans a)).offJ W (a.at_ T) (by kernel_rfl),oz.offJ W (a.at_ T) (by kernel_rfl),aB.out,aC.out,(show 1<C.M by have:=H8.out;omega)⟩,W.ext (aw.out.trans (b.trans a)) (by have:=Hq.out;omega)⟩
 obtain⟨u1,dw⟩:=eV (mm C.M z z)
 have bQ:=zF (show u1<C.M by rw[←dw];exact kh J _ _)
 have bv:=zF dw
 clear dw
 obtain⟨u2,dv⟩:=eV (mm C.M qx u1)
 have cJ:=zF (show u2<C.M by rw[←dv];exact kh J _ _)
 have bG:=zF dv
 clear dv
 obtain⟨u3,aW⟩:=eV (mm C.M u1 z)
 have cK:=zF (show u3<C.M by rw[←aW];exact kh J _ _)
 have bH:=zF aW
 clear aW
 obtain⟨u4,aX⟩:=eV (mm C.M qy u3)
 have cL:=zF (show u4<C.M by rw[←aX];exact kh J _ _)
 have bI:=zF aX
 clear aX
 obtain⟨r,aY⟩:=eV (sm C.M u2 x)
 have ax:=zF (show r<C.M by rw[←aY];exact yQ J _ _)
 have bJ:=zF aY
 clear aY
 obtain⟨u6,aZ⟩:=eV (sm C.M u4 y)
 have aJ:=zF (show u6<C.M by rw[←aZ];exact yQ J _ _)
 have bK:=zF aZ
 clear aZ
 obtain⟨u7,a0⟩:=eV (mm C.M r r)
 have bS:=zF (show u7<C.M by rw[←a0];exact kh J _ _)
 have bL:=zF a0
 clear a0
 obtain⟨u8,a1⟩:=eV (mm C.M u7 r)
 have bT:=zF (show u8<C.M by rw[←a1];exact kh J _ _)
 have bM:=zF a1
 clear a1
 obtain⟨u9,a2⟩:=eV (mm C.M x u7)
 have aK:=zF (show u9<C.M by rw[←a2];exact kh J _ _)
 have bN:=zF a2
 clear a2
 obtain⟨u10,aN⟩:=eV (mm C.M u6 u6)
 have cB:=zF (show u10<C.M by rw[←aN];exact kh J _ _)
 have bw:=zF aN
 clear aN
 obtain⟨u11,aO⟩:=eV (sm C.M u10 u8)
 have cC:=zF (show u11<C.M by rw[←aO];exact yQ J _ _)
 have bx:=zF aO
 clear aO
 obtain⟨u12,aP⟩:=eV (sm C.M u11 u9)
 have cD:=zF (show u12<C.M by rw[←aP];exact yQ J _ _)
 have bz:=zF aP
 clear aP
 obtain⟨u13,aQ⟩:=eV (sm C.M u12 u9)
 have bR:=zF (show u13<C.M by rw[←aQ];exact yQ J _ _)
 have bA:=zF aQ
 clear aQ
 obtain⟨aD,aR⟩:=eV (sm C.M u9 u13)
 have cE:=zF (show aD<C.M by rw[←aR];exact yQ J _ _)
 have bB:=zF aR
 clear aR
 obtain⟨aE,aS⟩:=eV (mm C.M u6 aD)
 have cF:=zF (show aE<C.M by rw[←aS];exact kh J _ _)
 have bC:=zF aS
 clear aS
 obtain⟨u16,aT⟩:=eV (mm C.M y u8)
 have cG:=zF (show u16<C.M by rw[←aT];exact kh J _ _)
 have bD:=zF aT
 clear aT
 obtain⟨u17,aU⟩:=eV (sm C.M aE u16)
 have cH:=zF (show u17<C.M by rw[←aU];exact yQ J _ _)
 have bE:=zF aU
 clear aU
 obtain⟨u18,aV⟩:=eV (mm C.M z r)
 have cI:=zF (show u18<C.M by rw[←aV];exact kh J _ _)
 have bF:=zF aV
 clear aV
 obtain⟨res,a7⟩:=eV (uP C.M x y z qx qy)
 have a6:=zF (show res=if r=0 then(if u6=0 then twP C.M x y z else(0,0,0))else(u13,u17,u18) by rw[←a7,uP,qo U];simp only[bv.out,bG.out,bH.out,bI.out,bJ.out,bK.out,bL.out,bM.out,bN.out,bw.out,bx.out,bz.out,bA.out,bB.out,bC.out,bD.out,bE.out,bF.out])
 rw[a7]
 clear a7
 replace U:=zF U
 go_enter Tryz.func42,Tryz.ntmps42
 go_upto_region 1 with fail
 rw[←af]
 have Hq:=zF hq
 have cA:=zF af
 have b:=zT W0
 clear hq af
 refine zR 4 [0,1,3,7] [] (fun j f X=>match j with
  | 0=>f 0=.pointer (some ⟨q+1,2,none⟩)
  | 1=>f 1=.slice Z (digs 4294967296 z).length k3
  | 2=>f 2=.int .i64 ((digs 4294967296 z).length:Int)
  | 3=>f 3=.bool false
  | _=>True) (by kernel_rfl) [(17,0),(18,1),(19,2),(20,3)] (by kernel_rfl) ?_
 refine zJ 1 3 ?_
 refine qC 2 2 0 (b.cell j2) ?_
 refine zv 3 1 [(17,0),(18,1)] (fun f X a hR K g=>?_) ?_
 · have u:f 1=_:=hR.out 1 rfl;simp only[yZ,u];refine⟨?_⟩;go_simp;exact qY g (s:=by simp only[yZ,u])
 refine zv 4 0 [(17,0),(18,1),(19,2)] (fun f X a hR K g=>?_) ?_
 · have I:f 2=_:=hR.out 2 rfl;have al:decide (((digs 4294967296 z).length:Int)=0)=false:=wj U.out;have am:decide ((digs 4294967296 z).length=0)=false:=wi U.out;have an:((((digs 4294967296 z).length:Nat):Int)==0)=false:=wk U.out;simp only[yZ,I];refine⟨?_⟩;go_simp;exact qY g (s:=by simp only[yZ,I])
 refine yF ⟨fun f X a hR i k=>?_⟩
 have N:f 3=_:=hR 3 (by decide)
 simp only[yZ,N]
 clear hR i k N
 refine zI ?_
 replace b:=b.trans a
 clear a  
 rename World=>X1_k
 go_upto_region 3 with fail
 refine zR 7 [0,0,2,0,8,31,63] [] (fun j f X=>match j with
  | 0=>f 0=.agg G
  | 1=>f 1=.pointer (some ⟨q+1,2,none⟩)
  | 2=>f 2=.slice Z (digs 4294967296 z).length k3
  | 3=>f 3=.pointer (some ⟨q+1,2,none⟩)
  | 4=>f 4=.slice Z (digs 4294967296 z).length k3
  | 5=>∃ d c1,f 5=.slice d (digs 4294967296 u1).length c1∧RU X d c1 (digs 4294967296 u1)
  | 6=>∃ d c1,f 6=.slice d (digs 4294967296 u1).length c1∧RU X d c1 (digs 4294967296 u1)
  | _=>True) (by kernel_rfl) [(27,0),(28,1),(29,2),(30,3),(31,4),(32,5),(7,6)] (by kernel_rfl) ?_
 refine lV0 1 6 (b.at_ L) (by rw[Q.out];exact jG) ?_
 refine zJ 2 5 ?_
 refine qC 3 4 1 (b.cell j2) ?_
 refine zJ 4 3 ?_
 refine qC 5 2 3 (b.cell j2) ?_
 refine rc 6 1 0 2 4 (fun _ _ a h=>⟨_,_,h,(zN ap.out (b.trans a))⟩) (fun _ _ a h=>⟨_,_,h,(zN ap.out (b.trans a))⟩) (fun X a _ _ _ _ h m=>jl X P.out (S.out.ext (b.trans a)) h m hz.out hz.out) bv.out ?_
 refine zv 7 0 [(27,0),(28,1),(29,2),(30,3),(31,4),(32,5)] (fun f X a hR K g=>?_) ?_
 · obtain⟨bp,b1,(O:f 5=_),bd⟩:=hR.out 5 rfl;simp only[yZ,O];refine⟨?_⟩;go_simp;exact g.out _ _ _ (by simp only[yZ,O]) (zT _) trivial (fun Y D=>⟨bp,b1,rfl,zN bd D⟩)
 refine yF ⟨fun f X a hR i k=>?_⟩
 obtain⟨bp,b1,(O:f 5=_),bd⟩:=hR 5 (by decide)
 obtain⟨bq,b2,(V:f 6=_),cm⟩:=hR 6 (by decide)
 simp only[yZ,O,V]
 clear hR i k O V
 refine zI ?_
 replace b:=b.trans a
 have n:=zF cm
 clear a bd cm 
 rename World=>X3_k
 go_upto_region 4 with fail
 refine zR 6 [0,0,2,0,15,31] [] (fun j f X=>match j with
  | 0=>f 0=.agg G
  | 1=>f 1=.pointer (some ⟨q+2,1,none⟩)
  | 2=>f 2=.slice B1 (digs 4294967296 qx).length m1
  | 3=>f 3=.slice bq (digs 4294967296 u1).length b2
  | 4=>∃ d c1,f 4=.slice d (digs 4294967296 u2).length c1∧RU X d c1 (digs 4294967296 u2)
  | 5=>∃ d c1,f 5=.slice d (digs 4294967296 u2).length c1∧RU X d c1 (digs 4294967296 u2)
  | _=>True) (by kernel_rfl) [(33,0),(34,1),(35,2),(36,3),(37,4),(8,5)] (by kernel_rfl) ?_
 refine lV0 1 5 (b.at_ L) (by rw[Q.out];exact jG) ?_
 refine zJ 2 4 ?_
 refine qC 3 3 1 (b.cell t1) ?_
 refine zJ 4 2 ?_
 refine rc 5 1 0 2 3 (fun _ _ a h=>⟨_,_,h,(zN bO.out (b.trans a))⟩) (fun _ _ a h=>⟨_,_,h,(zN n.out a)⟩) (fun X a _ _ _ _ h m=>jl X P.out (S.out.ext (b.trans a)) h m aB.out bQ.out) bG.out ?_
 refine zv 6 0 [(33,0),(34,1),(35,2),(36,3),(37,4)] (fun f X a hR K g=>?_) ?_
 · obtain⟨br,b3,(l:f 4=_),be⟩:=hR.out 4 rfl;simp only[yZ,l];refine⟨?_⟩;go_simp;exact g.out _ _ _ (by simp only[yZ,l]) (zT _) trivial (fun Y D=>⟨br,b3,rfl,zN be D⟩)
 refine yF ⟨fun f X a hR i k=>?_⟩
 obtain⟨br,b3,(l:f 4=_),be⟩:=hR 4 (by decide)
 obtain⟨cv,cQ,(O:f 5=_),co⟩:=hR 5 (by decide)
 simp only[yZ,l,O]
 clear hR i k l O
 refine zI ?_
 replace b:=b.trans a
 replace n:=zF (zN n.out a)
 have B:=zF co
 clear a be co
 rename World=>X4_k
 go_upto_region 5 with fail
 refine zZ (by kernel_rfl) 10 [0,0,2,0,0,0,32,120,255,511] [] (fun j f X=>match j with
  | 0=>f 0=.agg G
  | 1=>f 1=.pointer (some ⟨q+2,2,none⟩)
  | 2=>f 2=.slice B2 (digs 4294967296 qy).length m2
  | 3=>f 3=.agg G
  | 4=>f 4=.slice bq (digs 4294967296 u1).length b2
  | 5=>f 5=.pointer (some ⟨q+1,2,none⟩)
  | 6=>f 6=.slice Z (digs 4294967296 z).length k3
  | 7=>∃ d c1,f 7=.slice d (digs 4294967296 u3).length c1∧RU X d c1 (digs 4294967296 u3)
  | 8=>∃ d c1,f 8=.slice d (digs 4294967296 u4).length c1∧RU X d c1 (digs 4294967296 u4)
  | 9=>∃ d c1,f 9=.slice d (digs 4294967296 u4).length c1∧RU X d c1 (digs 4294967296 u4)
  | _=>True) (by kernel_rfl) [(38,0),(39,1),(40,2),(41,3),(42,4),(43,5),(44,6),(45,7),(46,8),(9,9)] (by kernel_rfl) ?_
 refine lV0 1 9 (b.at_ L) (by rw[Q.out];exact jG) ?_
 refine zJ 2 8 ?_
 refine qC 3 7 1 (b.cell t2) ?_
 refine lV0 4 6 (b.at_ L) (by rw[Q.out];exact jG) ?_
 refine zJ 5 5 ?_
 refine zJ 6 4 ?_
 refine qC 7 3 5 (b.cell j2) ?_
 refine rc 8 2 3 4 6 (fun _ _ a h=>⟨_,_,h,(zN n.out a)⟩) (fun _ _ a h=>⟨_,_,h,(zN ap.out (b.trans a))⟩) (fun X a _ _ _ _ h m=>jl X P.out (S.out.ext (b.trans a)) h m bQ.out hz.out) bH.out ?_
 refine rc 9 1 0 2 7 (fun _ _ a h=>⟨_,_,h,(zN bP.out (b.trans a))⟩) (fun _ _ _ h=>h) (fun X a _ _ _ _ h m=>jl X P.out (S.out.ext (b.trans a)) h m aC.out cK.out) bI.out ?_
 refine zv 10 0 [(38,0),(39,1),(40,2),(41,3),(42,4),(43,5),(44,6),(45,7),(46,8)] (fun f X a hR K g=>?_) ?_
 · obtain⟨bs,b4,(e8:f 8=_),bf⟩:=hR.out 8 rfl;simp only[yZ,e8];refine⟨?_⟩;go_simp;exact g.out _ _ _ (by simp only[yZ,e8]) (zT _) trivial (fun Y D=>⟨bs,b4,rfl,zN bf D⟩)
 refine yF ⟨fun f X a hR i k=>?_⟩
 obtain⟨c6,df,(e7:f 7=_),cY⟩:=hR 7 (by decide)
 obtain⟨bs,b4,(e8:f 8=_),bf⟩:=hR 8 (by decide)
 obtain⟨cw,cR,(e9:f 9=_),cq⟩:=hR 9 (by decide)
 simp only[yZ,e7,e8,e9]
 clear hR i k e7 e8 e9
 refine zI ?_
 replace b:=b.trans a
 replace n:=zF (zN n.out a)
 replace B:=zF (zN B.out a)
 have F:=zF cq
 clear a cY bf cq
 rename World=>X5_k
 go_upto_region 6 with fail
 refine zR 6 [0,0,0,4,15,31] [] (fun j f X=>match j with
  | 0=>f 0=.agg G
  | 1=>f 1=.slice cv (digs 4294967296 u2).length cQ
  | 2=>f 2=.pointer (some ⟨q+1,0,none⟩)
  | 3=>f 3=.slice d (digs 4294967296 x).length k1
  | 4=>∃ d c1,f 4=.slice d (digs 4294967296 r).length c1∧RU X d c1 (digs 4294967296 r)
  | 5=>∃ d c1,f 5=.slice d (digs 4294967296 r).length c1∧RU X d c1 (digs 4294967296 r)
  | _=>True) (by kernel_rfl) [(47,0),(48,1),(49,2),(50,3),(51,4),(10,5)] (by kernel_rfl) ?_
 refine lV0 1 5 (b.at_ L) (by rw[Q.out];exact jG) ?_
 refine zJ 2 4 ?_
 refine zJ 3 3 ?_
 refine qC 4 2 2 (b.cell j0) ?_
 refine rc 5 1 0 1 3 (fun _ _ a h=>⟨_,_,h,(zN B.out a)⟩) (fun _ _ a h=>⟨_,_,h,(zN aH.out (b.trans a))⟩) (fun X a _ _ _ _ h m=>wX X P.out (S.out.ext (b.trans a)) h m cJ.out hx.out) bJ.out ?_
 refine zv 6 0 [(47,0),(48,1),(49,2),(50,3),(51,4)] (fun f X a hR K g=>?_) ?_
 · obtain⟨bt,b5,(l:f 4=_),bg⟩:=hR.out 4 rfl;simp only[yZ,l];refine⟨?_⟩;go_simp;exact g.out _ _ _ (by simp only[yZ,l]) (zT _) trivial (fun Y D=>⟨bt,b5,rfl,zN bg D⟩)
 refine yF ⟨fun f X a hR i k=>?_⟩
 obtain⟨bt,b5,(l:f 4=_),bg⟩:=hR 4 (by decide)
 obtain⟨ah,aj,(O:f 5=_),cr⟩:=hR 5 (by decide)
 simp only[yZ,l,O]
 clear hR i k l O
 refine zI ?_
 replace b:=b.trans a
 replace n:=zF (zN n.out a)
 replace B:=zF (zN B.out a)
 replace F:=zF (zN F.out a)
 have E:=zF cr
 clear a bg cr
 rename World=>X6_k
 go_upto_region 7 with fail
 refine zR 6 [0,0,0,4,15,31] [] (fun j f X=>match j with
  | 0=>f 0=.agg G
  | 1=>f 1=.slice cw (digs 4294967296 u4).length cR
  | 2=>f 2=.pointer (some ⟨q+1,1,none⟩)
  | 3=>f 3=.slice A2 (digs 4294967296 y).length k2
  | 4=>∃ d c1,f 4=.slice d (digs 4294967296 u6).length c1∧RU X d c1 (digs 4294967296 u6)
  | 5=>∃ d c1,f 5=.slice d (digs 4294967296 u6).length c1∧RU X d c1 (digs 4294967296 u6)
  | _=>True) (by kernel_rfl) [(52,0),(53,1),(54,2),(55,3),(56,4),(11,5)] (by kernel_rfl) ?_
 refine lV0 1 5 (b.at_ L) (by rw[Q.out];exact jG) ?_
 refine zJ 2 4 ?_
 refine zJ 3 3 ?_
 refine qC 4 2 2 (b.cell j1) ?_
 refine rc 5 1 0 1 3 (fun _ _ a h=>⟨_,_,h,(zN F.out a)⟩) (fun _ _ a h=>⟨_,_,h,(zN aI.out (b.trans a))⟩) (fun X a _ _ _ _ h m=>wX X P.out (S.out.ext (b.trans a)) h m cL.out hy.out) bK.out ?_
 refine zv 6 0 [(52,0),(53,1),(54,2),(55,3),(56,4)] (fun f X a hR K g=>?_) ?_
 · obtain⟨bu,b6,(l:f 4=_),bh⟩:=hR.out 4 rfl;simp only[yZ,l];refine⟨?_⟩;go_simp;exact g.out _ _ _ (by simp only[yZ,l]) (zT _) trivial (fun Y D=>⟨bu,b6,rfl,zN bh D⟩)
 refine yF ⟨fun f X a hR i k=>?_⟩
 obtain⟨bu,b6,(l:f 4=_),bh⟩:=hR 4 (by decide)
 obtain⟨ao,aq,(O:f 5=_),cs⟩:=hR 5 (by decide)
 simp only[yZ,l,O]
 clear hR i k l O
 refine zI ?_
 replace b:=b.trans a
 replace n:=zF (zN n.out a)
 replace B:=zF (zN B.out a)
 replace F:=zF (zN F.out a)
 replace E:=zF (zN E.out a)
 have H:=zF cs
 clear a bh cs
 rename World=>X7_k
 by_cases hh0:r=0
 · by_cases hr0:u6=0
   · obtain rfl:res=twP C.M x y z:=by rw[a6.out,qg hh0,qg hr0]
     replace hh0:=zF hh0;replace hr0:=zF hr0;go_upto_region 8 with fail
     refine zR 3 [0,1,3] [] (fun j f X=>match j with
      | 0=>f 0=.slice ah (digs 4294967296 r).length aj
      | 1=>f 1=.int .i64 ((digs 4294967296 r).length:Int)
      | 2=>f 2=.bool true
      | _=>True) (by kernel_rfl) [(57,0),(58,1),(59,2)] (by kernel_rfl) ?_
     refine zJ 1 2 ?_;refine zv 2 1 [(57,0)] (fun f X a hR K g=>?_) ?_
     · have R:f 0=_:=hR.out 0 rfl;simp only[yZ,R];refine⟨?_⟩;go_simp;exact qY g (s:=by simp only[yZ,R])
     refine zv 3 0 [(57,0),(58,1)] (fun f X a hR K g=>?_) ?_
     · have u:f 1=_:=hR.out 1 rfl;have al:decide (((digs 4294967296 r).length:Int)=0)=true:=xd hh0.out;have am:decide ((digs 4294967296 r).length=0)=true:=xc hh0.out;have an:((((digs 4294967296 r).length:Nat):Int)==0)=true:=xe hh0.out;simp only[yZ,u];refine⟨?_⟩;go_simp;exact qY g (s:=by simp only[yZ,u])
     refine yF ⟨fun f X a hR i k=>?_⟩;have I:f 2=_:=hR 2 (by decide);simp only[yZ,I];clear hR i k I;refine zI ?_;replace b:=b.trans a;replace n:=zF (zN n.out a);replace B:=zF (zN B.out a);replace F:=zF (zN F.out a);replace E:=zF (zN E.out a);replace H:=zF (zN H.out a);clear a;rename World=>X8_k;go_upto_region 9 with fail
     refine zR 3 [0,1,3] [] (fun j f X=>match j with
      | 0=>f 0=.slice ao (digs 4294967296 u6).length aq
      | 1=>f 1=.int .i64 ((digs 4294967296 u6).length:Int)
      | 2=>f 2=.bool true
      | _=>True) (by kernel_rfl) [(60,0),(61,1),(62,2)] (by kernel_rfl) ?_
     refine zJ 1 2 ?_;refine zv 2 1 [(60,0)] (fun f X a hR K g=>?_) ?_
     · have R:f 0=_:=hR.out 0 rfl;simp only[yZ,R];refine⟨?_⟩;go_simp;exact qY g (s:=by simp only[yZ,R])
     refine zv 3 0 [(60,0),(61,1)] (fun f X a hR K g=>?_) ?_
     · have u:f 1=_:=hR.out 1 rfl;have al:decide (((digs 4294967296 u6).length:Int)=0)=true:=xd hr0.out;have am:decide ((digs 4294967296 u6).length=0)=true:=xc hr0.out;have an:((((digs 4294967296 u6).length:Nat):Int)==0)=true:=xe hr0.out;simp only[yZ,u];refine⟨?_⟩;go_simp;exact qY g (s:=by simp only[yZ,u])
     refine yF ⟨fun f X a hR i k=>?_⟩;have I:f 2=_:=hR 2 (by decide);simp only[yZ,I];clear hR i k I;refine zI ?_;replace b:=b.trans a;replace n:=zF (zN n.out a);replace B:=zF (zN B.out a);replace F:=zF (zN F.out a);replace E:=zF (zN E.out a);replace H:=zF (zN H.out a);clear a;rename World=>X9_k;have T:=b.at_ au;go_upto_region 10 with fail
     refine zR 3 [0,0,3,7] [] (fun j f X=>match j with
      | 0=>f 0=.agg G
      | 1=>f 1=.agg #[.slice d (digs 4294967296 x).length k1,.slice A2 (digs 4294967296 y).length k2,.slice Z (digs 4294967296 z).length k3]
      | 2=>∃ o,f 2=o∧JN X C o (twP C.M x y z)
      | _=>True) (by kernel_rfl) [(63,0),(64,1),(65,2)] (by kernel_rfl) ?_
     refine lV0 1 2 (b.at_ L) (by rw[Q.out];exact jG) ?_;refine lV0 2 1 (b.at_ ar) uQ ?_;refine qK 3 0 (fun f=>#[f 0,f 1]) (F':=40) (fun f X a hR=>?_) ?_
     · have R:f 0=_:=hR.out 0 rfl;have u:f 1=_:=hR.out 1 rfl;simp only[R,u];refine(rH (p:=(x,y,z)) P.out H8.out X (S.out.ext (b.trans a)) ⟨d,A2,Z,k1,k2,k3,rfl,zN aH.out (b.trans a),zN aI.out (b.trans a),zN ap.out (b.trans a),hx.out,hy.out,hz.out⟩).mono ?_;rintro e w2 ⟨o,rfl,hj,hB⟩;exact⟨o,rfl,hB,fun Y D=>⟨_,rfl,hj.ext D⟩⟩
     refine yF ⟨fun f X a hR i k=>?_⟩;obtain⟨vo,(I:f 2=_),jo⟩:=hR 2 (by decide);simp only[yZ,I];clear hR i k I;obtain⟨D1,D2,D3,d1,d2,d3,ev,g1,g2,g3,g4,g5,g6⟩:=jo;subst ev;refine zO (fun K g=>⟨zU (by kernel_rfl) (jX (cs':=#[.slice D1 (digs 4294967296 (twP C.M x y z).1).length d1,.slice D2 (digs 4294967296 (twP C.M x y z).2.1).length d2,.slice D3 (digs 4294967296 (twP C.M x y z).2.2).length d3]) (t:=78) 78 (.tmp 6) (.tmp 65) rfl rfl rfl rfl (a.at_ T) uQ rfl (dX _ _ _ _ _ _ _ _ _) (fun Y ag W cc=>g.out _ _ ?_))⟩);refine zI ?_;go_wp2;exact fR rfl rfl rfl ag ⟨_,rfl,⟨_,_,_,_,_,_,rfl,g1.offJ W (a.at_ T) (by kernel_rfl),g2.offJ W (a.at_ T) (by kernel_rfl),g3.offJ W (a.at_ T) (by kernel_rfl),g4,g5,g6⟩,W.ext (aw.out.trans (b.trans a)) (by have:=Hq.out;omega)⟩
   · obtain rfl:res=(0,0,0):=by rw[a6.out,qg hh0,qo hr0]
     replace hh0:=zF hh0;replace hr0:=zF hr0;go_upto_region 8 with fail
     refine zR 3 [0,1,3] [] (fun j f X=>match j with
      | 0=>f 0=.slice ah (digs 4294967296 r).length aj
      | 1=>f 1=.int .i64 ((digs 4294967296 r).length:Int)
      | 2=>f 2=.bool true
      | _=>True) (by kernel_rfl) [(57,0),(58,1),(59,2)] (by kernel_rfl) ?_
     refine zJ 1 2 ?_;refine zv 2 1 [(57,0)] (fun f X a hR K g=>?_) ?_
     · have R:f 0=_:=hR.out 0 rfl;simp only[yZ,R];refine⟨?_⟩;go_simp;exact qY g (s:=by simp only[yZ,R])
     refine zv 3 0 [(57,0),(58,1)] (fun f X a hR K g=>?_) ?_
     · have u:f 1=_:=hR.out 1 rfl;have al:decide (((digs 4294967296 r).length:Int)=0)=true:=xd hh0.out;have am:decide ((digs 4294967296 r).length=0)=true:=xc hh0.out;have an:((((digs 4294967296 r).length:Nat):Int)==0)=true:=xe hh0.out;simp only[yZ,u];refine⟨?_⟩;go_simp;exact qY g (s:=by simp only[yZ,u])
     refine yF ⟨fun f X a hR i k=>?_⟩;have I:f 2=_:=hR 2 (by decide);simp only[yZ,I];clear hR i k I;refine zI ?_;replace b:=b.trans a;replace n:=zF (zN n.out a);replace B:=zF (zN B.out a);replace F:=zF (zN F.out a);replace E:=zF (zN E.out a);replace H:=zF (zN H.out a);clear a;rename World=>X8_k;go_upto_region 9 with fail
     refine zR 3 [0,1,3] [] (fun j f X=>match j with
      | 0=>f 0=.slice ao (digs 4294967296 u6).length aq
      | 1=>f 1=.int .i64 ((digs 4294967296 u6).length:Int)
      | 2=>f 2=.bool false
      | _=>True) (by kernel_rfl) [(60,0),(61,1),(62,2)] (by kernel_rfl) ?_
     refine zJ 1 2 ?_;refine zv 2 1 [(60,0)] (fun f X a hR K g=>?_) ?_
     · have R:f 0=_:=hR.out 0 rfl;simp only[yZ,R];refine⟨?_⟩;go_simp;exact qY g (s:=by simp only[yZ,R])
     refine zv 3 0 [(60,0),(61,1)] (fun f X a hR K g=>?_) ?_
     · have u:f 1=_:=hR.out 1 rfl;have al:decide (((digs 4294967296 u6).length:Int)=0)=false:=wj hr0.out;have am:decide ((digs 4294967296 u6).length=0)=false:=wi hr0.out;have an:((((digs 4294967296 u6).length:Nat):Int)==0)=false:=wk hr0.out;simp only[yZ,u];refine⟨?_⟩;go_simp;exact qY g (s:=by simp only[yZ,u])
     refine yF ⟨fun f X a hR i k=>?_⟩;have I:f 2=_:=hR 2 (by decide);simp only[yZ,I];clear hR i k I;refine zI ?_;replace b:=b.trans a;replace n:=zF (zN n.out a);replace B:=zF (zN B.out a);replace F:=zF (zN F.out a);replace E:=zF (zN E.out a);replace H:=zF (zN H.out a);clear a;rename World=>X9_k;have T:=b.at_ au;obtain⟨z0,z1,z2,f0,f1,f2⟩:=jQ T;go_wp2;exact fR rfl rfl rfl (xG T _ _ _) ⟨_,rfl,⟨none,none,none,0,0,0,by rw[qW];rfl,RN.nil0 _,RN.nil0 _,RN.nil0 _,J,J,J⟩,xi (aw.out.trans b) (by have:=Hq.out;omega) _ _ _⟩
 · obtain rfl:res=(u13,u17,u18):=by rw[a6.out,qo hh0]
   replace hh0:=zF hh0;go_upto_region 8 with fail
   refine zR 3 [0,1,3] [] (fun j f X=>match j with
    | 0=>f 0=.slice ah (digs 4294967296 r).length aj
    | 1=>f 1=.int .i64 ((digs 4294967296 r).length:Int)
    | 2=>f 2=.bool false
    | _=>True) (by kernel_rfl) [(57,0),(58,1),(59,2)] (by kernel_rfl) ?_
   refine zJ 1 2 ?_;refine zv 2 1 [(57,0)] (fun f X a hR K g=>?_) ?_
   · have R:f 0=_:=hR.out 0 rfl;simp only[yZ,R];refine⟨?_⟩;go_simp;exact qY g (s:=by simp only[yZ,R])
   refine zv 3 0 [(57,0),(58,1)] (fun f X a hR K g=>?_) ?_
   · have u:f 1=_:=hR.out 1 rfl;have al:decide (((digs 4294967296 r).length:Int)=0)=false:=wj hh0.out;have am:decide ((digs 4294967296 r).length=0)=false:=wi hh0.out;have an:((((digs 4294967296 r).length:Nat):Int)==0)=false:=wk hh0.out;simp only[yZ,u];refine⟨?_⟩;go_simp;exact qY g (s:=by simp only[yZ,u])
   refine yF ⟨fun f X a hR i k=>?_⟩;have I:f 2=_:=hR 2 (by decide);simp only[yZ,I];clear hR i k I;refine zI ?_;replace b:=b.trans a;replace n:=zF (zN n.out a);replace B:=zF (zN B.out a);replace F:=zF (zN F.out a);replace E:=zF (zN E.out a);replace H:=zF (zN H.out a);clear a;rename World=>X8_k;go_upto_region 12 with fail
   refine zR 5 [0,0,0,7,15] [] (fun j f X=>match j with
    | 0=>f 0=.agg G
    | 1=>f 1=.slice ah (digs 4294967296 r).length aj
    | 2=>f 2=.slice ah (digs 4294967296 r).length aj
    | 3=>∃ d c1,f 3=.slice d (digs 4294967296 u7).length c1∧RU X d c1 (digs 4294967296 u7)
    | 4=>∃ d c1,f 4=.slice d (digs 4294967296 u7).length c1∧RU X d c1 (digs 4294967296 u7)
    | _=>True) (by kernel_rfl) [(67,0),(68,1),(69,2),(70,3),(12,4)] (by kernel_rfl) ?_
   refine lV0 1 4 (b.at_ L) (by rw[Q.out];exact jG) ?_;refine zJ 2 3 ?_;refine zJ 3 2 ?_;refine rc 4 1 0 1 2 (fun _ _ a h=>⟨_,_,h,(zN E.out a)⟩) (fun _ _ a h=>⟨_,_,h,(zN E.out a)⟩) (fun X a _ _ _ _ h m=>jl X P.out (S.out.ext (b.trans a)) h m ax.out ax.out) bL.out ?_;refine zv 5 0 [(67,0),(68,1),(69,2),(70,3)] (fun f X a hR K g=>?_) ?_
   · obtain⟨bi,bU,(N:f 3=_),a8⟩:=hR.out 3 rfl;simp only[yZ,N];refine⟨?_⟩;go_simp;exact g.out _ _ _ (by simp only[yZ,N]) (zT _) trivial (fun Y D=>⟨bi,bU,rfl,zN a8 D⟩)
   refine yF ⟨fun f X a hR i k=>?_⟩;obtain⟨bi,bU,(N:f 3=_),a8⟩:=hR 3 (by decide);obtain⟨bj,bV,(l:f 4=_),cf⟩:=hR 4 (by decide);simp only[yZ,N,l];clear hR i k N l;refine zI ?_;replace b:=b.trans a;replace n:=zF (zN n.out a);replace B:=zF (zN B.out a);replace F:=zF (zN F.out a);replace E:=zF (zN E.out a);replace H:=zF (zN H.out a);have aa:=zF cf;clear a a8 cf;rename World=>X12_k;go_upto_region 13 with fail
   refine zR 5 [0,0,0,7,15] [] (fun j f X=>match j with
    | 0=>f 0=.agg G
    | 1=>f 1=.slice bj (digs 4294967296 u7).length bV
    | 2=>f 2=.slice ah (digs 4294967296 r).length aj
    | 3=>∃ d c1,f 3=.slice d (digs 4294967296 u8).length c1∧RU X d c1 (digs 4294967296 u8)
    | 4=>∃ d c1,f 4=.slice d (digs 4294967296 u8).length c1∧RU X d c1 (digs 4294967296 u8)
    | _=>True) (by kernel_rfl) [(71,0),(72,1),(73,2),(74,3),(13,4)] (by kernel_rfl) ?_
   refine lV0 1 4 (b.at_ L) (by rw[Q.out];exact jG) ?_;refine zJ 2 3 ?_;refine zJ 3 2 ?_;refine rc 4 1 0 1 2 (fun _ _ a h=>⟨_,_,h,(zN aa.out a)⟩) (fun _ _ a h=>⟨_,_,h,(zN E.out a)⟩) (fun X a _ _ _ _ h m=>jl X P.out (S.out.ext (b.trans a)) h m bS.out ax.out) bM.out ?_;refine zv 5 0 [(71,0),(72,1),(73,2),(74,3)] (fun f X a hR K g=>?_) ?_
   · obtain⟨bk,bW,(N:f 3=_),a9⟩:=hR.out 3 rfl;simp only[yZ,N];refine⟨?_⟩;go_simp;exact g.out _ _ _ (by simp only[yZ,N]) (zT _) trivial (fun Y D=>⟨bk,bW,rfl,zN a9 D⟩)
   refine yF ⟨fun f X a hR i k=>?_⟩;obtain⟨bk,bW,(N:f 3=_),a9⟩:=hR 3 (by decide);obtain⟨bl,bX,(l:f 4=_),cg⟩:=hR 4 (by decide);simp only[yZ,N,l];clear hR i k N l;refine zI ?_;replace b:=b.trans a;replace n:=zF (zN n.out a);replace B:=zF (zN B.out a);replace F:=zF (zN F.out a);replace E:=zF (zN E.out a);replace H:=zF (zN H.out a);replace aa:=zF (zN aa.out a);have ac:=zF cg;clear a a9 cg;rename World=>X13_k;go_upto_region 14 with fail
   refine zR 6 [0,0,2,0,15,31] [] (fun j f X=>match j with
    | 0=>f 0=.agg G
    | 1=>f 1=.pointer (some ⟨q+1,0,none⟩)
    | 2=>f 2=.slice d (digs 4294967296 x).length k1
    | 3=>f 3=.slice bj (digs 4294967296 u7).length bV
    | 4=>∃ d c1,f 4=.slice d (digs 4294967296 u9).length c1∧RU X d c1 (digs 4294967296 u9)
    | 5=>∃ d c1,f 5=.slice d (digs 4294967296 u9).length c1∧RU X d c1 (digs 4294967296 u9)
    | _=>True) (by kernel_rfl) [(75,0),(76,1),(77,2),(78,3),(79,4),(14,5)] (by kernel_rfl) ?_
   refine lV0 1 5 (b.at_ L) (by rw[Q.out];exact jG) ?_;refine zJ 2 4 ?_;refine qC 3 3 1 (b.cell j0) ?_;refine zJ 4 2 ?_;refine rc 5 1 0 2 3 (fun _ _ a h=>⟨_,_,h,(zN aH.out (b.trans a))⟩) (fun _ _ a h=>⟨_,_,h,(zN aa.out a)⟩) (fun X a _ _ _ _ h m=>jl X P.out (S.out.ext (b.trans a)) h m hx.out bS.out) bN.out ?_;refine zv 6 0 [(75,0),(76,1),(77,2),(78,3),(79,4)] (fun f X a hR K g=>?_) ?_
   · obtain⟨bm,bY,(l:f 4=_),ba⟩:=hR.out 4 rfl;simp only[yZ,l];refine⟨?_⟩;go_simp;exact g.out _ _ _ (by simp only[yZ,l]) (zT _) trivial (fun Y D=>⟨bm,bY,rfl,zN ba D⟩)
   refine yF ⟨fun f X a hR i k=>?_⟩;obtain⟨bm,bY,(l:f 4=_),ba⟩:=hR 4 (by decide);obtain⟨aF,aL,(O:f 5=_),ch⟩:=hR 5 (by decide);simp only[yZ,l,O];clear hR i k l O;refine zI ?_;replace b:=b.trans a;replace n:=zF (zN n.out a);replace B:=zF (zN B.out a);replace F:=zF (zN F.out a);replace E:=zF (zN E.out a);replace H:=zF (zN H.out a);replace aa:=zF (zN aa.out a);replace ac:=zF (zN ac.out a);have ai:=zF ch;clear a ba ch;rename World=>X14_k;go_upto_region 15 with fail
   refine zZ (by kernel_rfl) 14 [0,0,0,0,0,0,56,0,252,0,1022,0,4095,8191] [] (fun j f X=>match j with
    | 0=>f 0=.agg G
    | 1=>f 1=.agg G
    | 2=>f 2=.agg G
    | 3=>f 3=.agg G
    | 4=>f 4=.slice ao (digs 4294967296 u6).length aq
    | 5=>f 5=.slice ao (digs 4294967296 u6).length aq
    | 6=>∃ d c1,f 6=.slice d (digs 4294967296 u10).length c1∧RU X d c1 (digs 4294967296 u10)
    | 7=>f 7=.slice bl (digs 4294967296 u8).length bX
    | 8=>∃ d c1,f 8=.slice d (digs 4294967296 u11).length c1∧RU X d c1 (digs 4294967296 u11)
    | 9=>f 9=.slice aF (digs 4294967296 u9).length aL
    | 10=>∃ d c1,f 10=.slice d (digs 4294967296 u12).length c1∧RU X d c1 (digs 4294967296 u12)
    | 11=>f 11=.slice aF (digs 4294967296 u9).length aL
    | 12=>∃ d c1,f 12=.slice d (digs 4294967296 u13).length c1∧RU X d c1 (digs 4294967296 u13)
    | 13=>∃ d c1,f 13=.slice d (digs 4294967296 u13).length c1∧RU X d c1 (digs 4294967296 u13)
    | _=>True) (by kernel_rfl) [(80,0),(81,1),(82,2),(83,3),(84,4),(85,5),(86,6),(87,7),(88,8),(89,9),(90,10),(91,11),(92,12),(15,13)] (by kernel_rfl) ?_
   refine lV0 1 13 (b.at_ L) (by rw[Q.out];exact jG) ?_;refine lV0 2 12 (b.at_ L) (by rw[Q.out];exact jG) ?_;refine lV0 3 11 (b.at_ L) (by rw[Q.out];exact jG) ?_;refine lV0 4 10 (b.at_ L) (by rw[Q.out];exact jG) ?_;refine zJ 5 9 ?_;refine zJ 6 8 ?_;refine rc 7 7 3 4 5 (fun _ _ a h=>⟨_,_,h,(zN H.out a)⟩) (fun _ _ a h=>⟨_,_,h,(zN H.out a)⟩) (fun X a _ _ _ _ h m=>jl X P.out (S.out.ext (b.trans a)) h m aJ.out aJ.out) bw.out ?_;refine zJ 8 6 ?_;refine rc 9 5 2 6 7 (fun _ _ _ h=>h) (fun _ _ a h=>⟨_,_,h,(zN ac.out a)⟩) (fun X a _ _ _ _ h m=>wX X P.out (S.out.ext (b.trans a)) h m cB.out bT.out) bx.out ?_;refine zJ 10 4 ?_;refine rc 11 3 1 8 9 (fun _ _ _ h=>h) (fun _ _ a h=>⟨_,_,h,(zN ai.out a)⟩) (fun X a _ _ _ _ h m=>wX X P.out (S.out.ext (b.trans a)) h m cC.out aK.out) bz.out ?_;refine zJ 12 2 ?_;refine rc 13 1 0 10 11 (fun _ _ _ h=>h) (fun _ _ a h=>⟨_,_,h,(zN ai.out a)⟩) (fun X a _ _ _ _ h m=>wX X P.out (S.out.ext (b.trans a)) h m cD.out aK.out) bA.out ?_;refine zv 14 0 [(80,0),(81,1),(82,2),(83,3),(84,4),(85,5),(86,6),(87,7),(88,8),(89,9),(90,10),(91,11),(92,12)] (fun f X a hR K g=>?_) ?_
   · obtain⟨bn,bZ,(ad:f 12=_),bb⟩:=hR.out 12 rfl;simp only[yZ,ad];refine⟨?_⟩;go_simp;exact g.out _ _ _ (by simp only[yZ,ad]) (zT _) trivial (fun Y D=>⟨bn,bZ,rfl,zN bb D⟩)
   refine yF ⟨fun f X a hR i k=>?_⟩;obtain⟨c0,da,(V:f 6=_),cT⟩:=hR 6 (by decide);obtain⟨c2,db,(e8:f 8=_),cU⟩:=hR 8 (by decide);obtain⟨cZ,c9,(b7:f 10=_),cS⟩:=hR 10 (by decide);obtain⟨bn,bZ,(ad:f 12=_),bb⟩:=hR 12 (by decide);obtain⟨av,az,(ae:f 13=_),ci⟩:=hR 13 (by decide);simp only[yZ,V,e8,b7,ad,ae];clear hR i k V e8 b7 ad ae;refine zI ?_;replace b:=b.trans a;replace n:=zF (zN n.out a);replace B:=zF (zN B.out a);replace F:=zF (zN F.out a);replace E:=zF (zN E.out a);replace H:=zF (zN H.out a);replace aa:=zF (zN aa.out a);replace ac:=zF (zN ac.out a);replace ai:=zF (zN ai.out a);have ay:=zF ci;clear a cT cU cS bb ci;rename World=>X15_k;go_upto_region 16 with fail
   refine zZ (by kernel_rfl) 15 [0,0,0,0,0,0,56,126,0,0,512,0,4094,8191,16383] [] (fun j f X=>match j with
    | 0=>f 0=.agg G
    | 1=>f 1=.agg G
    | 2=>f 2=.slice ao (digs 4294967296 u6).length aq
    | 3=>f 3=.agg G
    | 4=>f 4=.slice aF (digs 4294967296 u9).length aL
    | 5=>f 5=.slice av (digs 4294967296 u13).length az
    | 6=>∃ d c1,f 6=.slice d (digs 4294967296 aD).length c1∧RU X d c1 (digs 4294967296 aD)
    | 7=>∃ d c1,f 7=.slice d (digs 4294967296 aE).length c1∧RU X d c1 (digs 4294967296 aE)
    | 8=>f 8=.agg G
    | 9=>f 9=.pointer (some ⟨q+1,1,none⟩)
    | 10=>f 10=.slice A2 (digs 4294967296 y).length k2
    | 11=>f 11=.slice bl (digs 4294967296 u8).length bX
    | 12=>∃ d c1,f 12=.slice d (digs 4294967296 u16).length c1∧RU X d c1 (digs 4294967296 u16)
    | 13=>∃ d c1,f 13=.slice d (digs 4294967296 u17).length c1∧RU X d c1 (digs 4294967296 u17)
    | 14=>∃ d c1,f 14=.slice d (digs 4294967296 u17).length c1∧RU X d c1 (digs 4294967296 u17)
    | _=>True) (by kernel_rfl) [(93,0),(94,1),(95,2),(96,3),(97,4),(98,5),(99,6),(100,7),(101,8),(102,9),(103,10),(104,11),(105,12),(106,13),(16,14)] (by kernel_rfl) ?_
   refine lV0 1 14 (b.at_ L) (by rw[Q.out];exact jG) ?_;refine lV0 2 13 (b.at_ L) (by rw[Q.out];exact jG) ?_;refine zJ 3 12 ?_;refine lV0 4 11 (b.at_ L) (by rw[Q.out];exact jG) ?_;refine zJ 5 10 ?_;refine zJ 6 9 ?_;refine rc 7 8 3 4 5 (fun _ _ a h=>⟨_,_,h,(zN ai.out a)⟩) (fun _ _ a h=>⟨_,_,h,(zN ay.out a)⟩) (fun X a _ _ _ _ h m=>wX X P.out (S.out.ext (b.trans a)) h m aK.out bR.out) bB.out ?_;refine rc 8 7 1 2 6 (fun _ _ a h=>⟨_,_,h,(zN H.out a)⟩) (fun _ _ _ h=>h) (fun X a _ _ _ _ h m=>jl X P.out (S.out.ext (b.trans a)) h m aJ.out cE.out) bC.out ?_;refine lV0 9 6 (b.at_ L) (by rw[Q.out];exact jG) ?_;refine zJ 10 5 ?_;refine qC 11 4 9 (b.cell j1) ?_;refine zJ 12 3 ?_;refine rc 13 2 8 10 11 (fun _ _ a h=>⟨_,_,h,(zN aI.out (b.trans a))⟩) (fun _ _ a h=>⟨_,_,h,(zN ac.out a)⟩) (fun X a _ _ _ _ h m=>jl X P.out (S.out.ext (b.trans a)) h m hy.out bT.out) bD.out ?_;refine rc 14 1 0 7 12 (fun _ _ _ h=>h) (fun _ _ _ h=>h) (fun X a _ _ _ _ h m=>wX X P.out (S.out.ext (b.trans a)) h m cF.out cG.out) bE.out ?_;refine zv 15 0 [(93,0),(94,1),(95,2),(96,3),(97,4),(98,5),(99,6),(100,7),(101,8),(102,9),(103,10),(104,11),(105,12),(106,13)] (fun f X a hR K g=>?_) ?_
   · obtain⟨bo,b0,(ae:f 13=_),bc⟩:=hR.out 13 rfl;simp only[yZ,ae];refine⟨?_⟩;go_simp;exact g.out _ _ _ (by simp only[yZ,ae]) (zT _) trivial (fun Y D=>⟨bo,b0,rfl,zN bc D⟩)
   refine yF ⟨fun f X a hR i k=>?_⟩;obtain⟨c4,dd,(V:f 6=_),cW⟩:=hR 6 (by decide);obtain⟨c5,de,(e7:f 7=_),cX⟩:=hR 7 (by decide);obtain⟨c3,dc,(ad:f 12=_),cV⟩:=hR 12 (by decide);obtain⟨bo,b0,(ae:f 13=_),bc⟩:=hR 13 (by decide);obtain⟨aG,aM,(b8:f 14=_),cj⟩:=hR 14 (by decide);simp only[yZ,V,e7,ad,ae,b8];clear hR i k V e7 ad ae b8;refine zI ?_;replace b:=b.trans a;replace n:=zF (zN n.out a);replace B:=zF (zN B.out a);replace F:=zF (zN F.out a);replace E:=zF (zN E.out a);replace H:=zF (zN H.out a);replace aa:=zF (zN aa.out a);replace ac:=zF (zN ac.out a);replace ai:=zF (zN ai.out a);replace ay:=zF (zN ay.out a);have cM:=zF cj;clear a cW cX cV bc cj;rename World=>X16_k;have T:=b.at_ au;go_upto_region 17 with fail
   refine zR 8 [0,0,0,0,8,0,60,127,255] [] (fun j f X=>match j with
    | 0=>f 0=.slice av (digs 4294967296 u13).length az
    | 1=>f 1=.slice aG (digs 4294967296 u17).length aM
    | 2=>f 2=.agg G
    | 3=>f 3=.pointer (some ⟨q+1,2,none⟩)
    | 4=>f 4=.slice Z (digs 4294967296 z).length k3
    | 5=>f 5=.slice ah (digs 4294967296 r).length aj
    | 6=>∃ d c1,f 6=.slice d (digs 4294967296 u18).length c1∧RU X d c1 (digs 4294967296 u18)
    | 7=>∃ A c,f 7=.agg #[.slice av (digs 4294967296 u13).length az,.slice aG (digs 4294967296 u17).length aM,.slice A (digs 4294967296 u18).length c]∧RU X A c (digs 4294967296 u18)
    | _=>True) (by kernel_rfl) [(107,0),(108,1),(109,2),(110,3),(111,4),(112,5),(113,6),(114,7)] (by kernel_rfl) ?_
   refine zJ 1 7 ?_;refine zJ 2 6 ?_;refine lV0 3 5 (b.at_ L) (by rw[Q.out];exact jG) ?_;refine zJ 4 4 ?_;refine qC 5 3 3 (b.cell j2) ?_;refine zJ 6 2 ?_;refine rc 7 1 2 4 5 (fun _ _ a h=>⟨_,_,h,(zN ap.out (b.trans a))⟩) (fun _ _ a h=>⟨_,_,h,(zN E.out a)⟩) (fun X a _ _ _ _ h m=>jl X P.out (S.out.ext (b.trans a)) h m hz.out ax.out) bF.out ?_;refine zv 8 0 [(107,0),(108,1),(109,2),(110,3),(111,4),(112,5),(113,6)] (fun f X a hR K g=>?_) ?_
   · have R:f 0=_:=hR.out 0 rfl;have u:f 1=_:=hR.out 1 rfl;obtain⟨ct,cN,(V:f 6=_),ck⟩:=hR.out 6 rfl;simp only[yZ,R,u,V];refine⟨?_⟩;go_simp;exact g.out _ _ _ (by simp only[yZ,R,u,V]) (zT _) trivial (fun Y D=>⟨_,_,rfl,zN ck D⟩)
   refine yF ⟨fun f X a hR i k=>?_⟩;obtain⟨ct,cN,(V:f 6=_),ck⟩:=hR 6 (by decide);obtain⟨Az,cz,(e7:f 7=_),oz⟩:=hR 7 (by decide);simp only[yZ,V,e7];clear hR i k V e7;refine zO (fun K g=>⟨zU (by kernel_rfl) (jX (cs':=#[.slice av (digs 4294967296 u13).length az,.slice aG (digs 4294967296 u17).length aM,.slice Az (digs 4294967296 u18).length cz]) (t:=78) 78 (.tmp 6) (.tmp 114) rfl rfl rfl rfl (a.at_ T) uQ rfl (dX _ _ _ _ _ _ _ _ _) (fun Y ag W cc=>g.out _ _ ?_))⟩);refine zI ?_;go_wp2;exact fR rfl rfl rfl ag ⟨_,rfl,⟨_,_,_,_,_,_,rfl,(zN ay.out a).offJ W (a.at_ T) (by kernel_rfl),(zN cM.out a).offJ W (a.at_ T) (by kernel_rfl),oz.offJ W (a.at_ T) (by kernel_rfl),bR.out,cH.out,cI.out⟩,W.ext (aw.out.trans (b.trans a)) (by have:=Hq.out;omega)⟩
def ws (x m:Nat):Nat×Bool:=if(jt m m (x%m) 0 1).1=1 then((jt m m (x%m) 0 1).2,true)else(0,false)
theorem bX (A A':Option Addr)(c c' X M:Nat)(w:World)(h:RU w A c (digs 4294967296 X))(S:RU w A' c' (digs 4294967296 M))(hl:(digs 4294967296 X).length<30000)(g:(digs 4294967296 M).length≤30000)(aG:2≤M) :
 Calls Tryz.prog 43 #[.slice A (digs 4294967296 X).length c,.slice A' (digs 4294967296 M).length c'] w fun e w'=>∃ f c1,e=.returned (.tuple #[.slice f (digs 4294967296 (ws X M).1).length c1,.bool (ws X M).2])∧RU w' f c1 (digs 4294967296 (ws X M).1)∧Below w.heap.size w w':=by
 have hm:=zF (xg A A' c c' X M w h S (by omega) (by omega))
 have Hl:=zF g
 go_enter Tryz.func43,Tryz.ntmps43
 go_wp2_with fail
 refine hm.out.mono ?_
 rintro e w1 ⟨f,c1,rfl,ak,U⟩
 have m:=zF (gu 1 w1 (by omega))
 go_wp2_with fail
 refine m.out.mono ?_
 rintro e w2 ⟨k,l,rfl,aj,V⟩
 have T:=U.trans (V.mono U.size)
 have v:=S.up T
 have n:=ak.up V
 have x:=aj.ru
 have az:=qP X (show 0<M by omega)
 clear ak aj U V m hm h
 go_wp2
 go_loopw [6,7,8,9] (fun rv sv tv uv wr=>∃(f k y z:Option Addr) (c1 l c3 D r s t u:Nat),rv=.slice f (digs 4294967296 r).length c1∧sv=.slice k (digs 4294967296 s).length l∧tv=.slice y (digs 4294967296 t).length c3∧uv=.slice z (digs 4294967296 u).length D ∧
  RU wr f c1 (digs 4294967296 r)∧RU wr k l (digs 4294967296 s)∧RU wr y c3 (digs 4294967296 t)∧RU wr z D (digs 4294967296 u)∧r≤M∧s≤M∧t≤M∧u≤M∧Hid (jt M r s t u=jt M M (X%M) 0 1)∧Below w.heap.size w wr)
  (fun _ sv _ _ wr=>fo wr sv)
 case atStart=>exact⟨A',f,none,k,c',c1,0,l,M,X%M,0,1,rfl,rfl,by rw[qW];rfl,rfl,v,n,by rw[qW];exact(OB.nil_ w2 0).ru,x,by omega,by omega,by omega,by omega,zF rfl,T⟩
 case round =>
  clear v n x T az;obtain⟨f,k,y,z,c1,l,c3,D,r,s,t,u,rfl,rfl,rfl,rfl,v,n,zC,x,hr,hs,ht,hu,F,o⟩:=hrel;have zw:=o.size;have Q:=S.up o;by_cases h0:s=0
  · subst h0;have G:=F.out;rw[vV]at G;rw[qW]at *;have m:=zF (gu 1 wr (by omega));have I:=zF fun W (hW:Below wr.heap.size wr W) (i:Option Addr) (j:Nat) (h5:RU W i j (digs 4294967296 1))=>uo _ _ f i c1 j r 1 W (v.up hW) h5;by_cases h1:r=1
    · have H:ws X M=(t,true):=by rw[ws,←G,qg h1]
      have P:wK r 1=0:=by rw[h1];decide
      rw[P]at I;have B:=zF H;clear H F G h1 P;go_wp2_with fail;refine m.out.mono ?_;rintro e w' ⟨i,j,rfl,ab,d⟩;have C:=zF (I.out w' d i j ab.ru);go_wp2_with fail;refine C.out.mono ?_;rintro e w' ⟨rfl,nd,rfl⟩;have hf:=(zC.up d).ud nd;have aa:=qp (o.trans (d.mono zw)) nd;clear I C m;go_wp2;go_ret2;exact⟨y,c3,by rw[B.out];rfl,by rw[B.out];exact hf,aa⟩
    · have H:ws X M=(0,false):=by rw[ws,←G,qo h1]
      have P:wK r 1≠0:=fun e=>h1 (te e);generalize wK r 1=cv at *;have t2:(cv != 0)=true:=by simpa using P
      have B:=zF H;clear H F G h1;go_wp2_with fail;refine m.out.mono ?_;rintro e w' ⟨i,j,rfl,ab,d⟩;have C:=zF (I.out w' d i j ab.ru);go_wp2_with fail;refine C.out.mono ?_;rintro e w' ⟨rfl,nd,rfl⟩;have aa:=qp (o.trans (d.mono zw)) nd;clear I C m;go_wp2;go_ret2;exact⟨none,0,by rw[B.out,qW];rfl,by rw[B.out,qW];exact(OB.nil_ _ 0).ru,aa⟩
  · have kp:(0:Int)<((digs 4294967296 s).length:Int):=by
     have:0<(digs 4294967296 s).length:=by rw[jq (by omega) (by omega)];simp
     omega
    have g:=Hl.out;have al:=bV _ _ f k c1 l r s wr v n (fun b a=>a) (fun b a=>a) (by have:=xm hr g;omega) (by omega);have am:r/s≤M:=zK (vD _ _) hr;have aB:r%s≤M:=zK (Nat.mod_le _ _) hr;have ae:=zF al;have au:=zF n.readD;have aD:=qP r (show 0<s by omega);have aE:=zF (show jt M s (r%s) u ((t+M-r/s*u%M)%M)=jt M M (X%M) 0 1 by rw[←F.out,xL h0]);clear al F;go_wp2_with fail;refine ae.out.mono ?_;rintro e w4 ⟨i,j,A6,c6,rfl,y5,y6,J⟩;have s4:=J.size;have ad:=zF (bW _ _ i z j D (r/s) u w4 y5.ru (x.up J) (fun b a=>a) (fun b a=>a) (by have:=xm am g;omega) (by have:=xm hu g;omega));go_wp2_with fail;refine ad.out.mono ?_;rintro e w5 ⟨A7,c7,rfl,y7,d⟩;have K:=J.trans (d.mono s4);have an:=xg A7 A' c7 c' (r/s*u) M w5 y7.ru (Q.up K) (by have:=mD (xm am g) (xm hu g);omega) (by omega);have aJ:=qP (r/s*u) (show 0<M by omega);generalize r/s*u%M=cZ at *;have af:=zF an;clear an;go_wp2_with fail;refine af.out.mono ?_;rintro e w6 ⟨A8,c8,rfl,y8,p⟩;have E:=K.trans (p.mono (by have:=K.size;omega));have ac:=zF (uq _ _ y A' c3 c' t M w6 (zC.up E) (Q.up E) (fun b a=>a) (fun b a=>a) (by have:=xm ht g;omega) (by omega));go_wp2_with fail;refine ac.out.mono ?_;rintro e w7 ⟨A9,c9,rfl,y9,q⟩;have Y:=E.trans (q.mono E.size);have ao:=fN _ _ A9 A8 c9 c8 (t+M) cZ w7 y9.ru (y8.up q) (fun b a=>a) (fun b a=>a) (by have:=mF ht (zG M) g;omega) (by omega);have aA:t+M-cZ≤M+M:=by omega
    have aC:=mF (zG M) (zG M) g;have aI:=xm aA aC;generalize t+M-cZ=R at *;have ah:=zF ao;clear ao;go_wp2_with fail;refine ah.out.mono ?_;rintro e w8 ⟨aq,aw,rfl,ap,O⟩;have L:=Y.trans (O.mono Y.size);have ag:=zF (xg aq A' aw c' R M w8 ap.ru (Q.up L) (by omega) (by omega));have aH:=qP R (show 0<M by omega);go_wp2_with fail;refine ag.out.mono ?_;rintro e w9 ⟨ar,ax,rfl,aF,Z⟩;have N:=L.trans (Z.mono L.size);have ay:=o.trans (N.mono zw);have f2:=n.up N;have ai:Below w4.heap.size w4 w9:=(((d.trans (p.mono d.size)).trans (q.mono (by have:=d.size;have:=p.size;omega))).trans (O.mono (by have:=d.size;have:=p.size;have:=q.size;omega))).trans (Z.mono (by have:=d.size;have:=p.size;have:=q.size;have:=O.size;omega));have f6:=zN y6 ai;have f4:=x.up N;have av:=zF f6.readD;clear v n zC x Q y5 y6 y7 y8 y9 ap J d p q O Z K E Y L N ai o ae ad af ac ah ag;go_wp2;go_roundw;case rel=>exact⟨k,A6,z,ar,l,c6,D,ax,s,r%s,u,R%M,rfl,rfl,rfl,rfl,f2,f6,f4,aF,hs,aB,hu,by omega,aE,ay⟩
    case measure=>rw[au.out,av.out];exact aD
end Go.Proofs.YtaemogcomplhiaaGreatDoor
