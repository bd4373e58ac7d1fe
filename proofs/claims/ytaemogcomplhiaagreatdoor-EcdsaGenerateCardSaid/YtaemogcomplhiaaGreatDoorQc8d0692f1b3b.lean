/- Laws that the proof rests on. -/
import Derived.Test.YtaemogcomplhiaaGreatDoorQ45b590b3a7c9
set_option maxRecDepth 100000
set_option maxHeartbeats 16000000
namespace Go.Proofs.YtaemogcomplhiaaGreatDoor
open Go.RowKit
open Sha
attribute [local go_sem] Oper.semAt_some
theorem po (A:Option Addr)(len c:Nat)(w:World):Calls Tryz.prog 144 #[.slice A len c,.int .i64 64] w fun e w'=>e=.returned (.func (.func 158) #[] #[.pointer (some ⟨w.heap.size+1,0,none⟩),.pointer (some ⟨w.heap.size,0,none⟩)]) ∧
 w'=(w.alloc (.cells #[.slice A len c] 22)).alloc (.cells #[.int .i64 64] 3):=by
 go_enter Tryz.func144,Tryz.ntmps144
 go_wp2
 go_ret
 exact⟨rfl,rfl⟩
theorem OW.mono {w:World}{base base':Nat}{A:Option Addr}{c:Nat}{bs:List Nat}(h:OW w base A c bs)(j:base'≤base):OW w base' A c bs:=by
 obtain⟨⟨d,a⟩,f⟩:=h;refine⟨⟨d,?_⟩,f⟩;rcases a with a|⟨g,cap,b,e,k,i⟩
 · exact .inl a
 · exact .inr ⟨g,cap,b,e,zK j k,i⟩
def pc (l:List Nat) (k:Nat):List Nat:=(l.drop (64*k)).take 64
def zBi (bb:Nat) (_B _k:Nat) (W W':World):Prop:=jE bb W W'∧∃ cs t,W.heap[bb]?=some (.cells cs t (0,0))
def rE (bb a:Nat) (W W':World):Prop:=W'.heap[bb]?=W.heap[bb]?∧W'.heap[a]?=W.heap[a]?
theorem rE.trans {bb d:Nat}{a b c:World}(h:rE bb d a b)(k:rE bb d b c):rE bb d a c:=⟨k.1.trans h.1,k.2.trans h.2⟩
theorem od (bb:Nat):∀ B k W1 W2,zBi bb B k W1 W2→W1.heap.size≤W2.heap.size∧∀(b:Nat) (o:Obj),b<B→W1.heap[b]?=some o→o.isCells=false→W2.heap[b]?=some o:=fun _ _ _ _ h =>
 ⟨h.1.size, fun b o _ a c => h.1.at_ (fun e => by
  obtain⟨cs,t,d⟩:=h.2
  rw[e,d]at a
  injection a with a
  rw[←a]at c
  cases c) a⟩
def nE (w:World) (bb:Nat) (A:Option Addr) (_c:Nat) (all:List Nat) (k:Nat):Prop :=
 ∃ A' c',w.heap[bb]?=some (.cells #[.slice A' (all.drop (64*k)).length c'] 22 (0,0))∧(all.drop (64*k)).length≤c'∧c'≤maxLen∧(64*k<all.length→A'=A.map (·.add (64*k)))
theorem zCk {X:World}{c k:Nat}{A:Option Addr}{P:Nat→Prop}{all:List Nat}{A':Option Addr}{c':Nat}(a:(all.drop (64*k)).length≤c')(b:c'≤maxLen)(d:64*k<all.length→A'=A.map (·.add (64*k)))(e:64*k≤all.length)(f:RB X P A c all):RB X P A' c' (all.drop (64*k)) :=
 f.from' e (by rw[qa]at a;exact a) b d
theorem pm {bb s:Nat}{A:Option Addr}{c:Nat}{P:Nat→Prop}(all:List Nat)(w:World)(t:w.heap[bb]?=some (.cells #[.slice A all.length c] 22 (0,0)))(H:w.heap[s]?=some (.cells #[.int .i64 64] 3 (0,0)))(an:bb≠s)
 (hc:all.length≤c) (aB:c≤maxLen) (hl:all.length≤1000000) (hP:∀ b,P b→b<w.heap.size∧b≠bb) :
 zBj Tryz.prog 158 #[.pointer (some ⟨s,0,none⟩),.pointer (some ⟨bb,0,none⟩)] (fun k v=>#[.int .i64 (k:Int),v]) (fun k v X=>∃ A' c',v=.slice A' (pc all k).length c'∧OW X w.heap.size A' c' (pc all k)) (fun _ X=>RB X P A c all) (zBi bb) (rE bb s) 0 ((all.length+63)/64) true w:=by
 intro n l' J J' Jx W aN Y _ _ _ _ hNd hT aD hY h0
 have ak:=(Y.block bb (qd t)).trans t
 have am:=(Y.block s (qd H)).trans H
 have zb:=qd t
 have zn:=qd H
 have zW:=Y.size
 have T:=zF hT
 have HY:=zF hY
 have HN:=zF hNd
 have S:=zF hP
 obtain⟨N,V⟩:=eV ((all.length+63)/64)
 rw[V]at HY T HN ⊢
 have ac:=zF V
 clear hT hY aD hNd hP V
 have ai:nE W bb A c all 0:=⟨A,c,ak,by simpa using hc,aB,fun _=>by cases A<;>simp[Addr.add]⟩
 have O:=zF ai
 have nc:=zP am 0
 simp only[zQ,ze]at nc
 clear ai ak t H
 refine callsIn_of_wp Tryz.func158 rfl trivial ?_ rfl
 simp only[Tryz.ntmps158,qZ,jP,jk,Nat.reduceAdd,Nat.reduceSub,Array.replicate_succ,Array.replicate_zero,List.push_toArray,List.append_toArray,vh,ul]
 refine wpIn_wide.2 ?_
 go_wp2_with fail
 refine(wpIn_wide (n:=n)).1 ?_
 gi_loopg [4] N (fun d i wr=>∃(k:Nat) (l:World),d+k=N∧i=.int .i64 (k:Int)∧J k l∧zBi bb W.heap.size k l wr∧nE wr bb A c all k∧wr.heap[s]?=some (.cells #[.int .i64 64] 3 (0,0))∧W.heap.size≤l.heap.size)
 case atStart=>exact⟨0,W,jF _,rfl,h0,⟨q9 _ _,let ⟨_,_,h,_⟩:=O.out;⟨_,_,h⟩⟩,O.out,am,zG _⟩
 case round =>
  obtain⟨k,l,aI,rfl,F,f,az,ab,ar⟩:=hrel;clear O h0 nc;have aF:=HN.out k l (by omega) F;have aG:RB wr P A c all:=aF.keep fun p j=>qB (f.1.block _ (zH (S.out _ j).1 (by omega)) (S.out _ j).2);obtain⟨A',c',y,q1,q2,q3⟩:=az;have aA:64*k≤all.length∨all.length<64*k:=by omega
  have cb:=zP y 0;have cn:=zP ab 0;simp only[zQ,ze]at cb cn;by_cases hkN:k<N
  · have aE:64*k<all.length:=by have:=ac.out;omega
    have C:=zF (zCk q1 q2 q3 (by omega) aG);obtain⟨rest,L⟩:=eV (all.drop (64*k));rw[L]at y cb q1 C;have q:rest.length=all.length-64*k:=by rw[←L,qa]
    have aO:(0:Int)<(rest.length:Int):=by omega
    have af:=zF q;have aw:=zF L;clear L q aA;obtain⟨ad,rfl⟩:∃ ad,A'=some ad:=by obtain⟨ad,e,_⟩:=C.out.dg (i:=0) (by omega);exact⟨ad,e⟩
    have Q3:=zF q3;obtain⟨m,hm⟩:∃ m:Nat,min 64 rest.length=m:=⟨_,rfl⟩
    have aM:min (64:Int) (rest.length:Int)=(m:Int):=by omega
    have aJ:(0:Int)≤(m:Int):=by omega
    have aK:(m:Int)≤(rest.length:Int):=by omega
    have aL:(m:Int)≤(c':Int):=by omega
    obtain⟨p,j⟩:=eV (rest.take m);have B:p.length=m:=by rw[←j,zh];omega
    have ap:pc all k=p:=by
     rw[pc,aw.out,←j,←hm];rcases Nat.le_total 64 rest.length with h|h
     · rw[qU h]
     · rw[Nat.min_eq_right h,jB,zu h]
    have q:=af.out;have Z:=zBY P (some ad) c' p wr (by rw[←j];exact C.out.takeS m) (fun b t=>zH (S.out b t).1 (zK (zK zW ar) f.1.size)) (fun e=>by rw[e]at B;simp at B;omega) (by omega);rw[B]at Z;have au:=zF Z;have ae:=zF ap;have av:=zF B;have Hp:=zF j;have Hm:=zF hm;clear hm j B ap Z q3 q;gi_upto_region 5 with fail
    refine wpIn_region ?_;show wpOpsIn _ _ _ _ _ [0,1,2,3,4,5,6,7] _ _;refine xI rfl (by kernel_rfl) (by kernel_rfl) (fun K a=>?_);go_simp;refine a _ _ ?_;clear a;refine xI rfl (by kernel_rfl) (by kernel_rfl) (fun K a=>?_);go_simp;refine a _ _ ?_;clear a;refine xI rfl (by kernel_rfl) (by kernel_rfl) (fun K a=>?_);go_simp;refine a _ _ ?_;clear a;refine xI rfl (by kernel_rfl) (by kernel_rfl) (fun K a=>?_);go_simp;refine a _ _ ?_;clear a;refine xI rfl (by kernel_rfl) (by kernel_rfl) (fun K a=>?_);go_simp;refine a _ _ ?_;clear a;refine xI rfl (by kernel_rfl) (by kernel_rfl) (fun K a=>?_);go_simp;refine au.out.mono ?_;rintro e w4 ⟨A2,c2,rfl,ao,_,E⟩;go_simp;refine a _ _ ?_;clear a;have ah:=T.out k l w4 (by omega) F ⟨f.1.trans (jE.of_below E (zG _)),f.2⟩;have z4:=E.bsize;obtain⟨fn,tmps,assign,body,hy,aj⟩:=HY.out k (.slice A2 m c2) w4 ah ⟨A2,c2,by rw[ae.out,av.out],by rw[ae.out];exact ao.mono (zK (zK zW ar) f.1.size)⟩ hkN (by have:=f.1.size;omega);have M:=zF E;clear ao E ah F;rw[wpOpsIn_cons];refine wpOpIn_step rfl (fun K a=>?_);rw[qg (by kernel_rfl)];gi_wp2;refine aj.mono ?_;rintro e W3 (⟨rfl,ag,aa,aq⟩|⟨rfl,ay,_⟩)
    · have g:=aa.1.trans (M.out.at_ y);have I:=aa.2.trans (M.out.at_ ab);have c3:=zP g 0;have f3:=qz g 0;simp only[zQ,ze]at c3;have z3:=aq.size;have q:=af.out;have al:=Hm.out;have aP:=f.1.size;have G:(all.drop (64*(k+1))).length=rest.length-m:=by rw[qa];omega
      clear aa aq y ab cb cn hy aj M C;by_cases hcm:c'=m
      · obtain rfl:m=c':=hcm.symm;have r:=jA g 0 (.slice (some ad) 0 0);rw[show(#[Value.slice (some ad) rest.length m]:Array Value).setIfInBounds 0 (.slice (some ad) 0 0)=#[.slice (some ad) 0 0]from rfl]at r;have o:=(q9 bb W3).set 0 (.slice (some ad) 0 0);have z:=o.at_ (fun e=>an e.symm) I;have x:zBi bb W.heap.size (k+1) W3 (W3.setCell ⟨bb,0,none⟩ (.slice (some ad) 0 0)):=⟨o,_,_,g⟩
        have u:nE (W3.setCell ⟨bb,0,none⟩ (.slice (some ad) 0 0)) bb A c all (k+1):=⟨(some ad),0,by rw[G,show rest.length-m=0 by omega];exact r,by omega,by omega,fun h=>absurd h (by omega)⟩
        have U:=zF x;have Q:=zF u;have R:=zF z;clear r o z x u g I q al G;gi_wp2;refine xI rfl (by kernel_rfl) (by kernel_rfl) (fun K a=>?_);go_simp;refine a _ _ ?_;clear a;simp only[wpOpsIn];gi_upto_region 6 with fail
        gi_wp2;gi_roundg (gk-1);case rel=>exact⟨k+1,W3,by omega,by go_num,ag,U.out,Q.out,R.out,by omega⟩
        case measure=>omega
      · have aH:¬(c':Int)=(m:Int):=by omega
        have r:=jA g 0 (.slice (some (ad.add m)) (rest.length-m) (c'-m));rw[show(#[Value.slice (some ad) rest.length c']:Array Value).setIfInBounds 0 (.slice (some (ad.add m)) (rest.length-m) (c'-m))=#[.slice (some (ad.add m)) (rest.length-m) (c'-m)]from rfl]at r;have o:=(q9 bb W3).set 0 (.slice (some (ad.add m)) (rest.length-m) (c'-m));have z:=o.at_ (fun e=>an e.symm) I;have x:zBi bb W.heap.size (k+1) W3 (W3.setCell ⟨bb,0,none⟩ (.slice (some (ad.add m)) (rest.length-m) (c'-m))):=⟨o,_,_,g⟩
        have u:nE (W3.setCell ⟨bb,0,none⟩ (.slice (some (ad.add m)) (rest.length-m) (c'-m))) bb A c all (k+1):=⟨(some (ad.add m)),c'-m,by rw[G];exact r,by omega,by omega,fun h=>by have D:=Q3.out aE;cases A with|none=>cases D|some a0=>(injection D with D;simp only[yc];rw[D,fS];congr 2;omega)⟩
        have U:=zF x;have Q:=zF u;have R:=zF z;clear r o z x u g I q al G;gi_wp2;refine xI rfl (by kernel_rfl) (by kernel_rfl) (fun K a=>?_);go_simp;refine a _ _ ?_;clear a;simp only[wpOpsIn];gi_upto_region 6 with fail
        gi_wp2;gi_roundg (gk-1);case rel=>exact⟨k+1,W3,by omega,by go_num,ag,U.out,Q.out,R.out,by omega⟩
        case measure=>omega
    · gi_wp2;refine xI rfl (by kernel_rfl) (by kernel_rfl) (fun K a=>?_);go_simp;refine a _ _ ?_;clear a;simp only[wpOpsIn];gi_wp2;exact vg (results_none rfl _ _ _) rfl ⟨⟨_,rfl⟩,.inr ⟨k+1,by omega,by omega,ay⟩⟩
  · obtain rfl:k=N:=by omega
    have aC:(all.drop (64*k)).length=0:=by have:=ac.out;rw[qa];omega
    rw[aC]at y cb;have ax:=T.out k l wr (zG _) F f;gi_wp2;go_end0;exact⟨⟨_,rfl⟩,.inl ax⟩
def rem (m:List Nat):List Nat:=m.drop (64*(m.length/64))
theorem vT (m:List Nat):(rem m).length=m.length%64:=by rw[rem,qa];omega
theorem zCD (m p:List Nat):rem m++p=(m++p).drop (64*(m.length/64)):=by
 rw[rem,List.drop_append_of_le_length (by omega)]
theorem oe (s:St){M all:List Nat}{q:Nat}(h:M.drop (64*q)=all)(k:Nat):kK s M (q+k+1)=pk (kK s M (q+k)) (pc all k):=by
 rw[kK,pc,←h,List.drop_drop,show 64*(q+k)=64*q+64*k by omega]
structure Fr (b F:Nat) (w w':World):Prop where
 os:w'.os=w.os
 tape:w'.tape=w.tape
 output:w'.output=w.output
 size:w.heap.size≤w'.heap.size
 block:∀ k,k<F→k≠b→w'.heap[k]?=w.heap[k]?
theorem Fr.refl (b F:Nat)(w:World):Fr b F w w:=⟨rfl,rfl,rfl,zG _,fun _ _ _=>rfl⟩
theorem Fr.trans {b F:Nat}{x y z:World}(h:Fr b F x y)(k:Fr b F y z):Fr b F x z:=⟨k.os.trans h.os,k.tape.trans h.tape,k.output.trans h.output,zK h.size k.size,fun i a c=>(k.block i a c).trans (h.block i a c)⟩
theorem Fr.mono {b F G:Nat}{x y:World}(h:Fr b F x y)(a:G≤F):Fr b G x y:=⟨h.os,h.tape,h.output,h.size,fun i c d=>h.block i (zH c a) d⟩
theorem Fr.below {b F G:Nat}{x y:World}(h:Below F x y)(a:G≤F):Fr b G x y:=⟨h.os,h.tape,h.output,h.size,fun i c _=>h.block i (zH c a)⟩
theorem Fr.just {b F:Nat}{x y:World}(h:jE b x y)(a:F≤x.heap.size):Fr b F x y:=⟨h.os,h.tape,h.output,h.size,fun i c d=>h.block i (zH c a) d⟩
theorem Fr.justTo {b g F:Nat}{x y:World}(h:jE g x y)(d:F≤g)(c:F≤x.heap.size):Fr b F x y:=⟨h.os,h.tape,h.output,h.size,fun i a _=>h.block i (zH a c) (by omega)⟩
theorem Fr.at_ {b F k:Nat}{x y:World}{o:Obj}(h:Fr b F x y)(a:k<F)(c:k≠b)(d:x.heap[k]?=some o):y.heap[k]?=some o:=(h.block k a c).trans d
theorem Fr.ext {b F:Nat}{x y:World}(h:Fr b F x y)(d:x.heap.size≤b)(a:x.heap.size≤F):Ext x y:=⟨h.os,h.tape,h.output,h.size,fun i c=>h.block i (zH c a) (by omega)⟩
theorem KW.fr {b F n:Nat}{s:List W}{wt:Value}{x y:World}(h:KW x)(j:HB x b s wt n)(k:Fr b F x y)(g:3<F):KW y:=fun i l=>by
 obtain⟨z,c,d⟩:=h i l;refine⟨z,(qB (k.block _ g ?_)).trans c,d⟩;intro e;obtain⟨m,f,_⟩:=h 0 (by omega);have:=j.kind;have a:3=b:=e;rw[←a,f]at this;cases this
theorem KW.lt {w:World}(h:KW w):3<w.heap.size:=by
 obtain⟨z,a,_⟩:=h 0 (by omega);exact wE w _ a
def HS (w:World) (b:Nat) (m:List Nat) (F:Nat):Prop :=
 ∃ A c,HB w b (kK yG m (m.length/64)).list (.slice A (rem m).length c) m.length∧OW w F A c (rem m)∧(rem m=[]→A=none∧c=0)∧m.length≤500000
theorem HS.lt {w:World}{b F:Nat}{m:List Nat}(h:HS w b m F):b<w.heap.size:=let ⟨_,_,h,_⟩:=h;h.lt
theorem HB.no8 {w:World}{b n len c:Nat}{s:List W}{A:Option Addr}{q:Addr}{v:Int}(h:HB w b s (.slice A len c) n)(a:w.cell? q=some (.int .u8 v)):q.block≠b:=by
 intro e;unfold World.cell? at a;rw[e,h.1]at a;simp only at a;split at a
 · cases a
 · have d:=xC (l:=vw s (.slice A len c) n) (i:=q.off) (by simpa using a);simp[vw]at d
theorem RB.by_ {w w':World}{P:Nat→Prop}{A:Option Addr}{c:Nat}{bs:List Nat}(h:RB w P A c bs)(n:∀(q:Addr) (v:Int),P q.block→w.cell? q=some (.int .u8 v)→w'.cell? q=some (.int .u8 v)):RB w' P A c bs:=by
 obtain⟨⟨d,f,g,i⟩,k⟩:=h;refine⟨⟨d,f,g,fun o=>?_⟩,k⟩;obtain⟨ad,e,a,m⟩:=i o;refine⟨ad,e,a,fun j u b=>?_⟩;have l:=m j u b;obtain⟨x,_,rfl⟩:=List.mem_map.1 (xC b);exact n _ _ (by rw[xP];exact a) l
theorem zAF (w:World)(a o2:Obj):((w.alloc a).alloc o2).heap[w.heap.size]?=some a∧((w.alloc a).alloc o2).heap[w.heap.size+1]?=some o2∧((w.alloc a).alloc o2).heap.size=w.heap.size+2:=by
 refine⟨(zL _ _).at_ (zS w a),?_,by simp⟩;have:=zS (w.alloc a) o2;rwa [zz]at this
theorem pP {B C g:Nat}{x y:World}{cs:Array Value}{t:TypeId}(h:jE g x y)(_i:g<C)(d:x.heap[g]?=some (.cells cs t (0,0))):jS B C 0 x y :=
 ⟨h.size,fun k o _ a b=>h.at_ (fun e=>by rw[e,d]at a;rw[←jU a]at b;cases b) a,fun k f c=>absurd c (by omega)⟩
theorem oW {M all:List Nat}{q:Nat}(h:M.drop (64*q)=all)(a:64*q≤M.length):M.length=64*q+all.length:=by
 rw[←h,qa];omega
section
variable {w:World} {ops:Array Oper} {rest:List Oper} {o:Oper} {a:Act} {Q:Exit→Act→World→Prop}
theorem oS (n:o.guard=none)(s x:Operand)(q:o.op=.call { callee:=.builtin .append,args:=#[s,x],argTypes:=#[22,22] })(base:Nat){A e:Option Addr}{c f:Nat}{bs cs:List Nat}{B:Nat→Prop}
 (r:a.eval s=.slice A bs.length c) (i:OW w base A c bs) (v:a.eval x=.slice e cs.length f) (j:RB w B e f cs) (F:bs.length+cs.length≤100000000) (m:base≤w.heap.size)
 (h:∀ A' c' w',OW w' base A' c' (bs++cs)→w.grownBy w' (Value.slice A bs.length c).ownBlock→wpList Tryz.prog ops Q rest (a.put o.dst (.slice A' (bs++cs).length c')) w'):wpList Tryz.prog ops Q (o::rest) a w:=by
 obtain⟨D,p,y,z,C⟩:=yz ub
 refine jd w n s x 22 q base 5 D (.int .u8 0) 1 1 Tryz.underlying22 p y z C rfl (by decide) _ bs.length (bys bs) r i.1 B e cs.length f (bys cs) v j.1 (by intro u t;obtain⟨b,_,rfl⟩:=List.mem_map.1 t;rfl) (bs.length+cs.length) rfl (by unfold maxLen;omega) (by omega) m ?_
 intro A' c' w' k l E
 have g:(bs++cs).length=bs.length+cs.length:=zf
 refine(g▸h A' c' w' ⟨?_,?_⟩ l:_)
 · rw[g,show bys (bs++cs)=bys bs++bys cs by simp[bys]];exact k
 · intro b d;rcases List.mem_append.1 d with d|d
   · exact i.2 b d
   · exact j.2.1 b d
end
theorem OW.own {w:World}{base:Nat}{A:Option Addr}{c:Nat}{bs:List Nat}(h:OW w base A c bs){k:Nat}(a:(Value.slice A bs.length c).ownBlock=some k):base≤k∧∃ cs,w.heap[k]?=some (.cells cs 5 (0,0)):=by
 rcases h.1.2 with⟨e,_⟩|⟨g,cap,f,e,d,b,_⟩
 · injection e with e1
   subst e1;cases a
 · injection e with e1
   subst e1;simp[Value.ownBlock]at a;subst a;exact⟨d,_,b⟩
theorem OW.same {w w':World}{base:Nat}{A:Option Addr}{c:Nat}{bs:List Nat}(h:OW w base A c bs)(m:∀ k,base≤k→∀ cs,w.heap[k]?=some (.cells cs 5 (0,0))→w'.heap[k]?=some (.cells cs 5 (0,0))):OW w' base A c bs:=by
 obtain⟨⟨f,a⟩,i⟩:=h;refine⟨⟨f,?_⟩,i⟩;rcases a with a|⟨g,cap,d,e,b,l,j⟩
 · exact .inl a
 · exact .inr ⟨g,cap,d,e,b,m g b _ l,j⟩
theorem HS.nil_up {w:World}{b F G:Nat}{m:List Nat}(h:HS w b m F)(g:m.length%64=0):HS w b m G:=by
 obtain⟨A,c,e,i,d,f⟩:=h;have a:rem m=[]:=qV (by rw[vT];exact g);obtain⟨rfl,rfl⟩:=d a;refine⟨none,0,e,⟨⟨by simp[bys],.inl ⟨by rw[a];rfl,by rw[a];rfl⟩⟩,by rw[a];simp⟩,d,f⟩
theorem HS.ext {w X:World}{b F:Nat}{m:List Nat}(h:HS w b m F)(a:Ext w X):HS X b m F:=by
 obtain⟨A,c,d,e,f,g⟩:=h;exact⟨A,c,d.ext a,e.same fun k _ cs i=>a.at_ i,f,g⟩
theorem HS.fr {w X:World}{b b' F:Nat}{m:List Nat}(h:HS w b m F)(f:Fr b' w.heap.size w X){s:List W}{wt:Value}{n:Nat}(l:HB w b' s wt n)(o:b≠b'):HS X b m F:=by
 obtain⟨A,c,d,g,i,j⟩:=h;refine⟨A,c,⟨f.at_ d.lt o d.1,d.2⟩,g.same fun k _ cs a=>f.at_ (qd a) (fun e=>?_) a,i,j⟩;rw[e,l.1]at a;injection jU a with _ e2
 exact absurd e2 (by decide)
theorem uV {b F:Nat}{P:Nat→Prop}{A:Option Addr}{c:Nat}{m p:List Nat}(w:World)(hs:HS w b m F)(H:KW w)(hp:RB w P A c p)(hP:∀ k,P k→k<w.heap.size)(bS:b<F)(bH:3<F)(hF:F≤w.heap.size)(hl:(m++p).length≤500000) :
 Calls Tryz.prog 137 #[.pointer (some ⟨b,0,none⟩),.slice A p.length c] w fun e w'=>e=.returned (.tuple #[])∧HS w' b (m++p) w.heap.size∧Fr b F w w':=by
 obtain⟨Aw,cw,hB,hO,hN,bj⟩:=hs
 have bi:=hl
 rw[zf]at hl
 have zk:=H.lt
 have zb:=hB.lt
 obtain⟨g0,ay⟩:=eV w.heap.size
 have ac:=zL w (.cells #[.pointer (some ⟨b,0,none⟩)] 171)
 have aq:=zS w (.cells #[.pointer (some ⟨b,0,none⟩)] 171)
 obtain⟨W0,ax⟩:=eV (w.alloc (.cells #[.pointer (some ⟨b,0,none⟩)] 171))
 rw[ax]at ac aq
 have bm:W0.heap.size=g0+1:=by rw[←ax,zz,ay]
 rw[ay]at aq
 have ag:=zF (hB.ext ac)
 have a2:=zF (hO.same fun k _ cs H=>ac.at_ H)
 have a4:=zF (hp.below ac hP)
 have aB:=zF (H.ext ac)
 have aX:=zF ac
 have HN:=zF hN
 have bx:=zF bm
 have bR:=zF bj
 have bu:=zF ax
 have W:=zF ay
 have c0:=zP aq 0
 simp only[zQ,ze]at c0
 have cn:=ag.out.num
 have bB:=ag.out.free 10
 have O:IntKind.u64.wrap (p.length:Int)=(p.length:Int):=by rw[ww];omega
 have G:IntKind.u64.wrap ((m.length:Int)+(p.length:Int))=(((m++p).length:Nat):Int):=by rw[ww,zf];omega
 have ai:=ag.out.setNum (m++p).length
 obtain⟨M,hM⟩:=eV (m++p)
 rw[hM]at G ai
 clear hB hO hN hp H ac bm ay ax bj
 refine(callsIn_wide (n:=6)).1 ?_
 refine callsIn_of_wp_marks Tryz.func137 rfl trivial ?_ rfl
 simp only[Tryz.ntmps137,qZ,jP,jk,Nat.reduceAdd,Nat.reduceSub,Array.replicate_succ,Array.replicate_zero,List.push_toArray,List.append_toArray,vh,ul]
 refine wpIn_wide.2 ?_
 go_upto_region 2 with fail
 rw[bu.out,W.out]
 have aP:g0≠b:=by have:=W.out;omega
 have aj:=(q9 b W0).set 10 (.int .u64 (M.length:Int))
 have aT:=aj.at_ aP aq
 have HM:=zF hM
 have a6:=zF bi
 clear hM aq bi
 go_upto_region 3 with fail
 clear c0 cn bB O G
 have aJ:OW (W0.setCell ⟨b,10,none⟩ (.int .u64 (M.length:Int))) F Aw cw (rem m):=a2.out.same fun k H cs t=>aj.at_ (by omega) t
 have bc:RB (W0.setCell ⟨b,10,none⟩ (.int .u64 (M.length:Int))) P A c p:=a4.out.by_ fun q v _ hq=>(aj.cell (wE _ _ hq) (ag.out.no8 hq)).trans hq
 have a1:=zF (KW.fr (F:=W0.heap.size) aB.out ag.out (Fr.just aj (zG _)) aB.out.lt)
 have aW:(W0.setCell ⟨b,10,none⟩ (.int .u64 (M.length:Int))).heap.size=g0+1:=by rw[←bx.out];simp[World.setCell]
 have aY:=zF (Fr.trans (Fr.below (b:=b) aX.out hF) (Fr.just aj (by have:=aX.out.bsize;omega)))
 generalize W0.setCell ⟨b,10,none⟩ (.int .u64 (M.length:Int))=W1 at *
 have bz:=ai.wait
 have c0:=zP aT 0
 simp only[zQ,ze]at c0
 have a8:=zF aW
 have aE:=zF aJ
 have bK:=vT m
 have bf:F≤W1.heap.size:=by rw[aW];have:=W.out;omega
 have bh:(rem m).length+p.length≤100000000:=by omega
 clear aj aW bK
 go_upto_region 4 with(at_builtin;refine oS rfl (.tmp 22) (.tmp 23) rfl F rfl aJ rfl bc bh bf ?_;intro A2 c2 W2 aQ aa)
 obtain⟨all,an⟩:=eV (rem m++p)
 rw[an]at aQ
 have ae:(rem m).length+p.length=all.length:=by rw[←an,zf]
 have be:M.drop (64*(m.length/64))=all:=by rw[←HM.out,←zCD,an]
 have aR:∀ k (o:Obj),W1.heap[k]?=some o→(∀ cs,o≠.cells cs 5 (0,0))→W2.heap[k]?=some o:=fun k o H bI=>(aa.block k (qd H) (fun e=>by
  obtain⟨_,cs,hc⟩:=aE.out.own e.symm
  rw[H]at hc
  exact bI cs (jU hc))).trans H
 have aN:Fr b F W1 W2:=⟨aa.os,aa.tape,aa.output,aa.size,fun k H _=>aa.block k (by omega) (fun e=>by have:=(aE.out.own e.symm).1;omega)⟩
 have ak:HB W2 b (kK yG m (m.length/64)).list (.slice Aw (rem m).length cw) M.length:=⟨aR _ _ ai.1 (by intro cs e;injection e with _ G;exact absurd G (by decide)),ai.2⟩
 have aU:=aR _ _ aT (by intro cs e;injection e with _ G;exact absurd G (by decide))
 have aZ:=zF (aY.out.trans aN)
 have aC:=zF (a1.out.fr ai aN bH)
 have bn:g0+1≤W2.heap.size:=by rw[←a8.out];exact aa.size
 have bQ:=zF an
 have a5:=zF ae
 have bw:=zF be
 rw[ae]
 clear aR aN aa aT ai aJ bc aE an be ae a1 aY c0 bz bh bf a8 ag a2 a4 aB
 have c0:=zP aU 0
 simp only[zQ,ze]at c0
 have bA:=ak.wait
 have bC:=ak.free 9
 have ao:=(q9 b W2).set 9 (.slice none 0 0)
 have aG:=ak.setWait (.slice none 0 0)
 have aV:=ao.at_ aP aU
 have bk:OW (W2.setCell ⟨b,9,none⟩ (.slice none 0 0)) F A2 c2 all:=aQ.same fun k H cs t=>ao.at_ (by omega) t
 have bo:=zF (aZ.out.trans (Fr.just ao (by have:=W.out;omega)))
 have bp:=zF (aC.out.fr ak (Fr.just ao (zG _)) aC.out.lt)
 have bN:g0+1≤(W2.setCell ⟨b,9,none⟩ (.slice none 0 0)).heap.size:=by simp[World.setCell];exact bn
 have a3:=zF bk
 clear aU ak aQ aZ aC ao bn bk
 go_upto_region 5 with fail
 clear c0 bA bC
 generalize W2.setCell ⟨b,9,none⟩ (.slice none 0 0)=W3 at *
 have c0:=zP aV 0
 simp only[zQ,ze]at c0
 have ck:=aG.kind
 go_wp2_with fail
 refine(cB _).mono ?_
 rintro e W4 ⟨rfl,rfl⟩
 go_wp2_with fail
 refine(po _ _ _ _).mono ?_
 rintro e W5 ⟨rfl,rfl⟩
 obtain⟨D,hD⟩:=eV W4.heap.size
 obtain⟨aL,aM,bO⟩:=zAF W4 (.cells #[.slice A2 all.length c2] 22) (.cells #[.int .i64 64] 3)
 have ad:Ext W4 ((W4.alloc (.cells #[.slice A2 all.length c2] 22)).alloc (.cells #[.int .i64 64] 3)):=(zL _ _).trans (zL _ _)
 rw[hD]at aL aM bO bN ⊢
 generalize(W4.alloc (.cells #[.slice A2 all.length c2] 22)).alloc (.cells #[.int .i64 64] 3)=W6 at *
 have a9:=aG.ext ad
 have bl:=ad.at_ aV
 have bE:OW W6 F A2 c2 all:=a3.out.same fun k _ cs t=>ad.at_ t
 have aw:=a3.out.rb (by have:=a5.out;have:=vT m;omega)
 rw[hD]at aw
 have bG:=aw.cap
 have bd:RB W6 (In F D) A2 c2 all:=aw.below ad (fun k H=>by rw[hD];exact H.2)
 have a0:=zF (bo.out.trans (Fr.below ad (by have:=W.out;omega)))
 have bq:=zF (bp.out.ext ad)
 have au:=zF a9
 have bt:=zF bd
 have bv:=zF bl
 have bV:b<D:=by have:=W.out;omega
 have bF:all.length≤1000000:=by have:=a5.out;have:=vT m;omega
 have bL:=zF (pm (P:=In F D) all W6 aL aM (by omega) bG.1 (by unfold maxLen;omega) bF (fun k H=>⟨by have:=H.2;omega,by have:=H.2;omega⟩))
 obtain⟨q,hq⟩:=eV (m.length/64)
 have Hq:=zF hq
 rw[hq,←mN yG m p q (by omega),HM.out]at au
 have aH:=bw.out
 rw[hq]at aH
 have ar:=zF aH
 have ba:OwnFrom W6.heap.size (fun(k:Nat) X=>HB X b (kK yG M (q+k)).list (.slice none 0 0) M.length∧Fr b D W6 X∧64*k≤all.length):=by
  rintro k X X' row ⟨u,J,h0⟩ L I;have az:=fun r e=>(I r e).2;refine⟨⟨(yS L az u.1 rfl).trans u.1,u.2⟩,J.trans ⟨L.os,L.tape,L.output,L.size,fun i N _=>L.block i (by have:=J.size;omega) (fun e=>by have:=(I i e.symm).1;omega)⟩,h0⟩
 clear c0 ck aG aV ad aL aM bE aw bd a9 bl hq aH
 go_wp2_with fail
 refine(wpIn_wide (n:=6)).1 ?_
 refine' oY (by omega) (gf:=158) (lb:=#[.pointer (some ⟨D+1,0,none⟩),.pointer (some ⟨D,0,none⟩)]) rfl (enters_of Tryz.func158 (by kernel_rfl) rfl)
  bL.out (fun h k=>rE.trans h k) (fun X l o o' hl _ _ _=>⟨qM (by omega),qM (by omega)⟩) (od D) (zo _ _) (fun _ _=>rfl)
  (fun k v X l o o' hV hl hc=>?hVp)
  (fun k X=>HB X b (kK yG M (q+k)).list (.slice none 0 0) M.length∧Fr b D W6 X∧64*k≤all.length) (fun k X=>HB X b (kK yG M (q+k)).list (.slice none 0 0) M.length∧Fr b D W6 X∧64*k≤all.length)
  (fun cc k X=>cc=.ret∧∃ k0 x E,k=k0+1∧HB X b (kK yG M (q+k0)).list (.slice x (pc all k0).length E) M.length∧OW X W6.heap.size x E (pc all k0)∧(pc all k0).length<64∧Fr b D W6 X)
  ba ba ?hIx (fun k X _ N=>?hNd) (fun B k X X' _ _ N ht=>?hIT) (fun h=>by cases h) ⟨au.out,Fr.refl _ _ _,xB _⟩ _ ?assign ?body ?done ?stop
 case hVp =>
  obtain⟨x,E,e,h5⟩:=hV;exact⟨x,E,e,h5.same fun i _ cs t=>(qM (fun e=>by subst e;rw[hl]at t;cases t;cases hc)).trans t⟩
 case hIx =>
  rintro cc k X X' row ⟨rfl,k0,x,E,rfl,u,J,h3,h4⟩ L I;have az:=fun r e=>(I r e).2;exact⟨rfl,k0,x,E,rfl,⟨(yS L az u.1 rfl).trans u.1,u.2⟩,J.same (fun i _ cs t=>(yS L az t rfl).trans t),h3,h4.trans ⟨L.os,L.tape,L.output,L.size,fun i N _=>L.block i (by have:=h4.size;omega) (fun e=>by have:=(I i e.symm).1;omega)⟩⟩
 case hNd =>
  exact bt.out.by_ fun q' v bJ bg=>(qB (N.2.1.block _ bJ.2 (au.out.no8 bg))).trans bg
 case hIT =>
  exact⟨⟨ht.1.at_ (by omega) N.1.1,N.1.2⟩,N.2.1.trans (Fr.justTo ht.1 (zG _) (by have:=N.2.1.size;omega)),N.2.2⟩
 case assign =>
  intro l k v X K d;gi_wp2;exact d
 case body =>
  rintro l k v Xb ⟨u,J,h0⟩ ⟨x,E,rfl,h5⟩ bU _;have Z:=J.at_ (by omega) aP bv.out;have c0:=zP Z 0;simp only[zQ,ze]at c0;have ck:=u.kind;have Y:=zF u;have Q:=zF J;have H5:=zF h5;have af:(pc all k).length=min 64 (all.length-64*k):=by rw[pc,zh,qa]
  obtain⟨n5,aO⟩:=eV ((pc all k).length);have av:=zF aO;rw[aO]at af ⊢;have a7:=zF af;clear u J h5 aO af;gi_upto_region 7 with fail
  by_cases h64:n5<64
  · have bP:(n5:Int)<64:=by omega
    refine Par.wU 8 [0,1,0,4,12,28,60,127] [] (fun j f X=>match j with
     | 0=>f 0=.slice x n5 E
     | 1=>f 1=.int .i64 (n5:Int)
     | 2=>f 2=.pointer (some ⟨b,0,none⟩)
     | 3=>f 3=.pointer (some ⟨b,0,none⟩)
     | 4=>f 4=.pointer (some ⟨b,0,none⟩)
     | 5=>f 5=.int .i64 3
     | 6=>f 6=.int .i64 64
     | 7=>f 7=.bool true
     | _=>True) (by kernel_rfl) [(37,0),(38,1),(39,2),(40,3),(41,4),(42,5),(43,6),(44,7)] (by kernel_rfl) (by kernel_rfl) ?_
    refine zv 1 7 [(39,2),(40,3),(41,4),(42,5),(43,6)] (fun f X g hR K d=>?_) ?_
    · simp only[yZ];refine⟨?_⟩;go_simp;exact qY d (s:=by simp only[yZ])
    refine zv 2 6 [(37,0),(39,2),(40,3),(41,4),(42,5),(43,6)] (fun f X g hR K d=>?_) ?_
    · have R:f 0=_:=hR.out 0 rfl;simp only[yZ,R];refine⟨?_⟩;go_simp;exact qY d (s:=by simp only[yZ,R])
    refine zv 3 5 [(37,0),(38,1)] (fun f X g hR K d=>?_) ?_
    · have x0:=g.cell c0;simp only[yZ];refine⟨?_⟩;go_simp;exact qY d (s:=by simp only[yZ])
    refine zv 4 4 [(37,0),(38,1),(39,2)] (fun f X g hR K d=>?_) ?_
    · have G:f 2=_:=hR.out 2 rfl;simp only[yZ,G];refine⟨?_⟩;go_simp;exact qY d (s:=by simp only[yZ,G])
    refine zv 5 3 [(37,0),(38,1),(39,2),(40,3)] (fun f X g hR K d=>?_) ?_
    · have S:f 3=_:=hR.out 3 rfl;simp only[yZ,S];refine⟨?_⟩;go_simp;exact qY d (s:=by simp only[yZ,S])
    refine zv 6 2 [(37,0),(38,1),(39,2),(40,3),(41,4)] (fun f X g hR K d=>?_) ?_
    · have T:f 4=_:=hR.out 4 rfl;have x0:=g.cell ck;simp only[yZ,T];refine⟨?_⟩;go_simp;exact qY d (s:=by simp only[yZ,T])
    refine zv 7 1 [(37,0),(38,1),(39,2),(40,3),(41,4),(42,5)] (fun f X g hR K d=>?_) ?_
    · have U:f 5=_:=hR.out 5 rfl;simp only[yZ,U];refine⟨?_⟩;go_simp;refine(cB _).mono ?_;rintro e w2 ⟨rfl,rfl⟩;exact d.out _ _ _ (by simp only[yZ,U]) (zT _) trivial (fun _ _=>rfl)
    refine zv 8 0 [(37,0),(38,1),(39,2),(40,3),(41,4),(42,5),(43,6)] (fun f X g hR K d=>?_) ?_
    · have O:f 1=_:=hR.out 1 rfl;have V:f 6=_:=hR.out 6 rfl;simp only[yZ,O,V];refine⟨?_⟩;go_simp;exact qY d (s:=by simp only[yZ,O,V])
    refine yF ⟨fun f X g hR ae aK=>?_⟩;have R:f 0=_:=hR 0 (by decide);have O:f 1=_:=hR 1 (by decide);have G:f 2=_:=hR 2 (by decide);have S:f 3=_:=hR 3 (by decide);have T:f 4=_:=hR 4 (by decide);have U:f 5=_:=hR 5 (by decide);have V:f 6=_:=hR 6 (by decide);have e7:f 7=_:=hR 7 (by decide);simp only[yZ,R,O,G,S,T,U,V,e7];clear hR ae aK R O G S T U V e7;refine zI ?_;refine⟨nofun,?_⟩;have HX:=zF g;replace Y:=zF (Y.out.ext g);replace Q:=zF (Q.out.trans (Fr.below g (by have:=Q.out.size;omega)));replace H5:=zF (H5.out.same fun i _ cs t=>g.at_ t);replace Z:=g.at_ Z;have c0:=zP Z 0;simp only[zQ,ze]at c0;have cw:=Y.out.wait;have fw:=Y.out.free 9;have hj:=(q9 b X).set 9 (.slice x n5 E);have aA:=zF (Y.out.setWait (.slice x n5 E));have ab:=zF (Q.out.trans (Fr.just hj (by have:=Q.out.size;omega)));have bs:=zF (H5.out.same fun i N cs t=>hj.at_ (by omega) t);have aD:=zF ((jS.below (B:=W6.heap.size) (C:=W6.heap.size+2) (m:=0) g (zG _)).trans (jS.setCell _ _ _ X (a:=⟨b,9,none⟩) (.inl (by show b<_;omega)) (.slice x n5 E)));clear g hj Z ck;gi_wp2;exact⟨aD.out,rfl,k,x,E,rfl,by rw[av.out];exact aA.out,bs.out,by rw[av.out];exact h64,ab.out⟩
  · obtain rfl:n5=64:=by have:=a7.out;omega
    have bP:¬((64:Nat):Int)<64:=by omega
    refine Par.wU 8 [0,1,0,4,12,28,60,127] [] (fun j f X=>match j with
     | 0=>f 0=.slice x 64 E
     | 1=>f 1=.int .i64 64
     | 2=>f 2=.pointer (some ⟨b,0,none⟩)
     | 3=>f 3=.pointer (some ⟨b,0,none⟩)
     | 4=>f 4=.pointer (some ⟨b,0,none⟩)
     | 5=>f 5=.int .i64 3
     | 6=>f 6=.int .i64 64
     | 7=>f 7=.bool false
     | _=>True) (by kernel_rfl) [(37,0),(38,1),(39,2),(40,3),(41,4),(42,5),(43,6),(44,7)] (by kernel_rfl) (by kernel_rfl) ?_
    refine zv 1 7 [(39,2),(40,3),(41,4),(42,5),(43,6)] (fun f X g hR K d=>?_) ?_
    · simp only[yZ];refine⟨?_⟩;go_simp;exact qY d (s:=by simp only[yZ])
    refine zv 2 6 [(37,0),(39,2),(40,3),(41,4),(42,5),(43,6)] (fun f X g hR K d=>?_) ?_
    · have R:f 0=_:=hR.out 0 rfl;simp only[yZ,R];refine⟨?_⟩;go_simp;exact qY d (s:=by simp only[yZ,R])
    refine zv 3 5 [(37,0),(38,1)] (fun f X g hR K d=>?_) ?_
    · have x0:=g.cell c0;simp only[yZ];refine⟨?_⟩;go_simp;exact qY d (s:=by simp only[yZ])
    refine zv 4 4 [(37,0),(38,1),(39,2)] (fun f X g hR K d=>?_) ?_
    · have G:f 2=_:=hR.out 2 rfl;simp only[yZ,G];refine⟨?_⟩;go_simp;exact qY d (s:=by simp only[yZ,G])
    refine zv 5 3 [(37,0),(38,1),(39,2),(40,3)] (fun f X g hR K d=>?_) ?_
    · have S:f 3=_:=hR.out 3 rfl;simp only[yZ,S];refine⟨?_⟩;go_simp;exact qY d (s:=by simp only[yZ,S])
    refine zv 6 2 [(37,0),(38,1),(39,2),(40,3),(41,4)] (fun f X g hR K d=>?_) ?_
    · have T:f 4=_:=hR.out 4 rfl;have x0:=g.cell ck;simp only[yZ,T];refine⟨?_⟩;go_simp;exact qY d (s:=by simp only[yZ,T])
    refine zv 7 1 [(37,0),(38,1),(39,2),(40,3),(41,4),(42,5)] (fun f X g hR K d=>?_) ?_
    · have U:f 5=_:=hR.out 5 rfl;simp only[yZ,U];refine⟨?_⟩;go_simp;refine(cB _).mono ?_;rintro e w2 ⟨rfl,rfl⟩;exact d.out _ _ _ (by simp only[yZ,U]) (zT _) trivial (fun _ _=>rfl)
    refine zv 8 0 [(37,0),(38,1),(39,2),(40,3),(41,4),(42,5),(43,6)] (fun f X g hR K d=>?_) ?_
    · have O:f 1=_:=hR.out 1 rfl;have V:f 6=_:=hR.out 6 rfl;simp only[yZ,O,V];refine⟨?_⟩;go_simp;exact qY d (s:=by simp only[yZ,O,V])
    refine yF ⟨fun f X g hR ae aK=>?_⟩;have R:f 0=_:=hR 0 (by decide);have O:f 1=_:=hR 1 (by decide);have G:f 2=_:=hR 2 (by decide);have S:f 3=_:=hR 3 (by decide);have T:f 4=_:=hR 4 (by decide);have U:f 5=_:=hR 5 (by decide);have V:f 6=_:=hR 6 (by decide);have e7:f 7=_:=hR 7 (by decide);simp only[yZ,R,O,G,S,T,U,V,e7];clear hR ae aK R O G S T U V e7;refine zI ?_;refine⟨nofun,?_⟩;have HX:=zF g;replace Y:=zF (Y.out.ext g);replace Q:=zF (Q.out.trans (Fr.below g (by have:=Q.out.size;omega)));replace H5:=zF (H5.out.same fun i _ cs t=>g.at_ t);replace Z:=g.at_ Z;have c0:=zP Z 0;simp only[zQ,ze]at c0;clear g Z ck;have br:=zF (bq.out.fr au.out Q.out (by have:=W.out;omega));have bM:=zF (take3 b (kK yG M (q+k)) (.slice none 0 0) M.length (In W6.heap.size X.heap.size) x E (pc all k) X Y.out br.out (H5.out.rb (by rw[av.out];omega)) av.out (fun i N=>N.2));gi_wp2;refine⟨trivial,(callsIn_wide.2 bM.out).mono ?_⟩;rintro e w9 ⟨rfl,h9,ap⟩;rw[←oe yG ar.out k]at h9;have H9:=zF h9;have ab:=zF (Q.out.trans (Fr.just ap (by have:=Q.out.size;omega)));have aD:=zF (show jS W6.heap.size (W6.heap.size+2) 0 Xb w9 from(jS.below HX.out (zG _)).trans (pP ap (by omega) Y.out.1));have aA:=zF (show rE D (D+1) Xb w9 from⟨(ap.block D (by have:=HX.out.bsize;omega) (by omega)).trans (HX.out.block D (by omega)),(ap.block (D+1) (by have:=HX.out.bsize;omega) (by omega)).trans (HX.out.block (D+1) (by omega))⟩);clear h9 ap;gi_wp2;exact⟨aD.out,aA.out,H9.out,ab.out,by have:=a7.out;omega⟩
 case done =>
  rintro D2 X bD ⟨u,J,h0⟩ d;have am:=J.trans (y:=X) (z:=X.putObj D2 (.deferred none)) ⟨rfl,rfl,rfl,by simp,fun i N _=>qM (by omega)⟩;have ah:HB (X.putObj D2 (.deferred none)) b (kK yG M (q+(all.length+63)/64)).list (.slice none 0 0) M.length:=⟨(qM (by omega)).trans u.1,u.2⟩
  have aI:=oW ar.out (by rw[←HM.out,zf];have:=Hq.out;omega);rw[show q+(all.length+63)/64=M.length/64 by omega]at ah;have I:rem M=[]:=qV (by rw[vT];omega);have hS:HS (X.putObj D2 (.deferred none)) b (m++p) w.heap.size:=by
   rw[HM.out];refine⟨none,0,by rw[I];exact ah,⟨⟨by simp[bys],.inl ⟨by rw[I];rfl,by rw[I];rfl⟩⟩,by rw[I];simp⟩,fun _=>⟨rfl,rfl⟩,by rw[←HM.out];exact a6.out⟩
  have al:=a0.out.trans (am.mono (by have:=W.out;omega));have aF:=zF hS;have ab:=zF al;clear hS al am ah u J aI I;gi_wp2;exact⟨by simp,.inl ⟨_,_,rfl,run_takeDeferred d,_,results_none rfl _ _ _,rfl,aF.out,ab.out⟩⟩
 case stop =>
  rintro D2 cc k X bD bT H ⟨rfl,k0,x,E,rfl,u,J,h3,h4⟩ d;have am:=h4.trans (y:=X) (z:=X.putObj D2 (.deferred none)) ⟨rfl,rfl,rfl,by simp,fun i N _=>qM (by omega)⟩;have ah:HB (X.putObj D2 (.deferred none)) b (kK yG M (q+k0)).list (.slice x (pc all k0).length E) M.length:=⟨(qM (by omega)).trans u.1,u.2⟩
  have aI:=oW ar.out (by rw[←HM.out,zf];have:=Hq.out;omega);have af:(pc all k0).length=min 64 (all.length-64*k0):=by rw[pc,zh,qa]
  have aS:M.length/64=q+k0:=by omega
  have I:rem M=pc all k0:=by
   rw[rem,aS,pc,←ar.out,List.drop_drop,show 64*(q+k0)=64*q+64*k0 by omega,zu (by rw[qa];omega)]
  have bb:OW (X.putObj D2 (.deferred none)) W6.heap.size x E (pc all k0):=J.same fun i _ cs t=>(qM (fun e=>by subst e;rw[d]at t;cases t)).trans t;have hS:HS (X.putObj D2 (.deferred none)) b (m++p) w.heap.size:=by
   rw[HM.out];refine⟨x,E,by rw[I,aS];exact ah,by rw[I];exact bb.mono (by have:=W.out;omega),fun e=>?_,by rw[←HM.out];exact a6.out⟩;rw[I]at e;rw[e]at af;simp at af;omega
  have al:=a0.out.trans (am.mono (by have:=W.out;omega));have aF:=zF hS;have ab:=zF al;clear hS al am ah u J h3 h4 aI I af aS bb;gi_wp2;exact⟨by simp,.inl ⟨_,_,rfl,run_takeDeferred d,_,results_none rfl _ _ _,rfl,aF.out,ab.out⟩⟩
end Go.Proofs.YtaemogcomplhiaaGreatDoor
namespace Go.Proofs.YtaemogcomplhiaaGreatDoor
theorem jc:type_of% @Fr.below:=@Fr.below
theorem xT:type_of% @Fr.just:=@Fr.just
end Go.Proofs.YtaemogcomplhiaaGreatDoor
namespace Go.Proofs.YtaemogcomplhiaaGreatDoor
open Go.RowKit
open Sha
theorem zAd (w:World)(cs:Array Value)(bs:List Nat)(h:cs.toList=bys bs)(a:∀ b∈bs,b<256)(d:bs.length≤1000):RB (w.alloc (.cells cs 5)) (fun b=>b=w.heap.size) (some ⟨w.heap.size,0,none⟩) bs.length bs:=by
 have c:cs.size=bs.length*1:=by rw[←Array.length_toList,h];simp[bys]
 have:=RS.fresh (w:=w) (P:=fun b=>b=w.heap.size) cs 5 1 bs.length c (by unfold maxLen;omega) rfl;rw[h]at this;exact⟨this,a,by omega⟩
theorem zC4 (n:Nat):bys (byt n)=[.int .u8 ((n:Int)/16777216%256),.int .u8 ((n:Int)/65536%256),.int .u8 ((n:Int)/256%256),.int .u8 ((n:Int)%256)]:=by
 simp[bys,byt]
theorem RS.cell_ {w:World}{P:Nat→Prop}{size n c:Nat}{ad:Addr}{cs:List Value}(h:RS w P size (some ad) n c cs){j:Nat}{v:Value}(d:cs[j]?=some v):w.cell? (ad.add j)=some v:=by
 obtain⟨_,_,f,g⟩:=h;have k:0<n:=by
  rcases za n with b|b
  · rw[b,Nat.zero_mul]at f;rw[qV f]at d;cases d
  · exact b
 obtain⟨a,e,_,i⟩:=g k;injection e with e
 subst e;exact i j v d
def kY (n:Nat):List Nat:=[n/72057594037927936%256,n/281474976710656%256,n/1099511627776%256,n/4294967296%256,n/16777216%256,n/65536%256,n/256%256,n%256]
theorem sN (n:Nat):kY n=byt (n/4294967296)++byt (n%4294967296):=by
 have a:n/72057594037927936%256=n/4294967296/16777216%256:=by omega
 have b:n/281474976710656%256=n/4294967296/65536%256:=by omega
 have c:n/1099511627776%256=n/4294967296/256%256:=by omega
 have d:n/16777216%256=n%4294967296/16777216%256:=by omega
 have e:n/65536%256=n%4294967296/65536%256:=by omega
 have f:n/256%256=n%4294967296/256%256:=by omega
 have g:n%256=n%4294967296%256:=by omega
 rw[kY,a,b,c,d,e,f,g];rfl
theorem m9 (n:Nat):∀ x∈kY n,x<256:=by
 intro x a;simp only[kY,List.mem_cons,List.not_mem_nil,or_false]at a;omega
theorem zBZ (n:Nat):bys (kY n)=[.int .u8 ((n:Int)/72057594037927936%256),.int .u8 ((n:Int)/281474976710656%256),.int .u8 ((n:Int)/1099511627776%256),.int .u8 ((n:Int)/4294967296%256),.int .u8 ((n:Int)/16777216%256),.int .u8 ((n:Int)/65536%256),.int .u8 ((n:Int)/256%256),.int .u8 ((n:Int)%256)]:=by
 simp[bys,kY]
theorem rA (x:W){base:Nat}{A:Option Addr}{c:Nat}{bs:List Nat}(w:World)(h:OW w base A c bs)(i:base≤w.heap.size)(p:bs.length≤1000) :
 Calls Tryz.prog 148 #[.slice A bs.length c,.int .u32 (x.toNat:Int)] w fun e w'=>∃ A' c',e=.returned (.slice A' (bs++byt x.toNat).length c')∧OW w' base A' c' (bs++byt x.toNat)∧Below base w w':=by
 obtain⟨n,b⟩:=eV x.toNat
 rw[b]
 have d:=zL w (.cells #[.int .u8 ((n:Int)/16777216%256),.int .u8 ((n:Int)/65536%256),.int .u8 ((n:Int)/256%256),.int .u8 ((n:Int)%256)] 5)
 have f:=zAd w #[.int .u8 ((n:Int)/16777216%256),.int .u8 ((n:Int)/65536%256),.int .u8 ((n:Int)/256%256),.int .u8 ((n:Int)%256)] (byt n) (by rw[zC4]) (pq n) (by simp[byt])
 have l:=h.same (w':=w.alloc (.cells #[.int .u8 ((n:Int)/16777216%256),.int .u8 ((n:Int)/65536%256),.int .u8 ((n:Int)/256%256),.int .u8 ((n:Int)%256)] 5)) fun k _ cs a=>d.at_ a
 have a:base≤(w.alloc (.cells #[.int .u8 ((n:Int)/16777216%256),.int .u8 ((n:Int)/65536%256),.int .u8 ((n:Int)/256%256),.int .u8 ((n:Int)%256)] 5)).heap.size:=by simp;omega
 have j:bs.length+(byt n).length≤100000000:=by rw[gF];omega
 have o:=zF b
 rw[gF]at f
 clear b
 go_enter Tryz.func148,Tryz.ntmps148
 go_wp2_with (at_builtin;refine nA rfl (.tmp 5) (.tmp 17) rfl base rfl l (by rw[gF];rfl) f j a ?_;intro A' c' q m g)
 go_ret
 exact⟨A',c',by rw[zf];rfl,m,jJ (d.mono i) g⟩
theorem pz (n:Nat)(w:World) :
 Calls Tryz.prog 149 #[.slice none 0 0,.int .u64 (n:Int)] w fun e w'=>∃ A' c',e=.returned (.slice A' 8 c')∧OW w' w.heap.size A' c' (kY n)∧Ext w w':=by
 have a:=zL w (.cells (bys (kY n)).toArray 5)
 have d:=zAd w (bys (kY n)).toArray (kY n) rfl (m9 n) (by simp[kY])
 have c:OW (w.alloc (.cells (bys (kY n)).toArray 5)) w.heap.size none 0 []:=⟨⟨by simp[bys],.inl ⟨rfl,rfl⟩⟩,by simp⟩
 have b:w.heap.size≤(w.alloc (.cells (bys (kY n)).toArray 5)).heap.size:=by simp
 have g:([]:List Nat).length+(kY n).length≤100000000:=by simp[kY]
 rw[zBZ]at a d c b
 go_enter Tryz.func149,Tryz.ntmps149
 go_wp2_with (at_builtin;refine nA rfl (.tmp 5) (.tmp 29) rfl w.heap.size rfl c rfl d g b ?_;intro A' c' i h f)
 go_ret
 exact⟨A',c',rfl,h,jJ a f⟩
theorem zCM (n g:Nat)(w:World)(q:js w g (List.replicate 8 0)) :
 Calls Tryz.prog 147 #[.slice (some ⟨g,0,none⟩) 8 8,.int .u64 (n:Int)] w fun e w'=>e=.returned (.tuple #[])∧js w' g (kY n)∧jE g w w':=by
 go_enter Tryz.func147,Tryz.ntmps147
 refine zZ (by kernel_rfl) 4 [0,1,0,4,15] [] (fun j f X=>match j with
  | 0=>f 0=.slice (some ⟨g,0,none⟩) 8 8
  | 1=>f 1=.slice (some ⟨g,0,none⟩) 8 8
  | 2=>f 2=.int .u64 (n:Int)
  | 3=>∃ A c,f 3=.slice A 8 c∧OW X w.heap.size A c (kY n)
  | _=>True) (by kernel_rfl) [(4,0),(5,1),(6,2),(7,3)] (by kernel_rfl) ?_
 refine zJ 1 3 ?_
 refine zv 2 2 [(4,0),(6,2),(7,3)] (fun f X a hR K d=>?_) ?_
 · have l:f 0=_:=hR.out 0 rfl;simp only[yZ,l];refine⟨?_⟩;go_simp;exact qY d (s:=by simp only[yZ,l])
 refine zJ 3 1 ?_
 refine qK 4 0 (fun f=>#[Value.slice none 0 0,f 2]) (F':=149) (fun f X a hR=>?_) ?_
 · have t:f 2=_:=hR.out 2 rfl;simp only[t];refine(pz n X).mono ?_;rintro e w2 ⟨H,I,rfl,G,u⟩;exact⟨_,rfl,u,fun Y x=>⟨_,_,rfl,(G.mono a.bsize).same fun k _ cs D=>x.at_ D⟩⟩
 refine yF ⟨fun f X a hR B C=>?_⟩
 have m:f 1=_:=hR 1 (by decide)
 obtain⟨r,c3,(o:f 3=_),p⟩:=hR 3 (by decide)
 simp only[yZ,m,o]
 clear hR B C m o
 obtain⟨ad,rfl⟩:∃ ad,r=some ad:=by obtain⟨ad,e,_⟩:=(p.rb (by simp[kY])).dg (i:=0) (by simp[kY]);exact⟨ad,e⟩
 have E:=run_copy_row (P:=Tryz.prog) X 22 22 3 5 g 0 8 8 ad 8 c3 (bys (List.replicate 8 0)).toArray 5 (bys (kY n)) Tryz.underlying22 (by kernel_rfl) (a.at_ q) rfl (fun j v h=>(p.rb (by simp[kY])).1.cell_ h) (by simp[bys,kY]) (by intro v h;obtain⟨b,_,rfl⟩:=List.mem_map.1 h;rfl)
 have y:=Go.setRow_heap X g _ (bys (kY n)).toArray 5 _ (a.at_ q)
 have z:jE g X (X.setRow g (bys (kY n)).toArray):=⟨rfl,rfl,rfl,by simp[World.setRow],fun k _ F=>Go.setRow_other X g k _ F⟩
 rw[show((bys (List.replicate 8 0)).toArray.toList.take 0++bys (kY n)++(bys (List.replicate 8 0)).toArray.toList.drop (0+(bys (kY n)).length))=bys (kY n) by simp[bys,kY]]at E
 generalize X.setRow g (bys (kY n)).toArray=Y1 at *
 refine zO (fun K d=>⟨zU (by kernel_rfl) ?_⟩)
 go_simp
 refine d.out _ _ ?_
 refine zI ?_
 go_wp2
 go_end0
 exact⟨rfl,y,(jE.of_below a (zG _)).trans z⟩
theorem dj {b F:Nat}{m:List Nat}(w:World)(hs:HS w b m F) :
 Calls Tryz.prog 138 #[.pointer (some ⟨b,0,none⟩)] w fun e w'=>∃ b',e=.returned (.pointer (some ⟨b',0,none⟩))∧w.heap.size≤b'∧HS w' b' m (b'+1)∧Ext w w':=by
 obtain⟨A,c,a,I,H,Q⟩:=hs
 obtain⟨s,x⟩:=eV ((kK yG m (m.length/64)).list)
 rw[x]at a
 have zb:=a.lt
 have O:=a.1
 have o:(vw s (.slice A (rem m).length c) m.length).length=11:=by simp[vw,a.2]
 have u:(Tryz.prog.info? 192).map (·.size)=some (vw s (.slice A (rem m).length c) m.length).toArray.size:=by rw[qZ,o];kernel_rfl
 have D:(vw s (.slice A (rem m).length c) m.length).toArray.all (·.oneCell')=true:=by simp[vw,Value.oneCell']
 have z:=zF a
 have HO:=zF I
 have HN:=zF H
 have ad:=zF x
 have Z:=zF Q
 have aj:=zF o
 obtain⟨cs,n⟩:=eV ((vw s (.slice A (rem m).length c) m.length).toArray)
 rw[n]at O u D
 have ac:=zF n
 have ai:cs.size=11:=by rw[←n,qZ,o]
 clear a I H x Q o n
 go_enter Tryz.func138,Tryz.ntmps138
 go_upto_region 3 with fail
 refine zR 4 [0,1,3,0,15] [3] (fun j f X=>match j with
  | 0=>f 0=.pointer (some ⟨b,0,none⟩)
  | 1=>f 1=.pointer (some ⟨b,0,none⟩)
  | 2=>f 2=.agg cs
  | 3=>∃ b,f 3=.pointer (some ⟨b,0,none⟩)∧w.heap.size≤b∧X.heap[b]?=some (.cells #[.int .i64 0,.int .u64 0,.int .u64 0,.int .u64 0,.int .u64 0,.int .u64 0,.int .u64 0,.int .u64 0,.int .u64 0,.slice none 0 0,.int .u64 0] 192 (0,0))
  | _=>True) (by kernel_rfl) [(6,0),(7,1),(8,2),(3,3)] (by kernel_rfl) ?_
 refine zJ 1 3 ?_
 refine zt 2 2 0 ?_
 refine lV1 3 1 1 O u ?_
 refine kr 4 0 ?_
 refine yF ⟨fun f X L hR af ag=>?_⟩
 have B:f 2=_:=hR 2 (by decide)
 obtain⟨g,(C:f 3=_),y,E⟩:=hR 3 (by decide)
 simp only[yZ,B,C]
 clear hR af ag B C
 refine zO (fun K hK=>⟨zU (by kernel_rfl) (jX (cs':=cs) (t:=192) 192 (.tmp 3) (.tmp 8) rfl rfl rfl rfl E u (by rw[ai];rfl) D (fun Y M N ae=>hK.out _ _ ?_))⟩)
 refine zI ?_
 have l:=N.ext L y
 have p:HB Y g s (.slice A (rem m).length c) m.length:=⟨by rw[M,←ac.out],z.out.2⟩
 have G:=z.out.ext l
 have J:OW Y F A c (rem m):=HO.out.same fun k _ cs r=>l.at_ r
 have cw:=G.wait
 have z3:=p.lt
 have ah:=zF (zBY (In F Y.heap.size) A c (rem m) Y (J.rb (by rw[vT];omega)) (fun k P=>P.2) HN.out (by rw[vT];omega))
 have V:=zF l
 have T:=zF p
 clear L M N ae l p G J E
 go_upto_region 4 with fail
 go_wp2_with fail
 refine ah.out.mono ?_
 rintro e w4 ⟨d,h,rfl,S,R,q⟩
 have i:=T.out.ext q
 have ak:=i.wait
 have f4:=i.free 9
 have v:=(q9 g w4).set 9 (.slice d (rem m).length h)
 have U:=zF (i.setWait (.slice d (rem m).length h))
 have ab:=zF (show OW (w4.setCell ⟨g,9,none⟩ (.slice d (rem m).length h)) (g+1) d h (rem m)from(S.mono (by omega)).same fun k P cs r=>v.at_ (by omega) r)
 have W:=zF (v.ext (V.out.trans q) y)
 have aa:=zF R
 clear v i S R q
 go_wp2_with fail
 go_ret
 exact⟨g,rfl,y,⟨d,h,by rw[ad.out];exact U.out,ab.out,aa.out,Z.out⟩,W.out⟩
end Go.Proofs.YtaemogcomplhiaaGreatDoor
namespace Go.Proofs.YtaemogcomplhiaaGreatDoor
open Go.RowKit
open Sha
attribute [local go_sem] Oper.semAt_some
theorem zAA {b:Oper}{a:Act}{X:World}{K:Act→World→Prop}{Q:Exit→Act→World→Prop}(t:TypeId)(x:Operand)(d:b.op=.load t x){p:Addr}{v:Value}(f:a.eval x=.pointer (some p))(e:(Instr.loadAt t (.pointer (some p))).run Tryz.prog X=.ok v X)(c:K (a.put b.dst v) X):b.wp Tryz.prog a X K Q:=by
 unfold Oper.wp execOp;simp only[d,f,km,e,jC];exact c
theorem Fr.ext' {b F:Nat}{w x y:World}(h:Fr b F x y)(a:Ext w x)(e:w.heap.size≤b)(d:w.heap.size≤F):Ext w y :=
 ⟨h.os.trans a.os,h.tape.trans a.tape,h.output.trans a.output,zK a.bsize h.size,fun i c=>(h.block i (by omega) (by omega)).trans (a.block i c)⟩
theorem sf (n:Nat):bT n=(128::List.replicate ((119-n%64)%64) 0)++kY (n*8):=by
 rw[bT,sN];simp
theorem zD5 {w:World}{g z zc v:Nat}(h:w.heap[g]?=some (.cells ((bys (List.replicate v 0)).toArray.setIfInBounds 0 (.int .u8 128)) 5 (0,0)))(d:z=zc+1)(e:z≤v)(f:v≤1000) :
 OW w g (some ⟨g,0,none⟩) v (128::List.replicate zc 0)∧(128::List.replicate zc 0).length=z:=by
 have c:(128::List.replicate zc 0).length=z:=by simp;omega
 refine⟨⟨⟨by simp[bys],.inr ⟨g,v,_,rfl,zG _,h,by omega,by unfold maxLen;omega,by simp[bys],?_⟩⟩,?_⟩,c⟩
 · obtain⟨u,rfl⟩:∃ u,v=u+1:=⟨v-1,by omega⟩
   rw[c,d];simp[bys,List.replicate_succ,List.take_replicate];omega
 · intro b a;rcases List.mem_cons.1 a with rfl|a
   · omega
   · rw[(List.mem_replicate.1 a).2];omega
def dq (l:List W) (k:Nat):List Nat:=(l.take k).flatMap fun x=>byt x.toNat
theorem az {l:List W}{k:Nat}(h:k<l.length):dq l (k+1)=dq l k++byt (wd l k).toNat:=by
 have e:l[k]?=some (wd l k):=by simp[wd,h]
 rw[dq,List.take_add_one,e,List.flatMap_append];simp[dq]
theorem aI {l:List W} : ∀ {k:Nat},k≤l.length→(dq l k).length=4*k
 | 0,_=>by simp[dq]
 | k+1,h=>by rw[az (by omega),zf,aI (by omega),gF];omega
theorem rK {b F:Nat}{m:List Nat}(w:World)(hs:HS w b m F)(H:KW w)(hm:m.length≤400000)(_bu:∀ x∈m,x<256) :
 Calls Tryz.prog 139 #[.pointer (some ⟨b,0,none⟩)] w fun e w'=>∃ A c,e=.returned (.slice A 32 c)∧OW w' w.heap.size A c (sha m)∧Ext w w':=by
 obtain⟨r,hr⟩:=eV (m.length%64)
 have bv:r<64:=by omega
 have aH:=zF (fun X (a:Ext w X)=>dj X (hs.ext a))
 obtain⟨A0,c0,ah,_,_,_⟩:=hs
 have zk:=H.lt
 have ck:=ah.kind
 have cn:=ah.num
 have HK:=zF H
 have HR:=zF hr
 have Hm:=zF hm
 clear ah H hr hm
 go_enter Tryz.func139,Tryz.ntmps139
 go_upto_region 3 with fail
 refine zZ (by kernel_rfl) 9 [0,1,0,4,12,28,63,127,255] [] (fun j f X=>match j with
  | 0=>f 0=.pointer (some ⟨b,0,none⟩)
  | 1=>∃ b',f 1=.pointer (some ⟨b',0,none⟩)∧w.heap.size≤b'∧HS X b' m (b'+1)
  | 2=>f 2=.pointer (some ⟨b,0,none⟩)
  | 3=>f 3=.pointer (some ⟨b,0,none⟩)
  | 4=>f 4=.pointer (some ⟨b,0,none⟩)
  | 5=>f 5=.int .i64 3
  | 6=>f 6=.int .i64 64
  | 7=>∃ b',f 7=.pointer (some ⟨b',0,none⟩)∧w.heap.size≤b'∧HS X b' m (b'+1)
  | 8=>f 8=.int .i64 64
  | _=>True) (by kernel_rfl) [(13,0),(14,1),(15,2),(16,3),(17,4),(18,5),(19,6),(3,7),(4,8)] (by kernel_rfl) ?_
 refine zJ 1 8 ?_
 refine qK 2 7 (fun f=>#[f 0]) (F':=138) (fun f X a hR=>?_) ?_
 · have e0:f 0=_:=hR.out 0 rfl;simp only[e0];refine(aH.out X a).mono ?_;rintro e w2 ⟨b',rfl,hl,hs,L⟩;exact⟨_,rfl,L,fun Y hY=>⟨b',rfl,zK a.bsize hl,hs.ext hY⟩⟩
 refine zJ 3 6 ?_
 refine zt 4 5 2 ?_
 refine zt 5 4 3 ?_
 refine qC 6 3 4 ck ?_
 refine qK 7 2 (fun f=>#[f 5]) (F':=134) (fun f X a hR=>?_) ?_
 · have e5:f 5=_:=hR.out 5 rfl;simp only[e5];refine(cB _).mono ?_;rintro e w2 ⟨rfl,rfl⟩;exact⟨_,rfl,(zT _),fun _ _=>rfl⟩
 refine zv 8 1 [(13,0),(14,1),(15,2),(16,3),(17,4),(18,5),(19,6)] (fun f X a hR K G=>?_) ?_
 · obtain⟨b1,(B:f 1=_),l1,q⟩:=hR.out 1 rfl;simp only[yZ,B];refine⟨?_⟩;go_simp;exact G.out _ _ _ (by simp only[yZ,B]) (zT _) trivial (fun Y hY=>⟨b1,rfl,l1,q.ext hY⟩)
 refine zt 9 0 6 ?_
 refine yF ⟨fun f X a hR M N=>?_⟩
 obtain⟨b1,(B:f 1=_),l1,q⟩:=hR 1 (by decide)
 obtain⟨y,(e7:f 7=_),l7,h7⟩:=hR 7 (by decide)
 have o:f 8=_:=hR 8 (by decide)
 simp only[yZ,B,e7,o]
 clear hR M N B e7 o
 refine zI ?_
 obtain⟨A,c,L,hO,hN,bm⟩:=id h7
 have aw:=zF h7
 have V:=zF a
 have a1:=(vT m).trans HR.out
 have cw:=L.wait
 rw[a1]at cw
 have bx:=L.lt
 clear L hO hN bm h7 q l1 a a1 aH
 rename World=>wa
 obtain⟨t,ht⟩:=eV ((r+9)%64)
 obtain⟨v,S⟩:=eV (65-t)
 obtain⟨r1,q⟩:=eV (r+1)
 obtain⟨r9,h9⟩:=eV (r+9)
 obtain⟨u,R⟩:=eV (64-t)
 have B:IntKind.i64.wrap ((r:Int)+1)=(r1:Int):=by rw[qu _ (by omega)];omega
 have C:IntKind.i64.wrap ((r1:Int)+8)=(r9:Int):=by rw[qu _ (by omega)];omega
 have E:(r9:Int).tmod 64=(t:Int):=by rw[Int.tmod_eq_emod_of_nonneg (by omega)];omega
 have e4:IntKind.i64.wrap (64-(t:Int))=(u:Int):=by rw[qu _ (by omega)];omega
 have e5:IntKind.i64.wrap ((u:Int)+1)=(v:Int):=by rw[qu _ (by omega)];omega
 have v0:(0:Int)≤(v:Int):=by omega
 have v1:(v:Int)≤65:=by omega
 have bn:=qt (P:=Tryz.prog) 22 5 (.int .u8 0) 1 Tryz.underlying22 ub rfl .i64 .i64 v (by omega) (by omega)
 have Q:=js.made wa v
 have aC:=zL wa (.cells (madeCells #[.int .u8 0] v) 5)
 obtain⟨g,hg⟩:=eV wa.heap.size
 have Hg:=zF hg
 have HT:=zF ht
 have Hv:=zF S
 have Hu:=zF R
 have H1:=zF q
 have H9:=zF h9
 clear ht S q h9 R
 go_upto_region 6 with fail
 have ae:=zF aC
 clear bn aC
 rw[hg]at Q
 generalize wa.alloc (.cells (madeCells #[.int .u8 0] v) 5)=wb at *
 have cw:=ae.out.cell cw
 obtain⟨z,T⟩:=eV ((119-r)%64+1)
 have Hz:=zF T
 clear T hg
 go_upto_if 46 with fail
 go_cut [6]from 47 (fun s6 wx=>s6=.slice (some ⟨g,0,none⟩) z v∧wb=wx)
 case first =>
  have hT:=HT.out;have S:=Hv.out;have T:=Hz.out;by_cases ht0:t=0
  · have z1:z=1:=by omega
    have br:v=65:=by omega
    subst z1 br ht0;clear hT S T;go_wp2_with fail;go_meet;case rel=>exact⟨rfl,rfl⟩
  · have z1:z=v:=by omega
    subst z1;have t0:¬(t:Int)=0:=by omega
    clear hT S T;go_wp2_with fail;go_meet;case rel=>exact⟨rfl,rfl⟩
 case rest =>
  obtain⟨rfl,rfl⟩:=hcut;clear B C E e4 e5 cw;have bq:z≤v:=by have:=HT.out;have:=Hv.out;have:=Hz.out;omega
  have bw:(0:Int)<(z:Int):=by have:=Hz.out;omega
  have cg:=Q.cell (i:=0) (by simp;omega);have fg:=Q.free 0;have a2:=jA Q 0 (.int .u8 128);have aP:=(q9 g wb).set 0 (.int .u8 128);obtain⟨zc,an⟩:=eV ((119-m.length%64)%64);obtain⟨aU,aY⟩:=zD5 (z:=z) (zc:=zc) a2 (by rw[←an,HR.out];exact Hz.out.symm) bq (by omega);have au:=zF aP;have av:=zF aU;have ay:=zF aY;have bg:=zF an;clear a2 aP aU aY an Q;go_upto_region 9 with fail;clear cg fg;generalize wb.setCell ⟨g,0,none⟩ (.int .u8 128)=wq at *;have aR:=qt (P:=Tryz.prog) 22 5 (.int .u8 0) 1 Tryz.underlying22 ub rfl .i64 .i64 8 (by omega) (by omega);have O:=js.made wq 8;have ao:=zF (zL wq (.cells (madeCells #[.int .u8 0] 8) 5));simp only[qO]at aR;go_upto_region 10 with fail;clear aR;generalize wq.alloc (.cells (madeCells #[.int .u8 0] 8) 5)=we at *;obtain⟨J,aL⟩:=eV wq.heap.size;have bd:=zF aL;rw[aL]at O ⊢;have aB:Ext w wq:=au.out.ext (V.out.trans ae.out) (by have:=Hg.out;have:=V.out.bsize;omega);have a6:=zF (aB.trans ao.out);have aA:=a6.out.cell cn;obtain⟨n,aS⟩:=eV (m.length*8);have o:(m.length:Int)*8%18446744073709551616=(n:Int):=by have:=Hm.out;omega
  have be:=zF aS;clear aS aB
  refine zZ (by kernel_rfl) 9 [0,0,2,7,0,16,48,112,240,511] [] (fun j f X=>match j with
   | 0=>f 0=.slice (some ⟨J,0,none⟩) 8 8
   | 1=>f 1=.int .i64 8
   | 2=>f 2=.int .i64 0
   | 3=>f 3=.slice (some ⟨J,0,none⟩) 8 8
   | 4=>f 4=.pointer (some ⟨b,0,none⟩)
   | 5=>f 5=.pointer (some ⟨b,0,none⟩)
   | 6=>f 6=.pointer (some ⟨b,10,none⟩)
   | 7=>f 7=.int .u64 (m.length:Int)
   | 8=>f 8=.int .u64 (n:Int)
   | _=>True) (by kernel_rfl) [(53,0),(54,1),(55,2),(56,3),(57,4),(58,5),(59,6),(60,7),(61,8)] (by kernel_rfl) ?_
  refine zJ 1 8 ?_;refine zJ 2 7 ?_;refine zt 3 6 1 ?_;refine zv 4 5 [(53,0),(54,1),(55,2),(57,4),(58,5),(59,6),(60,7),(61,8)] (fun f X a hR K G=>?_) ?_
  · have e0:f 0=_:=hR.out 0 rfl;have C:f 2=_:=hR.out 2 rfl;simp only[yZ,e0,C];refine⟨?_⟩;go_simp;exact qY G (s:=by simp only[yZ,e0,C])
  refine zJ 5 4 ?_;refine zt 6 3 4 ?_;refine zt 7 2 5 ?_;refine qC 8 1 6 aA ?_;refine zt 9 0 7 (hR:=fun _ _ h=>h.trans (congrArg (Value.int .u64) (show IntKind.u64.wrap ((m.length:Int)*2^3)=(n:Int) by rw[ww];exact o))) ?_;refine yF ⟨fun f X a hR M N=>?_⟩;have E:f 3=_:=hR 3 (by decide);have o:f 8=_:=hR 8 (by decide);simp only[yZ,E,o];clear hR M N E o;replace O:=a.at_ O;refine zO (fun K G=>⟨zU (by kernel_rfl) ?_⟩);go_simp;refine(zCM n J X O).mono ?_;rintro e wf ⟨rfl,aG,aO⟩;refine G.out _ _ ?_;refine zI ?_;have a5:=zF aG;have a8:=zF aO;have bc:=zF a;clear O aG aO a o aA;go_upto_region 13 with fail;have bj:g<wq.heap.size:=by have:=av.out.own rfl;obtain⟨_,cs,hc⟩:=this;exact qd hc
  have aD:Ext wa wq:=au.out.ext ae.out (by have:=Hg.out;omega);have ab:Ext wq wf:=a8.out.ext (ao.out.trans bc.out) (by have:=bd.out;omega);have ap:=zF (aD.trans ab);have aV:OW wf g (some ⟨g,0,none⟩) v (128::List.replicate zc 0):=av.out.same fun k _ cs hb=>ab.at_ hb;have a0:RB wf (fun k=>k=J) (some ⟨J,0,none⟩) 8 (kY n):=a5.out.rb rfl (m9 n) (by simp[kY]);have aM:g≤wf.heap.size:=by have:=ab.bsize;omega
  have aQ:(128::List.replicate zc 0).length+(kY n).length≤100000000:=by rw[ay.out];simp[kY];omega
  have ad:(128::List.replicate zc 0)++kY n=bT m.length:=by rw[sf,bg.out,be.out]
  have ax:=zF ad;have bb:=zF (aw.out.ext ap.out);clear bj aD ab ad;go_wp2_with (at_builtin;refine nA rfl (.tmp 76) (.tmp 77) rfl g (by rw[ay.out];rfl) aV rfl a0 aQ aM ?_;intro A5 c5 wg al aF);rw[ax.out]at al;have I:Ext wa wg:=jJ ap.out (aF.mono (by have:=Hg.out;omega));rw[show zc+(kY n).length+1=(bT m.length).length by rw[←ax.out];simp];have ad:(bT m.length).length≤80:=by rw[gP];omega
  have a3:=zF (uV (p:=bT m.length) wg (aw.out.ext I) (HK.out.ext (V.out.trans I)) (al.rb (by omega)) (fun k H=>H.2) (Nat.lt_succ_self y) (by omega) (by have:=I.bsize;omega) (by rw[zf];have:=Hm.out;omega));have a7:=zF (V.out.trans I);have bz:y<wg.heap.size:=by have:=I.bsize;omega
  clear I al aF aV a0 aM aQ ad bb;refine a3.out.mono ?_;rintro e wh ⟨rfl,bo,aK⟩;have aq:=zF (aK.ext' a7.out l7 (by omega));obtain⟨A6,c6,aa,_,_,_⟩:=bo;have aZ:m++bT m.length=pad m:=rfl;rw[aZ]at aa;obtain⟨d,am⟩:=eV (kK yG (pad m) ((pad m).length/64));rw[am]at aa;have bf:=zF (show sha m=d.out by rw[sha,am])
  have ak:=zF (show ∀ X,Ext wh X→(Instr.loadAt 175 (.pointer (some ⟨y,1,none⟩))).run Tryz.prog X=.ok (.agg (d.list.map fun x=>Value.int .u64 (x.toNat:Int)).toArray) X from fun X a =>
   run_loadAt_mid X y 1 175 (d.list.map fun x=>Value.int .u64 (x.toNat:Int)) _ (fun j u R=>by
    have hj:j<8:=by have:=(List.getElem?_eq_some_iff.1 R).1;simpa[St.list]using this
    rw[(aa.ext a).cell hj]
    have h8:j<d.list.length:=hj
    rw[←R]
    simp[wd,h8]) Tryz.underlying175 rfl (by kernel_rfl))
  have bh:=aq.out.cell ck;clear a3 aK am aZ aa;go_upto_region 15 with fail;obtain⟨ag,ai⟩:=eV ((d.list.map fun x=>Value.int .u64 (x.toNat:Int)).toArray);rw[ai]at ak
  have bi:=zF (show ∀ k,k<8→ag[k]?=some (.int .u64 ((wd d.list k).toNat:Int))from fun k H=>by
   have h8:k<d.list.length:=H
   rw[←ai,zQ]
   simp[wd,h8])
  clear ai
  refine zR 5 [0,1,3,7,0] [] (fun j f X=>match j with
   | 0=>f 0=.pointer (some ⟨y,0,none⟩)
   | 1=>f 1=.pointer (some ⟨y,0,none⟩)
   | 2=>f 2=.pointer (some ⟨y,1,none⟩)
   | 3=>f 3=.agg ag
   | 4=>f 4=Value.int IntKind.i64 0
   | _=>True) (by kernel_rfl) [(80,0),(81,1),(82,2),(83,3),(84,4)] (by kernel_rfl) ?_
  refine zJ 1 4 ?_;refine zt 2 3 0 ?_;refine zt 3 2 1 ?_;refine zv 4 1 [(80,0),(81,1),(82,2),(84,4)] (fun f X a hR K G=>?_) ?_
  · have C:f 2=_:=hR.out 2 rfl;simp only[yZ,C];refine⟨zU (by kernel_rfl) (zAA 175 (.tmp 82) rfl rfl (ak.out X a) ?_)⟩;exact qY G (s:=by simp only[yZ,C])
  refine zJ 5 0 ?_;refine yF ⟨fun f X a hR M N=>?_⟩;have E:f 3=_:=hR 3 (by decide);have e4:f 4=_:=hR 4 (by decide);simp only[yZ,E,e4];clear hR M N E e4;refine zI ?_;have af:=zF (aq.out.trans a);clear a bh ak;rename World=>wl;obtain⟨D,hD⟩:=eV wl.heap.size;have HD:=zF hD;have aW:OW wl D none 0 (dq d.list 0):=⟨⟨by simp[dq,bys],.inl ⟨rfl,rfl⟩⟩,by simp[dq]⟩
  clear hD;go_wp2_with fail;go_loopw [8,84] (fun sv iv wr=>∃(k:Nat) (A:Option Addr) (c:Nat),iv=.int .i64 (k:Int)∧k≤8∧sv=.slice A (dq d.list k).length c∧Hid (OW wr D A c (dq d.list k))∧Hid (Below D wl wr)) (fun _ iv _=>(8-intOf iv).toNat);case atStart=>exact⟨0,none,0,rfl,by omega,rfl,zF aW,zF (zo _ _)⟩
  case round =>
   clear aW;obtain⟨k,Ao,co,rfl,bk,rfl,Z,U⟩:=hrel;by_cases hlt:k<8
   · have k8:(k:Int)<8:=by omega
     have aN:∀ W:World,(Instr.index 175 (.agg ag) (.int .i64 (k:Int))).run Tryz.prog W=.ok (.int .u64 ((Sha.wd d.list k).toNat:Int)) W:=fun W=>uM Tryz.underlying175 (fun _=>by kernel_rfl) (fun _=>by kernel_rfl) hlt (bi.out k hlt);have aj:=az (l:=d.list) (k:=k) hlt;have bl:=aI (l:=d.list) (k:=k) (by show k≤8;omega);obtain⟨x,hx⟩:=eV (Sha.wd d.list k);rw[hx]at aN aj;have ha:=rA x wr Z.out (by have:=U.out.size;have:=HD.out;omega) (by omega);rw[←aj]at ha;have Ha:=zF ha;have bp:=rF x;clear aj hx ha bl;go_wp2_with fail;refine Ha.out.mono ?_;rintro e wn ⟨A2,c2,rfl,aT,aE⟩;have a9:=zF aT;have a4:=zF (U.out.trans aE);clear aT aE Ha aN bp;go_wp2_with fail;go_roundw;case rel=>exact⟨k+1,A2,c2,by go_num,by omega,rfl,a9,a4⟩
     case measure=>simp[intOf];omega
   · obtain rfl:k=8:=by omega
     rw[show((8:Nat):Int)=8 from rfl];have aJ:dq d.list 8=d.out:=rfl;have ac:(dq d.list 8).length=32:=aI (l:=d.list) (k:=8) (zG _);rw[ac];have ar:=zF (jJ af.out (U.out.mono (by have:=HD.out;have:=af.out.bsize;omega)));have aX:OW wr w.heap.size Ao co (sha m):=by rw[bf.out,←aJ];exact Z.out.mono (by have:=HD.out;have:=af.out.bsize;omega)
     have bs:=Ext.cell ar.out ck;have bt:(32:Int)≤(co:Int):=by have q:=(Z.out.rb (by rw[ac];omega)).cap.1;rw[ac]at q;omega
     have ba:=zF aX;clear aJ ac aX Z U hlt bk;go_wp2_with fail;refine(zAN _).mono ?_;rintro e wn ⟨rfl,rfl⟩;go_wp2_with fail;go_ret;exact⟨Ao,co,rfl,ba.out,ar.out⟩
end Go.Proofs.YtaemogcomplhiaaGreatDoor
namespace Go.Proofs.YtaemogcomplhiaaGreatDoor
open Go.RowKit
open Sha
theorem HS.new {w:World}{b F:Nat}(h:HB w b yG.list (.slice none 0 0) 0):HS w b [] F :=
 ⟨none,0,h,⟨⟨by simp[rem,bys],.inl ⟨rfl,rfl⟩⟩,by simp[rem]⟩,fun _=>⟨rfl,rfl⟩,by simp⟩
theorem HS.nilfr {w X:World}{b b' F G:Nat}{m:List Nat}(h:HS w b m F)(k:m.length%64=0)(i:Fr b' G w X)(g:b<G)(j:b≠b'):HS X b m F:=by
 obtain⟨A,c,d,l,e,f⟩:=h;have a:rem m=[]:=qV (by rw[vT];exact k);obtain⟨rfl,rfl⟩:=e a;exact⟨none,0,⟨i.at_ g j d.1,d.2⟩,⟨⟨by rw[a];simp[bys],.inl ⟨by rw[a];rfl,by rw[a];rfl⟩⟩,by rw[a];simp⟩,e,f⟩
theorem HS.justk {w X:World}{b g F:Nat}{m:List Nat}{cs:Array Value}{t:TypeId}(h:HS w b m F)(d:jE g w X)(o:b≠g)(n:w.heap[g]?=some (.cells cs t (0,0)))(p:t≠5):HS X b m F:=by
 obtain⟨A,c,f,i,j,l⟩:=h;refine⟨A,c,f.just d o,i.same fun k _ cs' a=>d.at_ (fun e=>?_) a,j,l⟩;rw[e,n]at a;injection jU a with _ e2
 exact p e2
def va (a:List Nat) (c k:Nat):List Nat:=(a.take k).map (· ^^^ c)++a.drop k
theorem bR (a:List Nat)(c k:Nat):(va a c k).length=a.length:=by simp[va];omega
theorem oa {a:List Nat}{c k:Nat}(h:k<a.length):dg (va a c k) k=dg a k:=by
 simp only[dg,zy,va];rw[uS (by simp;omega),List.length_map,zh,List.getElem?_drop,show k+(k-min k a.length)=k by omega]
theorem cD {a:List Nat}{c k:Nat}(h:k<a.length):(va a c k).set k (dg a k ^^^ c)=va a c (k+1):=by
 have b:a.drop k=dg a k::a.drop (k+1):=by
  rw[qX h];simp[dg,h]
 have d:a.take (k+1)=a.take k++[dg a k]:=by
  rw[List.take_add_one];simp[dg,h]
 have e:((a.take k).map (· ^^^ c)).length=k:=by simp;omega
 rw[va,va,b,d,kM _ _ (by omega),e,uk];simp
theorem bS {key:List Nat}{n c:Nat}(f:key.length≤n)(b:n=64):va (key++List.replicate (n-key.length) 0) c n=qh key c:=by
 subst b;have g:(key++List.replicate (64-key.length) 0).length=64:=by simp;omega
 rw[va,yN (by omega),List.append_nil,zu (by omega),qh];apply List.ext_getElem
 · simp;omega
 · intro i d a;have e:i<64:=by simpa using a
   simp only[List.getElem_map,List.getElem_range];congr 1;rw[List.getElem_append];split
   · rename_i h;simp[h]
   · rename_i h;simp[jH (Nat.le_of_not_lt h)]
theorem kC (k:List Nat)(c:Nat):(qh k c).length=64:=by simp[qh]
theorem zDY {x c:Nat}(h:x<256)(a:c<256):x ^^^ c<256:=Nat.xor_lt_two_pow (n:=8) h a
theorem gz {k:List Nat}{c:Nat}(h:∀ b∈k,b<256)(d:c<256):∀ x∈qh k c,x<256:=by
 intro x e;obtain⟨i,_,rfl⟩:=List.mem_map.1 e;refine zDY ?_ d;rcases qH i k.length with a|a
 · have:k.getD i 0=k[i]:=by simp[a]
   rw[this];exact h _ (wL a)
 · rw[zy,jH a];simp
theorem zDV {w:World}{g n c:Nat}{P:Nat→Prop}{ad:Addr}{key:List Nat}(e:js w g (List.replicate n 0))(l:RB w P (some ad) c key)(i:key.length≤n) :
 ∃ W',(Builtin.copy_ #[22,22] 3 #[.slice (some ⟨g,0,none⟩) n n,.slice (some ad) key.length c]).run Tryz.prog w=.ok (.int .i64 (key.length:Int)) W'∧js W' g (key++List.replicate (n-key.length) 0)∧jE g w W':=by
 have a:(bys key).length=key.length:=by simp[bys]
 have f:=run_copy_row (P:=Tryz.prog) w 22 22 3 5 g 0 n n ad key.length c (bys (List.replicate n 0)).toArray 5 (bys key) Tryz.underlying22 (by kernel_rfl) e (by rw[a];exact(qU i).symm) (fun j v d=>l.1.cell_ d) (by rw[a];simp[bys];omega) (by intro v d;obtain⟨b,_,rfl⟩:=List.mem_map.1 d;rfl)
 have m:(bys (List.replicate n 0)).toArray.toList.take 0++bys key++(bys (List.replicate n 0)).toArray.toList.drop (0+(bys key).length)=bys (key++List.replicate (n-key.length) 0):=by
  rw[a];simp[bys]
 rw[m,a]at f
 exact⟨_,f,Go.setRow_heap w g _ _ 5 _ e,⟨rfl,rfl,rfl,by simp[World.setRow],fun k _ h=>Go.setRow_other w g k _ h⟩⟩
theorem mc {P:Nat→Prop}{A:Option Addr}{c:Nat}{key:List Nat}(w:World)(G:KW w)(hp:RB w P A c key)(hP:∀ k,P k→k<w.heap.size)(bA:0<key.length)(hl:key.length≤64) :
 Calls Tryz.prog 128 #[.int .i64 3,.slice A key.length c] w fun e w'=>∃ a b,e=.returned (.agg #[.pointer (some ⟨a,0,none⟩),.pointer (some ⟨b,0,none⟩)])∧a≠b∧w.heap.size≤a∧w.heap.size≤b∧HS w' a (qh key 54) w'.heap.size∧HS w' b (qh key 92) w'.heap.size∧Ext w w':=by
 obtain⟨ad,rfl⟩:∃ ad,A=some ad:=by obtain⟨ad,e,_⟩:=hp.dg (i:=0) bA;exact⟨ad,e⟩
 have bP:¬(64:Int)<(key.length:Int):=by omega
 have J:=zF hp
 have aG:=zF hP
 have HK:=zF G
 clear hp hP G
 have aU:=qt (P:=Tryz.prog) 22 5 (.int .u8 0) 1 Tryz.underlying22 ub rfl .i64 .i64 64 (by omega) (by omega)
 simp only[qO]at aU
 go_enter Tryz.func128,Tryz.ntmps128
 go_upto_region 3 with(go_at_call 134;refine(cB _).mono ?_;rintro e w1 ⟨rfl,rfl⟩)
 obtain⟨W0,W⟩:=eV (w.alloc (.cells #[.pointer none,.pointer none] 173))
 have aN:Ext w W0:=by rw[←W];exact zL _ _
 have aW:W0.heap[w.heap.size]?=some (.cells #[.pointer none,.pointer none] 173 (0,0)):=by rw[←W];exact zS _ _
 rw[W]
 have ag:=zF aN
 have R:=zF aW
 clear W aN aW
 go_cut [5,6]from 18 (fun s5 s6 wx=>∃ d g:Nat,s5=.slice (some ⟨d,0,none⟩) 64 64∧s6=.slice (some ⟨g,0,none⟩) 64 64∧d≠g∧W0.heap.size≤d∧W0.heap.size≤g∧js wx d (List.replicate 64 0)∧js wx g (List.replicate 64 0)∧Ext W0 wx)
 case first =>
  have m1:=(zL (W0.alloc (.cells (madeCells #[.int .u8 0] 64) 5)) (.cells (madeCells #[.int .u8 0] 64) 5)).at_ (js.made W0 64);have m2:=js.made (W0.alloc (.cells (madeCells #[.int .u8 0] 64) 5)) 64;rw[zz]at m2;have I:Ext W0 ((W0.alloc (.cells (madeCells #[.int .u8 0] 64) 5)).alloc (.cells (madeCells #[.int .u8 0] 64) 5)):=(zL _ _).trans (zL _ _);go_region_with (first|(go_at_call 134;refine(cB _).mono ?_;rintro e w1 ⟨rfl,rfl⟩))
  all_goals
   go_wp2_with fail;go_meet
   case rel=>first
    | exact⟨_,_,rfl,rfl,by omega,by omega,by omega,m1,m2,by first|exact I|exact I.trans (vR _)|exact I.trans (kE _ _)⟩
    | exact⟨_,_,rfl,rfl,by omega,by omega,by omega,m2,m1,by first|exact I|exact I.trans (vR _)|exact I.trans (kE _ _)⟩
 case rest =>
  obtain⟨d,g,rfl,rfl,M,l5,l6,y,z,C⟩:=hcut;have al:Ext w wc:=ag.out.trans C;have aV:=J.out.below al aG.out;obtain⟨W5,bB,aT,Z⟩:=zDV y aV hl;have bN:=ag.out.bsize;have ak:Ext w W5:=Z.ext al (by omega);have aL:=Z.at_ M.symm z;obtain⟨W6,bC,ar,aa⟩:=zDV aL (J.out.below ak aG.out) hl;have aO:Ext w W6:=aa.ext ak (by omega);have aq:js W6 d _:=aa.at_ M aT;obtain⟨m,ab⟩:=eV (key++List.replicate (64-key.length) 0);have ac:m.length=64:=by rw[←ab];simp;omega
  have a1:∀ x∈m,x<256:=by
   rw[←ab];intro x H;rcases List.mem_append.1 H with h|h
   · exact J.out.2.1 x h
   · rw[(List.mem_replicate.1 h).2];omega
  have au:=bS (c:=54) hl rfl;have av:=bS (c:=92) hl rfl;rw[ab]at aq ar au av;have aD:=zF aO;have bn:=zF ac;have bm:=zF a1;have a7:=zF au;have bc:=zF av;have aE:=zF (show js W6 d (va m 54 0) by simpa[va]using aq);have aF:=zF (show js W6 g (va m 92 0) by simpa[va]using ar);have aI:=zF (show W6.heap[w.heap.size]?=some (.cells #[.pointer none,.pointer none] 173 (0,0))from aa.at_ (by have:=qd R.out;omega) (Z.at_ (by have:=qd R.out;omega) (C.at_ R.out)));clear ab ac a1 au av aT aq ar Z aa ak aO y z aL aV C al ag R aU;go_wp2_with fail;clear bB bC;have bF:w.heap.size≤d:=by omega
  have bG:w.heap.size≤g:=by omega
  go_loopw [32] (fun iv wr=>∃(k:Nat),iv=.int .i64 (k:Int)∧k≤64∧Hid (js wr d (va m 54 k))∧Hid (js wr g (va m 92 k))∧Hid (wr.heap[w.heap.size]?=some (.cells #[.pointer none,.pointer none] 173 (0,0)))∧Hid (Ext w wr)) (fun iv _=>(64-intOf iv).toNat);case atStart=>exact⟨0,rfl,by omega,aE,aF,aI,aD⟩
  case round =>
   clear aE aF aI aD;obtain⟨k,rfl,bz,r,n,v,s⟩:=hrel;by_cases hlt:k<64
   · have bO:(k:Int)<64:=by omega
     have ac:=bn.out;have q5:=r.out.cell (i:=k) (by rw[bR];omega);have f5:=r.out.free k;have q6:=n.out.cell (i:=k) (by rw[bR];omega);rw[oa (by omega)]at q5 q6;have s5:=r.out.set k (dg m k ^^^ 54);have s6:=n.out.set k (dg m k ^^^ 92);rw[cD (by omega)]at s5 s6;have ax:dg m k<256:=jW (by omega) bm.out k;obtain⟨x,H⟩:=eV (dg m k);rw[H]at q5 q6 s5 s6 ax;have aJ:=u8_xor_nat x 54 ax (by omega);have aK:=u8_xor_nat x 92 ax (by omega);obtain⟨y5,a0⟩:=eV (x ^^^ 54);obtain⟨y6,az⟩:=eV (x ^^^ 92);rw[a0]at aJ s5;rw[az]at aK s6;simp only[qO]at aJ aK;have O:=(q9 d wr).set k (.int .u8 (y5:Int));have bT:=(O.cell (p:=⟨g,k,none⟩) (qd n.out) M.symm).trans q6;have ae:js (wr.setCell ⟨d,k,none⟩ (.int .u8 (y5:Int))) g (va m 92 k):=O.at_ M.symm n.out;have f6:=ae.free k;have aA:=ae.set k (x ^^^ 92);rw[←H,cD (by omega),H,az]at aA;have j6:=(q9 g (wr.setCell ⟨d,k,none⟩ (.int .u8 (y5:Int)))).set k (.int .u8 (y6:Int));have a8:=zF (show js _ d (va m 54 (k+1))from j6.at_ M s5);have ba:=zF aA;have a6:=zF (j6.at_ (o:=.cells #[.pointer none,.pointer none] 173 (0,0)) (c:=w.heap.size) (fun e=>by have l:=n.out;have L:=v.out;rw[e]at L;unfold js at l;rw[L]at l;injection jU l with _ e2;exact absurd e2 (by decide)) (O.at_ (fun e=>by have l:=r.out;have L:=v.out;rw[e]at L;unfold js at l;rw[L]at l;injection jU l with _ e2;exact absurd e2 (by decide)) v.out));have bi:=zF (j6.ext (O.ext s.out bF) bG);clear H a0 az s5 s6 aA O j6 ae r n v s ac q6;go_wp2_with fail;go_roundw;case rel=>exact⟨k+1,by go_num,by omega,a8,ba,a6,bi⟩
     case measure=>simp[intOf];omega
   · obtain rfl:k=64:=by omega
     rw[show((64:Nat):Int)=64 from rfl];have y:=r.out;have z:=n.out;rw[a7.out]at y;rw[bc.out]at z;have a9:=zF y;have bb:=zF z;clear y z r n hlt bz;have aw:=zF new3;go_wp2_with fail;refine(aw.out _).mono ?_;rintro e w1 ⟨a,rfl,ap,bH,C⟩;go_wp2_with fail;refine(aw.out _).mono ?_;rintro e w2 ⟨b,rfl,aR,bI,ai⟩;have bo:=zF (ap.ext ai);have aH:=zF aR;have bM:a<b:=zH ap.lt bI;have Q:=zF (C.trans ai);clear ap aR C ai;go_upto_region 13 with fail;have N:=zS w2 (.cells #[.pointer (some ⟨a,0,none⟩),.pointer (some ⟨b,0,none⟩)] 173);have q:=zL w2 (.cells #[.pointer (some ⟨a,0,none⟩),.pointer (some ⟨b,0,none⟩)] 173);obtain⟨W3,an⟩:=eV (w2.alloc (.cells #[.pointer (some ⟨a,0,none⟩),.pointer (some ⟨b,0,none⟩)] 173));have bE:W3.heap.size=w2.heap.size+1:=by rw[←an,zz]
     have bK:=aH.out.lt;rw[an]at N q ⊢;obtain⟨b8,aS⟩:=eV w2.heap.size;rw[aS]at N bK bE ⊢;have V:=(s.out.trans Q.out).trans q;have bf:=zF V;have aP:=(Q.out.trans q).at_ v.out;have S:=(Q.out.trans q).at_ a9.out;have T:=(Q.out.trans q).at_ bb.out;have B:=bo.out.ext q;have aM:=aH.out.ext q;have zw:=V.bsize;have zr:=qd v.out;have zk:=HK.out.lt;have a4:w.heap.size≤a:=zK s.out.bsize bH;have a2:=gz (c:=54) J.out.2.1 (by omega);have a3:=gz (c:=92) J.out.2.1 (by omega);have bQ:d≠a:=fun e=>by have l:=B.1;rw[←e,S]at l;injection jU l with _ e2;exact absurd e2 (by decide)
     have bJ:g≠a:=fun e=>by have l:=B.1;rw[←e,T]at l;injection jU l with _ e2;exact absurd e2 (by decide)
     have aB:=uV (p:=qh key 54) (F:=W3.heap.size) W3 (HS.new B) (HK.out.ext V) (js.rb (P:=fun k=>k=d) S rfl a2 (by rw[kC];omega)) (fun k G=>by rw[G];exact qd S) B.lt (by omega) (zG _) (by simp[qh]);rw[kC,vh]at aB;have bq:=zF aB;have c8:=zP N 0;simp only[zQ,ze]at c8;have bp:=zF a3;have af:=zF aM;have bd:=zF B;clear aB an aS q V a2 a3 B aM aw;go_wp2_with fail;refine bq.out.mono ?_;rintro e W4 ⟨rfl,aX,u⟩;have z4:=u.size;have bU:=bd.out.lt;have U:HB W4 b yG.list (.slice none 0 0) 0:=⟨u.at_ af.out.lt (by omega) af.out.1,af.out.2⟩
     have ah:=u.at_ (qd T) bJ T;have ay:=u.at_ (by omega) (by omega) N;have aQ:=u.at_ (by omega) (by omega) aP;have aj:Ext w W4:=u.ext' bf.out a4 (by omega);have aC:=uV (p:=qh key 92) (F:=W4.heap.size) W4 (HS.new U) (HK.out.ext aj) (js.rb (P:=fun k=>k=g) ah rfl bp.out (by rw[kC];omega)) (fun k G=>by rw[G];exact qd ah) U.lt (by omega) (zG _) (by simp[qh]);rw[kC,vh]at aC;have br:=zF aC;have bj:=zF aX;have bg:=zF aj;have be:=zF U;have c8:=zP ay 1;simp only[zQ,ze,qe]at c8;have a5:w.heap.size≠b:=by have:=s.out.bsize;omega
     clear aC aX u U aj S T ah N aP;go_wp2_with fail;refine br.out.mono ?_;rintro e W5 ⟨rfl,aZ,E⟩;have z5:=E.size;have bD:=E.at_ (by omega) (by omega) ay;have am:=E.at_ (by omega) a5 aQ;have aY:=bj.out.fr E be.out (by omega);have bh:=zF (E.ext' bg.out (by have:=s.out.bsize;omega) (by omega));have bk:=zF aY;have bl:=zF aZ;clear aY aZ E ay aQ c8;go_upto_region 15 with fail
     refine zR 1 [0,1] [] (fun j f X=>match j with
      | 0=>f 0=.agg #[.pointer (some ⟨a,0,none⟩),.pointer (some ⟨b,0,none⟩)]
      | _=>True) (by kernel_rfl) [(61,0)] (by kernel_rfl) ?_
     refine lV0 1 0 bD (by kernel_rfl) ?_;refine yF ⟨fun f X D hR bu bv=>?_⟩;have e0:f 0=.agg #[.pointer (some ⟨a,0,none⟩),.pointer (some ⟨b,0,none⟩)]:=hR 0 (by decide);simp only[Par.vE,Act.put,jn,List.set_cons_succ,vQ,e0];clear hR bu bv e0;refine zO (fun K hK=>⟨zU (by kernel_rfl) (jX (cs':=#[.pointer (some ⟨a,0,none⟩),.pointer (some ⟨b,0,none⟩)]) (t:=173) 173 (.tmp 4) (.tmp 61) rfl rfl rfl rfl (D.at_ am) (by kernel_rfl) rfl (by simp[Value.oneCell']) (fun Y bt ao bL=>hK.out _ _ ?_))⟩);refine zI ?_;have bw:HS Y a (qh key 54) Y.heap.size:=((bk.out.ext D).justk ao (by omega) (D.at_ am) (by decide)).nil_up (by rw[kC]);have bx:HS Y b (qh key 92) Y.heap.size:=((bl.out.ext D).justk ao a5.symm (D.at_ am) (by decide)).nil_up (by rw[kC]);have bs:Ext w Y:=ao.ext (bh.out.trans D) (zG _);go_wp2;exact zDT rfl rfl rfl bt Tryz.underlying173 rfl (by kernel_rfl) ⟨a,b,rfl,by omega,a4,by have:=s.out.bsize;omega,bw,bx,bs⟩
def RP (w:World) (P:Nat→Prop) (A:Option Addr) (c:Nat) (ps:List (List Nat)):Prop :=
 ∃ cs:List Value,RS w P 1 A ps.length c cs∧∀ i,i<ps.length→∃ a b,cs[i]?=some (.slice a (ps.getD i []).length b)∧RB w P a b (ps.getD i [])
theorem RP.ext {w X:World}{P:Nat→Prop}{A:Option Addr}{c:Nat}{ps:List (List Nat)}(h:RP w P A c ps)(a:Ext w X)(b:∀ k,P k→k<w.heap.size):RP X P A c ps:=by
 obtain⟨cs,d,f⟩:=h;exact⟨cs,d.below a b,fun i g=>let ⟨Ai,ci,e,h3⟩:=f i g;⟨Ai,ci,e,h3.below a b⟩⟩
theorem RP.at_ {w:World}{P:Nat→Prop}{A:Option Addr}{c:Nat}{ps:List (List Nat)}(h:RP w P A c ps){i:Nat}(k:i<ps.length):∃ ad a b,A=some ad∧w.cell? (ad.add i)=some (.slice a (ps.getD i []).length b)∧RB w P a b (ps.getD i []):=by
 obtain⟨cs,d,g⟩:=h;obtain⟨a,b,e,j⟩:=g i k;obtain⟨ad,f,_,_⟩:=d.2.2.2 (by omega);subst f;exact⟨ad,a,b,rfl,d.cell_ e,j⟩
def yq (ps:List (List Nat)) (k:Nat):List Nat:=(ps.take k).flatten
theorem pQ {ps:List (List Nat)}{k:Nat}(h:k<ps.length):yq ps (k+1)=yq ps k++ps.getD k []:=by
 have e:ps[k]?=some (ps.getD k []):=by simp[h]
 rw[yq,List.take_add_one,e,List.flatten_append];simp[yq]
theorem tH (ps:List (List Nat)):yq ps ps.length=ps.flatten:=by simp[yq]
theorem zA6 (ps:List (List Nat)){k:Nat}(_h:k<ps.length):(yq ps (k+1)).length≤ps.flatten.length:=by
 have e:ps.flatten=yq ps (k+1)++(ps.drop (k+1)).flatten:=by rw[yq,←List.flatten_append,List.take_append_drop]
 rw[e,zf];omega
theorem zAq {C D F1 F2:Nat}{b n:List Nat}{P:Nat→Prop}{A:Option Addr}{c:Nat}{ps:List (List Nat)}(w:World)(h1:HS w C b F1)(h2:HS w D n F2)(l1:b.length=64)(l2:n.length=64)(ax:∀ x∈b,x<256)(ay:∀ x∈n,x<256)(hk:KW w)
 (J:RP w P A c ps) (hP:∀ k,P k→k<w.heap.size) (z:ps.flatten.length≤300000) (au:∀ x∈ps.flatten,x<256) :
 Calls Tryz.prog 129 #[.agg #[.pointer (some ⟨C,0,none⟩),.pointer (some ⟨D,0,none⟩)],.slice A ps.length c] w fun e w'=>∃ A' c',e=.returned (.slice A' 32 c')∧OW w' w.heap.size A' c' (sha (n++sha (b++ps.flatten)))∧Ext w w':=by
 have i:=zL w (.cells #[.pointer (some ⟨C,0,none⟩),.pointer (some ⟨D,0,none⟩)] 173)
 have O:=zS w (.cells #[.pointer (some ⟨C,0,none⟩),.pointer (some ⟨D,0,none⟩)] 173)
 obtain⟨W0,af⟩:=eV (w.alloc (.cells #[.pointer (some ⟨C,0,none⟩),.pointer (some ⟨D,0,none⟩)] 173))
 rw[af]at i O
 have H1:=zF (fun X (a:Ext W0 X)=>dj X (h1.ext (i.trans a)))
 have H2:=zF (fun X (a:Ext W0 X)=>dj X (h2.ext (i.trans a)))
 have HP:=zF (J.ext i hP)
 have an:=zF (show ∀ k,P k→k<W0.heap.size from fun k aN=>zH (hP k aN) i.bsize)
 have Q:=zF (hk.ext i)
 have HE:=zF i
 have ao:=zF af
 have Hl:=zF z
 have ap:=zF au
 have L1:=zF l1
 have L2:=zF l2
 have aI:=zF ax
 have aJ:=zF ay
 have aS:ps.length≤maxLen:=by obtain⟨_,h,_⟩:=J;exact zK h.1 h.2.1
 have aO:=l1
 have aP:=l2
 have zk:=hk.lt
 have zw:=i.bsize
 obtain⟨q0,ak⟩:=eV w.heap.size
 have Hq:=zF ak
 rw[ak]at O zk zw
 have c0:=zP O 0
 have c1:=zP O 1
 simp only[zQ,ze,qe]at c0 c1
 clear h1 h2 J hP hk i af z au l1 l2 ax ay O
 go_enter Tryz.func129,Tryz.ntmps129
 go_upto_region 1 with fail
 rw[ao.out]
 clear ao ak
 refine zZ (by kernel_rfl) 8 [0,1,3,0,8,31,63,127] [] (fun j f X=>match j with
  | 0=>f 0=.pointer (some ⟨q0,0,none⟩)
  | 1=>f 1=.pointer (some ⟨C,0,none⟩)
  | 2=>∃ b',f 2=.pointer (some ⟨b',0,none⟩)∧W0.heap.size≤b'∧b'<X.heap.size∧HS X b' b (b'+1)
  | 3=>f 3=.pointer (some ⟨q0,1,none⟩)
  | 4=>f 4=.pointer (some ⟨D,0,none⟩)
  | 5=>∃ b' d,f 5=.pointer (some ⟨b',0,none⟩)∧f 2=.pointer (some ⟨d,0,none⟩)∧d<b'∧b'<X.heap.size∧W0.heap.size≤b'∧HS X b' n (b'+1)
  | 6=>∃ b',f 6=.pointer (some ⟨b',0,none⟩)∧f 2=.pointer (some ⟨b',0,none⟩)∧W0.heap.size≤b'∧b'<X.heap.size∧HS X b' b (b'+1)
  | 7=>∃ b' d,f 7=.pointer (some ⟨b',0,none⟩)∧f 2=.pointer (some ⟨d,0,none⟩)∧d<b'∧b'<X.heap.size∧W0.heap.size≤b'∧HS X b' n (b'+1)
  | _=>True) (by kernel_rfl) [(9,0),(10,1),(11,2),(12,3),(13,4),(14,5),(5,6),(6,7)] (by kernel_rfl) ?_
 refine zJ 1 7 ?_
 refine qC 2 6 0 c0 ?_
 refine qK 3 5 (fun f=>#[f 1]) (F':=138) (fun f X a hR=>?_) ?_
 · have e1:f 1=_:=hR.out 1 rfl;simp only[e1];refine(H1.out X a).mono ?_;rintro e w2 ⟨b',rfl,z,u,hB⟩;exact⟨_,rfl,hB,fun Y m=>⟨b',rfl,zK a.bsize z,zH u.lt m.bsize,u.ext m⟩⟩
 refine zJ 4 4 ?_
 refine qC 5 3 3 c1 ?_
 refine qK 6 2 (fun f=>#[f 4]) (F':=138) (fun f X a hR=>?_) ?_
 · have e4:f 4=_:=hR.out 4 rfl;obtain⟨R,s,Z,z5,T⟩:=hR.out 2 rfl;simp only[e4];refine(H2.out X a).mono ?_;rintro e w2 ⟨b',rfl,z,u,hB⟩;exact⟨_,rfl,hB,fun Y m=>⟨b',R,rfl,s,zH z5 z,zH u.lt m.bsize,zK a.bsize z,u.ext m⟩⟩
 refine zv 7 1 [(9,0),(10,1),(11,2),(12,3),(13,4),(14,5)] (fun f X a hR K hK=>?_) ?_
 · obtain⟨R,(s:f 2=_),Z,z5,T⟩:=hR.out 2 rfl;simp only[yZ,s];refine⟨?_⟩;go_simp;exact hK.out _ _ _ (by simp only[yZ,s]) (zT _) trivial (fun Y m=>⟨R,rfl,s,Z,zH z5 m.bsize,T.ext m⟩)
 refine zv 8 0 [(9,0),(10,1),(11,2),(12,3),(13,4),(14,5),(5,6)] (fun f X a hR K hK=>?_) ?_
 · obtain⟨b6,q,L,H,al,z6,l6,h6⟩:∃ b' d,f 5=.pointer (some ⟨b',0,none⟩)∧f 2=.pointer (some ⟨d,0,none⟩)∧d<b'∧b'<X.heap.size∧W0.heap.size≤b'∧HS X b' n (b'+1):=hR.out 5 rfl;simp only[yZ,L];refine⟨?_⟩;go_simp;exact hK.out _ _ _ (by simp only[yZ,L,H]) (zT _) trivial (fun Y m=>⟨b6,q,rfl,H,al,zH z6 m.bsize,l6,h6.ext m⟩)
 refine yF ⟨fun f X a hR aK aL=>?_⟩
 obtain⟨R,(s:f 2=_),Z,z5,T⟩:=hR 2 (by decide)
 obtain⟨b6,q,L,H,al,z6,l6,h6⟩:∃ b' d,f 5=.pointer (some ⟨b',0,none⟩)∧f 2=.pointer (some ⟨d,0,none⟩)∧d<b'∧b'<X.heap.size∧W0.heap.size≤b'∧HS X b' n (b'+1):=hR 5 (by decide)
 obtain⟨b7,e6,S,l7,z7,o⟩:∃ b',f 6=.pointer (some ⟨b',0,none⟩)∧f 2=.pointer (some ⟨b',0,none⟩)∧W0.heap.size≤b'∧b'<X.heap.size∧HS X b' b (b'+1):=hR 6 (by decide)
 obtain⟨E,aT,e7,ac,l8,z8,aQ,h8⟩:∃ b' d,f 7=.pointer (some ⟨b',0,none⟩)∧f 2=.pointer (some ⟨d,0,none⟩)∧d<b'∧b'<X.heap.size∧W0.heap.size≤b'∧HS X b' n (b'+1):=hR 7 (by decide)
 simp only[yZ,s,L,e6,e7]
 clear hR aK aL s L e6 e7
 refine zI ?_
 simp only[Value.pointer.injEq,Option.some.injEq,Addr.mk.injEq,H]at ac S H
 obtain rfl:=S.1
 obtain rfl:=ac.1
 have zg:3<X.heap.size:=by have:=a.bsize;omega
 have r1:b.length%64=0:=by rw[aO]
 have r2:n.length%64=0:=by rw[aP]
 have j0:yq ps 0=[]:=by simp[yq]
 have r:=zF (show ∃ g,HS X q (b++yq ps 0) g∧q<g∧E<g∧3<g∧g≤X.heap.size from⟨X.heap.size,by rw[j0,List.append_nil];exact o.nil_up r1,z7,z8,zg,zG _⟩)
 have y:=zF h8
 have l:=zF a
 have R1:=zF r1
 have R2:=zF r2
 have aR:q≠E:=by omega
 clear T h6 o h8 H S ac H1 H2 c0 c1 r1 r2 j0 a Z z5 al z6 l6
 go_wp2_with fail
 go_loopw [17] (fun iv wr=>∃(k:Nat),iv=.int .i64 (k:Int)∧k≤ps.length∧Hid (∃ g,HS wr q (b++yq ps k) g∧q<g∧E<g∧3<g∧g≤wr.heap.size)∧Hid (HS wr E n (E+1))∧Hid (Ext W0 wr)) (fun iv _=>ps.length-(intOf iv).toNat)
 case atStart=>exact⟨0,rfl,by omega,r,y,l⟩
 case round =>
  clear r y l;obtain⟨k,rfl,aU,r,y,l⟩:=hrel;have aX:ps.length≤9223372036854775807:=aS;by_cases hlt:k<ps.length
  · have kl:(k:Int)<(ps.length:Int):=by omega
    obtain⟨g,o,f1,f2,f3,f4⟩:=r.out;obtain⟨ad,Ai,ci,rfl,ca,av⟩:=(HP.out.ext l.out an.out).at_ hlt;have ah:=pQ hlt;have aM:=zA6 ps hlt;have M:(b++yq ps k++ps.getD k []).length≤500000:=by rw[xD,←ah,zf];have:=Hl.out;have:=L1.out;omega
    have v:=zF (uV wr o (Q.out.ext l.out) av (fun x B=>zH (an.out x B) l.out.bsize) f1 f3 f4 M);rw[xD,←ah]at v;have f5:=r.out;obtain⟨p,J⟩:=eV (ps.getD k []);rw[J]at v ca;clear ah aM M av o r J;go_wp2_with fail;refine v.out.mono ?_;rintro e wn ⟨rfl,u,V⟩;have az:=zF (show ∃ F,HS wn q (b++yq ps (k+1)) F∧q<F∧E<F∧3<F∧F≤wn.heap.size from⟨_,u,by omega,by omega,by omega,V.size⟩);have aA:=zF (y.out.nilfr R2.out V f2 aR.symm);have aH:=zF (V.ext' l.out l7 (by omega));clear u V f5 y l v;go_wp2_with fail;go_roundw;case rel=>exact⟨k+1,by go_num,by omega,az,aA,aH⟩
    case measure=>simp[intOf];omega
  · obtain rfl:k=ps.length:=by omega
    obtain⟨g,o,f1,f2,f3,f4⟩:=r.out;rw[tH]at o;have aV:=L1.out;have aW:=L2.out;have M:=Hl.out;obtain⟨ff,ag⟩:=eV ps.flatten;have I:=ap.out;rw[ag]at o M I;have aD:=zF ag;clear ag;have N:=zF (rK wr o (Q.out.ext l.out) (by rw[zf];omega) (fun x B=>(List.mem_append.1 B).elim (aI.out x) (I x)));clear o r M I Hl ap;go_wp2_with fail;refine N.out.mono ?_;rintro e wa ⟨As,cs,rfl,aj,U⟩;have ae:=l.out.trans U;have W:=fM (b++ff);have ai:=zDj (b++ff);obtain⟨t,ht⟩:=eV (sha (b++ff));rw[ht]at aj W ai;have aa:=(y.out.nil_up (G:=wa.heap.size) R2.out).ext U;have v:=zF (uV wa aa (Q.out.ext ae) (aj.rb (by omega)) (fun x B=>B.2) aa.lt (by have:=U.bsize;omega) (zG _) (by rw[zf];omega));rw[W]at v;have HT:=zF ht;have aE:=zF ai;have aF:=zF W;have ab:=zF ae;clear aa aj U ae W ai ht l y N;go_wp2_with fail;refine v.out.mono ?_;rintro e wb ⟨rfl,aw,I⟩;have i:=I.ext' ab.out aQ ab.out.bsize;have N:=zF (rK wb aw (Q.out.ext i) (by rw[zf,aF.out];omega) (fun x B=>(List.mem_append.1 B).elim (aJ.out x) (aE.out x)));have am:=zF i;clear aw I i v ab;go_wp2_with fail;refine N.out.mono ?_;rintro e wc ⟨Ar,cr,rfl,ar,aq⟩;have aG:=zF ar;have aC:=zF (am.out.trans aq);have aB:=zF am.out.bsize;clear ar aq N;go_wp2_with fail;go_ret;refine⟨Ar,cr,rfl,?_,HE.out.trans aC.out⟩;rw[aD.out,HT.out];exact aG.out.mono (by have:=HE.out.bsize;have:=aB.out;omega)
theorem zBB {P Q:Nat→Prop}{A B:Option Addr}{c d:Nat}{key:List Nat}{ps:List (List Nat)}(w:World)(b:KW w)(g:RB w P A c key)(o:∀ k,P k→k<w.heap.size)(r:0<key.length)(f:key.length≤64)
 (v:RP w Q B d ps) (p:∀ k,Q k→k<w.heap.size) (s:ps.flatten.length≤300000) (u:∀ x∈ps.flatten,x<256) :
 Calls Tryz.prog 99 #[.int .i64 3,.slice A key.length c,.slice B ps.length d] w fun e w'=>∃ A' c',e=.returned (.slice A' 32 c')∧OW w' w.heap.size A' c' (xY key ps.flatten)∧Ext w w':=by
 have q:=g.2.1
 have h:=zF (mc w b g o r f)
 have l:=zF q
 have D:=zF b
 have H:=zF v
 have m:=zF p
 have E:=zF s
 have G:=zF u
 have I:=zF f
 clear b g o r f v p s u q
 go_enter Tryz.func99,Tryz.ntmps99
 go_wp2_with fail
 refine(zAN _).mono ?_
 rintro e O ⟨rfl,rfl⟩
 go_wp2_with fail
 refine h.out.mono ?_
 rintro e W1 ⟨J,K,rfl,L,M,N,y,z,a⟩
 have i:=zF (zAq W1 y z (kC _ _) (kC _ _) (gz l.out (by omega)) (gz l.out (by omega)) (D.out.ext a) (H.out.ext a m.out) (fun k b=>zH (m.out k b) a.bsize) E.out G.out)
 have j:=zF a
 clear y z a h
 go_wp2_with fail
 refine i.out.mono ?_
 rintro e W2 ⟨A',c',rfl,t,n⟩
 have F:=zF t
 have C:=zF n
 clear t n i
 go_wp2_with fail
 go_ret
 exact⟨A',c',rfl,F.out.mono j.out.bsize,j.out.trans C.out⟩
theorem rj {b:Nat}{P Q:Nat→Prop}{A B:Option Addr}{c d:Nat}{key:List Nat}{ps:List (List Nat)}(w:World)(h:KW w)(s:w.cell? ⟨b,0,none⟩=some (.slice A key.length c))(n:RB w P A c key)(f:∀ k,P k→k<w.heap.size)(j:0<key.length)(i:key.length≤64)
 (p:RP w Q B d ps) (g:∀ k,Q k→k<w.heap.size) (l:ps.flatten.length≤300000) (o:∀ x∈ps.flatten,x<256) :
 Calls Tryz.prog 71 #[.pointer (some ⟨b,0,none⟩),.slice B ps.length d] w fun e w'=>∃ A' c',e=.returned (.slice A' 32 c')∧OW w' w.heap.size A' c' (xY key ps.flatten)∧Ext w w':=by
 have H:=zF (zBB w h n f j i p g l o)
 clear h n f j i p g l o
 go_enter Tryz.func71,Tryz.ntmps71
 go_wp2_with fail
 refine H.out.mono ?_
 rintro e t ⟨A',c',rfl,m,a⟩
 have r:=zF m
 have q:=zF a
 clear m a H
 go_wp2_with fail
 go_ret
 exact⟨A',c',rfl,r.out,q.out⟩
def DR (w:World) (b:Nat) (k v:List Nat) (n:Int):Prop :=
 ∃ a d c cv,w.heap[b]?=some (.cells #[.slice a 32 d,.slice c 32 cv,.int .i64 n] 70 (0,0))∧RB w (fun g=>g<w.heap.size) a d k∧RB w (fun g=>g<w.heap.size) c cv v∧k.length=32∧v.length=32
theorem DR.lt {w:World}{b:Nat}{k v:List Nat}{n:Int}(h:DR w b k v n):b<w.heap.size:=let ⟨_,_,_,_,h,_⟩:=h;qd h
theorem DR.ext {w X:World}{b:Nat}{k v:List Nat}{n:Int}(h:DR w b k v n)(a:Ext w X):DR X b k v n:=by
 obtain⟨c,e,d,cv,f,g,i,j,l⟩:=h;exact⟨c,e,d,cv,a.at_ f,g.upE a,i.upE a,j,l⟩
theorem RB.dr {w X:World}{b:Nat}{k v:List Nat}{n:Int}{P:Nat→Prop}{A:Option Addr}{c:Nat}{d:List Nat}(h:RB w P A c d)(o:∀ k,P k→k<w.heap.size)(p:DR w b k v n)(r:Fr b w.heap.size w X):RB X P A c d :=
 h.by_ fun q u t a=>(qB (r.block _ (o _ t) (fun e=>by
  obtain⟨f,j,g,cv,m,_⟩:=p
  unfold World.cell? at a
  rw[e,m]at a
  simp only at a
  split at a
  · cases a
  · have s:=xC (l:=[Value.slice f 32 j,.slice g 32 cv,.int .i64 n]) (i:=q.off) (by simpa using a)
    simp at s))).trans a
theorem RB.dr' {w X:World}{b:Nat}{k v:List Nat}{n:Int}{A:Option Addr}{c:Nat}{d:List Nat}(h:RB w (fun g=>g<w.heap.size) A c d)(e:DR w b k v n)(a:Fr b w.heap.size w X):RB X (fun g=>g<X.heap.size) A c d :=
 (h.dr (fun _ h=>h) e a).mono fun _ f=>zH f a.size
theorem DR.fr {w X:World}{b b':Nat}{k v p r:List Nat}{n q:Int}(h:DR w b k v n)(a:Fr b' w.heap.size w X)(d:DR w b' p r q)(o:b≠b'):DR X b k v n:=by
 obtain⟨e,g,f,cv,c,i,j,l,m⟩:=h;exact⟨e,g,f,cv,a.at_ (qd c) o c,i.dr' d a,j.dr' d a,l,m⟩
theorem DR.frS {w:World}{b:Nat}(i:Nat)(u:Value):Fr b w.heap.size w (w.setCell ⟨b,i,none⟩ u):=xT ((q9 b w).set i u) (zG _)
theorem DR.setK {w:World}{b c:Nat}{A:Option Addr}{k a v:List Nat}{n:Int}(h:DR w b k v n)(m:RB w (fun g=>g<w.heap.size) A c a)(l:a.length=32):DR (w.setCell ⟨b,0,none⟩ (.slice A 32 c)) b a v n:=by
 have d:=h;obtain⟨o,p,e,cv,f,q,i,r,j⟩:=h;exact⟨A,c,e,cv,jA f 0 _,m.dr' d (DR.frS _ _),i.dr' d (DR.frS _ _),l,j⟩
theorem DR.setV {w:World}{b c:Nat}{A:Option Addr}{k v a:List Nat}{n:Int}(h:DR w b k v n)(o:RB w (fun g=>g<w.heap.size) A c a)(m:a.length=32):DR (w.setCell ⟨b,1,none⟩ (.slice A 32 c)) b k a n:=by
 have d:=h;obtain⟨e,f,p,cv,i,j,q,l,r⟩:=h;exact⟨e,f,A,c,jA i 1 _,j.dr' d (DR.frS _ _),o.dr' d (DR.frS _ _),l,m⟩
theorem DR.setN {w:World}{b:Nat}{k v:List Nat}{n:Int}(h:DR w b k v n)(m:Int):DR (w.setCell ⟨b,2,none⟩ (.int .i64 m)) b k v m:=by
 have a:=h;obtain⟨c,e,d,cv,f,g,i,j,l⟩:=h;exact⟨c,e,d,cv,jA f 2 _,g.dr' a (DR.frS _ _),i.dr' a (DR.frS _ _),j,l⟩
theorem vv (k m:List Nat):(xY k m).length=32:=fM _
def dp (k v d:List Nat) (c:Nat):List Nat×List Nat:=(xY k (v++[c]++d),xY (xY k (v++[c]++d)) v)
def xX (k v d:List Nat):List Nat×List Nat:=if d.length=0 then dp k v d 0 else dp (dp k v d 0).1 (dp k v d 0).2 d 1
theorem OW.rb' {w:World}{base:Nat}{A:Option Addr}{c:Nat}{bs:List Nat}(h:OW w base A c bs)(b:bs.length≤100000000):RB w (fun k=>k<w.heap.size) A c bs:=(h.rb b).mono fun _ a=>a.2
theorem RS.lit (w:World)(cs:Array Value)(t:TypeId)(a:cs.size≤maxLen):RS (w.alloc (.cells cs t)) (fun k=>k<(w.alloc (.cells cs t)).heap.size) 1 (some ⟨w.heap.size,0,none⟩) cs.size cs.size cs.toList :=
 RS.fresh cs t 1 cs.size (by simp) a (by rw[zz];omega)
theorem mac3 {b x:Nat}{k v:List Nat}{n:Int}{P:Nat→Prop}{A:Option Addr}{c:Nat}{d:List Nat}(w:World)(l:KW w)(K:DR w b k v n)(Q:x<256)(u:RB w P A c d)(t:∀ k,P k→k<w.heap.size)(V:d.length≤200000){j:Option Addr}{cv:Nat}(O:w.cell? ⟨b,1,none⟩=some (.slice j 32 cv)) :
 Calls Tryz.prog 71 #[.pointer (some ⟨b,0,none⟩),.slice (some ⟨w.heap.size+1,0,none⟩) 3 3] ((w.alloc (.cells #[.int .u8 (x:Int)] 5)).alloc (.cells #[.slice j 32 cv,.slice (some ⟨w.heap.size,0,none⟩) 1 1,.slice A d.length c] 22))
  fun e w'=>∃ A' c',e=.returned (.slice A' 32 c')∧OW w' w.heap.size A' c' (xY k (v++[x]++d))∧Ext w w':=by
 obtain⟨W1,p⟩:=eV (w.alloc (.cells #[.int .u8 (x:Int)] 5))
 have B:=OW.lit w x Q
 have I:Ext w W1:=by rw[←p];exact zL _ _
 have R:w.heap.size+1=W1.heap.size:=by rw[←p,zz]
 rw[p]at B ⊢
 rw[R]
 have o:=zL W1 (.cells #[.slice j 32 cv,.slice (some ⟨w.heap.size,0,none⟩) 1 1,.slice A d.length c] 22)
 have z:=RS.lit W1 #[.slice j 32 cv,.slice (some ⟨w.heap.size,0,none⟩) 1 1,.slice A d.length c] 22 (by simp[maxLen])
 obtain⟨W2,J⟩:=eV (W1.alloc (.cells #[.slice j 32 cv,.slice (some ⟨w.heap.size,0,none⟩) 1 1,.slice A d.length c] 22))
 rw[J]at o z ⊢
 have a:=I.trans o
 obtain⟨C,D,T,U,r,E,F,G,s⟩:=K
 have m:=zP r 1
 rw[O]at m
 simp only[zQ,ze,qe,Option.some.injEq,Value.slice.injEq]at m
 obtain⟨rfl,_,rfl⟩:=m
 have c0:W2.cell? ⟨b,0,none⟩=some (.slice C 32 D):=a.cell (zP r 0)
 have o2:=E.upE a
 have o3:=F.upE a
 have S:=(B.same (w':=W2) fun g _ cs l=>o.at_ l).rb' (by simp)
 have N:RP W2 (fun k=>k<W2.heap.size) (some ⟨W1.heap.size,0,none⟩) 3 [v,[x],d]:=by
  refine⟨_,z,fun i q=>?_⟩;match i,q with
  | 0,_=>exact⟨j,cv,by simp[s],o3⟩
  | 1,_=>exact⟨some ⟨w.heap.size,0,none⟩,1,by simp,S⟩
  | 2,_=>exact⟨A,c,by simp,(u.below a t).mono fun k l=>zH (t k l) a.bsize⟩
  | i+3,q=>exact absurd q (by simp only[jP,jk];omega)
 rw[←G]at c0
 have L:=rj W2 (l.ext a) c0 o2 (fun _ h=>h) (by omega) (by omega) N (fun _ h=>h) (by simp[s];omega) (by
  intro y f
  simp only[List.flatten_cons,List.flatten_nil,List.append_nil,List.mem_append,List.mem_singleton]at f
  rcases f with f|f|f
  · exact o3.2.1 y f
  · omega
  · exact u.2.1 y f)
 refine L.mono ?_
 rintro e w' ⟨A',c',rfl,M,H⟩
 refine⟨A',c',rfl,?_,a.trans H⟩
 have:=M.mono a.bsize
 simpa using this
theorem zEO {b:Nat}{k v:List Nat}{n:Int}(w:World)(z:KW w)(x:DR w b k v n){c:Option Addr}{cv:Nat}(D:w.cell? ⟨b,1,none⟩=some (.slice c 32 cv)) :
 Calls Tryz.prog 71 #[.pointer (some ⟨b,0,none⟩),.slice (some ⟨w.heap.size,0,none⟩) 1 1] (w.alloc (.cells #[.slice c 32 cv] 22))
  fun e w'=>∃ A' c',e=.returned (.slice A' 32 c')∧OW w' w.heap.size A' c' (xY k v)∧Ext w w':=by
 have a:=zL w (.cells #[.slice c 32 cv] 22)
 have l:=RS.lit w #[.slice c 32 cv] 22 (by simp[maxLen])
 obtain⟨W2,u⟩:=eV (w.alloc (.cells #[.slice c 32 cv] 22))
 rw[u]at a l ⊢
 obtain⟨o,p,E,F,g,q,r,s,j⟩:=x
 have d:=zP g 1
 rw[D]at d
 simp only[zQ,ze,qe,Option.some.injEq,Value.slice.injEq]at d
 obtain⟨rfl,_,rfl⟩:=d
 have c0:W2.cell? ⟨b,0,none⟩=some (.slice o 32 p):=a.cell (zP g 0)
 have o2:=q.upE a
 have o3:=r.upE a
 have C:RP W2 (fun k=>k<W2.heap.size) (some ⟨w.heap.size,0,none⟩) 1 [v]:=by
  refine⟨_,l,fun i f=>?_⟩;match i,f with
  | 0,_=>exact⟨c,cv,by simp[j],o3⟩
  | i+1,f=>exact absurd f (by simp only[jP,jk];omega)
 rw[←s]at c0
 have A:=rj W2 (z.ext a) c0 o2 (fun _ h=>h) (by omega) (by omega) C (fun _ h=>h) (by simp[j]) (by
  intro y m
  simp only[List.flatten_cons,List.flatten_nil,List.append_nil]at m
  exact o3.2.1 y m)
 refine A.mono ?_
 rintro e w' ⟨A',c',rfl,B,t⟩
 refine⟨A',c',rfl,?_,a.trans t⟩
 have:=B.mono a.bsize
 simpa using this
theorem KW.ne {w:World}{b:Nat}{k v:List Nat}{n:Int}(h:KW w)(d:DR w b k v n):3≠b:=by
 intro e;obtain⟨z,a,j⟩:=h 0 (by omega);obtain⟨f,i,g,cv,c,_⟩:=d;rw[e]at a;rw[zP c 0]at a;simp at a
theorem KW.dr {w X:World}{b F:Nat}{k v:List Nat}{n:Int}(h:KW w)(e:DR w b k v n)(f:Fr b F w X)(d:w.heap.size≤F):KW X:=fun i g=>by
 obtain⟨z,a,c⟩:=h i g;exact⟨z,(qB (f.block _ (zH h.lt d) (h.ne e))).trans a,c⟩
theorem DR.vcell {w:World}{b:Nat}{k v:List Nat}{n:Int}(h:DR w b k v n):∃ a cv,w.cell? ⟨b,1,none⟩=some (.slice a 32 cv):=by
 obtain⟨d,e,a,cv,c,_⟩:=h;exact⟨a,cv,zP c 1⟩
theorem DR.free {w:World}{b:Nat}{k v:List Nat}{n:Int}(h:DR w b k v n)(i:Nat):w.frozen? ⟨b,i,none⟩=false:=by
 obtain⟨c,e,d,cv,a,_⟩:=h;exact qz a i
theorem DR.kcell {w:World}{b:Nat}{k v:List Nat}{n:Int}(h:DR w b k v n):∃ a cv,w.cell? ⟨b,0,none⟩=some (.slice a 32 cv):=by
 obtain⟨c,d,a,cv,e,_⟩:=h;exact⟨c,d,zP e 0⟩
theorem zDI {w a:World}{b:Nat}{k v e:List Nat}{n:Int}{A:Option Addr}{c:Nat}(f:DR w b k v n)(d:Ext w a)(h:OW a w.heap.size A c e)(g:e.length=32) :
 DR (a.setCell ⟨b,0,none⟩ (.slice A 32 c)) b e v n∧Fr b w.heap.size w (a.setCell ⟨b,0,none⟩ (.slice A 32 c)) :=
 ⟨(f.ext d).setK (h.rb' (by omega)) g,(jc d (zG _)).trans (xT ((q9 b a).set 0 _) d.bsize)⟩
theorem zDH {w a:World}{b:Nat}{k v e:List Nat}{n:Int}{A:Option Addr}{c:Nat}(f:DR w b k v n)(d:Ext w a)(h:OW a w.heap.size A c e)(g:e.length=32) :
 DR (a.setCell ⟨b,1,none⟩ (.slice A 32 c)) b k e n∧Fr b w.heap.size w (a.setCell ⟨b,1,none⟩ (.slice A 32 c)) :=
 ⟨(f.ext d).setV (h.rb' (by omega)) g,(jc d (zG _)).trans (xT ((q9 b a).set 1 _) d.bsize)⟩
theorem DR.v0 {w:World}{b:Nat}{k v:List Nat}{n:Int}{y:Value}(h:DR w b k v n)(d:w.cell? ⟨b,1,none⟩=some y)(u:Value):(w.setCell ⟨b,0,none⟩ u).cell? ⟨b,1,none⟩=some y:=by
 obtain⟨e,g,f,cv,c,_⟩:=h;have a:=zP c 1;rw[d]at a;rw[zP (jA c 0 u) 1,a];rfl
theorem bQ {b:Nat}{k v d:List Nat}{n:Int}{P:Nat→Prop}{A:Option Addr}{c:Nat}(w:World)(D:KW w)(y:DR w b k v n)(L:RB w P A c d)(K:∀ k,P k→k<w.heap.size)(V:d.length≤200000) :
 Calls Tryz.prog 33 #[.pointer (some ⟨b,0,none⟩),.slice A d.length c] w fun e w'=>e=.returned (.tuple #[])∧DR w' b (xX k v d).1 (xX k v d).2 n∧Fr b w.heap.size w w':=by
 obtain⟨Av,cv,vc⟩:=y.vcell
 have m:=mac3 (x:=0) w D y (by omega) L K V vc
 rw[show((0:Nat):Int)=0 from rfl]at m
 have r:=zF m
 obtain⟨Ak,ck,E⟩:=y.kcell
 clear m
 have H:=zF D
 have q:=zF y
 have Q:=zF L
 have S:=zF K
 clear D y L K
 go_enter Tryz.func33,Tryz.ntmps33
 go_wp2_with fail
 refine r.out.mono ?_
 rintro e w1 ⟨N,c1,rfl,g,a⟩
 obtain⟨z,o⟩:=zDI q.out a g (vv _ _)
 have J:=(q.out.ext a).free 0
 have F:=a.cell vc
 have M:=a.cell E
 have l:=zF (H.out.dr q.out o (zG _))
 have j:=(q.out.ext a).v0 F (.slice N 32 c1)
 have f:=zF z
 have i:=zF o
 clear z o a g vc F r E
 go_upto_region 1 with fail
 obtain⟨X1,u⟩:=eV (w1.setCell ⟨b,0,none⟩ (.slice N 32 c1))
 rw[u]at l f i j ⊢
 clear u J M
 have s:=zF (zEO _ l.out f.out j)
 go_wp2_with fail
 refine s.out.mono ?_
 rintro e w2 ⟨Y,c2,rfl,g,a⟩
 obtain⟨B,C⟩:=zDH f.out a g (vv _ _)
 have T:=(f.out.ext a).free 1
 have X:=a.cell j
 have p:=i.out.trans (C.mono i.out.size)
 have I:=zF (H.out.dr q.out p (zG _))
 have R:=zF (Q.out.dr S.out q.out p)
 have h:=zF B
 have t:=zF p
 clear B C p a g j s l f i H Q
 go_upto_region 2 with fail
 obtain⟨X2,U⟩:=eV (w2.setCell ⟨b,1,none⟩ (.slice Y 32 c2))
 rw[U]at I h t R ⊢
 clear U T X
 by_cases h0:d.length=0
 · have l0:¬(0:Int)<(d.length:Int):=by omega
   go_wp2_with fail;have G:xX k v d=dp k v d 0:=qg h0;have ac:DR X2 b (xX k v d).1 (xX k v d).2 n:=by rw[G];exact h.out
   go_end0;exact⟨rfl,ac,t.out⟩
 · have l0:(0:Int)<(d.length:Int):=by omega
   have H3:=zF (h.out);obtain⟨ae,ag,vc⟩:=h.out.vcell;obtain⟨ad,af,E⟩:=h.out.kcell;have W:∀ k,P k→k<X2.heap.size:=fun k D=>zH (S.out k D) t.out.size;have m:=mac3 (x:=1) X2 I.out h.out (by omega) R.out W V vc;rw[show((1:Nat):Int)=1 from rfl]at m;have r:=zF m;clear m W;go_wp2_with fail;refine r.out.mono ?_;rintro e w3 ⟨O,c3,rfl,g,a⟩;obtain⟨z,o⟩:=zDI h.out a g (vv _ _);have J:=(h.out.ext a).free 0;have F:=a.cell vc;have M:=a.cell E;have l:=zF (I.out.dr h.out o (zG _));have j:=(h.out.ext a).v0 F (.slice O 32 c3);have f:=zF z;have i:=zF (t.out.trans (o.mono t.out.size));clear z o a g vc F r E;go_upto_region 4 with fail;obtain⟨X1,u⟩:=eV (w3.setCell ⟨b,0,none⟩ (.slice O 32 c3));rw[u]at l f i j ⊢;clear u J M;have s:=zF (zEO _ l.out f.out j);go_wp2_with fail;refine s.out.mono ?_;rintro e w4 ⟨Z,c4,rfl,g,a⟩;obtain⟨B,C⟩:=zDH f.out a g (vv _ _);have T:=(f.out.ext a).free 1;have X:=a.cell j;have p:=i.out.trans (C.mono i.out.size);have G:xX k v d=dp (dp k v d 0).1 (dp k v d 0).2 d 1:=qo h0;have ab:=zF (show DR (w4.setCell ⟨b,1,none⟩ (.slice Z 32 c4)) b (xX k v d).1 (xX k v d).2 n by rw[G];exact B);have aa:=zF p;clear B C p a g j s l f i G;go_wp2_with fail;go_end0;exact⟨rfl,ab.out,aa.out⟩
def dvs (k v:List Nat):Nat→List Nat
 | 0=>v
 | m+1=>xY k (dvs k v m)
def kQ (k v:List Nat):Nat→List Nat
 | 0=>[]
 | m+1=>kQ k v m++dvs k v (m+1)
theorem ue (k v:List Nat)(m:Nat):(kQ k v m).length=32*m:=by
 induction m with
 | zero=>rfl
 | succ m ih=>rw[kQ,zf,ih,dvs,vv];omega
def BL (w:World) (F b:Nat) (k v:List Nat) (n:Int) (A:Option Addr) (c:Nat) (out:List Nat):Prop :=
 ∃ a e d cv,w.heap[b]?=some (.cells #[.slice a 32 e,.slice d 32 cv,.int .i64 n] 70 (0,0))∧RB w (fun g=>g<F) a e k∧F≤w.heap.size∧RB w (fun g=>g<w.heap.size) d cv v∧k.length=32∧v.length=32∧OW w F A c out
theorem BL.dr {w:World}{F b c:Nat}{k v out:List Nat}{n:Int}{A:Option Addr}(h:BL w F b k v n A c out):DR w b k v n:=by
 obtain⟨a,e,d,cv,f,g,m,i,j,l,_⟩:=h;exact⟨a,e,d,cv,f,g.mono fun _ o=>zH o m,i,j,l⟩
theorem BL.ow {w:World}{F b c:Nat}{k v out:List Nat}{n:Int}{A:Option Addr}(h:BL w F b k v n A c out):OW w F A c out:=let ⟨_,_,_,_,_,_,_,_,_,_,h⟩:=h;h
theorem DR.bl {w:World}{b:Nat}{k v:List Nat}{n:Int}(h:DR w b k v n):BL w w.heap.size b k v n none 0 []:=by
 obtain⟨a,d,c,cv,e,f,g,i,j⟩:=h;exact⟨a,d,c,cv,e,f,zG _,g,i,j,⟨⟨by simp[bys],.inl ⟨rfl,rfl⟩⟩,by simp⟩⟩
theorem OW.drb {w X:World}{b:Nat}{cs:Array Value}{A:Option Addr}{c base:Nat}{l:List Nat}(h:OW w base A c l)(f:jE b w X)(d:w.heap[b]?=some (.cells cs 70 (0,0))):OW X base A c l :=
 h.same fun g _ cs' a=>f.at_ (fun e=>by
  rw[e,d]at a
  injection jU a with _ e2
  exact absurd e2 (by decide)) a
theorem zD3 {w:World}{b g base c:Nat}{cs:Array Value}{A:Option Addr}{l:List Nat}(d:w.heap[b]?=some (.cells cs 70 (0,0)))(h:OW w base A c l)(f:(Value.slice A l.length c).ownBlock=some g):b≠g:=by
 intro e;obtain⟨_,cs',a⟩:=h.own f;rw[←e,d]at a;injection jU a with _ e2
 exact absurd e2 (by decide)
theorem BL.turn {w d:World}{F b c c':Nat}{k v i out:List Nat}{n:Int}{A A':Option Addr}(h:BL w F b k v n A c out)(a:Ext w d)(z:OW d w.heap.size A' c' i)(y:i.length=32) :
 BL (d.setCell ⟨b,1,none⟩ (.slice A' 32 c')) F b k i n A c out∧OW (d.setCell ⟨b,1,none⟩ (.slice A' 32 c')) w.heap.size A' c' i∧(d.setCell ⟨b,1,none⟩ (.slice A' 32 c')).cell? ⟨b,1,none⟩=some (.slice A' 32 c')∧(∀ g,(Value.slice A out.length c).ownBlock=some g→g<w.heap.size):=by
 have u:=h.dr.ext a
 obtain⟨p,q,B,cv,r,s,l,C,t,D,m⟩:=h
 have j:=(q9 b d).set 1 (.slice A' 32 c')
 have f:=a.at_ r
 have o:=z.drb j f
 exact⟨⟨p,q,A',c',jA f 1 _,(s.below a (fun _ e=>zH e l)).dr (fun _ e=>zH e (zK l a.bsize)) u (DR.frS _ _),zK l (zK a.bsize (DR.frS (b:=b) 1 (.slice A' 32 c')).size),o.rb' (by omega),t,y,(m.same fun g _ cs x=>a.at_ x).drb j f⟩,o,by rw[zP (jA f 1 _) 1];rfl,fun g e=>let ⟨_,cs,hc⟩:=m.own e;qd hc⟩
theorem OW.keepOwn {w w':World}{base:Nat}{A:Option Addr}{c:Nat}{bs:List Nat}(h:OW w base A c bs)(l:∀ g cs,(Value.slice A bs.length c).ownBlock=some g→w.heap[g]?=some (.cells cs 5 (0,0))→w'.heap[g]?=some (.cells cs 5 (0,0))):OW w' base A c bs:=by
 obtain⟨⟨d,a⟩,f⟩:=h;refine⟨⟨d,?_⟩,f⟩;rcases a with a|⟨g,cap,b,e,k,j,i⟩
 · exact .inl a
 · exact .inr ⟨g,cap,b,e,k,l g _ (by rw[e];simp[Value.ownBlock]) j,i⟩
theorem BL.app {w w':World}{F B b c j:Nat}{k v out:List Nat}{n:Int}{A A' i:Option Addr}{c':Nat}(h:BL w F b k v n A c out)(q:OW w B A' c' v)(C:w.cell? ⟨b,1,none⟩=some (.slice A' 32 c'))(z:∀ g,(Value.slice A out.length c).ownBlock=some g→g<B)
 (d:w.grownBy w' (Value.slice A out.length c).ownBlock) (D:OW w' F i j (out++v)):BL w' F b k v n i j (out++v):=by
 obtain⟨r,s,I,cv,a,t,m,J,u,x,l⟩:=h
 have f:=zP a 1
 rw[C]at f
 simp only[zQ,ze,qe,Option.some.injEq,Value.slice.injEq]at f
 obtain⟨rfl,_,rfl⟩:=f
 have H:=(d.block b (qd a) (fun e=>zD3 a l e.symm rfl)).trans a
 refine⟨r,s,A',c',H,t.keep fun p E=>qB (d.block _ (zH E m) (fun e=>?_)),zK m d.size,(q.keepOwn fun g cs G o=>(d.block g (qd o) (fun e=>?_)).trans o).rb' (by omega),u,x,D⟩
 · have y:=(l.own e.symm).1;omega
 · have K:=(q.own G).1;have y:=z g e.symm;omega
theorem OW.blk {w:World}{base:Nat}{A:Option Addr}{c:Nat}{bs:List Nat}(h:OW w base A c bs)(f:0<bs.length):∃ g cs,A=some ⟨g,0,none⟩∧w.heap[g]?=some (.cells cs 5 (0,0)):=by
 obtain⟨⟨i,a⟩,j⟩:=h;rcases a with⟨e,m⟩|⟨g,cap,d,e,l,b,k⟩
 · injection e with e1 e2 e3
   omega
 · injection e with e1 e2 e3
   exact⟨g,_,e1,b⟩
theorem pd {b m:Nat}{k v:List Nat}{num:Int}(w:World)(o:KW w)(I:DR w b k v num)(hm:0<m)(aE:m≤65536)(hn:0≤num)(aF:num<1000000000) :
 Calls Tryz.prog 96 #[.pointer (some ⟨b,0,none⟩),.int .i64 (m:Int)] w fun e w'=>∃ A c,e=.returned (.slice A m c)∧RB w' (In w.heap.size w'.heap.size) A c ((kQ k v ((m+31)/32)).take m)∧DR w' b (xX k (dvs k v ((m+31)/32)) []).1 (xX k (dvs k v ((m+31)/32)) []).2 (num+1)∧Fr b w.heap.size w w'∧∃ g cs,A=some ⟨g,0,none⟩∧w'.heap[g]?=some (.cells cs 5 (0,0)):=by
 have P:=zF I.bl
 have S:=zF o
 have Q:=zF I
 have m1:¬(m:Int)<1:=by omega
 have m2:¬(65536:Int)<(m:Int):=by omega
 clear o I
 go_enter Tryz.func96,Tryz.ntmps96
 go_wp2_with fail
 go_loopw [5] (fun sv wr=>∃(q:Nat) (A:Option Addr) (c:Nat),sv=.slice A (kQ k v q).length c∧32*q<m+32∧Hid (BL wr w.heap.size b k (dvs k v q) num A c (kQ k v q))∧Hid (Fr b w.heap.size w wr)) (fun sv _=>m+32-(match sv with | .slice _ l _=>l|_=>0))
 case atStart=>exact⟨0,none,0,rfl,by omega,P,zF (Fr.refl _ _ _)⟩
 case round =>
  clear P;obtain⟨q,A,c,rfl,hq,HB,f⟩:=hrel;have z:=ue k v q;obtain⟨Av,cv,vc⟩:=HB.out.dr.vcell;by_cases hlt:32*q<m
  · have az:((kQ k v q).length:Int)<(m:Int):=by omega
    have T:=zF (S.out.dr Q.out f.out (zG _));have p:=zF (zEO _ T.out HB.out.dr vc);have r:=zF z;have G:=f.out.size;clear z T;go_wp2_with fail;refine p.out.mono ?_;rintro e j ⟨O,c1,rfl,K,n⟩;obtain⟨C,B⟩:=eV (xY k (dvs k v q));have N:C.length=32:=by rw[←B];exact vv _ _
    rw[B]at K;obtain⟨ab,am,ad,ak⟩:=HB.out.turn n K N;have fr:=(HB.out.dr.ext n).free 1;have aB:=n.cell vc;have a:=(jc n (zG _)).trans (xT ((q9 b j).set 1 (.slice O 32 c1)) n.bsize);have i:=zF (f.out.trans (a.mono G));have D:=zF ab;have E:=zF am;have av:=zF ak;have x:=zF N;have U:=zF B;clear ab am ak N B a n K vc p HB f;go_upto_region 6 with fail;obtain⟨X1,aa⟩:=eV (j.setCell ⟨b,1,none⟩ (.slice O 32 c1));rw[aa]at i D E ad ⊢;clear aa fr aB;have X:=zF D.out.ow;have ax:=zF (E.out.rb (by rw[x.out];omega));have aA:=zF (show(kQ k v q).length+C.length≤100000000 by rw[x.out,r.out];omega);have ac:=zF i.out.size;go_wp2_with (at_builtin;refine oS rfl (.tmp 30) (.tmp 34) rfl w.heap.size rfl X.out (by rw[x.out];rfl) ax.out aA.out ac.out ?_;intro A2 c2 W2 aj ag;have ar:=zF aj;have u:=zF ag;clear aj ag);have F:kQ k v q++C=kQ k v (q+1):=by rw[kQ,dvs,U.out]
    have y:C=dvs k v (q+1):=by rw[dvs,U.out]
    have H:=D.out.app E.out ad av.out u.out ar.out;rw[F,y]at H;have an:=zF H;have aq:=zF (i.out.trans (jc (b:=b) (Below.grown (zo w.heap.size X1) u.out ac.out (ua X.out.1)) (zG _)));have E1:=zF F;clear H F y;go_roundw;case rel=>exact⟨q+1,A2,c2,by rw[←E1.out,zf],by omega,an,aq⟩
    case measure=>simp only[r.out,x.out];omega
  · obtain⟨M,W⟩:=eV ((m+31)/32);obtain rfl:q=M:=by omega
    have HM:=zF W;have az:¬((kQ k v q).length:Int)<(m:Int):=by omega
    have ai:=S.out.dr Q.out f.out (zG _);have p:=zF (bQ (d:=[]) wr ai HB.out.dr (RB.nil_ wr (fun _=>False)) (fun _ h=>h.elim) (by simp));have r:=zF z;have L:=HB.out.ow.rb (by omega);obtain⟨g,cs,eA,ah⟩:=HB.out.ow.blk (by omega);have t:=zF ah;have HA:=zF eA;have G:=f.out.size;have R:=zF HB.out.dr;clear z ai W vc ah eA;go_wp2_with fail;refine p.out.mono ?_;rintro e j ⟨rfl,s,a⟩;have Y:=zF (L.dr (fun _ o=>o.2) HB.out.dr a);have i:=zF (f.out.trans (a.mono G));obtain⟨Ak,ck,aC,aD,V,_⟩:=id s;have nc:=zP V 2;simp only[zQ,ze,qe]at nc;have fr:=s.free 2;have ae:=s.setN (num+1);have af:=i.out.trans ((xT (b:=b) ((q9 b j).set 2 (.int .i64 (num+1))) (zG _)).mono i.out.size);have Z:=Y.out.dr (fun _ o=>zH o.2 a.size) s (xT (b:=b) ((q9 b j).set 2 (.int .i64 (num+1))) (zG _));have J:g≠b:=by
     obtain⟨_,_,_,_,ay,_⟩:=R.out;intro e;have hx:=t.out;rw[e,ay]at hx;injection jU hx with _ y
     exact absurd y (by decide)
    have u:=zF (((q9 b j).set 2 (.int .i64 (num+1))).at_ J (a.at_ (qd t.out) J t.out));have ao:=zF ae;have ap:=zF af;have au:=zF Z;have hc:=L.cap;have b1:(0:Int)≤(m:Int):=by omega
    have b2:(m:Int)≤(c:Int):=by have:=r.out;omega
    have aG:=qu (num+1) (by omega);have aw:wr.heap.size≤(j.setCell ⟨b,2,none⟩ (.int .i64 (num+1))).heap.size:=by simpa[World.setCell]using a.size
    clear s a ae af Z V L p HB f Y i J t R;go_upto_region 9 with fail;go_wp2_with fail;go_ret;rw[HM.out];have al:=au.out.mid' (k:=0) (m:=m) (c':=m) (by omega) (by have:=r.out;omega) (by omega) (by unfold maxLen;omega) (A':=A) (fun _=>by cases A<;>simp[Addr.add]);rw[List.drop_zero,Nat.sub_zero]at al;exact⟨A,m,rfl,al.mono fun g hg=>⟨hg.1,zH hg.2 aw⟩,ao.out,ap.out,g,_,HA.out,u.out⟩
theorem pg {b m:Nat}{k v:List Nat}{num:Int}(w:World)(i:KW w)(h:DR w b k v num)(j:0<m)(l:m≤65536)(n:0≤num)(o:num<1000000000) :
 Calls Tryz.prog 96 #[.pointer (some ⟨b,0,none⟩),.int .i64 (m:Int)] w fun e w'=>∃ A c,e=.returned (.slice A m c)∧RB w' (In w.heap.size w'.heap.size) A c ((kQ k v ((m+31)/32)).take m)∧DR w' b (xX k (dvs k v ((m+31)/32)) []).1 (xX k (dvs k v ((m+31)/32)) []).2 (num+1)∧Fr b w.heap.size w w' :=
 (pd w i h j l n o).mono fun _ _ ⟨A,c,a,d,f,g,_⟩=>⟨A,c,a,d,f,g⟩
theorem pi {b q:Nat}{P:Nat→Prop}{A:Option Addr}{c:Nat}{a k v:List Nat}{num:Int}(w:World)(J:KW w)(z:DR w b k v num)(h:RN w P A c a)(F:∀ b,P b→b<w.heap.size)(aa:¬ P b)(ab:a.length<90000)(hq:qD (val 18446744073709551616 a)=q)(ag:0<q)(ah:q≤4096)(ad:0<val 18446744073709551616 a)(L:0≤num)(M:num<1000000000) :
 Calls Tryz.prog 68 #[.pointer (some ⟨b,0,none⟩),.slice A a.length c] w fun e w'=>∃ f j r m,m=(q+71)/8∧r=kO ((kQ k v ((m+31)/32)).take m)%val 18446744073709551616 a∧e=.returned (.tuple #[.slice f (digs 18446744073709551616 r).length j,.bool true]) ∧
  OB w' w.heap.size f j (digs 18446744073709551616 r)∧DR w' b (xX k (dvs k v ((m+31)/32)) []).1 (xX k (dvs k v ((m+31)/32)) []).2 (num+1)∧Fr b w.heap.size w w':=by
 have H:=zF (vO P A c a w h)
 rw[hq]at H
 obtain⟨m,K⟩:=eV ((q+71)/8)
 have af:((q:Int)+64+7)/8=(m:Int):=by omega
 have HB:=zF (pg (m:=m) w J z (by omega) (by omega) L M)
 have q0:((q:Int)==0)=false:=by rw[beq_eq_false_iff_ne];omega
 have q1:decide ((4096:Int)<(q:Int))=false:=jT (by omega)
 have D:=zF K
 have HR:=zF h
 have HD:=zF z
 have E:=zF F
 clear J z h F K L M
 go_enter Tryz.func68,Tryz.ntmps68
 go_wp2_with fail
 refine H.out.mono ?_
 rintro e w1 ⟨rfl,rfl⟩
 clear H
 go_wp2_with fail
 refine HB.out.mono ?_
 rintro e w2 ⟨T,c1,rfl,n,G,I⟩
 have B:((kQ k v ((m+31)/32)).take m).length=m:=by rw[zh,ue];omega
 obtain⟨bs,y⟩:=eV ((kQ k v ((m+31)/32)).take m)
 rw[y]at n B
 have o:=zF (xr _ T c1 bs w2 n (fun g d=>d.2) (by omega))
 rw[B]at o
 have W:=zF G
 have i:=zF I
 have V:=zF y
 have ac:=n.2.1
 clear n G I y HB
 go_wp2_with fail
 refine o.out.mono ?_
 rintro e w3 ⟨f,j,rfl,N,l⟩
 have ae:(digs 18446744073709551616 (kO bs)).length≤m:=qR (by omega) (zH (n9 ac) (by rw[B];exact Nat.pow_le_pow_left (by omega) m))
 have R:RN w2 P A c a:=HR.out.keep fun p Q=>qB (i.out.block _ (E.out _ Q) (fun e=>aa (e▸Q)))
 have u:∀ g,P g→g<w2.heap.size:=fun g d=>zH (E.out g d) i.out.size
 have s:=zF (fq _ P f A j c _ a w3 N.rn (R.below l u) (fun g d=>d.2) (fun g d=>zH (u g d) l.size) (by have:=D.out;omega) ab ad)
 rw[zi (by omega)]at s
 have t:=zF l
 clear N l R u o
 go_wp2_with fail
 refine s.out.mono ?_
 rintro e w4 ⟨A3,c3,U,c4,rfl,_,O,x⟩
 have Z:=zF O
 have X:=zF ((W.out.ext t.out).ext x)
 have C:=i.out.size
 have S:=t.out.size
 have Y:=zF ((i.out.trans (jc (b:=b) t.out C)).trans (jc (b:=b) x (zK C S)))
 clear O x s
 go_wp2_with fail
 go_ret2
 exact⟨U,c4,_,m,D.out.symm,by rw[V.out],rfl,Z.out.mono (zK C S),X.out,Y.out⟩
end Go.Proofs.YtaemogcomplhiaaGreatDoor
namespace Go.Proofs.YtaemogcomplhiaaGreatDoor
open Go.RowKit
theorem gR (P P':Nat→Prop)(A A':Option Addr)(c c':Nat)(a b:List Nat)(w:World)(h:RN w P A c a)(l:RN w P' A' c' b)(o:∀ b,P b→b<w.heap.size)(p:∀ b,P' b→b<w.heap.size)(g:a.length<90000)(i:b.length<90000)(f:0<val 18446744073709551616 b) :
 Calls Tryz.prog 118 #[.slice A a.length c,.slice A' b.length c'] w fun e w'=>∃ d c1,e=.returned (.slice d (digs 18446744073709551616 (val 18446744073709551616 a%val 18446744073709551616 b)).length c1) ∧
  OB w' w.heap.size d c1 (digs 18446744073709551616 (val 18446744073709551616 a%val 18446744073709551616 b))∧Below w.heap.size w w':=by
 have s:=zF (fq P P' A A' c c' a b w h l o p g i f)
 generalize val 18446744073709551616 a%val 18446744073709551616 b=r at *
 generalize val 18446744073709551616 a/val 18446744073709551616 b=q at *
 clear f g i
 go_enter Tryz.func118,Tryz.ntmps118
 go_wp2_with fail
 refine s.out.mono ?_
 rintro e t ⟨d,c1,j,k,rfl,_,n,m⟩
 go_wp2
 go_ret
 exact⟨j,k,rfl,n,m⟩
def RNN (w:World) (P:Nat→Prop) (A:Option Addr) (c:Nat) (a:List (List Nat)) (cs:List Value):Prop :=
 RS w P 1 A a.length c cs∧a.length≤1000∧∀(j:Nat) l,a[j]?=some l→∃ A' c',cs[j]?=some (.slice A' l.length c')∧RN w P A' c' l
theorem mf (P:Nat→Prop)(A:Option Addr)(c:Nat)(a:List (List Nat))(cs:List Value)(w:World)(h:RNN w P A c a cs) :
 Calls Tryz.prog 117 #[.slice A a.length c] w fun e w'=>e=.returned (.bool (a.all fun l=>decide (qD (val 18446744073709551616 l)≤4096)))∧w=w':=by
 obtain⟨⟨z,B,C,m⟩,D,n⟩:=h
 go_enter Tryz.func117,Tryz.ntmps117
 go_wp2_with fail
 go_loopw [7] (fun iv wr=>∃ k:Nat,iv=.int .i64 (k:Int)∧k≤a.length∧Hid ((a.all fun l=>decide (qD (val 18446744073709551616 l)≤4096))=((a.drop k).all fun l=>decide (qD (val 18446744073709551616 l)≤4096)))∧w=wr) (fun iv _=>a.length-(intOf iv).toNat)
 case atStart=>exact⟨0,rfl,by omega,zF (by simp),rfl⟩
 case round =>
  obtain⟨k,rfl,E,i,rfl⟩:=hrel;by_cases hlt:k<a.length
  · obtain⟨ad,rfl,_,q⟩:=m (by omega);obtain⟨u,c1,p,t⟩:=n k _ (qL hlt);have x:=q _ _ p;have o:=zF (vO P u c1 a[k] w t);have j:(a.drop k).all (fun l=>decide (qD (val 18446744073709551616 l)≤4096))=(decide (qD (val 18446744073709551616 a[k])≤4096)&&(a.drop (k+1)).all fun l=>decide (qD (val 18446744073709551616 l)≤4096)):=by
     rw[qX hlt,List.all_cons]
    obtain⟨l,r⟩:=eV (a[k]);rw[r]at x o j;obtain⟨d,s⟩:=eV (qD (val 18446744073709551616 l));rw[s]at o j;have f:=i;have g:=zF j;clear j r t p q m n s i;go_wp2_with fail;refine o.out.mono ?_;rintro e w' ⟨rfl,rfl⟩;by_cases hbig:4096<d
    · have b:=zF (show(a.all fun l=>decide (qD (val 18446744073709551616 l)≤4096))=false from f.out.trans (by rw[g.out,jT (by omega:¬ d≤4096),Bool.false_and]));have y:decide ((4096:Int)<(d:Int))=true:=qm (by omega);clear f g;go_wp2;go_ret;exact⟨by rw[b.out];rfl,rfl⟩
    · have b:=f.out.trans (by rw[g.out,qm (by omega:d≤4096),Bool.true_and]);have v:=zF b;have y:decide ((4096:Int)<(d:Int))=false:=jT (by omega);clear f g b;go_wp2;go_roundw;case rel=>exact⟨k+1,by go_num,by omega,v,by first|rfl|trivial⟩
      case measure=>simp[intOf];omega
  · have b:=zF (show(a.all fun l=>decide (qD (val 18446744073709551616 l)≤4096))=true from i.out.trans (by rw[List.drop_of_length_le (by omega),List.all_nil]));clear i m n;go_wp2;go_ret;exact⟨by rw[b.out];rfl,rfl⟩
def gx (w:World) (v:Value):Nat:=match v with
 | .slice (some a) n _=>val 18446744073709551616 ((List.range n).map fun i=>match w.cell? (a.add i)with|some (.int _ z)=>z.toNat|_=>0)
 | _=>0
theorem RN.read {w:World}{P:Nat→Prop}{A:Option Addr}{c:Nat}{l:List Nat}(h:RN w P A c l):gx w (.slice A l.length c)=val 18446744073709551616 l:=by
 rcases za l.length with a|a
 · obtain rfl:=qV a;cases A<;>simp[gx]
 · obtain⟨ad,rfl,_,_⟩:=h.at_ a;simp only[gx];congr 1;apply List.ext_getElem?;intro i;rw[yw];by_cases hi:i<l.length
   · rw[List.getElem?_range hi,qL hi,yc,h.cells i hi,uH hi];simp
   · rw[jH (by simp;omega),jH (by omega)];rfl
theorem nD (P P':Nat→Prop)(A A':Option Addr)(c c':Nat)(a b:List Nat)(w:World)(h:RN w P A c a)(f:RN w P' A' c' b)(I:∀ b,P b→b<w.heap.size)(J:∀ b,P' b→b<w.heap.size)(hl:a.length<100000)(aa:b.length<100000) :
 Calls Tryz.prog 63 #[.slice A a.length c,.slice A' b.length c'] w fun e w'=>∃ N c1,e=.returned (.slice N (digs 18446744073709551616 (val 18446744073709551616 a+val 18446744073709551616 b)).length c1) ∧
  OB w' w.heap.size N c1 (digs 18446744073709551616 (val 18446744073709551616 a+val 18446744073709551616 b))∧Below w.heap.size w w':=by
 have X:=zF (jZ P A c a w h)
 have Y:=zF (jZ P' A' c' b w f)
 have la:=jD (B:=18446744073709551616) (by omega) h.2.1
 have lb:=jD (B:=18446744073709551616) (by omega) f.2.1
 replace h:=h.trim
 replace f:=f.trim
 generalize val 18446744073709551616 a=x at *
 generalize val 18446744073709551616 b=y at *
 have V:=zi (B:=18446744073709551616) (by omega) x
 have W:=zi (B:=18446744073709551616) (by omega) y
 generalize digs 18446744073709551616 x=l at *
 generalize digs 18446744073709551616 y=m at *
 have af:l.length<100000:=by omega
 have ag:m.length<100000:=by omega
 clear la lb hl aa
 have F:=zF V
 have G:=zF W
 clear V W
 go_enter Tryz.func63,Tryz.ntmps63
 go_wp2_with fail
 refine X.out.mono ?_
 rintro e Z ⟨rfl,rfl⟩
 go_wp2_with fail
 refine Y.out.mono ?_
 rintro e Z ⟨rfl,rfl⟩
 go_upto_if 17 with fail
 go_cut [0,1] (fun s0 s1 wx=>∃(A c:_) (l:List Nat) (A' c':_) (m:List Nat),s0=.slice A l.length c∧s1=.slice A' m.length c'∧m.length≤l.length∧l.length<100000 ∧
  RN w (fun b=>b<w.heap.size) A c l∧RN w (fun b=>b<w.heap.size) A' c' m∧Hid (val 18446744073709551616 l+val 18446744073709551616 m=x+y)∧w=wx)
 case first =>
  by_cases hs:l.length<m.length
  · go_wp2_with fail;go_meet;case rel=>exact⟨A',c',m,A,c,l,rfl,rfl,by omega,by omega,f.mono J,h.mono I,zF (by rw[F.out,G.out,wC]),rfl⟩
  · go_wp2_with fail;go_meet;case rel=>exact⟨A,c,l,A',c',m,rfl,rfl,by omega,by omega,h.mono I,f.mono J,zF (by rw[F.out,G.out]),rfl⟩
 case rest =>
  clear X Y h f I J F G af ag;clear A A' c c' l m;obtain⟨A,c,l,A',c',m,rfl,rfl,ab,ah,h,f,Hv,rfl⟩:=hcut;obtain⟨h1,h2,h3⟩:=h.cap;obtain⟨g1,g2,g3⟩:=f.cap;have ac:=qt (P:=Tryz.prog) 24 65 (.int .u64 0) 8 Tryz.underlying24 kU rfl .i64 .i64 (l.length+1) (by omega) (by omega);simp only[vj,qO]at ac;go_wp2;go_loopw [6,26] (fun cv iv wr=>∃(k d:Nat) (o:List Nat),iv=.int .i64 (k:Int)∧cv=.int .u64 (d:Int)∧k≤l.length∧d≤1∧wz 18446744073709551616 l m o k d∧Hid (o.length=l.length+1)∧Lim o∧Blk wr w.heap.size o∧Below w.heap.size w wr) (fun _ iv _=>l.length-(intOf iv).toNat);case atStart=>exact⟨0,0,List.replicate (l.length+1) 0,rfl,rfl,by omega,by omega,wz.zero _ _ _ _,zF (by simp),⟨by simp,by simp;omega⟩,wD w _,(zo _ w).alloc (zG _) _⟩
  case round =>
   obtain⟨k,d,o,rfl,rfl,hk,L,v,u,z,g,j⟩:=hrel;by_cases hlt:k<l.length
   · obtain⟨ad,rfl,_,q1⟩:=(h.below j (fun b K=>K)).at_ hlt;obtain⟨s,D,hs,S,t⟩:=yr (dg l k) (dg m k) d (h.2.dgLt k) (f.2.dgLt k) L;have U:k<o.length:=by have:=u.out;omega
     have q3:=g.cell U;have q4:=g.free k;have O:=v.step U t;have r:=g.set k s;have q:=z.set k s hs;have E:=j.setCell (p:=⟨w.heap.size,k,none⟩) (zG _) (.int .u64 (s:Int));have n:Hid ((o.set k s).length=l.length+1):=zF (by rw[jr];exact u.out);by_cases hm:k<m.length
     · obtain⟨ae,rfl,_,q2⟩:=(f.below j (fun b K=>K)).at_ hm;have R:=fun w=>kR (dg l k) (dg m k) d s D L hs t w;clear t v g z j;go_wp2;go_roundw;case rel=>exact⟨k+1,D,o.set k s,by go_num,rfl,by omega,S,O,n,q,r,E⟩
       case measure=>simp[intOf];omega
     · have R:=fun w=>kR (dg l k) 0 d s D L hs (by rw[vJ (by omega:m.length≤k)]at t;exact t) w;simp only[qO]at R;clear t v g z j;go_wp2;go_roundw;case rel=>exact⟨k+1,D,o.set k s,by go_num,rfl,by omega,S,O,n,q,r,E⟩
       case measure=>simp[intOf];omega
   · obtain rfl:k=l.length:=by omega
     have C:=v.fin (by rw[u.out]) (zG _) ab;rw[Hv.out]at C;have q4:=g.free l.length;have q3:=g.cell (i:=l.length) (by have:=u.out;omega);have r:=g.set l.length d;have q:=z.set l.length d (by omega);have E:=j.setCell (p:=⟨w.heap.size,l.length,none⟩) (zG _) (.int .u64 (d:Int));have n:Hid ((o.set l.length d).length=l.length+1):=zF (by rw[jr];exact u.out);obtain⟨o',T⟩:=eV (o.set l.length d);rw[T]at C r q n;have H:OB (wr.setCell ⟨w.heap.size,l.length,none⟩ (.int .u64 (d:Int))) w.heap.size (some ⟨w.heap.size,0,none⟩) (l.length+1) o':=kq r (zG _) q (by have:=n.out;omega) (by unfold maxLen;omega);have M:=jZ _ _ _ _ _ H.rn;have Q:=H.trim;rw[C,n.out]at M;rw[C]at Q;have Ht:=zF M;clear v g z j M C H r q T;go_wp2_with fail;refine Ht.out.mono ?_;rintro e Z ⟨rfl,rfl⟩;go_wp2;go_ret;exact⟨_,_,rfl,Q,E⟩
end Go.Proofs.YtaemogcomplhiaaGreatDoor
namespace Go.Proofs.YtaemogcomplhiaaGreatDoor
def jt (m r s t u:Nat):Nat×Nat:=if _h:s=0 then(r,t)else jt m s (r%s) u ((t+m-r/s*u%m)%m)
termination_by s
decreasing_by exact qP _ (by omega)
theorem vV (m r t u:Nat):jt m r 0 t u=(r,t):=by rw[jt];simp
theorem xL {m r s t u:Nat}(h:s≠0):jt m r s t u=jt m s (r%s) u ((t+m-r/s*u%m)%m):=by rw[jt];simp[h]
def xM (x m:Nat):List Nat×Bool:=if(jt m m (x%m) 0 1).1=1 then(digs 18446744073709551616 (jt m m (x%m) 0 1).2,true)else([],false)
end Go.Proofs.YtaemogcomplhiaaGreatDoor
namespace Go.Proofs.YtaemogcomplhiaaGreatDoor
open Go.RowKit
theorem RNN.two {w:World}{P P':Nat→Prop}{A A':Option Addr}{c c':Nat}{a b:List Nat}(h:RN w P A c a)(f:RN w P' A' c' b)(g:∀ b,P b→b<w.heap.size)(i:∀ b,P' b→b<w.heap.size) :
 RNN (w.alloc (.cells #[.slice A a.length c,.slice A' b.length c'] 24)) (fun _=>True) (some ⟨w.heap.size,0,none⟩) 2 [a,b] [.slice A a.length c,.slice A' b.length c']:=by
 have e:Below w.heap.size w (w.alloc (.cells #[.slice A a.length c,.slice A' b.length c'] 24)):=(zo _ w).alloc (zG _) _
 refine⟨RS.fresh (w:=w) (P:=fun _=>True) #[.slice A a.length c,.slice A' b.length c'] 24 1 2 rfl (by unfold maxLen;omega) trivial,by simp,fun j l d=>?_⟩
 match j,d with
 | 0,d=>simp at d;subst d;exact⟨A,c,rfl,(h.below e g).mono fun _ _=>trivial⟩
 | 1,d=>simp at d;subst d;exact⟨A',c',rfl,(f.below e i).mono fun _ _=>trivial⟩
 | j+2,d=>simp at d
theorem oI (P P':Nat→Prop)(A A':Option Addr)(c c':Nat)(a b:List Nat)(X M:Nat)(w:World)(h:RN w P A c a)(i:RN w P' A' c' b)(hP:∀ b,P b→b<w.heap.size)(j:∀ b,P' b→b<w.heap.size)(Z:val 18446744073709551616 a=X)(y:val 18446744073709551616 b=M)(bb:2≤M)
 (bd:a.length<40000) (be:b.length<40000) (an:qD X≤4096∧qD M≤4096) :
 Calls Tryz.prog 86 #[.slice A a.length c,.slice A' b.length c'] w fun e w'=>∃ g c1,e=.returned (.tuple #[.slice g (xM X M).1.length c1,.bool (xM X M).2])∧OB w' w.heap.size g c1 (xM X M).1∧Below w.heap.size w w':=by
 have d:=vO P' A' c' b w i
 have z:(digs 18446744073709551616 M).length≤40000:=by have:=jD (B:=18446744073709551616) (by omega) i.2.1;rw[y]at this;omega
 have a4:2≤qD M:=by
  rcases qH (qD M) 2 with J|J
  · have:=uG (x:=M) (k:=1) (by omega);omega
  · exact J
 rw[y]at d
 have t1:decide ((qD M:Int)<2)=false:=jT (by omega)
 have ac:=mf _ _ _ _ _ _ (RNN.two h i hP j)
 rw[show(([a,b]:List (List Nat)).all fun l=>decide (qD (val 18446744073709551616 l)≤4096))=true by simp[Z,y,an.1,an.2]]at ac
 simp only[jP,jk,jL,Nat.reduceAdd]at ac
 have ad:Below w.heap.size w (w.alloc (.cells #[.slice A a.length c,.slice A' b.length c'] 24)):=(zo _ w).alloc (zG _) _
 have bh:(w.alloc (.cells #[.slice A a.length c,.slice A' b.length c'] 24)).heap.size=w.heap.size+1:=by simp
 have Hb:=zF d
 have aN:=zF ac
 clear d ac an a4
 go_enter Tryz.func86,Tryz.ntmps86
 go_wp2_with fail
 refine Hb.out.mono ?_
 rintro e w' ⟨rfl,rfl⟩
 go_wp2_with fail
 refine aN.out.mono ?_
 rintro e w' ⟨rfl,rfl⟩
 generalize w.alloc (.cells #[.slice A a.length c,.slice A' b.length c'] 24)=W0 at *
 have m:=yn P' A' c' b W0 (i.below ad j)
 rw[y]at m
 have ay:=zF m
 clear m
 go_wp2_with fail
 refine ay.out.mono ?_
 rintro e w1 ⟨g,c1,rfl,aE,aB⟩
 have q:=ad.trans (aB.mono (by omega))
 have ap:=gR P P' A A' c c' a b w1 (h.below q hP) (i.below q j) (fun b d=>by have:=hP b d;have:=q.size;omega) (fun b d=>by have:=j b d;have:=q.size;omega) (by omega) (by omega) (by omega)
 rw[Z,y]at ap
 have az:=zF ap
 clear ap
 go_wp2_with fail
 refine az.out.mono ?_
 rintro e w2 ⟨n,p,rfl,aF,af⟩
 have T:=q.trans (af.mono q.size)
 have aH:=zF (fP 1 w2 (by omega))
 go_wp2_with fail
 refine aH.out.mono ?_
 rintro e w3 ⟨o,c3,rfl,aG,U⟩
 have ae:=T.trans (U.mono T.size)
 have bi:=q.size
 have bj:=T.size
 have bk:=ae.size
 have R:OB w3 w.heap.size g c1 (digs 18446744073709551616 M):=((aE.below af (zG _)).below U (zG _)).mono (by omega)
 have F:OB w3 w.heap.size n p (digs 18446744073709551616 (X%M)):=(aF.below U (zG _)).mono (by omega)
 have S:OB w3 w.heap.size o c3 (digs 18446744073709551616 1):=aG.mono (by omega)
 have aZ:=qP X (show 0<M by omega)
 clear aE aF aG ad aB af U q T ay az aH h
 go_wp2_with fail
 go_loopw [6,7,8,9] (fun rv sv tv uv wr=>∃(g n o G:Option Addr) (c1 p c3 I r s t u:Nat),rv=.slice g (digs 18446744073709551616 r).length c1∧sv=.slice n (digs 18446744073709551616 s).length p∧tv=.slice o (digs 18446744073709551616 t).length c3∧uv=.slice G (digs 18446744073709551616 u).length I ∧
  OB wr w.heap.size g c1 (digs 18446744073709551616 r)∧OB wr w.heap.size n p (digs 18446744073709551616 s)∧OB wr w.heap.size o c3 (digs 18446744073709551616 t)∧OB wr w.heap.size G I (digs 18446744073709551616 u)∧r≤M∧s≤M∧t≤M∧u≤M∧Hid (jt M r s t u=jt M M (X%M) 0 1)∧Below w.heap.size w wr)
  (fun _ sv _ _ wr=>gx wr sv)
 case atStart=>exact⟨g,n,none,o,c1,p,0,c3,M,X%M,0,1,rfl,rfl,by rw[qW];rfl,rfl,R,F,by rw[qW];exact OB.nil_ _ _,S,by omega,by omega,by omega,by omega,zF rfl,ae⟩
 case round =>
  clear R F S ae aZ;obtain⟨g,n,o,G,c1,p,c3,I,r,s,t,u,rfl,rfl,rfl,rfl,R,F,S,zD,hr,hs,ht,hu,N,D⟩:=hrel;have zw:=D.size;by_cases J:s=0
  · subst J;have O:=N.out;rw[vV]at O;have aa:=zF (vO _ g c1 _ wr R.rn);rw[zi (by omega)]at aa;rw[qW]at *;have ab:(r:Nat)=1↔qD r=1:=by
     constructor
     · rintro rfl;decide
     · intro h;have C:=uG (x:=r) (k:=1) (by omega);rcases za r with h2|h2
       · subst h2;rw[xk]at h;omega
       · omega
    by_cases C:r=1
    · have m:qD r=1:=ab.1 C;have Q:xM X M=(digs 18446744073709551616 t,true):=by rw[xM,←O,qg C]
      rw[m]at aa;have H:=zF Q;clear Q N O ab C m;go_wp2_with fail;refine aa.out.mono ?_;rintro e w' ⟨rfl,rfl⟩;go_wp2;go_ret2;exact⟨o,c3,by rw[H.out];rfl,by rw[H.out];exact S,D⟩
    · have m:((qD r:Nat):Int)≠1:=fun e=>C (ab.2 (by omega));have Q:xM X M=([],false):=by rw[xM,←O,qo C]
      have t2:(((qD r:Nat):Int) != 1)=true:=by simpa using m
      have H:=zF Q;clear Q N O ab C m;go_wp2_with fail;refine aa.out.mono ?_;rintro e w' ⟨rfl,rfl⟩;go_wp2;go_ret2;exact⟨none,0,by rw[H.out];rfl,by rw[H.out];exact OB.nil_ _ _,D⟩
  · have kp:(0:Int)<((digs 18446744073709551616 s).length:Int):=by
     have:0<(digs 18446744073709551616 s).length:=by rw[jq (by omega) (by omega)];simp
     omega
    have zm:=i.below D j;have ax:∀ X:World,Below w.heap.size w X→∀ b,P' b→b<X.heap.size:=fun X Z b d=>by have:=j b d;have:=Z.size;omega
    have f:=fun v=>zi (B:=18446744073709551616) (by omega) v;have ao:=fq _ _ g n c1 p _ _ wr R.rn F.rn (fun b d=>d.2) (fun b d=>d.2) (by have:=fB hr z;omega) (by have:=fB hs z;omega) (by rw[f];omega);rw[f,f]at ao;have aI:r/s≤M:=zK (vD _ _) hr;have a1:r%s≤M:=zK (Nat.mod_le _ _) hr;have aO:=zF ao;have au:=F.rn.read;rw[f]at au;have aR:=zF au;have a3:=qP r (show 0<s by omega);have a5:=zF (show jt M s (r%s) u ((t+M-r/s*u%M)%M)=jt M M (X%M) 0 1 by rw[←N.out,xL J]);clear ao au N;go_wp2_with fail;refine aO.out.mono ?_;rintro e w4 ⟨A5,c5,A6,c6,rfl,y5,y6,ag⟩;have s4:=ag.size;have ba:=zD.below ag (zG _);have am:=me _ _ A5 G c5 I _ _ w4 y5.rn ba.rn (fun b d=>d.2) (fun b d=>d.2) (by have:=fB aI z;omega) (by have:=fB hu z;omega);rw[f,f]at am;have aM:=zF am;clear am;go_wp2_with fail;refine aM.out.mono ?_;rintro e w5 ⟨A7,c7,rfl,y7,K⟩;have ah:=ag.trans (K.mono s4);have W:=D.trans (ah.mono zw);have aq:=gR _ P' A7 A' c7 c' _ b w5 y7.rn (i.below W j) (fun b d=>d.2) (ax w5 W) (by have:=sF aI hu z;omega) (by omega) (by omega);rw[f,y]at aq;have bg:=qP (r/s*u) (show 0<M by omega);generalize r/s*u%M=cZ at *;have aP:=zF aq;clear aq;go_wp2_with fail;refine aP.out.mono ?_;rintro e w6 ⟨A8,c8,rfl,y8,L⟩;have Y:=W.trans (L.mono (by have:=W.size;omega));have V:=ah.trans (L.mono (by have:=ah.size;omega));have a9:=S.below V (zG _);have al:=nD _ P' o A' c3 c' _ b w6 a9.rn (i.below Y j) (fun b d=>d.2) (ax w6 Y) (by have:=fB ht z;omega) (by omega);rw[f,y]at al;have aL:=zF al;clear al;go_wp2_with fail;refine aL.out.mono ?_;rintro e w7 ⟨A9,c9,rfl,y9,E⟩;have a8:=y8.below E (zG _);have aw:=mO _ _ A9 A8 c9 c8 _ _ w7 y9.rn a8.rn (fun b d=>d.2) (fun b d=>d.2) (by have:=sG ht (zG M) z;omega) (by rw[f,f];omega);rw[f,f]at aw;have a0:t+M-cZ≤M+M:=by omega
    have a2:=sG (zG M) (zG M) z;have bf:=fB a0 a2;generalize t+M-cZ=aA at *;have aT:=zF aw;clear aw;have aD:=Y.trans (E.mono Y.size);go_wp2_with fail;refine aT.out.mono ?_;rintro e w8 ⟨aJ,aU,rfl,a6,aj⟩;have ak:=aD.trans (aj.mono aD.size);have ar:=gR _ P' aJ A' aU c' _ b w8 a6.rn (i.below ak j) (fun b d=>d.2) (ax w8 ak) (by omega) (by omega) (by omega);rw[f,y]at ar;have bc:=qP aA (show 0<M by omega);have aQ:=zF ar;clear ar;go_wp2_with fail;refine aQ.out.mono ?_;rintro e w9 ⟨aK,aV,rfl,a7,aX⟩;have aC:=aj.trans (aX.mono aj.size);have ai:Below wr.heap.size wr w9:=(V.trans (E.mono V.size)).trans (aC.mono (by have:=V.size;have:=E.size;omega));have aY:=D.trans (ai.mono zw);have f2:=(F.below ai (zG _))
    have f6:OB w9 w.heap.size A6 c6 (digs 18446744073709551616 (r%s)):=(y6.below (B:=w4.heap.size) (((K.trans (L.mono K.size)).trans (E.mono (by have:=K.size;have:=L.size;omega))).trans (aC.mono (by have:=K.size;have:=L.size;have:=E.size;omega))) (zG _)).mono zw;have f4:=(zD.below ai (zG _))
    have aW:=a7.mono (base':=w.heap.size) ak.size;have av:=f6.rn.read;rw[f]at av;have aS:=zF av;clear av;go_wp2;go_roundw;case rel=>exact⟨n,A6,G,aK,p,c6,I,aV,s,r%s,u,aA%M,rfl,rfl,rfl,rfl,f2,f6,f4,aW,hs,a1,hu,by omega,a5,aY⟩
    case measure=>rw[aR.out,aS.out];exact a3
theorem RNN.three {w:World}{P P' k:Nat→Prop}{A A' f:Option Addr}{c c' g:Nat}{a b d:List Nat}(h:RN w P A c a)(m:RN w P' A' c' b)(n:RN w k f g d)(o:∀ b,P b→b<w.heap.size)(p:∀ b,P' b→b<w.heap.size)(q:∀ b,k b→b<w.heap.size) :
 RNN (w.alloc (.cells #[.slice A a.length c,.slice A' b.length c',.slice f d.length g] 24)) (fun _=>True) (some ⟨w.heap.size,0,none⟩) 3 [a,b,d] [.slice A a.length c,.slice A' b.length c',.slice f d.length g]:=by
 have i:Below w.heap.size w (w.alloc (.cells #[.slice A a.length c,.slice A' b.length c',.slice f d.length g] 24)):=(zo _ w).alloc (zG _) _
 refine⟨RS.fresh (w:=w) (P:=fun _=>True) #[.slice A a.length c,.slice A' b.length c',.slice f d.length g] 24 1 3 rfl (by unfold maxLen;omega) trivial,by simp,fun j l e=>?_⟩
 match j,e with
 | 0,e=>simp at e;subst e;exact⟨A,c,rfl,(h.below i o).mono fun _ _=>trivial⟩
 | 1,e=>simp at e;subst e;exact⟨A',c',rfl,(m.below i p).mono fun _ _=>trivial⟩
 | 2,e=>simp at e;subst e;exact⟨f,g,rfl,(n.below i q).mono fun _ _=>trivial⟩
 | j+3,e=>simp at e
theorem zDA {a b:List Nat}{X Y:Nat}(c:val 18446744073709551616 a=X)(d:val 18446744073709551616 b=Y) :
 (([a,b]:List (List Nat)).all fun l=>decide (qD (val 18446744073709551616 l)≤4096))=(decide (qD X≤4096)&&decide (qD Y≤4096)):=by simp[c,d]
theorem ti {a b d:List Nat}{X Y Z:Nat}(c:val 18446744073709551616 a=X)(e:val 18446744073709551616 b=Y)(f:val 18446744073709551616 d=Z) :
 (([a,b,d]:List (List Nat)).all fun l=>decide (qD (val 18446744073709551616 l)≤4096))=(decide (qD X≤4096)&&decide (qD Y≤4096)&&decide (qD Z≤4096)):=by simp[c,e,f,Bool.and_assoc]
theorem tX {x y j k:Nat}(a:(digs 18446744073709551616 x).length≤j)(b:(digs 18446744073709551616 y).length≤k):(digs 18446744073709551616 (x*y)).length≤j+k:=by
 have c:=jR (B:=18446744073709551616) (by omega) x;have d:=jR (B:=18446744073709551616) (by omega) y;have e:18446744073709551616 ^(digs 18446744073709551616 x).length≤18446744073709551616^j:=qE (by omega) a;have f:18446744073709551616 ^(digs 18446744073709551616 y).length≤18446744073709551616^k:=qE (by omega) b;refine qR (by omega) ?_;rw[qQ];exact Nat.mul_lt_mul'' (by omega) (by omega)
theorem yg {M:Nat}(h:0<M):0<qD M:=by
 rcases za (qD M)with a|a
 · have:=uG (x:=M) (k:=0) (by omega);omega
 · exact a
theorem zCe (A A':Option Addr)(c c':Nat)(a b:List Nat)(X M:Nat)(w:World)(h:RU w A c a)(o:RU w A' c' b)(u:val 18446744073709551616 a=X)(m:val 18446744073709551616 b=M)(D:a.length<90000)(E:b.length<90000) :
   Calls Tryz.prog 88 #[.slice A a.length c,.slice A' b.length c'] w fun e w'=>Below w.heap.size w w' ∧
     ((¬ (0 < M ∧ qD X ≤ 4096 ∧ qD M ≤ 4096) ∧ e = .returned (.tuple #[.slice none 0 0, .bool false])) ∨
      (0<M∧qD X≤4096∧qD M≤4096∧∃ i c1,e=.returned (.tuple #[.slice i (digs 18446744073709551616 (X%M)).length c1,.bool true])∧OB w' w.heap.size i c1 (digs 18446744073709551616 (X%M)))):=by
 have f:=vO _ A' c' b w o;rw[m]at f;rcases za M with d|d
 · have v:qD M=0:=by rw[d];exact xk
   rw[v]at f;have j:=zF f;have n:=zF (show ¬(0<M∧qD X≤4096∧qD M≤4096) by omega);clear f v d;go_enter Tryz.func88,Tryz.ntmps88;go_wp2_with fail;refine j.out.mono ?_;rintro e w' ⟨rfl,rfl⟩;go_wp2;go_ret2;exact⟨zo _ _,.inl ⟨n.out,rfl⟩⟩
 · have F:=yg d;have x:((qD M:Int)==0)=false:=eqB (by omega);have g:=mf _ _ _ _ _ _ (RNN.two h o xJ xJ);rw[zDA u m]at g;simp only[jP,jk,jL,Nat.reduceAdd]at g;have l:Below w.heap.size w (w.alloc (.cells #[.slice A a.length c,.slice A' b.length c'] 24)):=(zo _ w).alloc (zG _) _;obtain⟨ok,p⟩:=eV ((decide (qD X≤4096)&&decide (qD M≤4096)));rw[p]at g;have j:=zF f;have s:=zF g;have k:=zF p;have r:=zF d;clear f g p F;cases ok
   · have n:=zF (show ¬(0<M∧qD X≤4096∧qD M≤4096)from fun h=>by have:=k.out;simp[h.2.1,h.2.2]at this);clear k;go_enter Tryz.func88,Tryz.ntmps88;go_wp2_with fail;refine j.out.mono ?_;rintro e w' ⟨rfl,rfl⟩;go_wp2_with fail;refine s.out.mono ?_;rintro e w' ⟨rfl,rfl⟩;go_wp2;go_ret2;exact⟨l,.inl ⟨n.out,rfl⟩⟩
   · have y:qD X≤4096∧qD M≤4096:=by have:=k.out;simpa using this
     have t:=zF y;clear k y;have G:(w.alloc (.cells #[.slice A a.length c,.slice A' b.length c'] 24)).heap.size=w.heap.size+1:=by simp
     have q:=gR _ _ A A' c c' a b (w.alloc (.cells #[.slice A a.length c,.slice A' b.length c'] 24)) (h.up l) (o.up l) xJ xJ D E (by rw[m];exact d);rw[u,m,G]at q;have z:=zF q;clear q x;have x:((qD M:Int)==0)=false:=eqB (by have:=yg r.out;omega);clear d;go_enter Tryz.func88,Tryz.ntmps88;go_wp2_with fail;refine j.out.mono ?_;rintro e w' ⟨rfl,rfl⟩;go_wp2_with fail;refine s.out.mono ?_;rintro e w' ⟨rfl,rfl⟩;go_wp2_with fail;refine z.out.mono ?_;rintro e w' ⟨i,c1,rfl,C,B⟩;go_wp2;go_ret2;exact⟨l.trans (B.mono (by omega)),.inr ⟨r.out,t.out.1,t.out.2,i,c1,rfl,C.mono (by omega)⟩⟩
theorem zA1 (A A' j:Option Addr)(c c' k:Nat)(a d b:List Nat)(X Y M:Nat)(w:World)(h:RU w A c a)(y:RU w j k d)(u:RU w A' c' b)(v:val 18446744073709551616 a=X)(x:val 18446744073709551616 d=Y)(q:val 18446744073709551616 b=M)(ab:a.length<40000)(ad:d.length<40000)(ac:b.length<40000) :
   Calls Tryz.prog 87 #[.slice A a.length c,.slice j d.length k,.slice A' b.length c'] w fun e w'=>Below w.heap.size w w' ∧
     ((¬ (0 < M ∧ qD X ≤ 4096 ∧ qD Y ≤ 4096 ∧ qD M ≤ 4096) ∧ e = .returned (.tuple #[.slice none 0 0, .bool false])) ∨
      (0<M∧qD X≤4096∧qD Y≤4096∧qD M≤4096∧∃ f c1,e=.returned (.tuple #[.slice f (digs 18446744073709551616 (X*Y%M)).length c1,.bool true])∧OB w' w.heap.size f c1 (digs 18446744073709551616 (X*Y%M)))):=by
 have i:=vO _ A' c' b w u;rw[q]at i;rcases za M with g|g
 · have G:qD M=0:=by rw[g];exact xk
   rw[G]at i;have m:=zF i;have s:=zF (show ¬(0<M∧qD X≤4096∧qD Y≤4096∧qD M≤4096) by omega);clear i G g;go_enter Tryz.func87,Tryz.ntmps87;go_wp2_with fail;refine m.out.mono ?_;rintro e w' ⟨rfl,rfl⟩;go_wp2;go_ret2;exact⟨zo _ _,.inl ⟨s.out,rfl⟩⟩
 · have l:=mf _ _ _ _ _ _ (RNN.three h y u xJ xJ xJ);rw[ti v x q]at l;simp only[jP,jk,jL,Nat.reduceAdd]at l;have o:Below w.heap.size w (w.alloc (.cells #[.slice A a.length c,.slice j d.length k,.slice A' b.length c'] 24)):=(zo _ w).alloc (zG _) _;obtain⟨ok,C⟩:=eV ((decide (qD X≤4096)&&decide (qD Y≤4096)&&decide (qD M≤4096)));rw[C]at l;have m:=zF i;have E:=zF l;have n:=zF C;have r:=zF g;clear i l C;cases ok
   · have s:=zF (show ¬(0<M∧qD X≤4096∧qD Y≤4096∧qD M≤4096)from fun h=>by have:=n.out;simp[h.2.1,h.2.2.1,h.2.2.2]at this);have Z:((qD M:Int)==0)=false:=eqB (by have:=yg r.out;omega);clear n g;go_enter Tryz.func87,Tryz.ntmps87;go_wp2_with fail;refine m.out.mono ?_;rintro e w' ⟨rfl,rfl⟩;go_wp2_with fail;refine E.out.mono ?_;rintro e w' ⟨rfl,rfl⟩;go_wp2;go_ret2;exact⟨o,.inl ⟨s.out,rfl⟩⟩
   · have H:(qD X≤4096∧qD Y≤4096)∧qD M≤4096:=by have:=n.out;simpa using this
     have t:=zF H;clear n H;have aa:(w.alloc (.cells #[.slice A a.length c,.slice j d.length k,.slice A' b.length c'] 24)).heap.size=w.heap.size+1:=by simp
     have z:=me _ _ A j c k a d _ (h.up o) (y.up o) xJ xJ (by omega) (by omega);rw[v,x,aa]at z;have J:=zF z;have F:(digs 18446744073709551616 (X*Y)).length<90000:=by
       have O:=jD (B:=18446744073709551616) (by omega) h.2.1;have P:=jD (B:=18446744073709551616) (by omega) y.2.1;rw[v]at O;rw[x]at P;have h3:=tX (zG (digs 18446744073709551616 X).length) (zG (digs 18446744073709551616 Y).length);omega
     have D:=fun(V:World) (W:Below w.heap.size w V) f c1 (S:RU V f c1 (digs 18446744073709551616 (X*Y)))=>gR _ _ f A' c1 c' (digs 18446744073709551616 (X*Y)) b V S (u.up W) xJ xJ F (by omega) (by rw[q];exact g);simp only[q,zi (show 2≤18446744073709551616 by omega)]at D;have L:=zF D;have Z:((qD M:Int)==0)=false:=eqB (by have:=yg r.out;omega);clear z D g F;go_enter Tryz.func87,Tryz.ntmps87;go_wp2_with fail;refine m.out.mono ?_;rintro e w' ⟨rfl,rfl⟩;go_wp2_with fail;refine E.out.mono ?_;rintro e w' ⟨rfl,rfl⟩;go_wp2_with fail;refine J.out.mono ?_;rintro e w1 ⟨f,c1,rfl,T,Q⟩;have p:=o.trans (Q.mono (by omega));have K:=zF (L.out w1 p f c1 T.ru);go_wp2_with fail;refine K.out.mono ?_;rintro e w2 ⟨I,N,rfl,U,R⟩;go_wp2;go_ret2;exact⟨p.trans (R.mono p.size),.inr ⟨r.out,t.out.1.1,t.out.1.2,t.out.2,I,N,rfl,U.mono p.size⟩⟩
end Go.Proofs.YtaemogcomplhiaaGreatDoor
namespace Go.Proofs.YtaemogcomplhiaaGreatDoor.Ec
open Go.RowKit Go.Shelf
open Sha
attribute [local go_sem] Oper.semAt_some
abbrev ks (C:Crv):Nat:=val 18446744073709551616 C.nl
theorem bu {c:Int}{C:Crv}(h:IsC c C):2<ks C∧0<qD (ks C-1)∧qD (ks C-1)≤384∧C.nl.length≤6∧qD (ks C)≤384∧ks C<256^C.size:=by
 rcases h with⟨_,rfl⟩|⟨_,rfl⟩
 · have a:qD (ks vH-1)=256:=gc (k:=255) (by decide +kernel) (by decide +kernel);have b:qD (ks vH)=256:=gc (k:=255) (by decide +kernel) (by decide +kernel);exact⟨by decide +kernel,by omega,by omega,by decide,by omega,by decide +kernel⟩
 · have a:qD (ks tf-1)=384:=gc (k:=383) (by decide +kernel) (by decide +kernel);have b:qD (ks tf)=384:=gc (k:=383) (by decide +kernel) (by decide +kernel);exact⟨by decide +kernel,by omega,by omega,by decide,by omega,by decide +kernel⟩
def cK (C:Crv):Nat:=(qD (ks C-1)+71)/8
def yR (C:Crv) (k v:List Nat):Nat:=kO ((kQ k v ((cK C+31)/32)).take (cK C))%(ks C-1)+1
def bh (C:Crv) (k v:List Nat):List Nat×List Nat:=xX k (dvs k v ((cK C+31)/32)) []
theorem ap {c:Int}{C:Crv}(h:IsC c C)(k v:List Nat):vX C (yR C k v)=true:=by
 have b:=(bu h).1;have a:yR C k v<ks C:=by
  unfold yR;have:=qP (kO ((kQ k v ((cK C+31)/32)).take (cK C))) (show ks C-1>0 by omega);omega
 unfold vX;rw[qm (show 0<yR C k v by unfold yR;omega),qm a];rfl
theorem zBT:digs 18446744073709551616 1=[1]:=by rw[jq (by omega) (by omega),show 1/18446744073709551616=0 from rfl,qW]
theorem uJ {x k:Nat}(h:qD x≤64*k):(digs 18446744073709551616 x).length≤k:=by
 by_cases h0:x=0
 · subst h0;rw[qW];simp
 · refine qR (by omega) (zH (wJ h0).2.1 ?_);rw[show(18446744073709551616:Nat)=2^64 from rfl,←vW];exact qE (by omega) h
theorem nx {c:Int}{C:Crv}(u:IsC c C){b:Nat}{k v:List Nat}{num:Int}(w:World)(R:KW w)(y:DR w b k v num)(T:0≤num)(U:num<1000000000) :
 Calls Tryz.prog 31 #[.int .i64 c,.pointer (some ⟨b,0,none⟩)] w fun e w'=>∃ A c,e=.returned (.slice A (digs 18446744073709551616 (yR C k v)).length c)∧OB w' w.heap.size A c (digs 18446744073709551616 (yR C k v))∧DR w' b (bh C k v).1 (bh C k v).2 (num+1)∧Fr b w.heap.size w w':=by
 obtain⟨n1,X,Y,Z,n5,n6⟩:=bu u
 have Q:=y.lt
 have K:=zF (fv u w)
 have HK:=zF R
 have HD:=zF y
 have HL:=zF Z
 have d:=zF (And.intro n1 (And.intro X Y))
 have HB:=zF Q
 have L:=zF (And.intro T U)
 clear R y n1 X Y Z n5 n6 Q T U u
 go_enter Tryz.func31,Tryz.ntmps31
 go_wp2_with fail
 refine K.out.mono ?_
 rintro e w1 ⟨A1,c1,rfl,r1,B⟩
 have M:=zF r1
 have J:=zF B
 have D:=zF (fP 1 w1 (by omega))
 clear r1 B K
 go_wp2_with fail
 refine D.out.mono ?_
 rintro e w2 ⟨A2,c2,rfl,o2,j⟩
 have s:=mO _ _ A1 A2 c1 c2 C.nl (digs 18446744073709551616 1) w2 (zN M.out j) o2.ru (fun _ h=>h) (fun _ h=>h) (by have:=HL.out;omega) (by rw[zi (by omega)];exact zK (by decide:1≤3) d.out.1)
 rw[zi (by omega)]at s
 have E:=zF s
 have n:=zF (jb J.out j)
 clear s o2 j D J M
 go_wp2_with fail
 refine E.out.mono ?_
 rintro e w3 ⟨A3,c3,rfl,o3,z⟩
 have g:=zF (jb n.out z)
 have P:=pi (q:=qD (ks C-1)) (a:=digs 18446744073709551616 (ks C-1)) w3 (HK.out.ext g.out) (HD.out.ext g.out) o3.rn (fun _ h=>h.2) (fun h=>by have:=h.1;have:=n.out.bsize;have:=HB.out;omega) (by have:=uJ (x:=ks C-1) (k:=6) d.out.2.2;omega) (by rw[zi (by omega)]) d.out.2.1 (by have:=d.out.2.2;omega) (by rw[zi (by omega)];have:=d.out.1;omega) L.out.1 L.out.2
 have F:=zF P
 clear o3 z P E n
 go_wp2_with fail
 refine F.out.mono ?_
 rintro e w4 ⟨A4,c4,r,m,S,i,rfl,o4,N,O⟩
 rw[zi (by omega)]at i
 have W:(digs 18446744073709551616 r).length≤6:=zK (jO (by omega) (kA (by rw[i];exact qP _ (by have:=d.out.1;omega)))) (uJ (x:=ks C-1) (k:=6) d.out.2.2)
 have ad:=zF W
 have ae:m=cK C:=S
 subst ae
 have V:r+1=yR C k v:=by rw[i];rfl
 have HR:=zF V
 have I:=zF N
 have o:=zF ((jc (b:=b) g.out (zG _)).trans (O.mono g.out.bsize))
 have O4:=zF o4
 have G:=zF (fP 1 w4 (by omega))
 clear S i V W N O o4 F
 go_wp2_with fail
 refine G.out.mono ?_
 rintro e w5 ⟨A5,c5,rfl,o5,f⟩
 have t:=nD _ _ A4 A5 c4 c5 (digs 18446744073709551616 r) (digs 18446744073709551616 1) w5 (zN O4.out.ru f) o5.ru (fun _ h=>h) (fun _ h=>h) (by have:=ad.out;omega) (by rw[zBT];simp)
 rw[zi (by omega),zi (by omega),HR.out]at t
 have H:=zF t
 have aa:=zF (I.out.ext f)
 have p:=zF (o.out.trans (jc (b:=b) f o.out.size))
 clear o5 f t G I o
 go_wp2_with fail
 refine H.out.mono ?_
 rintro e w6 ⟨A6,c6,rfl,o6,l⟩
 have ab:=zF (aa.out.ext l)
 have ac:=zF (p.out.trans (jc (b:=b) l p.out.size))
 have O6:=zF o6
 clear o6 l H
 go_wp2
 go_ret
 exact⟨A6,c6,rfl,O6.out.mono p.out.size,ab.out,ac.out⟩
theorem dV {c:Int}{C:Crv}(f:IsC c C){A B:Option Addr}{d cb x y:Nat}(w:World)(m:RU w A d (digs 18446744073709551616 x))(n:RU w B cb (digs 18446744073709551616 y))(o:qD x≤4000)(p:qD y≤4000) :
 Calls Tryz.prog 55 #[.int .i64 c,.slice A (digs 18446744073709551616 x).length d,.slice B (digs 18446744073709551616 y).length cb] w fun e w'=>∃ A c,e=.returned (.slice A (digs 18446744073709551616 (x*y%ks C)).length c)∧RU w' A c (digs 18446744073709551616 (x*y%ks C))∧Ext w w':=by
 obtain⟨n1,G,H,q,r,I⟩:=bu f
 have j:=zF (fv f w)
 have v:=zF m
 have HB:=zF n
 have b:=zF (And.intro n1 (And.intro q r))
 have l:=zF (And.intro o p)
 have i:=zF (And.intro (show(digs 18446744073709551616 x).length<40000 by have:=uJ (x:=x) (k:=63) (by omega);omega) (show(digs 18446744073709551616 y).length<40000 by have:=uJ (x:=y) (k:=63) (by omega);omega))
 clear m n n1 G H q r I o p f
 go_enter Tryz.func55,Tryz.ntmps55
 go_wp2_with fail
 refine j.out.mono ?_
 rintro e J ⟨t,c1,rfl,s,a⟩
 have h:=zF (zA1 A t B d c1 cb _ _ C.nl x y (ks C) J (zN v.out a) (zN HB.out a) s (zi (by omega) x) (zi (by omega) y) rfl i.out.1 i.out.2 (by have:=b.out.2.1;omega))
 have z:=zF a
 clear s a j
 go_wp2_with fail
 refine h.out.mono ?_
 rintro e w2 ⟨g,⟨F,_⟩|⟨_,_,_,_,u,E,rfl,o2⟩⟩
 · exact absurd ⟨by have:=b.out.1;omega,by have:=l.out.1;omega,by have:=l.out.2;omega,by have:=b.out.2.2;omega⟩ F
 have O2:=zF o2
 have D:=zF (jb z.out g)
 clear o2 g h
 go_wp2
 go_ret
 exact⟨u,E,rfl,O2.out.ru,D.out⟩
theorem dA {c:Int}{C:Crv}(d:IsC c C){P:Nat→Prop}{ad:Addr}{cap n:Nat}{bs:List Nat}(w:World)(h:RB w P (some ad) cap bs)(q:∀ b,P b→b<w.heap.size)(i:bs.length=n)(g:n≤C.size)(G:0<n) :
 Calls Tryz.prog 56 #[.int .i64 c,.slice (some ad) n cap] w fun e w'=>∃ A c,e=.returned (.slice A (digs 18446744073709551616 (kO bs)).length c)∧OB w' w.heap.size A c (digs 18446744073709551616 (kO bs))∧Ext w w':=by
 obtain⟨D,E,t⟩:=h.cap
 rw[i]at D t
 have j:=d.fine.small
 obtain⟨s,r⟩:=eV C.size
 have HS:=zF (bU d w)
 rw[r]at HS g j
 have HB:=zF h
 have p:=zF q
 have o:=zF i
 have K:min (n:Int) (s:Int)=n:=by omega
 have J:¬(s:Int)<n:=by omega
 have I:(n:Int)≤(s:Int):=by omega
 have H:(n:Int)≤cap:=by omega
 have L:(0:Int)≤n:=by omega
 have y:=zF j
 have x:=zF g
 clear h q i j r E t g d
 go_enter Tryz.func56,Tryz.ntmps56
 go_wp2_with fail
 refine HS.out.mono ?_
 rintro e F ⟨rfl,a⟩
 have f:=xr P (some ad) cap bs F (HB.out.below a p.out) (fun b B=>zH (p.out b B) a.bsize) (by rw[o.out];have:=y.out;have:=x.out;omega)
 rw[o.out]at f
 have m:=zF f
 have l:=zF a
 clear f a HS
 go_wp2_with fail
 refine m.out.mono ?_
 rintro e w2 ⟨u,z,rfl,o2,k⟩
 have O2:=zF o2
 have v:=zF (jb l.out k)
 clear o2 k m
 go_wp2
 go_ret
 exact⟨u,z,rfl,O2.out.mono l.out.bsize,v.out⟩
theorem zBM {c:Int}{C:Crv}(g:IsC c C){A:Option Addr}{d x y:Nat}(w:World)(m:RU w A d (digs 18446744073709551616 x))(n:qD x≤4000)(o:xM x (ks C)=(digs 18446744073709551616 y,true)) :
 Calls Tryz.prog 54 #[.int .i64 c,.slice A (digs 18446744073709551616 x).length d] w fun e w'=>∃ A c,e=.returned (.slice A (digs 18446744073709551616 y).length c)∧RU w' A c (digs 18446744073709551616 y)∧Ext w w':=by
 obtain⟨n1,G,H,p,q,I⟩:=bu g
 have l:=zF (fv g w)
 have u:=zF m
 have b:=zF (And.intro n1 (And.intro p q))
 have D:=zF n
 have E:=zF o
 have B:=zF (show(digs 18446744073709551616 x).length<40000 by have:=uJ (x:=x) (k:=63) (by omega);omega)
 clear m n1 G H p q I n g o
 go_enter Tryz.func54,Tryz.ntmps54
 go_wp2_with fail
 refine l.out.mono ?_
 rintro e J ⟨s,c1,rfl,r,a⟩
 have f:=oI _ _ A s d c1 _ C.nl x (ks C) J (zN u.out a) r (fun _ h=>h) (fun _ h=>h) (zi (by omega) x) rfl (by have:=b.out.1;omega) B.out (by have:=b.out.2.1;omega) ⟨by have:=D.out;omega,by have:=b.out.2.2;omega⟩
 rw[E.out]at f
 have j:=zF f
 have v:=zF a
 clear r a l f
 go_wp2_with fail
 refine j.out.mono ?_
 rintro e w2 ⟨t,F,rfl,o2,i⟩
 have O2:=zF o2
 have z:=zF (jb v.out i)
 clear o2 i j
 go_wp2
 go_ret
 exact⟨t,F,rfl,O2.out.ru,z.out⟩
end Go.Proofs.YtaemogcomplhiaaGreatDoor.Ec
namespace Go.Proofs.YtaemogcomplhiaaGreatDoor.Ec
open Go.RowKit Go.Shelf
theorem bB {c:Int}{C:Crv}(d:IsC c C){A B:Option Addr}{a cb x y z b ly:Nat}(w:World)(f:RU w A a (digs 18446744073709551616 x))(g:RU w B cb (digs 18446744073709551616 y))(j:qD x≤4000)(k:qD y≤4000)(l:x*y%ks C=z)(h:(digs 18446744073709551616 x).length=b)(i:(digs 18446744073709551616 y).length=ly) :
 Calls Tryz.prog 55 #[.int .i64 c,.slice A b a,.slice B ly cb] w fun e w'=>∃ A c,e=.returned (.slice A (digs 18446744073709551616 z).length c)∧RU w' A c (digs 18446744073709551616 z)∧Ext w w':=by
 subst l h i
 exact dV d w f g j k
theorem add_l {A B:Option Addr}{a cb x y z b ly:Nat}(w:World)(f:RU w A a (digs 18446744073709551616 x))(g:RU w B cb (digs 18446744073709551616 y))(p:qD x≤4000)(q:qD y≤4000)(l:x+y=z)(i:(digs 18446744073709551616 x).length=b)(j:(digs 18446744073709551616 y).length=ly) :
 Calls Tryz.prog 63 #[.slice A b a,.slice B ly cb] w fun e w'=>∃ A c,e=.returned (.slice A (digs 18446744073709551616 z).length c)∧RU w' A c (digs 18446744073709551616 z)∧Ext w w':=by
 subst l i j
 have m:=uJ (x:=x) (k:=63) (by omega)
 have n:=uJ (x:=y) (k:=63) (by omega)
 have h:=nD _ _ A B a cb (digs 18446744073709551616 x) (digs 18446744073709551616 y) w f g (fun _ h=>h) (fun _ h=>h) (by omega) (by omega)
 rw[zi (by omega),zi (by omega)]at h
 refine h.mono ?_
 rintro e w' ⟨A',c',rfl,o,d⟩
 exact⟨A',c',rfl,o.ru,d⟩
theorem zBL {c:Int}{C:Crv}(d:IsC c C){A:Option Addr}{a x y b:Nat}(w:World)(f:RU w A a (digs 18446744073709551616 x))(h:qD x≤4000)(i:xM x (ks C)=(digs 18446744073709551616 y,true))(g:(digs 18446744073709551616 x).length=b) :
 Calls Tryz.prog 54 #[.int .i64 c,.slice A b a] w fun e w'=>∃ A c,e=.returned (.slice A (digs 18446744073709551616 y).length c)∧RU w' A c (digs 18446744073709551616 y)∧Ext w w':=by
 subst g
 exact zBM d w f h i
theorem sM {A:Option Addr}{b x n c:Nat}(w:World)(d:RU w A b (digs 18446744073709551616 x))(g:n≤65536)(j:qD x≤8*n)(f:(digs 18446744073709551616 x).length=c) :
 Calls Tryz.prog 60 #[.slice A c b,.int .i64 (n:Int)] w fun e w'=>∃ a,e=.returned (.tuple #[.slice a n n,.bool true])∧RB w' (fun q=>q<w'.heap.size) a n (bytesOf x n)∧Ext w w':=by
 subst f
 have h:=tg _ A b (digs 18446744073709551616 x) n w d (fun _ h=>h) g (by rw[zi (by omega)];exact j)
 rw[zi (by omega)]at h
 refine h.mono ?_
 rintro e w' ⟨a,rfl,r,B⟩
 exact⟨a,rfl,r.mono fun q i=>i.2,B⟩
theorem zEb {A:Option Addr}{a x b:Nat}(w:World)(c:RU w A a (digs 18446744073709551616 x))(d:(digs 18446744073709551616 x).length=b) :
 Calls Tryz.prog 62 #[.slice A b a] w fun e w'=>e=.returned (.int .i64 (qD x:Int))∧w=w':=by
 subst d
 have h:=vO _ A a _ w c
 rw[zi (by omega)]at h
 exact h
end Go.Proofs.YtaemogcomplhiaaGreatDoor.Ec
