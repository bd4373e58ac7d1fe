/- FmtRSA: for every key the law answers true and leaves its argument as it was. No condition. -/
import Derived.Test.YtmlbicgpehchhaaGreatQ1b4f551eda68
set_option maxRecDepth 100000
set_option maxHeartbeats 16000000
namespace Go.Proofs.YtmlbicgpehchhaaGreat.Der
open Go.RowKit Go.Shelf
attribute [local go_sem] Oper.semAt_some
theorem pD {s g B:Nat}{w w':World}(h:Bb s g w w') (h1:B≤s) (h2:B≤g):Below B w w':=⟨h.os,h.tape,h.output,h.size,fun k hk=>h.block k (by omega) (by omega)⟩
theorem xQ {W Y:World}{s:Nat}{a0 a1 a2 a3 a4:Value}{ty:TypeId}{u0 u1 u2 u3 u4:Value}(hY:((((W.setCell ⟨s,0,none⟩ u0).setCell ⟨s,1,none⟩ u1).setCell ⟨s,2,none⟩ u2).setCell ⟨s,3,none⟩ u3).setCell ⟨s,4,none⟩ u4=Y) (ha:W.heap[s]?=some (.cells #[a0,a1,a2,a3,a4] ty (0,0))) :
 (∀ b,b≠s→Y.heap[b]?=W.heap[b]?)∧Y.heap.size=W.heap.size∧Y.heap[s]?=some (.cells #[u0,u1,u2,u3,u4] ty (0,0))∧∀ B,B≤s→Below B W Y:=by
 subst hY
 refine ⟨fun b hb=>(zN _ _ _ _ hb).trans ((zN _ _ _ _ hb).trans ((zN _ _ _ _ hb).trans ((zN _ _ _ _ hb).trans (zN _ _ _ _ hb)))),by simp [World.setCell],by simpa using ft (ft (ft (ft (ft ha 0 u0) 1 u1) 2 u2) 3 u3) 4 u4,fun B hB=>?_⟩
 exact (((((zO B W).setCell (p:=⟨s,0,none⟩) hB u0).setCell (p:=⟨s,1,none⟩) hB u1).setCell (p:=⟨s,2,none⟩) hB u2).setCell (p:=⟨s,3,none⟩) hB u3).setCell (p:=⟨s,4,none⟩) hB u4
theorem zAw {W:World}{g:Nat}{ty:TypeId}{x0 x1 x2 x3 x4:Value}(h:W.heap[g]?=some (.cells #[x0,x1,x2,x3,x4] ty (0,0))) :
 W.frozen? ⟨g,0,none⟩=false∧W.frozen? ⟨g,1,none⟩=false∧W.frozen? ⟨g,2,none⟩=false∧W.frozen? ⟨g,3,none⟩=false∧W.frozen? ⟨g,4,none⟩=false :=
 ⟨zv h 0,zv h 1,zv h 2,zv h 3,zv h 4⟩
def RKn (w:World) (P:Nat→Prop) (v:Value) (n e d p q:Nat):Prop:=∃ (A0 A1 A2 A3 A4:Option Addr) (c0 c1 c2 c3 c4:Nat),v=.agg #[.slice A0 (digs 18446744073709551616 n).length c0,.slice A1 (digs 18446744073709551616 e).length c1,.slice A2 (digs 18446744073709551616 d).length c2,.slice A3 (digs 18446744073709551616 p).length c3,.slice A4 (digs 18446744073709551616 q).length c4] ∧
 RN w P A0 c0 (digs 18446744073709551616 n)∧RN w P A1 c1 (digs 18446744073709551616 e)∧RN w P A2 c2 (digs 18446744073709551616 d)∧RN w P A3 c3 (digs 18446744073709551616 p)∧RN w P A4 c4 (digs 18446744073709551616 q)
theorem RKn.keep {w w':World}{P P':Nat→Prop}{v:Value}{n e d p q:Nat}(h:RKn w P v n e d p q) (hk:∀ a:Addr,P a.block→w'.cell? a=w.cell? a) (hp:∀ b,P b→P' b):RKn w' P' v n e d p q:=by
 obtain ⟨A0,A1,A2,A3,A4,c0,c1,c2,c3,c4,rfl,h0,h1,h2,h3,h4⟩:=h;exact ⟨A0,A1,A2,A3,A4,c0,c1,c2,c3,c4,rfl,(RN.keep h0 hk).mono hp,(RN.keep h1 hk).mono hp,(RN.keep h2 hk).mono hp,(RN.keep h3 hk).mono hp,(RN.keep h4 hk).mono hp⟩
theorem RKn.rk {w:World}{P:Nat→Prop}{v:Value}{n e d p q:Nat}(h:RKn w P v n e d p q) (hP:∀ b,P b→b<w.heap.size) (hl:∀ x∈[n,e,d,p,q],(digs 18446744073709551616 x).length≤20000):RK w v n e d p q:=by
 obtain ⟨A0,A1,A2,A3,A4,c0,c1,c2,c3,c4,rfl,h0,h1,h2,h3,h4⟩:=h;exact ⟨A0,A1,A2,A3,A4,c0,c1,c2,c3,c4,_,_,_,_,_,rfl,⟨h0.ru hP,zc (by omega) _,hl _ (by simp)⟩,⟨h1.ru hP,zc (by omega) _,hl _ (by simp)⟩,⟨h2.ru hP,zc (by omega) _,hl _ (by simp)⟩,⟨h3.ru hP,zc (by omega) _,hl _ (by simp)⟩,⟨h4.ru hP,zc (by omega) _,hl _ (by simp)⟩⟩
theorem tn {bs:List Nat}(h:∀ b∈bs,b<256) (h0:bs.getD 0 0<128):zo (wO bs)≤8*bs.length - 1:=by
 cases bs with
 | nil=>exact x9 rfl
 | cons x r =>
   have hx:x<128:=h0;refine kh ?_;unfold wO;rw [List.reverse_cons,kJ];have hr:val 256 r.reverse<256 ^ r.length:=by have:=jf (B:=256) (l:=r.reverse) (fun b hb=>h b (List.mem_cons_of_mem _ (List.mem_reverse.1 hb)));rwa [List.length_reverse] at this
   have e1:val 256 [x]=x:=by simp
   rw [e1,List.length_reverse,qh,show 8*(r.length+1) - 1=7+8*r.length by omega,qI,fI];have:256 ^ r.length*x≤256 ^ r.length*127:=zi _ (by omega);rw [←fI];generalize 256 ^ r.length=y at *;omega
theorem xO {t:DN}(hb:∀ b∈kK t,b<256) (hl:(kK t).length≤65536):zo (vu t)≤524287:=by
 obtain ⟨tag,bs,kids⟩:=t;have hb':∀ b∈bs,b<256:=hb;have hl':bs.length≤65536:=hl;show zo (if tag=2∧(vI 1 (.mk tag bs kids)).isSome=true then wO bs else 0)≤_;by_cases h:tag=2∧(vI 1 (.mk tag bs kids)).isSome=true
 · rw [qK h];rcases h with ⟨rfl,hc⟩;have hp:jh 2 bs=true:=by
    cases hp:jh 2 bs
    · simp [vI,hp] at hc
    · rfl
   have h0:bs.getD 0 0<128:=by
    unfold jh at hp;simp only [qK,wN,vg] at hp;exact hp.1.2
   have:=tn hb' h0;omega
 · rw [qA h,ka];omega
theorem mB {x:Nat}(h:zo x≤524287):(digs 18446744073709551616 x).length≤20000:=by
 rcases za x with rfl | h0
 · rw [qU];exact j6 _
 · have:=dV h0;omega
theorem RD.b256 {w:World}{P:Nat→Prop}{t:DN}{v:Value}(h:RD w P t v):∀ b∈kK t,b<256:=by
 obtain ⟨tag,bs,kids⟩:=t;obtain ⟨A',c',Ak,ck,cs,_,hb,_⟩:=h.open_;exact hb.2.1
mutual
def b256:DN→Prop
 | .mk _ bs ks=>(∀ b∈bs,b<256)∧da ks
def da:List DN→Prop
 | []=>True
 | k :: ks=>b256 k∧da ks
end
mutual
theorem RD.all256 {w:World}{P:Nat→Prop} : ∀ {t:DN}{v:Value},RD w P t v→b256 t
 | .mk tag bs kids, v, h => by
   obtain ⟨A',c',Ak,ck,cs,_,hb,_,_,hd⟩:=h.open_;unfold b256;exact ⟨hb.2.1,RDs.all256 hd⟩
theorem RDs.all256 {w:World}{P:Nat→Prop} : ∀ {ks:List DN}{cs:List Value},RDs w P ks cs→da ks
 | [],_,_=>by unfold da;trivial
 | k :: ks, cs, h => by
   unfold RDs at h;obtain ⟨a,b,c,rest,_,h1,h2⟩:=h;unfold da;exact ⟨RD.all256 h1,RDs.all256 h2⟩
end
theorem mJ:∀ {ks:List DN}{i:Nat}(h:i<ks.length),da ks→b256 ks[i]
 | x :: ks,0,_,hs=>by rw [da] at hs;exact hs.1
 | x :: ks, i + 1, h, hs => by
   rw [da] at hs;exact mJ (ks:=ks) (i:=i) (by simpa using h) hs.2
theorem bf {t:DN}(h:b256 t) (i:Nat):∀ b∈kK (atT t [i]),b<256:=by
 obtain ⟨tag,bs,kids⟩:=t;rw [b256] at h;by_cases hi:i<kids.length
 · rw [mw hi,m9];have:=mJ hi h.2;cases hk:kids[i];rw [hk,b256] at this;exact this.1
 · rw [rK (by omega)];intro b hb;cases hb
def RdR (R:Option (Nat×Nat×Nat×Nat×Nat)) (e:Ending) (w':World):Prop:=match R with
 | none=>e=.returned (.tuple #[.agg #[.slice none 0 0,.slice none 0 0,.slice none 0 0,.slice none 0 0,.slice none 0 0],.bool false])
 | some (n,ee,d,p,q)=>∃ v,e=.returned (.tuple #[v,.bool true])∧RKn w' (Al w') v n ee d p q
def ni (b:List Nat):Option (Nat×Nat×Nat×Nat×Nat) :=
 let T:=jr (kK (atT (jr b) [2]))
 if gH (vu (atT T [1+0])) (vu (atT T [1+1])) (vu (atT T [1+2])) (vu (atT T [1+3])) (vu (atT T [1+4]))=some b then some (vu (atT T [1+0]),vu (atT T [1+1]),vu (atT T [1+2]),vu (atT T [1+3]),vu (atT T [1+4])) else none
theorem ng (P:Nat→Prop) (A:Option Addr) (c:Nat) (b:List Nat) (w:World) (hb:RB w P A c b) (hP:∀ q,P q→q<w.heap.size) :
   Calls Tryz.prog 25 #[.slice A b.length c] w fun e w'=>RdR (ni b) e w'∧Below w.heap.size w w':=by
 obtain ⟨W0,hW0⟩:=eW (w.alloc (.cells #[.slice none 0 0,.slice none 0 0,.slice none 0 0,.slice none 0 0,.slice none 0 0] 48));obtain ⟨s,hs⟩:=eV w.heap.size;have hq0:=zP w (.cells #[.slice none 0 0,.slice none 0 0,.slice none 0 0,.slice none 0 0,.slice none 0 0] 48);have hE:Ext w W0:=by rw [hW0];exact zb _ _
 rw [←hW0,hs] at hq0;have hz:W0.heap.size=s+1:=by rw [hW0];simp [hs]
 have HB0:=zF (fun X (hX:Below s w X)=>(show RB X (Al X) A c b from RB.al hb hX (fun q hq=>hs▸hP q hq) (hs▸hX.size)));have hB00:RB W0 (Al W0) A c b:=HB0.out W0 (hs▸hE);obtain ⟨R,hR⟩:=eV (ni b);rw [hR];unfold ni at hR;have hsm:∀ i,(kK (atT (jr (kK (atT (jr b) [2]))) [i])).length≤65536:=fun i=>ba _ [i];have HIn:=zF (ap (Al W0) A c b W0 hB00 (fun q hq=>hq));obtain ⟨T,hT⟩:=eV (jr (kK (atT (jr b) [2])));rw [hT] at HIn hR hsm;obtain ⟨N0,hN0⟩:=eV (vu (atT T [1+0]));obtain ⟨N1,hN1⟩:=eV (vu (atT T [1+1]));obtain ⟨N2,hN2⟩:=eV (vu (atT T [1+2]));obtain ⟨N3,hN3⟩:=eV (vu (atT T [1+3]));obtain ⟨N4,hN4⟩:=eV (vu (atT T [1+4]));simp only [hN0,hN1,hN2,hN3,hN4] at hR;obtain ⟨S,hS⟩:=eV (gH N0 N1 N2 N3 N4);rw [hS] at hR;have HN0:=zF hN0;have HN1:=zF hN1;have HN2:=zF hN2;have HN3:=zF hN3;have HN4:=zF hN4;have HS:=zF hS;have HR:=zF hR;have Hsm:=zF hsm;have HE:=zF hE;have Hs:=zF hs;have Hsz:=zF hz;have Hq0:=zF hq0;clear hb hP hR hS hsm hE hs hz hq0 hB00 hT hN0 hN1 hN2 hN3 hN4 ;go_enter Tryz.func25,Tryz.ntmps25;go_upto_region 1 with fail;rw [←hW0,Hs.out];clear hW0;go_wp2_with fail;refine HIn.out.mono ?_;rintro e w1 ⟨⟨v1,v2,rfl,hd1,hd2⟩,hB1⟩;obtain ⟨x1,B1,n1,d1,B2,n2,d2,rfl⟩:=hd1.shape;obtain ⟨x2,C1,m1,e1,C2,m2,e2,rfl⟩:=hd2.shape;obtain ⟨g,hg⟩:=eV w1.heap.size;obtain ⟨hq0,hq1,hz2⟩:=aL w1 (.cells #[.int .i64 x1,.slice B1 n1 d1,.slice B2 n2 d2] 80) (.cells #[.int .i64 x2,.slice C1 m1 e1,.slice C2 m2 e2] 80);have hA1:Ext w1 ((w1.alloc (.cells #[.int .i64 x1,.slice B1 n1 d1,.slice B2 n2 d2] 80)).alloc (.cells #[.int .i64 x2,.slice C1 m1 e1,.slice C2 m2 e2] 80)):=zI (zb _ _) (zb _ _);rw [hg] at hq1 hz2;have HD2:=zF (show RD _ (fun q=>q<g) T _ from (hd2.below hA1 (fun q hq=>hq)).mono fun q hq=>hg▸hq);have H256:=zF hd2.all256;have HE1:=zF (zI hB1 hA1);have Hg:=zF hg;have Hq1:=zF hq1;have Hz2:=zF hz2;have Hsg:=zF (show s+1≤g by have h1:=hB1.size;have h2:=Hsz.out;omega);clear hd1 hd2 hB1 hA1 hg hz2 hq0 hq1 HIn;go_upto_region 2 with fail;simp only [qL,Hg.out];generalize (w1.alloc (.cells #[.int .i64 x1,.slice B1 n1 d1,.slice B2 n2 d2] 80)).alloc (.cells #[.int .i64 x2,.slice C1 m1 e1,.slice C2 m2 e2] 80)=W2 at *;obtain ⟨kb,hkb⟩:=eV W2.heap.size;have hkg:kb=g+2:=by rw [←hkb];exact Hz2.out
 have hgb:g+1<kb:=by omega
 have hq1:=Hq1.out;go_upto_region 3 with fail;try rw [hkb]
 try rw [←hkg]
 have hAk:=zb W2 (.cells #[.slice none 0 0,.slice none 0 0,.slice none 0 0,.slice none 0 0,.slice none 0 0] 48);have hqk:=zP W2 (.cells #[.slice none 0 0,.slice none 0 0,.slice none 0 0,.slice none 0 0,.slice none 0 0] 48);have hz3:(W2.alloc (.cells #[.slice none 0 0,.slice none 0 0,.slice none 0 0,.slice none 0 0,.slice none 0 0] 48)).heap.size=kb+1:=by simp [hkb]
 rw [hkb] at hqk;have hq1:=jQ hAk hq1;have HD3:=zF (HD2.out.below hAk (fun q hq=>by have:q<g:=hq;omega));replace HE1:=zF (zI HE1.out hAk);generalize W2.alloc (.cells #[.slice none 0 0,.slice none 0 0,.slice none 0 0,.slice none 0 0,.slice none 0 0] 48)=W3 at *;have hAp:=zb W3 (.cells #[.pointer (some ⟨kb,0,none⟩),.pointer (some ⟨kb,1,none⟩),.pointer (some ⟨kb,2,none⟩),.pointer (some ⟨kb,3,none⟩),.pointer (some ⟨kb,4,none⟩)] 124);have hrow:RS (W3.alloc (.cells #[.pointer (some ⟨kb,0,none⟩),.pointer (some ⟨kb,1,none⟩),.pointer (some ⟨kb,2,none⟩),.pointer (some ⟨kb,3,none⟩),.pointer (some ⟨kb,4,none⟩)] 124)) (An kb (W3.alloc (.cells #[.pointer (some ⟨kb,0,none⟩),.pointer (some ⟨kb,1,none⟩),.pointer (some ⟨kb,2,none⟩),.pointer (some ⟨kb,3,none⟩),.pointer (some ⟨kb,4,none⟩)] 124))) 1 (some ⟨W3.heap.size,0,none⟩) 5 5 (sf kb 5):=jM (w:=W3) (P:=An kb (W3.alloc (.cells #[.pointer (some ⟨kb,0,none⟩),.pointer (some ⟨kb,1,none⟩),.pointer (some ⟨kb,2,none⟩),.pointer (some ⟨kb,3,none⟩),.pointer (some ⟨kb,4,none⟩)] 124))) #[.pointer (some ⟨kb,0,none⟩),.pointer (some ⟨kb,1,none⟩),.pointer (some ⟨kb,2,none⟩),.pointer (some ⟨kb,3,none⟩),.pointer (some ⟨kb,4,none⟩)] 124 1 5 rfl (by unfold maxLen;omega) (by simp [An];omega);have hnum:=dU (fr:=1) (T:=T) (cs0:=[.slice none 0 0,.slice none 0 0,.slice none 0 0,.slice none 0 0,.slice none 0 0]) _ ((HD3.out.below hAp (fun q hq=>by have:q<g:=hq;omega)).mono (fun q hq=>⟨by have:q<g:=hq;omega,by have:q<g:=hq;simp;omega⟩)) Hsm.out hrow (jQ hAp hqk) (by simp) (by omega);have cf:((1:Nat):Int)=1:=rfl;rw [cf] at hnum;have HNu:=zF hnum;have HAp:=zF hAp;have Hkb:=zF (show s+1≤kb by have:=Hsg.out;omega);have Hz3:=zF hz3;obtain ⟨z0,z1,z2,f0,f1,f2⟩:=jn hq1;clear hAk hqk hz3 hAp hrow hnum cf hkb hkg hgb hq1 HD2 HD3 Hq1 Hz2;go_wp2_with fail;refine HNu.out.mono ?_;rintro e w5 ⟨⟨u5,rfl⟩,vs,hl,hk5,hn5,hB5⟩;clear z0 z1 z2 f0 f1 f2 HNu;have hsz:s+1≤(W3.alloc (.cells #[.pointer (some ⟨kb,0,none⟩),.pointer (some ⟨kb,1,none⟩),.pointer (some ⟨kb,2,none⟩),.pointer (some ⟨kb,3,none⟩),.pointer (some ⟨kb,4,none⟩)] 124)).heap.size:=by have:=Hz3.out;have:=Hkb.out;simp;omega
 have hall:Below (s+1) W0 w5:=by
   have h1:Below (s+1) W0 (W3.alloc (.cells #[.pointer (some ⟨kb,0,none⟩),.pointer (some ⟨kb,1,none⟩),.pointer (some ⟨kb,2,none⟩),.pointer (some ⟨kb,3,none⟩),.pointer (some ⟨kb,4,none⟩)] 124)):=by have:=zI HE1.out HAp.out;unfold Ext at this;rwa [Hsz.out] at this
   exact h1.trans (pD hB5 hsz Hkb.out)
 have hBw:Below s w w5:=by have h1:=HE.out;unfold Ext at h1;rw [Hs.out] at h1;exact h1.trans (hall.mono (by omega))
 obtain ⟨a0,a1,a2,a3,a4,rfl⟩:∃ a0 a1 a2 a3 a4,vs=[a0,a1,a2,a3,a4]:=by
   match vs,hl with
   | [a0,a1,a2,a3,a4],_=>exact ⟨a0,a1,a2,a3,a4,rfl⟩
 obtain ⟨A10,c10,rfl,hr0⟩:=hn5 0 _ rfl;obtain ⟨A11,c11,rfl,hr1⟩:=hn5 1 _ rfl;obtain ⟨A12,c12,rfl,hr2⟩:=hn5 2 _ rfl;obtain ⟨A13,c13,rfl,hr3⟩:=hn5 3 _ rfl;obtain ⟨A14,c14,rfl,hr4⟩:=hn5 4 _ rfl;simp only [HN0.out,HN1.out,HN2.out,HN3.out,HN4.out] at hk5 hr0 hr1 hr2 hr3 hr4;have hb0:zo N0≤524287:=by rw [←HN0.out];exact xO (bf H256.out _) (Hsm.out _)
 have hb1:zo N1≤524287:=by rw [←HN1.out];exact xO (bf H256.out _) (Hsm.out _)
 have hb2:zo N2≤524287:=by rw [←HN2.out];exact xO (bf H256.out _) (Hsm.out _)
 have hb3:zo N3≤524287:=by rw [←HN3.out];exact xO (bf H256.out _) (Hsm.out _)
 have hb4:zo N4≤524287:=by rw [←HN4.out];exact xO (bf H256.out _) (Hsm.out _)
 obtain ⟨l0,hl0⟩:=eV ((digs 18446744073709551616 N0).length);obtain ⟨l1,hl1⟩:=eV ((digs 18446744073709551616 N1).length);obtain ⟨l2,hl2⟩:=eV ((digs 18446744073709551616 N2).length);obtain ⟨l3,hl3⟩:=eV ((digs 18446744073709551616 N3).length);obtain ⟨l4,hl4⟩:=eV ((digs 18446744073709551616 N4).length);have hk5':w5.heap[kb]?=some (.cells #[.slice A10 l0 c10,.slice A11 l1 c11,.slice A12 l2 c12,.slice A13 l3 c13,.slice A14 l4 c14] 48 (0,0)):=by
   rw [hk5];simp only [hl0,hl1,hl2,hl3,hl4,List.drop,kN,kI]
 have hrk:RKn w5 (fun q=>s<q∧q<w5.heap.size) (.agg #[.slice A10 l0 c10,.slice A11 l1 c11,.slice A12 l2 c12,.slice A13 l3 c13,.slice A14 l4 c14]) N0 N1 N2 N3 N4:=RKn.keep (P:=In (W3.alloc (.cells #[.pointer (some ⟨kb,0,none⟩),.pointer (some ⟨kb,1,none⟩),.pointer (some ⟨kb,2,none⟩),.pointer (some ⟨kb,3,none⟩),.pointer (some ⟨kb,4,none⟩)] 124)).heap.size w5.heap.size) ⟨A10,A11,A12,A13,A14,c10,c11,c12,c13,c14,by rw [hl0,hl1,hl2,hl3,hl4],hr0,hr1,hr2,hr3,hr4⟩ (fun a ha=>rfl) (fun q hq=>⟨by have:=hq.1;omega,hq.2⟩);have hlen:∀ x∈[N0,N1,N2,N3,N4],(digs 18446744073709551616 x).length≤20000:=by
   intro x hx;simp only [ya,xT,or_false] at hx;rcases hx with rfl | rfl | rfl | rfl | rfl;all_goals exact mB (by first | assumption | (rw [ka];omega))
 have hcall:=oP w5 (hrk.rk (fun q hq=>hq.2) hlen);rw [HS.out] at hcall;have HCa:=zF hcall;have HRk:=zF hrk;have Hall:=zF hall;have HBw:=zF hBw;obtain ⟨y0,y1,y2,y3,y4⟩:=jO hk5';have Hk5:=zF hk5';clear hl hn5 hB5 hsz hall hBw hk5 hk5' hrk hlen hcall hr0 hr1 hr2 hr3 hr4 hb0 hb1 hb2 hb3 hb4 hl0 hl1 hl2 hl3 hl4 HE1 HAp Hz3;go_upto_region 4 with fail;go_wp2_with fail;refine HCa.out.mono ?_;rintro e w6 ⟨⟨A6,c6,rfl,hr6⟩,hB6⟩;have HRk6:=zF (HRk.out.keep (P':=fun q=>s<q∧q<w6.heap.size) (fun a ha=>Below.cell hB6 ha.2) (fun q hq=>⟨hq.1,zR hq.2 hB6.size⟩));have hs6:s+1≤w5.heap.size:=by have:=Hall.out.size;have:=Hsz.out;omega
 have Hall6:=zF (Hall.out.trans (hB6.mono hs6));have HBw6:=zF (HBw.out.trans (hB6.mono (by omega)));have hqs:=(Hall6.out.block s (by omega)).trans Hq0.out;have hqk:=jQ hB6 Hk5.out;have Hr6:=zF hr6;have Hqs:=zF hqs;clear hr6 hB6 hs6 y0 y1 y2 y3 y4 HCa HRk Hall HBw Hk5;obtain ⟨p0,p1,p2,p3,p4⟩:=jO hqs;obtain ⟨o0,o1,o2,o3,o4⟩:=zAw hqs;obtain ⟨y0,y1,y2,y3,y4⟩:=jO hqk;clear hqs hqk;cases S with
 | none =>
   have hR:none=R:=by rw [←HR.out];rfl
   subst hR;have h1:(none:Option (List Nat)).isSome=false:=rfl;rw [h1];clear Hr6;go_wp2;generalize hY:((((w6.setCell ⟨s,0,none⟩ (.slice none 0 0)).setCell ⟨s,1,none⟩ (.slice none 0 0)).setCell ⟨s,2,none⟩ (.slice none 0 0)).setCell ⟨s,3,none⟩ (.slice none 0 0)).setCell ⟨s,4,none⟩ (.slice none 0 0)=Y;obtain ⟨k1,k2,k3,k4⟩:=xQ hY Hqs.out;obtain ⟨i0,i1,i2,i3,i4⟩:=jO k3;try rw [jE]
   refine qS (v:=.tuple #[.agg #[.slice none 0 0,.slice none 0 0,.slice none 0 0,.slice none 0 0,.slice none 0 0],.bool false]) (by simp [results,Tryz.results25,go_sem,i0,i1,i2,i3,i4]) rfl ⟨rfl,?_⟩;rw [Hs.out];exact HBw6.out.trans (k4 s (zH _))
 | some k =>
   have h1:(some k).isSome=true:=rfl;have h2:(some k).getD []=k:=rfl;rw [h1,h2];have HEq:=zF (yq (Al w6) (Al w6) A6 A c6 c k b w6 Hr6.out (HB0.out w6 HBw6.out));clear h1 h2;by_cases hkb:k=b
   · have hR:some (N0,N1,N2,N3,N4)=R:=by rw [←HR.out,qK (by rw [hkb])]
     subst hR;rw [qX hkb] at HEq;clear hkb;go_upto_region 5 with fail;go_wp2_with fail;refine HEq.out.mono ?_;rintro e w10 ⟨rfl,rfl⟩;go_wp2;generalize hY:((((w6.setCell ⟨s,0,none⟩ (.slice A10 l0 c10)).setCell ⟨s,1,none⟩ (.slice A11 l1 c11)).setCell ⟨s,2,none⟩ (.slice A12 l2 c12)).setCell ⟨s,3,none⟩ (.slice A13 l3 c13)).setCell ⟨s,4,none⟩ (.slice A14 l4 c14)=Y;obtain ⟨k1,k2,k3,k4⟩:=xQ hY Hqs.out;obtain ⟨i0,i1,i2,i3,i4⟩:=jO k3;try rw [jE]
     refine qS (v:=.tuple #[.agg #[.slice A10 l0 c10,.slice A11 l1 c11,.slice A12 l2 c12,.slice A13 l3 c13,.slice A14 l4 c14],.bool true]) (by simp [results,Tryz.results25,go_sem,i0,i1,i2,i3,i4]) rfl ⟨⟨_,rfl,?_⟩,?_⟩
     · exact HRk6.out.keep (fun a ha=>zT (k1 _ (by have:=ha.1;omega))) (fun q hq=>by unfold Al;rw [k2];exact hq.2)
     · rw [Hs.out];exact HBw6.out.trans (k4 s (zH _))
   · have hR:none=R:=by rw [←HR.out,qA (fun h=>hkb (by injection h))]
     subst hR;rw [qb hkb] at HEq;clear hkb;go_upto_region 5 with fail;go_wp2_with fail;refine HEq.out.mono ?_;rintro e w10 ⟨rfl,rfl⟩;go_wp2;generalize hY:((((w6.setCell ⟨s,0,none⟩ (.slice none 0 0)).setCell ⟨s,1,none⟩ (.slice none 0 0)).setCell ⟨s,2,none⟩ (.slice none 0 0)).setCell ⟨s,3,none⟩ (.slice none 0 0)).setCell ⟨s,4,none⟩ (.slice none 0 0)=Y;obtain ⟨k1,k2,k3,k4⟩:=xQ hY Hqs.out;obtain ⟨i0,i1,i2,i3,i4⟩:=jO k3;try rw [jE]
     refine qS (v:=.tuple #[.agg #[.slice none 0 0,.slice none 0 0,.slice none 0 0,.slice none 0 0,.slice none 0 0],.bool false]) (by simp [results,Tryz.results25,go_sem,i0,i1,i2,i3,i4]) rfl ⟨rfl,?_⟩;rw [Hs.out];exact HBw6.out.trans (k4 s (zH _))
def zAK (b:List Nat):Option (Nat×Nat×Nat×Nat×Nat) :=
 let T:=jr (fL (jr b))
 if ui (vu (atT T [0+0])) (vu (atT T [0+1]))=some b then some (vu (atT T [0+0]),vu (atT T [0+1]),0,0,0) else none
theorem cO (P:Nat→Prop) (A:Option Addr) (c:Nat) (b:List Nat) (w:World) (hb:RB w P A c b) (hP:∀ q,P q→q<w.heap.size) :
   Calls Tryz.prog 27 #[.slice A b.length c] w fun e w'=>RdR (zAK b) e w'∧Below w.heap.size w w':=by
 obtain ⟨W0,hW0⟩:=eW (w.alloc (.cells #[.slice none 0 0,.slice none 0 0,.slice none 0 0,.slice none 0 0,.slice none 0 0] 48));obtain ⟨s,hs⟩:=eV w.heap.size;have hq0:=zP w (.cells #[.slice none 0 0,.slice none 0 0,.slice none 0 0,.slice none 0 0,.slice none 0 0] 48);have hE:Ext w W0:=by rw [hW0];exact zb _ _
 rw [←hW0,hs] at hq0;have hz:W0.heap.size=s+1:=by rw [hW0];simp [hs]
 have HB0:=zF (fun X (hX:Below s w X)=>(show RB X (Al X) A c b from RB.al hb hX (fun q hq=>hs▸hP q hq) (hs▸hX.size)));have hB00:RB W0 (Al W0) A c b:=HB0.out W0 (hs▸hE);obtain ⟨R,hR⟩:=eV (zAK b);rw [hR];unfold zAK at hR;have hsm:∀ i,(kK (atT (jr (fL (jr b))) [i])).length≤65536:=fun i=>ba _ [i];have HIn:=zF (cB (Al W0) A c b W0 hB00 (fun q hq=>hq));obtain ⟨T1,hT1⟩:=eV (jr b);obtain ⟨hh,hhh⟩:=eV (fL T1);obtain ⟨T,hT⟩:=eV (jr hh);obtain ⟨Lh,hLh⟩:=eV hh.length;simp only [hT1,hhh,hT] at HIn hR hsm;have HT:=zF hT;have HLh:=zF hLh;have Hhh:=zF hhh;obtain ⟨N0,hN0⟩:=eV (vu (atT T [0+0]));obtain ⟨N1,hN1⟩:=eV (vu (atT T [0+1]));simp only [hN0,hN1] at hR;obtain ⟨S,hS⟩:=eV (ui N0 N1);rw [hS] at hR;have HN0:=zF hN0;have HN1:=zF hN1;have HS:=zF hS;have HR:=zF hR;have Hsm:=zF hsm;have HE:=zF hE;have Hs:=zF hs;have Hsz:=zF hz;have Hq0:=zF hq0;clear hb hP hR hS hsm hE hs hz hq0 hB00 hT hN0 hN1 hT1 hhh hLh;go_enter Tryz.func27,Tryz.ntmps27;go_upto_region 1 with fail;rw [←hW0,Hs.out];clear hW0;go_wp2_with fail;refine HIn.out.mono ?_;rintro e w1 ⟨⟨v1,ok1,rfl,hd1⟩,hB1⟩;obtain ⟨x1,B1,n1,d1,B2,n2,d2,rfl⟩:=hd1.shape;obtain ⟨g0,hg0⟩:=eV w1.heap.size;have hA1:=zb w1 (.cells #[.int .i64 x1,.slice B1 n1 d1,.slice B2 n2 d2] 80);have hq1:=zP w1 (.cells #[.int .i64 x1,.slice B1 n1 d1,.slice B2 n2 d2] 80);rw [hg0] at hq1;have HD1:=zF (RD.al hd1.all hA1);have HEa:=zF (zI hB1 hA1);have Hg0:=zF hg0;have Hq1:=zF hq1;clear hd1 hB1 hA1 hg0 hq1 HIn;go_upto_region 2 with fail;rw [Hg0.out];generalize w1.alloc (.cells #[.int .i64 x1,.slice B1 n1 d1,.slice B2 n2 d2] 80)=Wa at *;have HHe:=zAs T1 _ Wa HD1.out;rw [Hhh.out,HLh.out] at HHe;have HHe:=zF HHe;obtain ⟨z0,z1,z2,f0,f1,f2⟩:=jn Hq1.out;go_wp2_with fail;refine HHe.out.mono ?_;rintro e w3 ⟨⟨A3,c3,rfl,hr3⟩,hB3⟩;have hkr:=cB (Al w3) A3 c3 hh w3 hr3 (fun q hq=>hq);rw [HT.out,HLh.out] at hkr;have HKr:=zF hkr;have HEb:=zF (zI HEa.out hB3);clear hr3 hB3 hkr HHe z0 z1 z2 f0 f1 f2 HD1 Hq1 HEa;go_wp2_with fail;refine HKr.out.mono ?_;rintro e w4 ⟨⟨v2,ok2,rfl,hd2⟩,hB4⟩;obtain ⟨x2,C1,m1,e1,C2,m2,e2,rfl⟩:=hd2.shape;obtain ⟨g,hg⟩:=eV w4.heap.size;have hA1:=zb w4 (.cells #[.int .i64 x2,.slice C1 m1 e1,.slice C2 m2 e2] 80);have hq1:=zP w4 (.cells #[.int .i64 x2,.slice C1 m1 e1,.slice C2 m2 e2] 80);have hz2:(w4.alloc (.cells #[.int .i64 x2,.slice C1 m1 e1,.slice C2 m2 e2] 80)).heap.size=g+1:=by simp [hg]
 rw [hg] at hq1;have HD2:=zF (show RD _ (fun q=>q<g) T _ from (hd2.all.below hA1 (fun q hq=>hq)).mono fun q hq=>hg▸hq);have H256:=zF hd2.all256;have HE1:=zF (zI HEb.out (zI hB4 hA1));have Hg:=zF hg;have Hq1:=zF hq1;have Hz2:=zF hz2;have Hsg:=zF (show s+1≤g by have h1:=hB4.size;have h2:=HEb.out.bsize;have h3:=Hsz.out;omega);clear hd2 hB4 hA1 hg hz2 hq1 HKr HEb;go_upto_region 3 with fail;rw [Hg.out];generalize w4.alloc (.cells #[.int .i64 x2,.slice C1 m1 e1,.slice C2 m2 e2] 80)=W2 at *;obtain ⟨kb,hkb⟩:=eV W2.heap.size;have hkg:kb=g+1:=by rw [←hkb];exact Hz2.out
 have hgb:g<kb:=by omega
 have hq1:=Hq1.out;go_upto_region 4 with fail;try rw [hkb]
 try rw [←hkg]
 have hAk:=zb W2 (.cells #[.slice none 0 0,.slice none 0 0,.slice none 0 0,.slice none 0 0,.slice none 0 0] 48);have hqk:=zP W2 (.cells #[.slice none 0 0,.slice none 0 0,.slice none 0 0,.slice none 0 0,.slice none 0 0] 48);have hz3:(W2.alloc (.cells #[.slice none 0 0,.slice none 0 0,.slice none 0 0,.slice none 0 0,.slice none 0 0] 48)).heap.size=kb+1:=by simp [hkb]
 rw [hkb] at hqk;have hq1:=jQ hAk hq1;have HD3:=zF (HD2.out.below hAk (fun q hq=>by have:q<g:=hq;omega));replace HE1:=zF (zI HE1.out hAk);generalize W2.alloc (.cells #[.slice none 0 0,.slice none 0 0,.slice none 0 0,.slice none 0 0,.slice none 0 0] 48)=W3 at *;have hAp:=zb W3 (.cells #[.pointer (some ⟨kb,0,none⟩),.pointer (some ⟨kb,1,none⟩)] 124);have hrow:RS (W3.alloc (.cells #[.pointer (some ⟨kb,0,none⟩),.pointer (some ⟨kb,1,none⟩)] 124)) (An kb (W3.alloc (.cells #[.pointer (some ⟨kb,0,none⟩),.pointer (some ⟨kb,1,none⟩)] 124))) 1 (some ⟨W3.heap.size,0,none⟩) 2 2 (sf kb 2):=jM (w:=W3) (P:=An kb (W3.alloc (.cells #[.pointer (some ⟨kb,0,none⟩),.pointer (some ⟨kb,1,none⟩)] 124))) #[.pointer (some ⟨kb,0,none⟩),.pointer (some ⟨kb,1,none⟩)] 124 1 2 rfl (by unfold maxLen;omega) (by simp [An];omega);have hnum:=dU (fr:=0) (T:=T) (cs0:=[.slice none 0 0,.slice none 0 0,.slice none 0 0,.slice none 0 0,.slice none 0 0]) _ ((HD3.out.below hAp (fun q hq=>by have:q<g:=hq;omega)).mono (fun q hq=>⟨by have:q<g:=hq;omega,by have:q<g:=hq;simp;omega⟩)) Hsm.out hrow (jQ hAp hqk) (by simp) (by omega);have cf:((0:Nat):Int)=0:=rfl;rw [cf] at hnum;have HNu:=zF hnum;have HAp:=zF hAp;have Hkb:=zF (show s+1≤kb by have:=Hsg.out;omega);have Hz3:=zF hz3;obtain ⟨z0,z1,z2,f0,f1,f2⟩:=jn hq1;clear hAk hqk hz3 hAp hrow hnum cf hkb hkg hgb hq1 HD2 HD3 Hq1 Hz2;go_wp2_with fail;refine HNu.out.mono ?_;rintro e w5 ⟨⟨u5,rfl⟩,vs,hl,hk5,hn5,hB5⟩;clear z0 z1 z2 f0 f1 f2 HNu;have hsz:s+1≤(W3.alloc (.cells #[.pointer (some ⟨kb,0,none⟩),.pointer (some ⟨kb,1,none⟩)] 124)).heap.size:=by have:=Hz3.out;have:=Hkb.out;simp;omega
 have hall:Below (s+1) W0 w5:=by
   have h1:Below (s+1) W0 (W3.alloc (.cells #[.pointer (some ⟨kb,0,none⟩),.pointer (some ⟨kb,1,none⟩)] 124)):=by have:=zI HE1.out HAp.out;unfold Ext at this;rwa [Hsz.out] at this
   exact h1.trans (pD hB5 hsz Hkb.out)
 have hBw:Below s w w5:=by have h1:=HE.out;unfold Ext at h1;rw [Hs.out] at h1;exact h1.trans (hall.mono (by omega))
 obtain ⟨a0,a1,rfl⟩:∃ a0 a1,vs=[a0,a1]:=by
   match vs,hl with
   | [a0,a1],_=>exact ⟨a0,a1,rfl⟩
 obtain ⟨A10,c10,rfl,hr0⟩:=hn5 0 _ rfl;obtain ⟨A11,c11,rfl,hr1⟩:=hn5 1 _ rfl;simp only [HN0.out,HN1.out] at hk5 hr0 hr1;have hb0:zo N0≤524287:=by rw [←HN0.out];exact xO (bf H256.out _) (Hsm.out _)
 have hb1:zo N1≤524287:=by rw [←HN1.out];exact xO (bf H256.out _) (Hsm.out _)
 obtain ⟨l0,hl0⟩:=eV ((digs 18446744073709551616 N0).length);obtain ⟨l1,hl1⟩:=eV ((digs 18446744073709551616 N1).length);have hk5':w5.heap[kb]?=some (.cells #[.slice A10 l0 c10,.slice A11 l1 c11,.slice none 0 0,.slice none 0 0,.slice none 0 0] 48 (0,0)):=by
   rw [hk5];simp only [hl0,hl1,List.drop,kN,kI]
 have hrk:RKn w5 (fun q=>s<q∧q<w5.heap.size) (.agg #[.slice A10 l0 c10,.slice A11 l1 c11,.slice none 0 0,.slice none 0 0,.slice none 0 0]) N0 N1 0 0 0:=RKn.keep (P:=In (W3.alloc (.cells #[.pointer (some ⟨kb,0,none⟩),.pointer (some ⟨kb,1,none⟩)] 124)).heap.size w5.heap.size) ⟨A10,A11,none,none,none,c10,c11,0,0,0,by rw [hl0,hl1];simp [qU],hr0,hr1,by rw [qU];exact RN.nil_ _ _,by rw [qU];exact RN.nil_ _ _,by rw [qU];exact RN.nil_ _ _⟩ (fun a ha=>rfl) (fun q hq=>⟨by have:=hq.1;omega,hq.2⟩);have hlen:∀ x∈[N0,N1,0,0,0],(digs 18446744073709551616 x).length≤20000:=by
   intro x hx;simp only [ya,xT,or_false] at hx;rcases hx with rfl | rfl | rfl | rfl | rfl;all_goals exact mB (by first | assumption | (rw [ka];omega))
 have hcall:=ah w5 (hrk.rk (fun q hq=>hq.2) hlen) hb0 hb1;rw [HS.out] at hcall;have HCa:=zF hcall;have HRk:=zF hrk;have Hall:=zF hall;have HBw:=zF hBw;obtain ⟨y0,y1,y2,y3,y4⟩:=jO hk5';have Hk5:=zF hk5';clear hl hn5 hB5 hsz hall hBw hk5 hk5' hrk hlen hcall hr0 hr1 hb0 hb1 hl0 hl1 HE1 HAp Hz3;go_upto_region 5 with fail;go_wp2_with fail;refine HCa.out.mono ?_;rintro e w6 ⟨⟨A6,c6,rfl,hr6⟩,hB6⟩;have HRk6:=zF (HRk.out.keep (P':=fun q=>s<q∧q<w6.heap.size) (fun a ha=>Below.cell hB6 ha.2) (fun q hq=>⟨hq.1,zR hq.2 hB6.size⟩));have hs6:s+1≤w5.heap.size:=by have:=Hall.out.size;have:=Hsz.out;omega
 have Hall6:=zF (Hall.out.trans (hB6.mono hs6));have HBw6:=zF (HBw.out.trans (hB6.mono (by omega)));have hqs:=(Hall6.out.block s (by omega)).trans Hq0.out;have hqk:=jQ hB6 Hk5.out;have Hr6:=zF hr6;have Hqs:=zF hqs;clear hr6 hB6 hs6 y0 y1 y2 y3 y4 HCa HRk Hall HBw Hk5;obtain ⟨p0,p1,p2,p3,p4⟩:=jO hqs;obtain ⟨o0,o1,o2,o3,o4⟩:=zAw hqs;obtain ⟨y0,y1,y2,y3,y4⟩:=jO hqk;clear hqs hqk;cases S with
 | none =>
   have hR:none=R:=by rw [←HR.out];rfl
   subst hR;have h1:(none:Option (List Nat)).isSome=false:=rfl;rw [h1];clear Hr6;go_wp2;generalize hY:((((w6.setCell ⟨s,0,none⟩ (.slice none 0 0)).setCell ⟨s,1,none⟩ (.slice none 0 0)).setCell ⟨s,2,none⟩ (.slice none 0 0)).setCell ⟨s,3,none⟩ (.slice none 0 0)).setCell ⟨s,4,none⟩ (.slice none 0 0)=Y;obtain ⟨k1,k2,k3,k4⟩:=xQ hY Hqs.out;obtain ⟨i0,i1,i2,i3,i4⟩:=jO k3;try rw [jE]
   refine qS (v:=.tuple #[.agg #[.slice none 0 0,.slice none 0 0,.slice none 0 0,.slice none 0 0,.slice none 0 0],.bool false]) (by simp [results,Tryz.results27,go_sem,i0,i1,i2,i3,i4]) rfl ⟨rfl,?_⟩;rw [Hs.out];exact HBw6.out.trans (k4 s (zH _))
 | some k =>
   have h1:(some k).isSome=true:=rfl;have h2:(some k).getD []=k:=rfl;rw [h1,h2];have HEq:=zF (yq (Al w6) (Al w6) A6 A c6 c k b w6 Hr6.out (HB0.out w6 HBw6.out));clear h1 h2;by_cases hkb:k=b
   · have hR:some (N0,N1,0,0,0)=R:=by rw [←HR.out,qK (by rw [hkb])]
     subst hR;rw [qX hkb] at HEq;clear hkb;go_upto_region 6 with fail;go_wp2_with fail;refine HEq.out.mono ?_;rintro e w10 ⟨rfl,rfl⟩;go_wp2;generalize hY:((((w6.setCell ⟨s,0,none⟩ (.slice A10 l0 c10)).setCell ⟨s,1,none⟩ (.slice A11 l1 c11)).setCell ⟨s,2,none⟩ (.slice none 0 0)).setCell ⟨s,3,none⟩ (.slice none 0 0)).setCell ⟨s,4,none⟩ (.slice none 0 0)=Y;obtain ⟨k1,k2,k3,k4⟩:=xQ hY Hqs.out;obtain ⟨i0,i1,i2,i3,i4⟩:=jO k3;try rw [jE]
     refine qS (v:=.tuple #[.agg #[.slice A10 l0 c10,.slice A11 l1 c11,.slice none 0 0,.slice none 0 0,.slice none 0 0],.bool true]) (by simp [results,Tryz.results27,go_sem,i0,i1,i2,i3,i4]) rfl ⟨⟨_,rfl,?_⟩,?_⟩
     · exact HRk6.out.keep (fun a ha=>zT (k1 _ (by have:=ha.1;omega))) (fun q hq=>by unfold Al;rw [k2];exact hq.2)
     · rw [Hs.out];exact HBw6.out.trans (k4 s (zH _))
   · have hR:none=R:=by rw [←HR.out,qA (fun h=>hkb (by injection h))]
     subst hR;rw [qb hkb] at HEq;clear hkb;go_upto_region 6 with fail;go_wp2_with fail;refine HEq.out.mono ?_;rintro e w10 ⟨rfl,rfl⟩;go_wp2;generalize hY:((((w6.setCell ⟨s,0,none⟩ (.slice none 0 0)).setCell ⟨s,1,none⟩ (.slice none 0 0)).setCell ⟨s,2,none⟩ (.slice none 0 0)).setCell ⟨s,3,none⟩ (.slice none 0 0)).setCell ⟨s,4,none⟩ (.slice none 0 0)=Y;obtain ⟨k1,k2,k3,k4⟩:=xQ hY Hqs.out;obtain ⟨i0,i1,i2,i3,i4⟩:=jO k3;try rw [jE]
     refine qS (v:=.tuple #[.agg #[.slice none 0 0,.slice none 0 0,.slice none 0 0,.slice none 0 0,.slice none 0 0],.bool false]) (by simp [results,Tryz.results27,go_sem,i0,i1,i2,i3,i4]) rfl ⟨rfl,?_⟩;rw [Hs.out];exact HBw6.out.trans (k4 s (zH _))
end Go.Proofs.YtmlbicgpehchhaaGreat.Der
namespace Go.Proofs.YtmlbicgpehchhaaGreat.Der
open Go.RowKit Go.Shelf
theorem mV {t:DN}{b:List Nat}(h:vR t=some b):jr b=t:=by
 unfold jr;rw [nf h]
theorem zCX {n e d p q:Nat}{b:List Nat}(h:gH n e d p q=some b):ni b=some (n,e,d,p,q):=by
 have h0:=h;unfold gH xw at h;split at h
 · cases hk:vR (.mk 48 [] (kB n e d p q)) with
   | none=>rw [hk] at h;cases h
   | some kb =>
     rw [hk] at h;have e1:jr b=fm jX kb:=mV h;have e2:=mV hk;have e3:kK (atT (jr b) [2])=kb:=by rw [e1];rfl
     unfold ni;simp only [e3,e2];have a:∀ i x,atT (.mk 48 [] (kB n e d p q)) [i]=wR x→vu (atT (.mk 48 [] (kB n e d p q)) [i])=x:=fun i x h=>by rw [h,ro]
     rw [a (1+0) n rfl,a (1+1) e rfl,a (1+2) d rfl,a (1+3) p rfl,a (1+4) q rfl,qK h0]
 · cases h
theorem rd_pr {n e:Nat}{b:List Nat}(h:ui n e=some b):zAK b=some (n,e,0,0,0):=by
 have h0:=h;unfold ui xK at h;split at h
 · cases h
 · cases hk:vR (fe n e) with
   | none=>rw [hk] at h;cases h
   | some kb =>
     rw [hk] at h;have e1:jr b=.mk 48 [] [jX,.mk 3 (0 :: kb) []]:=mV h;have e2:=mV hk;have e3:fL (jr b)=kb:=by rw [e1];rfl
     unfold zAK;simp only [e3,e2];have a:∀ i x,atT (fe n e) [i]=wR x→vu (atT (fe n e) [i])=x:=fun i x h=>by rw [h,ro]
     rw [a (0+0) n rfl,a (0+1) e rfl,qK h0]
end Go.Proofs.YtmlbicgpehchhaaGreat.Der
namespace Go.Proofs.YtmlbicgpehchhaaGreat.Der
open Go.RowKit Go.Shelf
attribute [local go_sem] Oper.semAt_some
theorem zCJ:(Tryz.prog.info? 48).map (·.size)=some 5:=by kernel_rfl
theorem zAr:(Tryz.prog.info? 51).map (·.size)=some 5:=by kernel_rfl
theorem end_k {fn:Func}{R:Ending→World→Prop}{a:Act}{W:World}{p:Tmp}{g:Nat}{ty:TypeId}{fr:Nat×Nat}{x0 x1 x2 x3 x4:Value}(hr:fn.results=#[.cell p 48]) (hp:a.tmps.getD p undef=.pointer (some ⟨g,0,none⟩)) (hd:a.defers=[])
 (hg:W.heap[g]?=some (.cells #[x0,x1,x2,x3,x4] ty fr)) (hR:R (.returned (.agg #[x0,x1,x2,x3,x4])) W):bodyPost Tryz.prog fn R .ret a W :=
 qS (yV hr a.tmps W g _ _ _ _ hp hg Tryz.underlying48 rfl zCJ) hd hR
theorem zCp {fn:Func}{R:Ending→World→Prop}{a:Act}{W:World}{p:Tmp}{g:Nat}{ty:TypeId}{fr:Nat×Nat}{x0 x1 x2 x3 x4:Value}(hr:fn.results=#[.cell p 51]) (hp:a.tmps.getD p undef=.pointer (some ⟨g,0,none⟩)) (hd:a.defers=[])
 (hg:W.heap[g]?=some (.cells #[x0,x1,x2,x3,x4] ty fr)) (hR:R (.returned (.agg #[x0,x1,x2,x3,x4])) W):bodyPost Tryz.prog fn R .ret a W :=
 qS (yV hr a.tmps W g _ _ _ _ hp hg Tryz.underlying51 rfl zAr) hd hR
theorem zCI (A0 A1 A2 A3 A4:Option Addr) (n0 n1 n2 n3 n4 c0 c1 c2 c3 c4:Nat):(#[Value.slice A0 n0 c0,.slice A1 n1 c1,.slice A2 n2 c2,.slice A3 n3 c3,.slice A4 n4 c4]:Array Value).all (·.oneCell')=true:=by simp [Value.oneCell']
def KL (w:World) (P:Nat→Prop) (v:Value) (l0 l1 l2 l3 l4:List Nat):Prop:=∃ (A0 A1 A2 A3 A4:Option Addr) (c0 c1 c2 c3 c4:Nat),v=.agg #[.slice A0 l0.length c0,.slice A1 l1.length c1,.slice A2 l2.length c2,.slice A3 l3.length c3,.slice A4 l4.length c4]∧RL w P A0 c0 l0∧RL w P A1 c1 l1∧RL w P A2 c2 l2∧RL w P A3 c3 l3∧RL w P A4 c4 l4
def KU (w:World) (v:Value) (l0 l1 l2 l3 l4:List Nat):Prop:=∃ (A0 A1 A2 A3 A4:Option Addr) (c0 c1 c2 c3 c4:Nat),v=.agg #[.slice A0 l0.length c0,.slice A1 l1.length c1,.slice A2 l2.length c2,.slice A3 l3.length c3,.slice A4 l4.length c4]∧RU w A0 c0 l0∧RU w A1 c1 l1∧RU w A2 c2 l2∧RU w A3 c3 l3∧RU w A4 c4 l4
theorem KU.ext {w X:World}{v:Value}{l0 l1 l2 l3 l4:List Nat}(h:KU w v l0 l1 l2 l3 l4) (hE:Ext w X):KU X v l0 l1 l2 l3 l4:=by
 obtain ⟨A0,A1,A2,A3,A4,c0,c1,c2,c3,c4,rfl,h0,h1,h2,h3,h4⟩:=h;exact ⟨A0,A1,A2,A3,A4,c0,c1,c2,c3,c4,rfl,qm h0 hE,qm h1 hE,qm h2 hE,qm h3 hE,qm h4 hE⟩
theorem rG {P:Nat→Prop}{v:Value}{l0 l1 l2 l3 l4:List Nat}(w:World) (hk:KL w P v l0 l1 l2 l3 l4) (hP:∀ b,P b→b<w.heap.size) :
 Calls Tryz.prog 19 #[v,.int .i64 9] w fun e w'=>∃ u,e=.returned u∧KU w' u (l0.take 9) (l1.take 9) (l2.take 9) (l3.take 9) (l4.take 9)∧Ext w w':=by
 obtain ⟨A0,A1,A2,A3,A4,c0,c1,c2,c3,c4,rfl,h0,h1,h2,h3,h4⟩:=hk
 obtain ⟨W0,hW0⟩:=eW ((w.alloc (.cells #[.slice A0 l0.length c0,.slice A1 l1.length c1,.slice A2 l2.length c2,.slice A3 l3.length c3,.slice A4 l4.length c4] 48)).alloc (.cells #[.slice none 0 0,.slice none 0 0,.slice none 0 0,.slice none 0 0,.slice none 0 0] 48))
 obtain ⟨s,hs⟩:=eV w.heap.size
 have hE0:Ext w W0:=by rw [hW0];exact (zb _ _).trans (zb _ _)
 obtain ⟨b1,b2,hz0⟩:=xU w (.cells #[.slice A0 l0.length c0,.slice A1 l1.length c1,.slice A2 l2.length c2,.slice A3 l3.length c3,.slice A4 l4.length c4] 48) (.cells #[.slice none 0 0,.slice none 0 0,.slice none 0 0,.slice none 0 0,.slice none 0 0] 48)
 rw [←hW0,hs] at b1 b2 hz0
 obtain ⟨y0,y1,y2,y3,y4⟩:=jO b1
 have HP:=zF (show ∀ b,P b→b<W0.heap.size from fun b hb=>zR (hP b hb) hE0.bsize)
 have H0:=zF (h0.below hE0 hP)
 have H1:=zF (h1.below hE0 hP)
 have H2:=zF (h2.below hE0 hP)
 have H3:=zF (h3.below hE0 hP)
 have H4:=zF (h4.below hE0 hP)
 obtain ⟨m0,hm0⟩:=eV ((l0.take 9).length)
 have HC0:=zF (fun X (hX:Ext W0 X)=>(by have h:=fs P A0 c0 l0 9 X (H0.out.below hX HP.out) (by omega);rw [hm0] at h;exact h:Calls Tryz.prog 7 #[.slice A0 l0.length c0,.int .i64 9] X fun e w'=>∃ A1 c1,e=.returned (.slice A1 m0 c1)∧OB w' X.heap.size A1 c1 (l0.take 9)∧Below X.heap.size X w'))
 have HM0:=zF hm0
 obtain ⟨m1,hm1⟩:=eV ((l1.take 9).length)
 have HC1:=zF (fun X (hX:Ext W0 X)=>(by have h:=fs P A1 c1 l1 9 X (H1.out.below hX HP.out) (by omega);rw [hm1] at h;exact h:Calls Tryz.prog 7 #[.slice A1 l1.length c1,.int .i64 9] X fun e w'=>∃ A1 c1,e=.returned (.slice A1 m1 c1)∧OB w' X.heap.size A1 c1 (l1.take 9)∧Below X.heap.size X w'))
 have HM1:=zF hm1
 obtain ⟨m2,hm2⟩:=eV ((l2.take 9).length)
 have HC2:=zF (fun X (hX:Ext W0 X)=>(by have h:=fs P A2 c2 l2 9 X (H2.out.below hX HP.out) (by omega);rw [hm2] at h;exact h:Calls Tryz.prog 7 #[.slice A2 l2.length c2,.int .i64 9] X fun e w'=>∃ A1 c1,e=.returned (.slice A1 m2 c1)∧OB w' X.heap.size A1 c1 (l2.take 9)∧Below X.heap.size X w'))
 have HM2:=zF hm2
 obtain ⟨m3,hm3⟩:=eV ((l3.take 9).length)
 have HC3:=zF (fun X (hX:Ext W0 X)=>(by have h:=fs P A3 c3 l3 9 X (H3.out.below hX HP.out) (by omega);rw [hm3] at h;exact h:Calls Tryz.prog 7 #[.slice A3 l3.length c3,.int .i64 9] X fun e w'=>∃ A1 c1,e=.returned (.slice A1 m3 c1)∧OB w' X.heap.size A1 c1 (l3.take 9)∧Below X.heap.size X w'))
 have HM3:=zF hm3
 obtain ⟨m4,hm4⟩:=eV ((l4.take 9).length)
 have HC4:=zF (fun X (hX:Ext W0 X)=>(by have h:=fs P A4 c4 l4 9 X (H4.out.below hX HP.out) (by omega);rw [hm4] at h;exact h:Calls Tryz.prog 7 #[.slice A4 l4.length c4,.int .i64 9] X fun e w'=>∃ A1 c1,e=.returned (.slice A1 m4 c1)∧OB w' X.heap.size A1 c1 (l4.take 9)∧Below X.heap.size X w'))
 have HM4:=zF hm4
 have HE0:=zF hE0
 have Hs:=zF hs
 clear h0 h1 h2 h3 h4 hE0 hz0 b1 hP hs hm0 hm1 hm2 hm3 hm4
 go_enter Tryz.func19,Tryz.ntmps19
 go_upto_region 1 with fail
 rw [←hW0,Hs.out]
 clear hW0
 refine z8 (by kernel_rfl) 21 [0,1,0,7,0,16,0,127,0,256,0,2047,0,4096,0,32767,0,65536,0,524287,1048575,2097151] [] (fun j f X=>match j with
  | 0=>f 0=.pointer (some ⟨s,0,none⟩)
  | 1=>f 1=.slice A0 l0.length c0
  | 2=>f 2=.int .i64 9
  | 3=>∃ B c,f 3=.slice B m0 c∧RU X B c (l0.take 9)
  | 4=>f 4=.pointer (some ⟨s,1,none⟩)
  | 5=>f 5=.slice A1 l1.length c1
  | 6=>f 6=.int .i64 9
  | 7=>∃ B c,f 7=.slice B m1 c∧RU X B c (l1.take 9)
  | 8=>f 8=.pointer (some ⟨s,2,none⟩)
  | 9=>f 9=.slice A2 l2.length c2
  | 10=>f 10=.int .i64 9
  | 11=>∃ B c,f 11=.slice B m2 c∧RU X B c (l2.take 9)
  | 12=>f 12=.pointer (some ⟨s,3,none⟩)
  | 13=>f 13=.slice A3 l3.length c3
  | 14=>f 14=.int .i64 9
  | 15=>∃ B c,f 15=.slice B m3 c∧RU X B c (l3.take 9)
  | 16=>f 16=.pointer (some ⟨s,4,none⟩)
  | 17=>f 17=.slice A4 l4.length c4
  | 18=>f 18=.int .i64 9
  | 19=>∃ B c,f 19=.slice B m4 c∧RU X B c (l4.take 9)
  | 20=>f 20=.agg #[f 3,f 7,f 11,f 15,f 19]
  | _=>True) (by kernel_rfl) [(5,0),(6,1),(7,2),(8,3),(9,4),(10,5),(11,6),(12,7),(13,8),(14,9),(15,10),(16,11),(17,12),(18,13),(19,14),(20,15),(21,16),(22,17),(23,18),(24,19),(25,20)] (by kernel_rfl) ?_
 refine zf 1 20 ?_
 refine q9 2 19 0 y0 ?_
 refine zf 3 18 ?_
 refine qJ 4 17 (fun f=>#[f 1,f 2]) (F':=7) (fun f X hX hR=>?_) ?_
 · have e1:f 1=_:=hR.out 1 rfl;have e2:f 2=_:=hR.out 2 rfl;simp only [e1,e2];refine (HC0.out X hX).mono ?_;rintro e w2 ⟨B,c,rfl,h,hB⟩;exact ⟨(.slice B m0 c),rfl,hB,fun Y hY=>⟨B,c,rfl,qm h.ru hY⟩⟩
 refine zf 5 16 ?_
 refine q9 6 15 4 y1 ?_
 refine zf 7 14 ?_
 refine qJ 8 13 (fun f=>#[f 5,f 6]) (F':=7) (fun f X hX hR=>?_) ?_
 · have e5:f 5=_:=hR.out 5 rfl;have e6:f 6=_:=hR.out 6 rfl;simp only [e5,e6];refine (HC1.out X hX).mono ?_;rintro e w2 ⟨B,c,rfl,h,hB⟩;exact ⟨(.slice B m1 c),rfl,hB,fun Y hY=>⟨B,c,rfl,qm h.ru hY⟩⟩
 refine zf 9 12 ?_
 refine q9 10 11 8 y2 ?_
 refine zf 11 10 ?_
 refine qJ 12 9 (fun f=>#[f 9,f 10]) (F':=7) (fun f X hX hR=>?_) ?_
 · have e9:f 9=_:=hR.out 9 rfl;have e10:f 10=_:=hR.out 10 rfl;simp only [e9,e10];refine (HC2.out X hX).mono ?_;rintro e w2 ⟨B,c,rfl,h,hB⟩;exact ⟨(.slice B m2 c),rfl,hB,fun Y hY=>⟨B,c,rfl,qm h.ru hY⟩⟩
 refine zf 13 8 ?_
 refine q9 14 7 12 y3 ?_
 refine zf 15 6 ?_
 refine qJ 16 5 (fun f=>#[f 13,f 14]) (F':=7) (fun f X hX hR=>?_) ?_
 · have e13:f 13=_:=hR.out 13 rfl;have e14:f 14=_:=hR.out 14 rfl;simp only [e13,e14];refine (HC3.out X hX).mono ?_;rintro e w2 ⟨B,c,rfl,h,hB⟩;exact ⟨(.slice B m3 c),rfl,hB,fun Y hY=>⟨B,c,rfl,qm h.ru hY⟩⟩
 refine zf 17 4 ?_
 refine q9 18 3 16 y4 ?_
 refine zf 19 2 ?_
 refine qJ 20 1 (fun f=>#[f 17,f 18]) (F':=7) (fun f X hX hR=>?_) ?_
 · have e17:f 17=_:=hR.out 17 rfl;have e18:f 18=_:=hR.out 18 rfl;simp only [e17,e18];refine (HC4.out X hX).mono ?_;rintro e w2 ⟨B,c,rfl,h,hB⟩;exact ⟨(.slice B m4 c),rfl,hB,fun Y hY=>⟨B,c,rfl,qm h.ru hY⟩⟩
 refine qH 21 0 [(5,0),(6,1),(7,2),(8,3),(9,4),(10,5),(11,6),(12,7),(13,8),(14,9),(15,10),(16,11),(17,12),(18,13),(19,14),(20,15),(21,16),(22,17),(23,18),(24,19)] (fun f X hX hR K hK=>?_) ?_
 · obtain ⟨B3,k3,(e3:f 3=_),r3⟩:=hR.out 3 rfl;obtain ⟨B7,k7,(e7:f 7=_),r7⟩:=hR.out 7 rfl;obtain ⟨B11,k11,(e11:f 11=_),r11⟩:=hR.out 11 rfl;obtain ⟨B15,k15,(e15:f 15=_),r15⟩:=hR.out 15 rfl;obtain ⟨B19,k19,(e19:f 19=_),r19⟩:=hR.out 19 rfl;simp only [yZ,e3,e7,e11,e15,e19];refine ⟨?_⟩;go_simp;exact hK.out _ (.agg #[f 3,f 7,f 11,f 15,f 19]) _ (by simp only [yZ,e3,e7,e11,e15,e19]) (zy _) trivial (fun _ _=>rfl)
 refine yF ⟨fun f X hX hR hal hap=>?_⟩
 obtain ⟨B3,k3,(e3:f 3=_),r3⟩:=hR 3 (by decide)
 obtain ⟨B7,k7,(e7:f 7=_),r7⟩:=hR 7 (by decide)
 obtain ⟨B11,k11,(e11:f 11=_),r11⟩:=hR 11 (by decide)
 obtain ⟨B15,k15,(e15:f 15=_),r15⟩:=hR 15 (by decide)
 obtain ⟨B19,k19,(e19:f 19=_),r19⟩:=hR 19 (by decide)
 have e20:f 20=.agg #[f 3,f 7,f 11,f 15,f 19]:=hR 20 (by decide)
 simp only [yZ,e3,e7,e11,e15,e19,e20]
 clear hR hal hap e3 e7 e11 e15 e19 e20
 refine zg (fun K hK=>⟨zZ (by kernel_rfl) (vD (cs':=#[.slice B3 m0 k3,.slice B7 m1 k7,.slice B11 m2 k11,.slice B15 m3 k15,.slice B19 m4 k19]) (t:=48) 48 (.tmp 4) (.tmp 25) rfl rfl rfl rfl (hX.at_ b2) zCJ rfl (zCI _ _ _ _ _ _ _ _ _ _ _ _ _ _ _) (fun Y hY1 hY2 hY3=>hK.out _ _ ?_))⟩)
 refine zU ?_
 go_wp2
 exact end_k rfl rfl rfl hY1 ⟨_,rfl,⟨_,_,_,_,_,_,_,_,_,_,by rw [HM0.out,HM1.out,HM2.out,HM3.out,HM4.out],r3.offJ hY2 (hX.at_ b2) (by kernel_rfl),r7.offJ hY2 (hX.at_ b2) (by kernel_rfl),r11.offJ hY2 (hX.at_ b2) (by kernel_rfl),r15.offJ hY2 (hX.at_ b2) (by kernel_rfl),r19.offJ hY2 (hX.at_ b2) (by kernel_rfl)⟩,hY2.ext (HE0.out.trans hX) (by have:=Hs.out;omega)⟩
theorem oa {v:Value}{l0 l1 l2 l3 l4:List Nat}(w:World) (hk:KU w v l0 l1 l2 l3 l4) (hl:∀ l∈[l0,l1,l2,l3,l4],l.length≤9) :
 Calls Tryz.prog 20 #[v] w fun e w'=>∃ u,e=.returned u∧RKr w' u (val 18446744073709551616 l0) (val 18446744073709551616 l1) (val 18446744073709551616 l2) (val 18446744073709551616 l3) (val 18446744073709551616 l4)∧Ext w w':=by
 obtain ⟨A0,A1,A2,A3,A4,c0,c1,c2,c3,c4,rfl,h0,h1,h2,h3,h4⟩:=hk
 obtain ⟨W0,hW0⟩:=eW ((w.alloc (.cells #[.slice A0 l0.length c0,.slice A1 l1.length c1,.slice A2 l2.length c2,.slice A3 l3.length c3,.slice A4 l4.length c4] 48)).alloc (.cells #[.slice none 0 0,.slice none 0 0,.slice none 0 0,.slice none 0 0,.slice none 0 0] 51))
 obtain ⟨s,hs⟩:=eV w.heap.size
 have hE0:Ext w W0:=by rw [hW0];exact (zb _ _).trans (zb _ _)
 obtain ⟨b1,b2,hz0⟩:=xU w (.cells #[.slice A0 l0.length c0,.slice A1 l1.length c1,.slice A2 l2.length c2,.slice A3 l3.length c3,.slice A4 l4.length c4] 48) (.cells #[.slice none 0 0,.slice none 0 0,.slice none 0 0,.slice none 0 0,.slice none 0 0] 51)
 rw [←hW0,hs] at b1 b2 hz0
 obtain ⟨y0,y1,y2,y3,y4⟩:=jO b1
 have H0:=zF (qm h0 hE0)
 have hl0:l0.length≤9:=hl l0 (by simp)
 have HL0:=zF hl0
 have H1:=zF (qm h1 hE0)
 have hl1:l1.length≤9:=hl l1 (by simp)
 have HL1:=zF hl1
 have H2:=zF (qm h2 hE0)
 have hl2:l2.length≤9:=hl l2 (by simp)
 have HL2:=zF hl2
 have H3:=zF (qm h3 hE0)
 have hl3:l3.length≤9:=hl l3 (by simp)
 have HL3:=zF hl3
 have H4:=zF (qm h4 hE0)
 have hl4:l4.length≤9:=hl l4 (by simp)
 have HL4:=zF hl4
 have HN:=zF (fun (l:List Nat) (h:l.length≤9) (hm:Lim l)=>(by have:=rE hm h;omega:(digs 4294967296 (val 18446744073709551616 l)).length<20000))
 obtain ⟨x0,hx0⟩:=eV (val 18446744073709551616 l0)
 have HF0:=zF (fun X (hX:Ext W0 X)=>(hx0▸uW _ A0 c0 l0 X (qm H0.out hX) (fun _ h=>h) (by omega):Calls Tryz.prog 8 #[.slice A0 l0.length c0] X fun e w'=>∃ A1 c1,e=.returned (.slice A1 (digs 4294967296 x0).length c1)∧OB w' X.heap.size A1 c1 (digs 4294967296 x0)∧Below X.heap.size X w'))
 obtain ⟨x1,hx1⟩:=eV (val 18446744073709551616 l1)
 have HF1:=zF (fun X (hX:Ext W0 X)=>(hx1▸uW _ A1 c1 l1 X (qm H1.out hX) (fun _ h=>h) (by omega):Calls Tryz.prog 8 #[.slice A1 l1.length c1] X fun e w'=>∃ A1 c1,e=.returned (.slice A1 (digs 4294967296 x1).length c1)∧OB w' X.heap.size A1 c1 (digs 4294967296 x1)∧Below X.heap.size X w'))
 obtain ⟨x2,hx2⟩:=eV (val 18446744073709551616 l2)
 have HF2:=zF (fun X (hX:Ext W0 X)=>(hx2▸uW _ A2 c2 l2 X (qm H2.out hX) (fun _ h=>h) (by omega):Calls Tryz.prog 8 #[.slice A2 l2.length c2] X fun e w'=>∃ A1 c1,e=.returned (.slice A1 (digs 4294967296 x2).length c1)∧OB w' X.heap.size A1 c1 (digs 4294967296 x2)∧Below X.heap.size X w'))
 obtain ⟨x3,hx3⟩:=eV (val 18446744073709551616 l3)
 have HF3:=zF (fun X (hX:Ext W0 X)=>(hx3▸uW _ A3 c3 l3 X (qm H3.out hX) (fun _ h=>h) (by omega):Calls Tryz.prog 8 #[.slice A3 l3.length c3] X fun e w'=>∃ A1 c1,e=.returned (.slice A1 (digs 4294967296 x3).length c1)∧OB w' X.heap.size A1 c1 (digs 4294967296 x3)∧Below X.heap.size X w'))
 obtain ⟨x4,hx4⟩:=eV (val 18446744073709551616 l4)
 have HF4:=zF (fun X (hX:Ext W0 X)=>(hx4▸uW _ A4 c4 l4 X (qm H4.out hX) (fun _ h=>h) (by omega):Calls Tryz.prog 8 #[.slice A4 l4.length c4] X fun e w'=>∃ A1 c1,e=.returned (.slice A1 (digs 4294967296 x4).length c1)∧OB w' X.heap.size A1 c1 (digs 4294967296 x4)∧Below X.heap.size X w'))
 have HE0:=zF hE0
 have Hs:=zF hs
 have hn0:(digs 4294967296 x0).length<20000:=by rw [←hx0];exact HN.out l0 hl0 h0.2
 have HN0:=zF hn0
 have hn1:(digs 4294967296 x1).length<20000:=by rw [←hx1];exact HN.out l1 hl1 h1.2
 have HN1:=zF hn1
 have hn2:(digs 4294967296 x2).length<20000:=by rw [←hx2];exact HN.out l2 hl2 h2.2
 have HN2:=zF hn2
 have hn3:(digs 4294967296 x3).length<20000:=by rw [←hx3];exact HN.out l3 hl3 h3.2
 have HN3:=zF hn3
 have hn4:(digs 4294967296 x4).length<20000:=by rw [←hx4];exact HN.out l4 hl4 h4.2
 have HN4:=zF hn4
 rw [hx0,hx1,hx2,hx3,hx4]
 clear h0 h1 h2 h3 h4 hE0 hz0 b1 hs hl hl0 hl1 hl2 hl3 hl4 hx0 hx1 hx2 hx3 hx4 hn0 hn1 hn2 hn3 hn4 HN HL0 HL1 HL2 HL3 HL4
 go_enter Tryz.func20,Tryz.ntmps20
 go_upto_region 1 with fail
 rw [←hW0,Hs.out]
 clear hW0
 refine z8 (by kernel_rfl) 16 [0,1,3,0,8,31,0,64,255,0,512,2047,0,4096,16383,32767,65535] [] (fun j f X=>match j with
  | 0=>f 0=.pointer (some ⟨s,0,none⟩)
  | 1=>f 1=.slice A0 l0.length c0
  | 2=>∃ B c,f 2=.slice B (digs 4294967296 x0).length c∧RU X B c (digs 4294967296 x0)
  | 3=>f 3=.pointer (some ⟨s,1,none⟩)
  | 4=>f 4=.slice A1 l1.length c1
  | 5=>∃ B c,f 5=.slice B (digs 4294967296 x1).length c∧RU X B c (digs 4294967296 x1)
  | 6=>f 6=.pointer (some ⟨s,2,none⟩)
  | 7=>f 7=.slice A2 l2.length c2
  | 8=>∃ B c,f 8=.slice B (digs 4294967296 x2).length c∧RU X B c (digs 4294967296 x2)
  | 9=>f 9=.pointer (some ⟨s,3,none⟩)
  | 10=>f 10=.slice A3 l3.length c3
  | 11=>∃ B c,f 11=.slice B (digs 4294967296 x3).length c∧RU X B c (digs 4294967296 x3)
  | 12=>f 12=.pointer (some ⟨s,4,none⟩)
  | 13=>f 13=.slice A4 l4.length c4
  | 14=>∃ B c,f 14=.slice B (digs 4294967296 x4).length c∧RU X B c (digs 4294967296 x4)
  | 15=>f 15=.agg #[f 2,f 5,f 8,f 11,f 14]
  | _=>True) (by kernel_rfl) [(3,0),(4,1),(5,2),(6,3),(7,4),(8,5),(9,6),(10,7),(11,8),(12,9),(13,10),(14,11),(15,12),(16,13),(17,14),(18,15)] (by kernel_rfl) ?_
 refine zf 1 15 ?_
 refine q9 2 14 0 y0 ?_
 refine qJ 3 13 (fun f=>#[f 1]) (F':=8) (fun f X hX hR=>?_) ?_
 · have e1:f 1=_:=hR.out 1 rfl;simp only [e1];refine (HF0.out X hX).mono ?_;rintro e w2 ⟨B,c,rfl,h,hB⟩;exact ⟨(.slice B (digs 4294967296 x0).length c),rfl,hB,fun Y hY=>⟨B,c,rfl,qm h.ru hY⟩⟩
 refine zf 4 12 ?_
 refine q9 5 11 3 y1 ?_
 refine qJ 6 10 (fun f=>#[f 4]) (F':=8) (fun f X hX hR=>?_) ?_
 · have e4:f 4=_:=hR.out 4 rfl;simp only [e4];refine (HF1.out X hX).mono ?_;rintro e w2 ⟨B,c,rfl,h,hB⟩;exact ⟨(.slice B (digs 4294967296 x1).length c),rfl,hB,fun Y hY=>⟨B,c,rfl,qm h.ru hY⟩⟩
 refine zf 7 9 ?_
 refine q9 8 8 6 y2 ?_
 refine qJ 9 7 (fun f=>#[f 7]) (F':=8) (fun f X hX hR=>?_) ?_
 · have e7:f 7=_:=hR.out 7 rfl;simp only [e7];refine (HF2.out X hX).mono ?_;rintro e w2 ⟨B,c,rfl,h,hB⟩;exact ⟨(.slice B (digs 4294967296 x2).length c),rfl,hB,fun Y hY=>⟨B,c,rfl,qm h.ru hY⟩⟩
 refine zf 10 6 ?_
 refine q9 11 5 9 y3 ?_
 refine qJ 12 4 (fun f=>#[f 10]) (F':=8) (fun f X hX hR=>?_) ?_
 · have e10:f 10=_:=hR.out 10 rfl;simp only [e10];refine (HF3.out X hX).mono ?_;rintro e w2 ⟨B,c,rfl,h,hB⟩;exact ⟨(.slice B (digs 4294967296 x3).length c),rfl,hB,fun Y hY=>⟨B,c,rfl,qm h.ru hY⟩⟩
 refine zf 13 3 ?_
 refine q9 14 2 12 y4 ?_
 refine qJ 15 1 (fun f=>#[f 13]) (F':=8) (fun f X hX hR=>?_) ?_
 · have e13:f 13=_:=hR.out 13 rfl;simp only [e13];refine (HF4.out X hX).mono ?_;rintro e w2 ⟨B,c,rfl,h,hB⟩;exact ⟨(.slice B (digs 4294967296 x4).length c),rfl,hB,fun Y hY=>⟨B,c,rfl,qm h.ru hY⟩⟩
 refine qH 16 0 [(3,0),(4,1),(5,2),(6,3),(7,4),(8,5),(9,6),(10,7),(11,8),(12,9),(13,10),(14,11),(15,12),(16,13),(17,14)] (fun f X hX hR K hK=>?_) ?_
 · obtain ⟨B2,k2,(e2:f 2=_),r2⟩:=hR.out 2 rfl;obtain ⟨B5,k5,(e5:f 5=_),r5⟩:=hR.out 5 rfl;obtain ⟨B8,k8,(e8:f 8=_),r8⟩:=hR.out 8 rfl;obtain ⟨B11,k11,(e11:f 11=_),r11⟩:=hR.out 11 rfl;obtain ⟨B14,k14,(e14:f 14=_),r14⟩:=hR.out 14 rfl;simp only [yZ,e2,e5,e8,e11,e14];refine ⟨?_⟩;go_simp;exact hK.out _ (.agg #[f 2,f 5,f 8,f 11,f 14]) _ (by simp only [yZ,e2,e5,e8,e11,e14]) (zy _) trivial (fun _ _=>rfl)
 refine yF ⟨fun f X hX hR hal hap=>?_⟩
 obtain ⟨B2,k2,(e2:f 2=_),r2⟩:=hR 2 (by decide)
 obtain ⟨B5,k5,(e5:f 5=_),r5⟩:=hR 5 (by decide)
 obtain ⟨B8,k8,(e8:f 8=_),r8⟩:=hR 8 (by decide)
 obtain ⟨B11,k11,(e11:f 11=_),r11⟩:=hR 11 (by decide)
 obtain ⟨B14,k14,(e14:f 14=_),r14⟩:=hR 14 (by decide)
 have e15:f 15=.agg #[f 2,f 5,f 8,f 11,f 14]:=hR 15 (by decide)
 simp only [yZ,e2,e5,e8,e11,e14,e15]
 clear hR hal hap e2 e5 e8 e11 e14 e15
 refine zg (fun K hK=>⟨zZ (by kernel_rfl) (vD (cs':=#[.slice B2 (digs 4294967296 x0).length k2,.slice B5 (digs 4294967296 x1).length k5,.slice B8 (digs 4294967296 x2).length k8,.slice B11 (digs 4294967296 x3).length k11,.slice B14 (digs 4294967296 x4).length k14]) (t:=51) 51 (.tmp 2) (.tmp 18) rfl rfl rfl rfl (hX.at_ b2) zAr rfl (zCI _ _ _ _ _ _ _ _ _ _ _ _ _ _ _) (fun Y hY1 hY2 hY3=>hK.out _ _ ?_))⟩)
 refine zU ?_
 go_wp2
 exact zCp rfl rfl rfl hY1 ⟨_,rfl,⟨_,_,_,_,_,_,_,_,_,_,rfl,⟨r2.offJ hY2 (hX.at_ b2) (by kernel_rfl),HN0.out⟩,⟨r5.offJ hY2 (hX.at_ b2) (by kernel_rfl),HN1.out⟩,⟨r8.offJ hY2 (hX.at_ b2) (by kernel_rfl),HN2.out⟩,⟨r11.offJ hY2 (hX.at_ b2) (by kernel_rfl),HN3.out⟩,⟨r14.offJ hY2 (hX.at_ b2) (by kernel_rfl),HN4.out⟩⟩,hY2.ext (HE0.out.trans hX) (by have:=Hs.out;omega)⟩
theorem ao {v u:Value}{n ee d p q:Nat}(w:World) (hk:RKn w (Al w) v n ee d p q) (hu:RKr w u n ee d p q) :
 Calls Tryz.prog 26 #[v,u] w fun e w'=>e=.returned (.bool true)∧Ext w w':=by
 obtain ⟨A0,A1,A2,A3,A4,c0,c1,c2,c3,c4,rfl,h0,h1,h2,h3,h4⟩:=hk
 obtain ⟨B0,B1,B2,B3,B4,k0,k1,k2,k3,k4,rfl,g0,g1,g2,g3,g4⟩:=hu
 have hi0:=fun X (hX:Ext w X)=>bJ _ _ A0 B0 c0 k0 n X (qm h0 hX) (qm g0.1 hX) (fun _ h=>h) (fun _ h=>h)
 have hi1:=fun X (hX:Ext w X)=>bJ _ _ A1 B1 c1 k1 ee X (qm h1 hX) (qm g1.1 hX) (fun _ h=>h) (fun _ h=>h)
 have hi2:=fun X (hX:Ext w X)=>bJ _ _ A2 B2 c2 k2 d X (qm h2 hX) (qm g2.1 hX) (fun _ h=>h) (fun _ h=>h)
 have hi3:=fun X (hX:Ext w X)=>bJ _ _ A3 B3 c3 k3 p X (qm h3 hX) (qm g3.1 hX) (fun _ h=>h) (fun _ h=>h)
 have hi4:=fun X (hX:Ext w X)=>bJ _ _ A4 B4 c4 k4 q X (qm h4 hX) (qm g4.1 hX) (fun _ h=>h) (fun _ h=>h)
 obtain ⟨a0,ha0⟩:=eV ((digs 18446744073709551616 n).length)
 obtain ⟨b0,hb0⟩:=eV ((digs 4294967296 n).length)
 obtain ⟨a1,ha1⟩:=eV ((digs 18446744073709551616 ee).length)
 obtain ⟨b1,hb1⟩:=eV ((digs 4294967296 ee).length)
 obtain ⟨a2,ha2⟩:=eV ((digs 18446744073709551616 d).length)
 obtain ⟨b2,hb2⟩:=eV ((digs 4294967296 d).length)
 obtain ⟨a3,ha3⟩:=eV ((digs 18446744073709551616 p).length)
 obtain ⟨b3,hb3⟩:=eV ((digs 4294967296 p).length)
 obtain ⟨a4,ha4⟩:=eV ((digs 18446744073709551616 q).length)
 obtain ⟨b4,hb4⟩:=eV ((digs 4294967296 q).length)
 simp only [ha0,hb0] at hi0
 simp only [ha1,hb1] at hi1
 simp only [ha2,hb2] at hi2
 simp only [ha3,hb3] at hi3
 simp only [ha4,hb4] at hi4
 rw [ha0,hb0,ha1,hb1,ha2,hb2,ha3,hb3,ha4,hb4]
 obtain ⟨W0,hW0⟩:=eW ((w.alloc (.cells #[.slice A0 a0 c0,.slice A1 a1 c1,.slice A2 a2 c2,.slice A3 a3 c3,.slice A4 a4 c4] 48)).alloc (.cells #[.slice B0 b0 k0,.slice B1 b1 k1,.slice B2 b2 k2,.slice B3 b3 k3,.slice B4 b4 k4] 51))
 obtain ⟨s,hs⟩:=eV w.heap.size
 have hE0:Ext w W0:=by rw [hW0];exact (zb _ _).trans (zb _ _)
 obtain ⟨t1,t2,hz0⟩:=xU w (.cells #[.slice A0 a0 c0,.slice A1 a1 c1,.slice A2 a2 c2,.slice A3 a3 c3,.slice A4 a4 c4] 48) (.cells #[.slice B0 b0 k0,.slice B1 b1 k1,.slice B2 b2 k2,.slice B3 b3 k3,.slice B4 b4 k4] 51)
 rw [←hW0,hs] at t1 t2 hz0
 obtain ⟨y0,y1,y2,y3,y4⟩:=jO t1
 obtain ⟨z0,z1,z2,z3,z4⟩:=jO t2
 have HI0:=zF (fun X (hX:Ext W0 X)=>hi0 X (zI hE0 hX))
 have HI1:=zF (fun X (hX:Ext W0 X)=>hi1 X (zI hE0 hX))
 have HI2:=zF (fun X (hX:Ext W0 X)=>hi2 X (zI hE0 hX))
 have HI3:=zF (fun X (hX:Ext W0 X)=>hi3 X (zI hE0 hX))
 have HI4:=zF (fun X (hX:Ext W0 X)=>hi4 X (zI hE0 hX))
 have HE0:=zF hE0
 have Hs:=zF hs
 clear h0 h1 h2 h3 h4 g0 g1 g2 g3 g4 hE0 hz0 t1 t2 hs hi0 hi1 hi2 hi3 hi4 ha0 ha1 ha2 ha3 ha4 hb0 hb1 hb2 hb3 hb4
 go_enter Tryz.func26,Tryz.ntmps26
 go_upto_region 1 with fail
 rw [←hW0,Hs.out]
 clear hW0
 refine qQ 34 [0,1,0,4,15,31,63,127,63,319,1023,2047,4095,8191,16383,8191,40959,131071,262143,524287,1048575,2097151,1048575,5242879,16777215,33554431,67108863,134217727,268435455,134217727,671088639,2147483647,4294967295,8589934591] [] (fun j f X=>match j with
  | 0=>f 0=.pointer (some ⟨s,0,none⟩)
  | 1=>f 1=.slice A0 a0 c0
  | 2=>f 2=.pointer (some ⟨s+1,0,none⟩)
  | 3=>f 3=.slice B0 b0 k0
  | 4=>f 4=.bool true
  | 5=>f 5=.bool true
  | 6=>f 6=.pointer (some ⟨s,1,none⟩)
  | 7=>f 7=.slice A1 a1 c1
  | 8=>f 8=.pointer (some ⟨s+1,1,none⟩)
  | 9=>f 9=.slice B1 b1 k1
  | 10=>f 10=.bool true
  | 11=>f 11=.bool true
  | 12=>f 12=.bool true
  | 13=>f 13=.pointer (some ⟨s,2,none⟩)
  | 14=>f 14=.slice A2 a2 c2
  | 15=>f 15=.pointer (some ⟨s+1,2,none⟩)
  | 16=>f 16=.slice B2 b2 k2
  | 17=>f 17=.bool true
  | 18=>f 18=.bool true
  | 19=>f 19=.bool true
  | 20=>f 20=.pointer (some ⟨s,3,none⟩)
  | 21=>f 21=.slice A3 a3 c3
  | 22=>f 22=.pointer (some ⟨s+1,3,none⟩)
  | 23=>f 23=.slice B3 b3 k3
  | 24=>f 24=.bool true
  | 25=>f 25=.bool true
  | 26=>f 26=.bool true
  | 27=>f 27=.pointer (some ⟨s,4,none⟩)
  | 28=>f 28=.slice A4 a4 c4
  | 29=>f 29=.pointer (some ⟨s+1,4,none⟩)
  | 30=>f 30=.slice B4 b4 k4
  | 31=>f 31=.bool true
  | 32=>f 32=.bool true
  | 33=>f 33=.bool true
  | _=>True) (by kernel_rfl) [(5,0),(6,1),(7,2),(8,3),(9,4),(10,5),(11,6),(12,7),(13,8),(14,9),(15,10),(16,11),(17,12),(18,13),(19,14),(20,15),(21,16),(22,17),(23,18),(24,19),(25,20),(26,21),(27,22),(28,23),(29,24),(30,25),(31,26),(32,27),(33,28),(34,29),(35,30),(36,31),(37,32),(4,33)] (by kernel_rfl) ?_
 refine zf 1 33 ?_
 refine q9 2 32 0 y0 ?_
 refine zf 3 31 ?_
 refine q9 4 30 2 z0 ?_
 refine qJ 5 29 (fun f=>#[f 1,f 3]) (F':=16) (fun f X hX hR=>?_) ?_
 · have e1:f 1=_:=hR.out 1 rfl;have e3:f 3=_:=hR.out 3 rfl;simp only [e1,e3];refine (HI0.out X hX).mono ?_;rintro e w2 ⟨rfl,hB⟩;exact ⟨(.bool true),rfl,hB,fun _ _=>rfl⟩
 refine qM 6 28 4 ?_
 refine qM 7 27 5 ?_
 refine qH 8 26 [(5,0),(6,1),(7,2),(8,3),(9,4),(10,5),(11,6),(13,8),(14,9)] (fun f X hX hR K hK=>?_) ?_
 · have e5:f 5=_:=hR.out 5 rfl;have e6:f 6=_:=hR.out 6 rfl;have x0:=hX.cell y1;simp only [yZ,e5,e6];refine ⟨zZ (by kernel_rfl) ?_⟩;go_simp;exact jA hK (s:=by simp only [yZ,e5,e6])
 refine qM 9 25 5 ?_
 refine qH 10 24 [(5,0),(6,1),(7,2),(8,3),(9,4),(10,5),(11,6),(12,7),(13,8)] (fun f X hX hR K hK=>?_) ?_
 · have e5:f 5=_:=hR.out 5 rfl;have e8:f 8=_:=hR.out 8 rfl;have x0:=hX.cell z1;simp only [yZ,e5,e8];refine ⟨zZ (by kernel_rfl) ?_⟩;go_simp;exact jA hK (s:=by simp only [yZ,e5,e8])
 refine wj 11 23 5 (fun f=>#[f 7,f 9]) (F':=16) (fun f X hX hR=>?_) ?_
 · have e7:f 7=_:=hR.out 7 rfl;have e9:f 9=_:=hR.out 9 rfl;simp only [e7,e9];refine (HI1.out X hX).mono ?_;rintro e w2 ⟨rfl,hB⟩;exact ⟨(.bool true),rfl,hB,fun _ _=>rfl⟩
 refine jj 12 22 5 10 ?_
 refine qM 13 21 11 ?_
 refine qM 14 20 12 ?_
 refine qH 15 19 [(5,0),(6,1),(7,2),(8,3),(9,4),(10,5),(11,6),(12,7),(13,8),(14,9),(15,10),(16,11),(17,12),(18,13),(20,15),(21,16)] (fun f X hX hR K hK=>?_) ?_
 · have e12:f 12=_:=hR.out 12 rfl;have e13:f 13=_:=hR.out 13 rfl;have x0:=hX.cell y2;simp only [yZ,e12,e13];refine ⟨zZ (by kernel_rfl) ?_⟩;go_simp;exact jA hK (s:=by simp only [yZ,e12,e13])
 refine qM 16 18 12 ?_
 refine qH 17 17 [(5,0),(6,1),(7,2),(8,3),(9,4),(10,5),(11,6),(12,7),(13,8),(14,9),(15,10),(16,11),(17,12),(18,13),(19,14),(20,15)] (fun f X hX hR K hK=>?_) ?_
 · have e12:f 12=_:=hR.out 12 rfl;have e15:f 15=_:=hR.out 15 rfl;have x0:=hX.cell z2;simp only [yZ,e12,e15];refine ⟨zZ (by kernel_rfl) ?_⟩;go_simp;exact jA hK (s:=by simp only [yZ,e12,e15])
 refine wj 18 16 12 (fun f=>#[f 14,f 16]) (F':=16) (fun f X hX hR=>?_) ?_
 · have e14:f 14=_:=hR.out 14 rfl;have e16:f 16=_:=hR.out 16 rfl;simp only [e14,e16];refine (HI2.out X hX).mono ?_;rintro e w2 ⟨rfl,hB⟩;exact ⟨(.bool true),rfl,hB,fun _ _=>rfl⟩
 refine jj 19 15 12 17 ?_
 refine qM 20 14 18 ?_
 refine qM 21 13 19 ?_
 refine qH 22 12 [(5,0),(6,1),(7,2),(8,3),(9,4),(10,5),(11,6),(12,7),(13,8),(14,9),(15,10),(16,11),(17,12),(18,13),(19,14),(20,15),(21,16),(22,17),(23,18),(24,19),(25,20),(27,22),(28,23)] (fun f X hX hR K hK=>?_) ?_
 · have e19:f 19=_:=hR.out 19 rfl;have e20:f 20=_:=hR.out 20 rfl;have x0:=hX.cell y3;simp only [yZ,e19,e20];refine ⟨zZ (by kernel_rfl) ?_⟩;go_simp;exact jA hK (s:=by simp only [yZ,e19,e20])
 refine qM 23 11 19 ?_
 refine qH 24 10 [(5,0),(6,1),(7,2),(8,3),(9,4),(10,5),(11,6),(12,7),(13,8),(14,9),(15,10),(16,11),(17,12),(18,13),(19,14),(20,15),(21,16),(22,17),(23,18),(24,19),(25,20),(26,21),(27,22)] (fun f X hX hR K hK=>?_) ?_
 · have e19:f 19=_:=hR.out 19 rfl;have e22:f 22=_:=hR.out 22 rfl;have x0:=hX.cell z3;simp only [yZ,e19,e22];refine ⟨zZ (by kernel_rfl) ?_⟩;go_simp;exact jA hK (s:=by simp only [yZ,e19,e22])
 refine wj 25 9 19 (fun f=>#[f 21,f 23]) (F':=16) (fun f X hX hR=>?_) ?_
 · have e21:f 21=_:=hR.out 21 rfl;have e23:f 23=_:=hR.out 23 rfl;simp only [e21,e23];refine (HI3.out X hX).mono ?_;rintro e w2 ⟨rfl,hB⟩;exact ⟨(.bool true),rfl,hB,fun _ _=>rfl⟩
 refine jj 26 8 19 24 ?_
 refine qM 27 7 25 ?_
 refine qM 28 6 26 ?_
 refine qH 29 5 [(5,0),(6,1),(7,2),(8,3),(9,4),(10,5),(11,6),(12,7),(13,8),(14,9),(15,10),(16,11),(17,12),(18,13),(19,14),(20,15),(21,16),(22,17),(23,18),(24,19),(25,20),(26,21),(27,22),(28,23),(29,24),(30,25),(31,26),(32,27),(34,29),(35,30)] (fun f X hX hR K hK=>?_) ?_
 · have e26:f 26=_:=hR.out 26 rfl;have e27:f 27=_:=hR.out 27 rfl;have x0:=hX.cell y4;simp only [yZ,e26,e27];refine ⟨zZ (by kernel_rfl) ?_⟩;go_simp;exact jA hK (s:=by simp only [yZ,e26,e27])
 refine qM 30 4 26 ?_
 refine qH 31 3 [(5,0),(6,1),(7,2),(8,3),(9,4),(10,5),(11,6),(12,7),(13,8),(14,9),(15,10),(16,11),(17,12),(18,13),(19,14),(20,15),(21,16),(22,17),(23,18),(24,19),(25,20),(26,21),(27,22),(28,23),(29,24),(30,25),(31,26),(32,27),(33,28),(34,29)] (fun f X hX hR K hK=>?_) ?_
 · have e26:f 26=_:=hR.out 26 rfl;have e29:f 29=_:=hR.out 29 rfl;have x0:=hX.cell z4;simp only [yZ,e26,e29];refine ⟨zZ (by kernel_rfl) ?_⟩;go_simp;exact jA hK (s:=by simp only [yZ,e26,e29])
 refine wj 32 2 26 (fun f=>#[f 28,f 30]) (F':=16) (fun f X hX hR=>?_) ?_
 · have e28:f 28=_:=hR.out 28 rfl;have e30:f 30=_:=hR.out 30 rfl;simp only [e28,e30];refine (HI4.out X hX).mono ?_;rintro e w2 ⟨rfl,hB⟩;exact ⟨(.bool true),rfl,hB,fun _ _=>rfl⟩
 refine jj 33 1 26 31 ?_
 refine qM 34 0 32 ?_
 refine yF ⟨fun f X hX hR hal hap=>?_⟩
 have e33:f 33=_:=hR 33 (by decide)
 simp only [yZ,e33]
 clear hR hal hap e33
 refine zU ?_
 go_wp2
 go_ret
 exact ⟨rfl,zI HE0.out hX⟩
end Go.Proofs.YtmlbicgpehchhaaGreat.Der
namespace Go.Proofs.YtmlbicgpehchhaaGreat.Der
open Go.ChangeShapes Go.WideShapes Go.ChangeAt Go.RowKit Go.Deep Go.Joins
section
variable {H:Type} {enc:TypeId×Value→H} {w:World}
theorem zCt:Tryz.prog.cellsOf 48=5:=by kernel_rfl
theorem honeK:∃ f0 f1 f2 f3 f4,Tryz.prog.underlying 48=some (.struct #[f0,f1,f2,f3,f4])∧oneCellFields Tryz.prog #[f0,f1,f2,f3,f4]=true∧f0.type=23∧f1.type=23∧f2.type=23∧f3.type=23∧f4.type=23 :=
 ⟨_,_,_,_,_,Tryz.underlying48,by kernel_rfl,rfl,rfl,rfl,rfl,rfl⟩
theorem zBw {cs:Array Value}(h:cs.size=5):∃ a b c d e,cs=#[a,b,c,d,e]:=by
 obtain ⟨l⟩:=cs;match l,h with
 | [a,b,c,d,e],_=>exact ⟨a,b,c,d,e,rfl⟩
theorem zAX {r:Reach}{b0:Nat}{v:Value}{d:DataW H}{p:List MemPlace}(hv:Value.okWide Tryz.prog w r b0 48 v) (h:DataW.Trod enc Tryz.prog w 0 (fun _=>true) true 48 v d p) (hw:pL 48 d) :
 ∃ l0 l1 l2 l3 l4,KL w (fun b=>b<w.heap.size) v l0 l1 l2 l3 l4:=by
 obtain ⟨f0,f1,f2,f3,f4,hu,hone,t0,t1,t2,t3,t4⟩:=honeK
 obtain ⟨cs,rfl,hsz⟩:=okWide_struct hu hv
 obtain ⟨v0,v1,v2,v3,v4,rfl⟩:=zBw (hsz.trans zCt)
 obtain ⟨fuel,hf⟩:=h
 obtain ⟨xs,n,_,hx,hl,hlen,hff⟩:=DataW.trod_struct hu hf
 match xs,hlen with
 | [y0,y1,y2,y3,y4],_ =>
 simp only [Prod.mk.injEq] at hx
 obtain ⟨rfl,rfl⟩:=hx
 obtain ⟨o0,k0⟩:=hone_of hone 0 f0 rfl
 have h0:DataW.trod enc Tryz.prog w 0 (fun _=>true) true n f0.type [v0]=some y0:=by simpa [Value.cells,o0,k0] using hff 0 f0 rfl
 rw [t0] at h0
 have g0:pL 23 y0.1:=fun q hq=>by
  apply hw;simp only [DataW.weights,hu,wI,wm,DataW.weightsEach,t0,t1,t2,t3,t4,List.mem_append];exact .inl hq
 obtain ⟨A0,c0,l0,rfl,R0⟩:=uV h0 g0
 obtain ⟨o1,k1⟩:=hone_of hone 1 f1 rfl
 have h1:DataW.trod enc Tryz.prog w 0 (fun _=>true) true n f1.type [v1]=some y1:=by simpa [Value.cells,o1,k1] using hff 1 f1 rfl
 rw [t1] at h1
 have g1:pL 23 y1.1:=fun q hq=>by
  apply hw;simp only [DataW.weights,hu,wI,wm,DataW.weightsEach,t0,t1,t2,t3,t4,List.mem_append];exact .inr (.inl hq)
 obtain ⟨A1,c1,l1,rfl,R1⟩:=uV h1 g1
 obtain ⟨o2,k2⟩:=hone_of hone 2 f2 rfl
 have h2:DataW.trod enc Tryz.prog w 0 (fun _=>true) true n f2.type [v2]=some y2:=by simpa [Value.cells,o2,k2] using hff 2 f2 rfl
 rw [t2] at h2
 have g2:pL 23 y2.1:=fun q hq=>by
  apply hw;simp only [DataW.weights,hu,wI,wm,DataW.weightsEach,t0,t1,t2,t3,t4,List.mem_append];exact .inr (.inr (.inl hq))
 obtain ⟨A2,c2,l2,rfl,R2⟩:=uV h2 g2
 obtain ⟨o3,k3⟩:=hone_of hone 3 f3 rfl
 have h3:DataW.trod enc Tryz.prog w 0 (fun _=>true) true n f3.type [v3]=some y3:=by simpa [Value.cells,o3,k3] using hff 3 f3 rfl
 rw [t3] at h3
 have g3:pL 23 y3.1:=fun q hq=>by
  apply hw;simp only [DataW.weights,hu,wI,wm,DataW.weightsEach,t0,t1,t2,t3,t4,List.mem_append];exact .inr (.inr (.inr (.inl hq)))
 obtain ⟨A3,c3,l3,rfl,R3⟩:=uV h3 g3
 obtain ⟨o4,k4⟩:=hone_of hone 4 f4 rfl
 have h4:DataW.trod enc Tryz.prog w 0 (fun _=>true) true n f4.type [v4]=some y4:=by simpa [Value.cells,o4,k4] using hff 4 f4 rfl
 rw [t4] at h4
 have g4:pL 23 y4.1:=fun q hq=>by
  apply hw;simp only [DataW.weights,hu,wI,wm,DataW.weightsEach,t0,t1,t2,t3,t4,List.mem_append];exact .inr (.inr (.inr (.inr (.inl hq))))
 obtain ⟨A4,c4,l4,rfl,R4⟩:=uV h4 g4
 exact ⟨l0,l1,l2,l3,l4,A0,A1,A2,A3,A4,c0,c1,c2,c3,c4,rfl,R0,R1,R2,R3,R4⟩
end
end Go.Proofs.YtmlbicgpehchhaaGreat.Der
namespace Go.Proofs.YtmlbicgpehchhaaGreat
open Go.RowKit
theorem Crv.Fine.bits {C:Crv}(h:C.Fine){x:Nat}(hx:x<C.M):zo x≤8*C.size:=kh (zR (Nat.lt_trans hx h.room) (by rw [fI];exact zH _))
def RPt (w:World) (base:Nat) (v:Value):Option (Nat×Nat)→Prop
 | none=>v=uq
 | some p=>∃ A c A' c',v=.agg #[.bool false,.slice A (digs 4294967296 p.1).length c,.slice A' (digs 4294967296 p.2).length c']∧OB w base A c (digs 4294967296 p.1)∧OB w base A' c' (digs 4294967296 p.2)
theorem RPt.pv {w:World}{base:Nat}{v:Value}{o:Option (Nat×Nat)}(h:RPt w base v o):RPv w v o.isNone (o.elim 0 (·.1)) (o.elim 0 (·.2)):=by
 cases o with
 | none=>obtain rfl:v=uq:=h;exact RPv.inf_ w
 | some p=>obtain ⟨A,c,A',c',rfl,h1,h2⟩:=h;exact ⟨A,A',c,c',rfl,h1.ru,h2.ru⟩
end Go.Proofs.YtmlbicgpehchhaaGreat
namespace Go.Proofs.YtmlbicgpehchhaaGreat.Der
open Go.RowKit Go.Shelf
attribute [local go_sem] Oper.semAt_some
def zAL (b:List Nat):Option (Int×Nat) :=
 if kEC (cI (atT (jr b) [1,1])) (wO (kK (atT (jr (kK (atT (jr b) [2]))) [1])))=some b then some (cI (atT (jr b) [1,1]),wO (kK (atT (jr (kK (atT (jr b) [2]))) [1]))) else none
def RdK (R:Option (Int×Nat)) (e:Ending) (w':World):Prop:=match R with
 | none=>e=.returned (.tuple #[.int .i64 0,.slice none 0 0,.bool false])
 | some (c,x)=>∃ A k,e=.returned (.tuple #[.int .i64 c,.slice A (digs 18446744073709551616 x).length k,.bool true])∧RN w' (Al w') A k (digs 18446744073709551616 x)
theorem RN.al {w w':World}{B:Nat}{P:Nat→Prop}{A:Option Addr}{c:Nat}{l:List Nat}(h:RN w P A c l) (hb:Below B w w') (hP:∀ q,P q→q<B) (hs:B≤w'.heap.size):RN w' (Al w') A c l:=(h.below hb hP).mono fun q hq=>zR (hP q hq) hs
theorem pY (P:Nat→Prop) (A:Option Addr) (c:Nat) (b:List Nat) (w:World) (hb:RB w P A c b) (hP:∀ q,P q→q<w.heap.size) :
 Calls Tryz.prog 15 #[.slice A b.length c] w fun e w'=>RdK (zAL b) e w'∧Below w.heap.size w w':=by
 have HIn:=zF (ap P A c b w hb hP)
 have HB0:=zF (fun X (hX:Ext w X)=>(show RB X (Al X) A c b from RB.al hb hX hP hX.bsize))
 obtain ⟨R,hR⟩:=eV (zAL b)
 rw [hR]
 unfold zAL at hR
 have hsm:=ba (kK (atT (jr b) [2])) [1]
 obtain ⟨T1,hT1⟩:=eV (jr b)
 rw [hT1] at HIn hR hsm
 obtain ⟨T2,hT2⟩:=eV (jr (kK (atT T1 [2])))
 rw [hT2] at HIn hR hsm
 obtain ⟨T3,hT3⟩:=eV (atT T1 [1,1])
 obtain ⟨T4,hT4⟩:=eV (atT T2 [1])
 rw [hT3,hT4] at hR
 rw [hT4] at hsm
 obtain ⟨z,hz⟩:=eV (cI T3)
 obtain ⟨bs,hbs⟩:=eV (kK T4)
 rw [hbs] at hsm hR
 rw [hz] at hR
 obtain ⟨x,hx⟩:=eV (wO bs)
 rw [hx] at hR
 obtain ⟨dx,hdx⟩:=eV (digs 18446744073709551616 x)
 obtain ⟨Lx,hLx⟩:=eV dx.length
 have hvx:val 18446744073709551616 dx=x:=by rw [←hdx];exact zc (by omega) x
 obtain ⟨Kq,hKq⟩:=eV (kEC z x)
 rw [hKq] at hR
 have HT3:=zF hT3
 have HT4:=zF hT4
 have Hz:=zF hz
 have Hbs:=zF hbs
 have Hx:=zF hx
 have Hdx:=zF hdx
 have HLx:=zF hLx
 have Hvx:=zF hvx
 have HK:=zF hKq
 have HR:=zF hR
 have Hsm:=zF hsm
 clear hb hP hR hsm hT1 hT2 hT3 hT4 hz hbs hx hdx hLx hvx hKq
 go_enter Tryz.func15,Tryz.ntmps15
 go_upto_region 1 with fail
 go_wp2_with fail
 refine HIn.out.mono ?_
 rintro e w1 ⟨⟨v1,v2,rfl,hd1,hd2⟩,hB1⟩
 obtain ⟨x1,B1,n1,d1,B2,n2,d2,rfl⟩:=hd1.shape
 obtain ⟨x2,C1,m1,e1,C2,m2,e2,rfl⟩:=hd2.shape
 obtain ⟨s,hs⟩:=eV w1.heap.size
 obtain ⟨hq0,hq1,hz2⟩:=aL w1 (.cells #[.int .i64 x1,.slice B1 n1 d1,.slice B2 n2 d2] 80) (.cells #[.int .i64 x2,.slice C1 m1 e1,.slice C2 m2 e2] 80)
 have hA1:Ext w1 ((w1.alloc (.cells #[.int .i64 x1,.slice B1 n1 d1,.slice B2 n2 d2] 80)).alloc (.cells #[.int .i64 x2,.slice C1 m1 e1,.slice C2 m2 e2] 80)):=zI (zb _ _) (zb _ _)
 rw [hs] at hq0 hq1
 have HE1:=zF (zI hB1 hA1)
 have HD1:=zF (hd1.al hA1)
 have HD2:=zF (hd2.al hA1)
 have Hs:=zF hs
 have Hq0:=zF hq0
 have Hq1:=zF hq1
 clear hd1 hd2 hB1 hA1 hs hz2 hq0 hq1 HIn
 go_upto_region 2 with fail
 simp only [qL,Hs.out]
 generalize (w1.alloc (.cells #[.int .i64 x1,.slice B1 n1 d1,.slice B2 n2 d2] 80)).alloc (.cells #[.int .i64 x2,.slice C1 m1 e1,.slice C2 m2 e2] 80)=W2 at *
 have hf:∀ (a b c:Value) (w:World),Sem.run Tryz.prog (Instr.field 80 (.agg #[a,b,c]) 1) w=.ok b w:=fun _ _ _ _=>by kernel_rfl
 have hq0:=Hq0.out
 have hq1:=Hq1.out
 refine z8 (by kernel_rfl) 9 [0,0,3,7,0,0,63,127,255,511,1023] [] (fun j f X=>match j with
  | 0=>f 0=.agg #[.int .i64 x1,.slice B1 n1 d1,.slice B2 n2 d2]
  | 1=>∃ b,f 1=.slice (some ⟨b,0,none⟩) 2 2∧RZ X (Al X) (some ⟨b,0,none⟩) 2 ([1,1].map fun (i:Nat)=>(i:Int))
  | 2=>∃ v,f 2=v∧RD X (Al X) T3 v
  | 3=>f 3=.int .i64 z
  | 4=>f 4=.agg #[.int .i64 x2,.slice C1 m1 e1,.slice C2 m2 e2]
  | 5=>∃ b,f 5=.slice (some ⟨b,0,none⟩) 1 1∧RZ X (Al X) (some ⟨b,0,none⟩) 1 ([1].map fun (i:Nat)=>(i:Int))
  | 6=>∃ y D k g D' k' g',f 6=.agg #[.int .i64 y,.slice D k g,.slice D' k' g']∧RD X (Al X) T4 (.agg #[.int .i64 y,.slice D k g,.slice D' k' g'])
  | 7=>∃ D g,f 7=.slice D bs.length g∧RB X (Al X) D g bs
  | 8=>∃ D g,f 8=.slice D Lx g∧RN X (Al X) D g dx
  | _=>True) (by kernel_rfl) [(16,0),(17,1),(18,2),(19,3),(20,4),(21,5),(22,6),(23,7),(24,8)] (by kernel_rfl) ?_
 refine qH 1 8 [(17,1),(20,4),(21,5)] (fun f X hX hR K hK=>?_) ?_
 · simp only [yZ];refine ⟨zZ (by kernel_rfl) (vf 80 (.tmp 5) rfl rfl (hX.at_ hq0) Tryz.underlying80 rfl yo rfl ?_)⟩;exact jA hK (s:=by simp only [yZ])
 refine qH 2 7 [(16,0),(20,4),(21,5)] (fun f X hX hR K hK=>?_) ?_
 · simp only [yZ];refine ⟨?_⟩;go_simp;exact hK.out _ (.slice (some ⟨X.heap.size,0,none⟩) 2 2) _ (by simp only [yZ]) (zb _ _) trivial (fun Y hY=>⟨_,rfl,RZ.al (show RZ _ (Al _) _ 2 ([1,1].map fun (i:Nat)=>(i:Int)) from jM (w:=X) (P:=Al (X.alloc (.cells #[.int .i64 1,.int .i64 1] 3))) #[.int .i64 1,.int .i64 1] 3 1 2 rfl (by unfold maxLen;omega) (by simp [Al])) hY⟩)
 refine qJ 3 6 (fun f=>#[f 0,f 1]) (F':=64) (fun f X hX hR=>?_) ?_
 · have e0:f 0=_:=hR.out 0 rfl;obtain ⟨b1,(e1:f 1=_),r1⟩:=hR.out 1 rfl;simp only [e0,e1];have hm:=bc T1 _ _ _ 2 [1,1] X (RD.al HD1.out hX) r1 (fun q hq=>hq) (by simp);rw [HT3.out] at hm;refine hm.mono ?_;rintro e w' ⟨⟨v',rfl,hd⟩,hB⟩;exact ⟨v',rfl,hB,fun Y hY=>⟨_,rfl,hd.al hY⟩⟩
 refine qJ 4 5 (fun f=>#[f 2]) (F':=63) (fun f X hX hR=>?_) ?_
 · obtain ⟨v2,(e2:f 2=_),r2⟩:=hR.out 2 rfl;simp only [e2];have hm:=zAl T3 _ X r2;rw [Hz.out] at hm;refine hm.mono ?_;rintro e w' ⟨rfl,hB⟩;exact ⟨(.int .i64 z),rfl,hB,fun _ _=>rfl⟩
 refine qH 5 4 [(16,0),(17,1),(18,2),(19,3),(21,5)] (fun f X hX hR K hK=>?_) ?_
 · simp only [yZ];refine ⟨zZ (by kernel_rfl) (vf 80 (.tmp 6) rfl rfl (hX.at_ hq1) Tryz.underlying80 rfl yo rfl ?_)⟩;exact jA hK (s:=by simp only [yZ])
 refine qH 6 3 [(16,0),(17,1),(18,2),(19,3),(20,4)] (fun f X hX hR K hK=>?_) ?_
 · simp only [yZ];refine ⟨?_⟩;go_simp;exact hK.out _ (.slice (some ⟨X.heap.size,0,none⟩) 1 1) _ (by simp only [yZ]) (zb _ _) trivial (fun Y hY=>⟨_,rfl,RZ.al (show RZ _ (Al _) _ 1 ([1].map fun (i:Nat)=>(i:Int)) from jM (w:=X) (P:=Al (X.alloc (.cells #[.int .i64 1] 3))) #[.int .i64 1] 3 1 1 rfl (by unfold maxLen;omega) (by simp [Al])) hY⟩)
 refine qJ 7 2 (fun f=>#[f 4,f 5]) (F':=64) (fun f X hX hR=>?_) ?_
 · have e4:f 4=_:=hR.out 4 rfl;obtain ⟨b5,(e5:f 5=_),r5⟩:=hR.out 5 rfl;simp only [e4,e5];have hm:=bc T2 _ _ _ 1 [1] X (RD.al HD2.out hX) r5 (fun q hq=>hq) (by simp);rw [HT4.out] at hm;refine hm.mono ?_;rintro e w' ⟨⟨v',rfl,hd⟩,hB⟩;obtain ⟨y6,D6,k6,g6,D7,k7,g7,rfl⟩:=hd.shape;exact ⟨(.agg #[.int .i64 y6,.slice D6 k6 g6,.slice D7 k7 g7]),rfl,hB,fun Y hY=>⟨_,_,_,_,_,_,_,rfl,hd.al hY⟩⟩
 refine qH 8 1 [(16,0),(17,1),(18,2),(19,3),(20,4),(21,5),(22,6)] (fun f X hX hR K hK=>?_) ?_
 · obtain ⟨y6,D6,k6,g6,D7,k7,g7,(e6:f 6=_),r6⟩:=hR.out 6 rfl;simp only [yZ,e6];refine ⟨?_⟩;obtain ⟨hk,hr⟩:=r6.bytes;rw [Hbs.out] at hk hr;subst hk;go_simp;exact hK.out _ (.slice D6 bs.length g6) _ (by simp only [yZ,e6]) (zy _) trivial (fun Y hY=>⟨_,_,rfl,jk hr hY⟩)
 refine qJ 9 0 (fun f=>#[f 7]) (F':=65) (fun f X hX hR=>?_) ?_
 · obtain ⟨D8,g8,(e7:f 7=_),r7⟩:=hR.out 7 rfl;simp only [e7];have hm:=gz (Al X) _ _ bs X r7 (fun q hq=>hq) (by have:=Hsm.out;omega);rw [Hx.out,Hdx.out,HLx.out] at hm;refine hm.mono ?_;rintro e w' ⟨A1,c1,rfl,hO,hB⟩;exact ⟨(.slice A1 Lx c1),rfl,hB,fun Y hY=>⟨_,_,rfl,RN.al hO.rn hY (fun q hq=>hq.2) hY.bsize⟩⟩
 refine yF ⟨fun f X hX hR hal hap=>?_⟩
 obtain ⟨b1,(e1:f 1=_),r1⟩:=hR 1 (by decide)
 obtain ⟨v2,(e2:f 2=_),r2⟩:=hR 2 (by decide)
 have e3:f 3=_:=hR 3 (by decide)
 obtain ⟨b5,(e5:f 5=_),r5⟩:=hR 5 (by decide)
 obtain ⟨y6,D6,k6,g6,D7,k7,g7,(e6:f 6=_),r6⟩:=hR 6 (by decide)
 obtain ⟨D8,g8,(e7:f 7=_),r7⟩:=hR 7 (by decide)
 obtain ⟨D9,g9,(e8:f 8=_),r8⟩:=hR 8 (by decide)
 simp only [yZ,e1,e2,e3,e5,e6,e7,e8]
 clear hR hal hap e1 e2 e3 e5 e6 e7 e8
 refine zg (fun K hK=>⟨zZ (by kernel_rfl) ?_⟩)
 go_simp
 refine hK.out _ _ ?_
 refine zg (fun K hK=>⟨zZ (by kernel_rfl) ?_⟩)
 go_simp
 refine hK.out _ _ ?_
 refine zU ?_
 have HX:=zF (zI HE1.out hX)
 have Hr8:=zF r8
 clear hX r8 hq0 hq1 hf
 have HEc:=zBt z (Al X) D9 g9 dx X Hr8.out (fun q hq=>hq)
 rw [Hvx.out,HK.out,HLx.out] at HEc
 have HEc:=zF HEc
 cases Kq with
 | none =>
  have hR:none=R:=by rw [←HR.out];rfl
  subst hR;go_wp2_with fail;refine HEc.out.mono ?_;rintro e w3 ⟨⟨A3,c3,rfl,hr3⟩,hB3⟩;have HX3:=zF (zI HX.out hB3);clear hr3 hB3;have h1:(none:Option (List Nat)).isSome=false:=rfl;rw [h1];go_wp2;go_ret3;exact ⟨rfl,HX3.out⟩
 | some k =>
  have h1:(some k).isSome=true:=rfl;have h2:(some k).getD []=k:=rfl;go_wp2_with fail;refine HEc.out.mono ?_;rintro e w3 ⟨⟨A3,c3,rfl,hr3⟩,hB3⟩;rw [h2] at hr3;have HX3:=zF (zI HX.out hB3);have HEq:=zF (yq (Al w3) (Al w3) A3 A c3 c k b w3 hr3 (HB0.out w3 HX3.out));have Hr3:=zF (RN.al Hr8.out hB3 (fun q hq=>hq) hB3.size);rw [h1,h2];clear hr3 hB3 h1 h2;by_cases hkb:k=b
  · have hR:some (z,x)=R:=by rw [←HR.out,qK (by rw [hkb])]
    subst hR;rw [qX hkb] at HEq;clear hkb;go_wp2_with fail;refine HEq.out.mono ?_;rintro e w4 ⟨rfl,rfl⟩;go_wp2;go_ret3;exact ⟨⟨D9,g9,by rw [Hdx.out,HLx.out];rfl,by rw [Hdx.out];exact Hr3.out⟩,HX3.out⟩
  · have hR:none=R:=by rw [←HR.out,qA (fun h=>hkb (by injection h))]
    subst hR;rw [qb hkb] at HEq;clear hkb;go_wp2_with fail;refine HEq.out.mono ?_;rintro e w4 ⟨rfl,rfl⟩;go_wp2;go_ret3;exact ⟨rfl,HX3.out⟩
end Go.Proofs.YtmlbicgpehchhaaGreat.Der
namespace Go.Proofs.YtmlbicgpehchhaaGreat.Ec
open Go.RowKit Go.Shelf Der
attribute [local go_sem] Oper.semAt_some
def PtN (w:World) (P:Nat→Prop) (v:Value) (bi:Bool) (x y:Nat):Prop:=∃ A c A' c',v=.agg #[.bool bi,.slice A (digs 18446744073709551616 x).length c,.slice A' (digs 18446744073709551616 y).length c']∧RN w P A c (digs 18446744073709551616 x)∧RN w P A' c' (digs 18446744073709551616 y)
theorem PtV.n {w:World}{base:Nat}{v:Value}{o:Option (Nat×Nat)}(h:PtV w base v o):PtN w (In base w.heap.size) v o.isNone (o.elim 0 (·.1)) (o.elim 0 (·.2)):=by
 cases o with
 | none=>obtain rfl:v=uq:=h;exact ⟨none,0,none,0,by simp [qU,uq],by simpa [qU] using RN.nil_ _ _,by simpa [qU] using RN.nil_ _ _⟩
 | some p=>obtain ⟨A,c,A',c',rfl,h1,h2⟩:=h;exact ⟨A,c,A',c',rfl,h1.rn,h2.rn⟩
theorem PtN.below {w w':World}{P P':Nat→Prop}{B:Nat}{v:Value}{bi:Bool}{x y:Nat}(h:PtN w P v bi x y) (hb:Below B w w') (hP:∀ q,P q→q<B) (hP':∀ q,P q→P' q):PtN w' P' v bi x y:=by
 obtain ⟨A,c,A',c',rfl,h1,h2⟩:=h;exact ⟨A,c,A',c',rfl,(h1.below hb hP).mono hP',(h2.below hb hP).mono hP'⟩
theorem PtN.pt {w:World}{P:Nat→Prop}{v:Value}{bi:Bool}{x y:Nat}(h:PtN w P v bi x y) (hP:∀ q,P q→q<w.heap.size):APt w v bi x y:=by
 obtain ⟨A,c,A',c',rfl,h1,h2⟩:=h;exact ⟨A,A',c,c',_,_,rfl,h1.ru hP,h2.ru hP,zc (by omega) x,zc (by omega) y⟩
theorem PtN.just {X Y:World}{P P':Nat→Prop}{g:Nat}{v:Value}{bi:Bool}{x y:Nat}(h:PtN X P v bi x y) (hj:∀ b,b≠g→Y.heap[b]?=X.heap[b]?) (hP:∀ q,P q→q≠g) (hP':∀ q,P q→P' q):PtN Y P' v bi x y:=by
 obtain ⟨A,c,A',c',rfl,h1,h2⟩:=h;exact ⟨A,c,A',c',rfl,(RN.keep h1 fun p hp=>zT (hj _ (hP _ hp))).mono hP',(RN.keep h2 fun p hp=>zT (hj _ (hP _ hp))).mono hP'⟩
theorem jT {x:Nat}(h:0<x):0<(digs 4294967296 x).length:=by
 rcases za (digs 4294967296 x).length with h0 | h0
 · have h1:=qC h0;have h2:=zc (B:=4294967296) (by decide) x;rw [h1] at h2;simp [val] at h2;omega
 · exact h0
end Go.Proofs.YtmlbicgpehchhaaGreat.Ec
namespace Go.Proofs.YtmlbicgpehchhaaGreat.Ec
open Der
theorem kEC_c {c:Int}{C:Crv}{oc:List Nat}(hC:IsC c C) (hn:IsN c oc) (x:Nat):kEC c x=bS C oc x:=by
 unfold kEC;rcases hC with ⟨rfl,rfl⟩ | ⟨rfl,rfl⟩ <;> rcases hn with ⟨h,rfl⟩ | ⟨h,rfl⟩
 · rfl
 · exact absurd h (by decide)
 · exact absurd h (by decide)
 · rfl
theorem zBL {c:Int}{oc:List Nat}(hn:IsN c oc):cI (.mk 6 oc [])=c:=by
 rcases hn with ⟨rfl,rfl⟩ | ⟨rfl,rfl⟩ <;> decide
theorem nh {t:DN}{b:List Nat}(h:vR t=some b):jr b=t:=by
 unfold jr;rw [nf h]
theorem rd_ec {c:Int}{C:Crv}{oc:List Nat}(hC:IsC c C) (hn:IsN c oc){x:Nat}{b:List Nat}(h:bS C oc x=some b):zAL b=some (c,x):=by
 have hk:=kEC_c hC hn x;rw [h] at hk;unfold bS at h;split at h
 · rename_i hm;unfold xw at h;obtain ⟨kb,hkb,h⟩:=Option.bind_eq_some_iff.1 h;have e1:=nh h;have e2:=nh hkb;have a1:atT (jr b) [1,1]=.mk 6 oc []:=by rw [e1];rfl
   have a2:kK (atT (jr b) [2])=kb:=by rw [e1];rfl
   have a3:kK (atT (jr kb) [1])=bytesOf x C.size:=by rw [e2];rfl
   have a4:wO (bytesOf x C.size)=x:=gy (by
    have hl:val 18446744073709551616 C.nl<2 ^ (8*C.size):=by
     rcases hC with ⟨_,rfl⟩ | ⟨_,rfl⟩ <;> decide +kernel
    unfold um at hm
    simp only [wN,vg] at hm
    exact Nat.lt_trans hm.2 hl)
   unfold zAL;rw [a1,a2,a3,a4,zBL hn,qK hk]
 · cases h
end Go.Proofs.YtmlbicgpehchhaaGreat.Ec
namespace Go.Proofs.YtmlbicgpehchhaaGreat.Der
open Go.RowKit Go.Shelf
attribute [local go_sem] Oper.semAt_some
theorem py {b h r:List Nat}{t:Nat}(e:vY b=some (t,h,r)) (hh:h.length<128):b=t :: h.length :: (h++r):=by
 rcases b with _ | ⟨t0,_ | ⟨n,rest⟩⟩
 · cases e
 · cases e
 by_cases hn:n<128
 · rw [bM hn] at e;obtain ⟨e,hl⟩:=uu e;simp only [Prod.mk.injEq] at e;obtain ⟨rfl,rfl,rfl⟩:=e;rw [List.take_append_drop,qB,qc hl]
 · exfalso;by_cases h2:n - 128<1∨3<n - 128∨rest.length<n - 128∨rest.getD 0 0=0
   · rw [oZ hn h2] at e;cases e
   obtain ⟨z,hz⟩:=eV (be 0 (rest.take (n - 128)));by_cases h3:z<128
   · rw [oW hn h2 hz h3] at e;cases e
   · rw [av hn h2 hz h3] at e;obtain ⟨e,hl⟩:=uu e;have e1:=congrArg (fun q=>q.2.1.length) e;simp only [qB] at e1;omega
theorem aO {b bs:List Nat}{t:Nat}{ks:List DN}(e:vr b=some (.mk t bs ks,b.length)) (ht:t≠48) (hb:bs.length<128):b=t :: bs.length :: bs:=by
 unfold vr at e;split at e
 · cases e
 rename_i tr r l hn;split at e
 · cases e
 injection e with e
 simp only [Prod.mk.injEq] at e;obtain ⟨rfl,e⟩:=e;have hl:=gQ hn;have hr:r=[]:=qC (by omega);subst hr;rw [ji] at hn;split at hn
 · cases hn
 split at hn
 · cases hn
 rename_i t' h r' hh;split at hn
 · split at hn
   · simp only [Option.some.injEq,Prod.mk.injEq,DN.mk.injEq] at hn;obtain ⟨⟨rfl,rfl,-⟩,rfl,-⟩:=hn;have:=py hh hb;simpa using this
   · cases hn
 · split at hn
   · cases hn
   · simp only [Option.some.injEq,Prod.mk.injEq,DN.mk.injEq] at hn;exact absurd hn.1.1.symm ht
def pu (b:List Nat):Int :=
 match vr b with
 | none=>0
 | some (.mk t bs _,n)=>if n=b.length then vl t bs else 0
theorem zAH:vr kp1=some (.mk 6 gO [],10):=by kernel_rfl
theorem zAG:vr kp2=some (.mk 6 gN [],7):=by kernel_rfl
theorem nH {z:Int}{bs:List Nat}(h:vl z bs≠0):(z=6∧bs=gO)∨(z=6∧bs=gN):=by
 unfold vl at h;split at h
 · rename_i h1;exact .inl h1
 split at h
 · rename_i h1;exact .inr h1
 · exact absurd rfl h
theorem zBr (b:List Nat):pu b=zAC b:=by
 unfold zAC;by_cases h1:b=kp1
 · subst h1;rw [qK rfl];unfold pu;rw [zAH];decide
 rw [qA h1];by_cases h2:b=kp2
 · subst h2;rw [qK rfl];unfold pu;rw [zAG];decide
 rw [qA h2];unfold pu;split
 · rfl
 rename_i t bs ks n hr;split
 · rename_i hn;subst hn;rcases Int.decEq (vl (t:Int) bs) 0 with hw | hw
   · exfalso;rcases nH hw with ⟨ht,rfl⟩ | ⟨ht,rfl⟩
     · have:t=6:=by omega
       subst this;exact h1 (aO hr (by decide) (by decide))
     · have:t=6:=by omega
       subst this;exact h2 (aO hr (by decide) (by decide))
   · exact hw
 · rfl
theorem cP (P:Nat→Prop) (A:Option Addr) (c:Nat) (b:List Nat) (w:World) (hb:RB w P A c b) (hP:∀ q,P q→q<w.heap.size) :
   Calls Tryz.prog 33 #[.slice A b.length c] w fun e w'=>e=.returned (.tuple #[.int .i64 (zAC b),.bool (decide (zAC b≠0))])∧Below w.heap.size w w':=by
 have HK:=zF (ag P A c b w hb hP);rw [←zBr];obtain ⟨R,hR⟩:=eV (pu b);rw [hR];have HR:=zF hR;clear hR hb hP;go_enter Tryz.func33,Tryz.ntmps33;go_wp2_with fail;refine HK.out.mono ?_;obtain ⟨R0,hR0⟩:=eV (vr b);rw [hR0];have HR0:=zF hR0;clear hR0 HK;rintro e w1 ⟨hKr,hB1⟩;cases R0 with
 | none =>
   unfold rN at hKr;subst hKr;have hR:R=0:=by rw [←HR.out];unfold pu;rw [HR0.out]
   subst hR;have hE:=(zO w1.heap.size w1).alloc (zH _) (.cells #[.int .i64 0,.slice none 0 0,.slice none 0 0] 80);have hw:=dC (fun _=>False) 0 none none 0 0 0 [] _ (vn (w1.alloc (.cells #[.int .i64 0,.slice none 0 0,.slice none 0 0] 80)) _) (fun _ h=>h.elim);have HW:=zF hw;have HB1:=zF (hB1.trans (hE.mono hB1.size));clear hw hE hB1;go_wp2_with fail;refine HW.out.mono ?_;rintro e w2 ⟨rfl,hB2⟩;have HB2:=zF (HB1.out.trans (hB2.mono HB1.out.size));have hw0:vl 0 []=0:=by decide
   rw [hw0];clear hB2 hw0;go_wp2;go_ret2;exact ⟨rfl,HB2.out⟩
 | some q =>
   obtain ⟨⟨t,bs,ks⟩,n⟩:=q;unfold rN at hKr;obtain ⟨v,rfl,hRD⟩:=hKr;obtain ⟨A2,c2,Ak,ck,cs,rfl,hrb,-⟩:=hRD.open_;have hE:=(zO w1.heap.size w1).alloc (zH _) (.cells #[.int .i64 (t:Int),.slice A2 bs.length c2,.slice Ak ks.length ck] 80);have hw:=dC (In w.heap.size w1.heap.size) (t:Int) A2 Ak c2 ks.length ck bs _ (hrb.below hE (fun q hq=>hq.2)) (fun q hq=>by have:=hq.2;simp;omega);have hR:R=if n=b.length then vl t bs else 0:=by rw [←HR.out];unfold pu;rw [HR0.out]
   obtain ⟨W,hW⟩:=eV (vl (t:Int) bs);rw [hW] at hw hR;have HW:=zF hw;have HB1:=zF (hB1.trans (hE.mono hB1.size));have hW3:W=0∨W=1∨W=2:=by
     rw [←hW];unfold vl;split
     · exact .inr (.inl rfl)
     split
     · exact .inr (.inr rfl)
     · exact .inl rfl
   clear hw hE hB1 hrb hRD hW HR0 HR;obtain ⟨N,hN⟩:=eV b.length;rw [hN] at hR ⊢;clear hN;by_cases hn:n=N
   · subst hn;rw [qK rfl] at hR;subst hR;have hnn:(n==n)=true:=by simp
     rw [hnn];clear hnn;go_wp2_with fail;refine HW.out.mono ?_;rintro e w2 ⟨rfl,hB2⟩;have HB2:=zF (HB1.out.trans (hB2.mono HB1.out.size));clear hB2;rcases hW3 with rfl | rfl | rfl
     all_goals
       go_wp2;go_ret2;exact ⟨rfl,HB2.out⟩
   · rw [qA hn] at hR;subst hR;have hnn:(n==N)=false:=by simpa using hn
     rw [hnn];clear hnn hn;go_wp2_with fail;refine HW.out.mono ?_;rintro e w2 ⟨rfl,hB2⟩;have HB2:=zF (HB1.out.trans (hB2.mono HB1.out.size));clear hB2;go_wp2;go_ret2;exact ⟨rfl,HB2.out⟩
end Go.Proofs.YtmlbicgpehchhaaGreat.Der
namespace Go.Proofs.YtmlbicgpehchhaaGreat.Ec
open Go.RowKit Go.Shelf Der
attribute [local go_sem] Oper.semAt_some
theorem zBy:(bS zB4 gO 5).isSome=true:=by kernel_rfl
theorem zCq:vR (.mk 6 gN [])=some kp2:=by kernel_rfl
theorem zCV:zAC kp2=2:=by kernel_rfl
theorem mA:digs 18446744073709551616 5=[5]:=by rw [Go.Proofs.YtmlbicgpehchhaaGreat.jT (by omega) (by omega),show 5 / 18446744073709551616=0 from rfl,qU]
theorem pC (w:World):Calls Tryz.prog 6 #[] w fun e w'=>e=.returned (.bool true)∧Ext w w':=by
 obtain ⟨kb,hkb⟩:∃ kb,bS zB4 gO 5=some kb:=Option.isSome_iff_exists.1 zBy;have hrd:=rd_ec (.inl ⟨rfl,rfl⟩) (.inl ⟨rfl,rfl⟩) hkb;have hA1:=zb w (.cells #[.int .u64 5] 69);have hE:=mg (.inl ⟨rfl,rfl⟩) (.inl ⟨rfl,rfl⟩) _ _ 1 [5] (w.alloc (.cells #[.int .u64 5] 69)) (RN.one w 5 (by omega)) (fun b hb=>by rw [qL];exact hb.2);rw [show val 18446744073709551616 [5]=5 from rfl,hkb,show [5].length=1 from rfl] at hE;have HE:=zF hE;have HA1:=zF hA1;have Hrd:=zF hrd;have c5:((5:Nat):Int)=5:=rfl;clear hA1 hE hrd hkb;go_enter Tryz.func6,Tryz.ntmps6;go_wp2_with fail;refine HE.out.mono ?_;rintro e w1 ⟨⟨A1,k1,rfl,hr1⟩,hB1⟩;have h1:(some kb).isSome=true:=rfl;have h2:(some kb).getD []=kb:=rfl;rw [h2] at hr1;rw [h1,h2];have HX1:=zF (zI HA1.out hB1);have HR:=pY (Al w1) A1 k1 kb w1 hr1 (fun q hq=>hq);rw [Hrd.out] at HR;have HR:=zF HR;clear hr1 hB1 HE HA1 h1 h2 Hrd;go_upto_region 2 with fail;go_wp2_with fail;refine HR.out.mono ?_;rintro e w2 ⟨⟨A2,k2,rfl,hr2⟩,hB2⟩;rw [mA] at hr2;rw [mA];have h3:([5]:List Nat).length=1:=rfl;rw [h3];have HX2:=zF (zI HX1.out hB2);have HR2:=zF hr2;have HP:=tH (c:=2) (oc:=gN) (.inr ⟨rfl,rfl⟩) w2;rw [zCq] at HP;have HP:=zF HP;clear hr2 hB2 HR HX1 h3;go_upto_region 3 with fail;go_wp2_with fail;refine HP.out.mono ?_;rintro e w3 ⟨⟨A3,k3,rfl,hr3⟩,hB3⟩;have h1:(some kp2).isSome=true:=rfl;have h2:(some kp2).getD []=kp2:=rfl;rw [h2] at hr3;rw [h1,h2];have HX3:=zF (zI HX2.out hB3);have HR3:=zF (RN.al HR2.out hB3 (fun q hq=>hq) hB3.size);have HQ:=cP (Al w3) A3 k3 kp2 w3 hr3 (fun q hq=>hq);rw [zCV,show decide ((2:Int)≠0)=true from by decide] at HQ;have HQ:=zF HQ;clear hr3 hB3 HP HX2 h1 h2 HR2;go_upto_region 4 with fail;go_wp2_with fail;refine HQ.out.mono ?_;rintro e w4 ⟨rfl,hB4⟩;have HX4:=zF (zI HX3.out hB4);obtain ⟨ad,rfl,_,h0⟩:=(RN.al HR3.out hB4 (fun q hq=>hq) hB4.size).at_ (i:=0) (by decide);rw [show ad.add 0=ad from by simp [Addr.add],show ((dg [5] 0:Nat):Int)=5 from rfl] at h0;clear hB4 HQ HX3 HR3;go_upto_region 5 with fail;go_wp2;go_ret;exact ⟨rfl,HX4.out⟩
end Go.Proofs.YtmlbicgpehchhaaGreat.Ec
namespace Go.Proofs.YtmlbicgpehchhaaGreat.Der
open Go.RowKit Go.Shelf
attribute [local go_sem] Oper.semAt_some
theorem rm {l:List Nat}{x:Nat}(hm:Lim l) (hl:l.length≤9) (hx:val 18446744073709551616 l=x):zo x≤524287:=by
 subst hx;have h:=jf hm.1;rw [show (18446744073709551616:Nat)=2 ^ 64 by decide,←wE] at h;have:=kh h;rw [show (2:Nat) ^ 64=18446744073709551616 by decide] at this;omega
theorem KU.rk {w:World}{v:Value}{k0 k1 k2 k3 k4:List Nat}{n ee d p q:Nat}(h:KU w v k0 k1 k2 k3 k4) (hl:∀ l∈[k0,k1,k2,k3,k4],l.length≤9) (h0:val 18446744073709551616 k0=n) (h1:val 18446744073709551616 k1=ee) (h2:val 18446744073709551616 k2=d) (h3:val 18446744073709551616 k3=p) (h4:val 18446744073709551616 k4=q):RK w v n ee d p q:=by
 obtain ⟨A0,A1,A2,A3,A4,c0,c1,c2,c3,c4,rfl,g0,g1,g2,g3,g4⟩:=h;have e:∀ l∈[k0,k1,k2,k3,k4],l.length≤20000:=fun l h=>zQ (hl l h) (by omega);exact ⟨A0,A1,A2,A3,A4,c0,c1,c2,c3,c4,k0,k1,k2,k3,k4,rfl,⟨g0,h0,e _ (by simp)⟩,⟨g1,h1,e _ (by simp)⟩,⟨g2,h2,e _ (by simp)⟩,⟨g3,h3,e _ (by simp)⟩,⟨g4,h4,e _ (by simp)⟩⟩
theorem rA {P:Nat→Prop}{v:Value}{l0 l1 l2 l3 l4:List Nat}(w:World) (hk:KL w P v l0 l1 l2 l3 l4) (hP:∀ b,P b→b<w.heap.size) :
 Calls Tryz.prog 4 #[v] w fun e w'=>e=.returned (.bool true)∧Ext w w':=by
 obtain ⟨A0,A1,A2,A3,A4,c0,c1,c2,c3,c4,rfl,h0,h1,h2,h3,h4⟩:=hk
 obtain ⟨W0,hW0⟩:=eW (w.alloc (.cells #[.slice A0 l0.length c0,.slice A1 l1.length c1,.slice A2 l2.length c2,.slice A3 l3.length c3,.slice A4 l4.length c4] 48))
 obtain ⟨s,hs⟩:=eV w.heap.size
 have hq0:=zP w (.cells #[.slice A0 l0.length c0,.slice A1 l1.length c1,.slice A2 l2.length c2,.slice A3 l3.length c3,.slice A4 l4.length c4] 48)
 have hE:Ext w W0:=by rw [hW0];exact zb _ _
 rw [←hW0,hs] at hq0
 have HPX:=zF (fun X (hX:Ext W0 X) (b:Nat) (hb:P b)=>(zR (hP b hb) (zI hE hX).bsize:b<X.heap.size))
 have HK:=zF (fun X (hX:Ext W0 X)=>(⟨A0,A1,A2,A3,A4,c0,c1,c2,c3,c4,rfl,h0.below (zI hE hX) hP,h1.below (zI hE hX) hP,h2.below (zI hE hX) hP,h3.below (zI hE hX) hP,h4.below (zI hE hX) hP⟩:KL X P (.agg #[.slice A0 l0.length c0,.slice A1 l1.length c1,.slice A2 l2.length c2,.slice A3 l3.length c3,.slice A4 l4.length c4]) l0 l1 l2 l3 l4))
 obtain ⟨k0,hk0⟩:=eV (l0.take 9)
 have hm0:k0.length≤9:=by rw [←hk0,qB];omega
 obtain ⟨k1,hk1⟩:=eV (l1.take 9)
 have hm1:k1.length≤9:=by rw [←hk1,qB];omega
 obtain ⟨k2,hk2⟩:=eV (l2.take 9)
 have hm2:k2.length≤9:=by rw [←hk2,qB];omega
 obtain ⟨k3,hk3⟩:=eV (l3.take 9)
 have hm3:k3.length≤9:=by rw [←hk3,qB];omega
 obtain ⟨k4,hk4⟩:=eV (l4.take 9)
 have hm4:k4.length≤9:=by rw [←hk4,qB];omega
 obtain ⟨n,hx0⟩:=eV (val 18446744073709551616 k0)
 obtain ⟨ee,hx1⟩:=eV (val 18446744073709551616 k1)
 obtain ⟨d,hx2⟩:=eV (val 18446744073709551616 k2)
 obtain ⟨p,hx3⟩:=eV (val 18446744073709551616 k3)
 obtain ⟨q,hx4⟩:=eV (val 18446744073709551616 k4)
 have hl9:∀ l∈[k0,k1,k2,k3,k4],l.length≤9:=by
  intro l h;simp only [ya,xT,or_false] at h;rcases h with rfl | rfl | rfl | rfl | rfl <;> assumption
 have HL9:=zF hl9
 have HRK:=zF (fun X (v:Value) (h:KU X v k0 k1 k2 k3 k4)=>(h.rk hl9 hx0 hx1 hx2 hx3 hx4:RK X v n ee d p q))
 have Hn:=zF (fun (h:Lim k0)=>rm h hm0 hx0)
 have He:=zF (fun (h:Lim k1)=>rm h hm1 hx1)
 have HX:=zF (And.intro hx0 (And.intro hx1 (And.intro hx2 (And.intro hx3 hx4))))
 have Hk:=zF (And.intro hk0 (And.intro hk1 (And.intro hk2 (And.intro hk3 hk4))))
 have HE0:=zF hE
 have Hs:=zF hs
 have Hq0:=zF hq0
 clear h0 h1 h2 h3 h4 hE hs hq0 hP hk0 hk1 hk2 hk3 hk4 hm0 hm1 hm2 hm3 hm4 hx0 hx1 hx2 hx3 hx4 hl9
 go_enter Tryz.func4,Tryz.ntmps4
 go_upto_region 1 with fail
 rw [←hW0,Hs.out]
 clear hW0
 go_upto_region 2 with (go_at_call 6;refine (Ec.pC _).mono ?_;rintro e w1 ⟨rfl,hE1⟩)
 obtain ⟨y0,y1,y2,y3,y4⟩:=jO (jQ hE1 Hq0.out)
 have hck:=rG w1 (HK.out w1 hE1) (HPX.out w1 hE1)
 rw [Hk.out.1,Hk.out.2.1,Hk.out.2.2.1,Hk.out.2.2.2.1,Hk.out.2.2.2.2] at hck
 have HCk:=zF hck
 have HE1:=zF hE1
 clear hE1 hck HK HPX
 go_wp2_with fail
 refine HCk.out.mono ?_
 rintro e w2 ⟨u,rfl,⟨U0,U1,U2,U3,U4,d0,d1,d2,d3,d4,rfl,r0,r1,r2,r3,r4⟩,hE2⟩
 have hq2:=jQ (zI HE1.out hE2) Hq0.out
 have Hn:=zF (Hn.out r0.2)
 have He:=zF (He.out r1.2)
 have HR:=zF (And.intro r0 (And.intro r1 (And.intro r2 (And.intro r3 r4))))
 have HE2:=zF (zI HE0.out (zI HE1.out hE2))
 have Hq2:=zF hq2
 clear r0 r1 r2 r3 r4 hE2 y0 y1 y2 y3 y4 HCk HE1 HE0 Hq0 Hk
 obtain ⟨p0,p1,p2,p3,p4⟩:=jO hq2
 obtain ⟨o0,o1,o2,o3,o4⟩:=zAw hq2
 clear hq2
 go_upto_region 3 with fail
 clear p0 p1 p2 p3 p4 o0 o1 o2 o3 o4
 generalize hY:((((w2.setCell ⟨s,0,none⟩ (.slice U0 k0.length d0)).setCell ⟨s,1,none⟩ (.slice U1 k1.length d1)).setCell ⟨s,2,none⟩ (.slice U2 k2.length d2)).setCell ⟨s,3,none⟩ (.slice U3 k3.length d3)).setCell ⟨s,4,none⟩ (.slice U4 k4.length d4)=Y at *
 obtain ⟨f1,f2,f3,f4⟩:=xQ hY Hq2.out
 have hJ:kj s w2 Y:=⟨(f4 0 (j6 _)).os,(f4 0 (j6 _)).tape,(f4 0 (j6 _)).output,(f4 0 (j6 _)).size,fun b _ hb=>f1 b hb⟩
 have hni:(#[.slice A0 l0.length c0,.slice A1 l1.length c1,.slice A2 l2.length c2,.slice A3 l3.length c3,.slice A4 l4.length c4]:Array Value).all ri=true:=by simp [ri]
 have hku:KU Y (.agg #[.slice U0 k0.length d0,.slice U1 k1.length d1,.slice U2 k2.length d2,.slice U3 k3.length d3,.slice U4 k4.length d4]) k0 k1 k2 k3 k4:=⟨_,_,_,_,_,_,_,_,_,_,rfl,HR.out.1.offJ hJ Hq2.out hni,HR.out.2.1.offJ hJ Hq2.out hni,HR.out.2.2.1.offJ hJ Hq2.out hni,HR.out.2.2.2.1.offJ hJ Hq2.out hni,HR.out.2.2.2.2.offJ hJ Hq2.out hni⟩
 have HE:=zF (show Ext w Y from by have h:=HE2.out;unfold Ext at h ⊢;rw [Hs.out] at h ⊢;exact h.trans (f4 s (zH _)))
 have HS:=zF (fun X (hX:Ext Y X)=>And.intro (jQ hX f3) (hku.ext hX))
 have hfr:=oa Y hku HL9.out
 rw [HX.out.1,HX.out.2.1,HX.out.2.2.1,HX.out.2.2.2.1,HX.out.2.2.2.2] at hfr
 have HFr:=zF hfr
 obtain ⟨y0,y1,y2,y3,y4⟩:=jO f3
 clear hY f1 f2 f3 f4 hJ hni hku hfr HR HE2 Hq2 HX HL9
 go_wp2_with fail
 refine HFr.out.mono ?_
 rintro e w3 ⟨u,rfl,hu,hE3⟩
 have hu2:=hu
 obtain ⟨B0,B1,B2,B3,B4,b0,b1,b2,b3,b4,rfl,-,-,-,-,-⟩:=hu2
 obtain ⟨j0,hj0⟩:=eV ((digs 4294967296 n).length)
 obtain ⟨j1,hj1⟩:=eV ((digs 4294967296 ee).length)
 obtain ⟨j2,hj2⟩:=eV ((digs 4294967296 d).length)
 obtain ⟨j3,hj3⟩:=eV ((digs 4294967296 p).length)
 obtain ⟨j4,hj4⟩:=eV ((digs 4294967296 q).length)
 simp only [hj0,hj1,hj2,hj3,hj4] at hu ⊢
 have HJ:=zF (And.intro hj0 hj1)
 obtain ⟨g,hg⟩:=eV w3.heap.size
 have hA3:=zb w3 (.cells #[.slice B0 j0 b0,.slice B1 j1 b1,.slice B2 j2 b2,.slice B3 j3 b3,.slice B4 j4 b4] 51)
 have hq3:=zP w3 (.cells #[.slice B0 j0 b0,.slice B1 j1 b1,.slice B2 j2 b2,.slice B3 j3 b3,.slice B4 j4 b4] 51)
 rw [hg] at hq3
 have Hg:=zF hg
 clear y0 y1 y2 y3 y4 hg hj0 hj1 hj2 hj3 hj4
 go_upto_region 4 with fail
 rw [Hg.out]
 replace HE:=zF (zI HE.out (zI hE3 hA3))
 have huu:=RKr.ext hu hA3
 generalize w3.alloc (.cells #[.slice B0 j0 b0,.slice B1 j1 b1,.slice B2 j2 b2,.slice B3 j3 b3,.slice B4 j4 b4] 51)=W4 at *
 replace HS:=zF (fun X (hX:Ext W4 X)=>And.intro (jQ hX hq3) (And.intro (RKr.ext huu hX) (HS.out X (zI hE3 (zI hA3 hX)))))
 clear hu hE3 hA3 huu hq3 HFr Hg
 obtain ⟨R1,hR1⟩:=eV (gH n ee d p q)
 obtain ⟨R2,hR2⟩:=eV (ui n ee)
 obtain ⟨t1,ht1⟩:=eV R1.isSome
 obtain ⟨b1',hb1⟩:=eV (R1.getD [])
 obtain ⟨t2,ht2⟩:=eV R2.isSome
 obtain ⟨b2',hb2⟩:=eV (R2.getD [])
 have hg:∀ {R:Option (List Nat)} {o:Bool} {b:List Nat},R.isSome=o→R.getD []=b→o=true→R=some b:=fun {R o b} h1 h2 h3=>by rw [←h2];rw [h3] at h1;obtain ⟨y,hy⟩:=Option.isSome_iff_exists.1 h1;rw [hy];rfl
 have Hg1:=zF (fun h:t1=true=>zCX (hR1.trans (hg ht1 hb1 h)))
 have Hg2:=zF (fun h:t2=true=>rd_pr (hR2.trans (hg ht2 hb2 h)))
 have hc1:=fun X (v:Value) (h:RK X v n ee d p q)=>oP X h
 have hc2:=fun X (v:Value) (h:RKr X v n ee d p q)=>zAB X h
 have hc3:=fun X (v:Value) (h:RK X v n ee d p q)=>ah X h Hn.out He.out
 have hc4:=fun X (v:Value) (h:RKr X v n ee d p q)=>sZ X h Hn.out He.out
 unfold WrB at hc1 hc2 hc3 hc4
 simp only [hR1,hR2,ht1,ht2,hb1,hb2] at hc1 hc2 hc3 hc4
 have HC1:=zF hc1
 have HC2:=zF hc2
 have HC3:=zF hc3
 have HC4:=zF hc4
 clear hR1 hR2 ht1 ht2 hb1 hb2 hg hc1 hc2 hc3 hc4
 have HCx:=zF (HC1.out W4 _ (HRK.out _ _ (HS.out W4 (zy _)).2.2.2))
 obtain ⟨y0,y1,y2,y3,y4⟩:=jO (HS.out W4 (zy _)).2.2.1
 clear HC1
 go_upto_region 5 with (go_at_call 21;refine HCx.out.mono ?_;rintro e w6 ⟨⟨F6,v6,rfl,hr⟩,hE9⟩)
 replace HE:=zF (zI HE.out hE9)
 replace HS:=zF (fun X (hX:Ext w6 X)=>And.intro (jk hr hX) (HS.out X (zI hE9 hX)))
 clear hr hE9 HCx y0 y1 y2 y3 y4
 have HCx:=zF (HC2.out w6 _ ((HS.out w6 (zy _)).2.2.1))
 obtain ⟨y0,y1,y2,y3,y4⟩:=jO (HS.out w6 (zy _)).2.1
 clear HC2
 go_upto_region 6 with (go_at_call 22;refine HCx.out.mono ?_;rintro e w7 ⟨⟨F7,v7,rfl,hr⟩,hE9⟩)
 replace HE:=zF (zI HE.out hE9)
 replace HS:=zF (fun X (hX:Ext w7 X)=>And.intro (jk hr hX) (HS.out X (zI hE9 hX)))
 clear hr hE9 HCx y0 y1 y2 y3 y4
 have HCx:=zF (HC3.out w7 _ (HRK.out _ _ (HS.out w7 (zy _)).2.2.2.2.2))
 obtain ⟨y0,y1,y2,y3,y4⟩:=jO (HS.out w7 (zy _)).2.2.2.2.1
 clear HC3
 go_upto_region 7 with (go_at_call 23;refine HCx.out.mono ?_;rintro e w8 ⟨⟨F8,v8,rfl,hr⟩,hE9⟩)
 replace HE:=zF (zI HE.out hE9)
 replace HS:=zF (fun X (hX:Ext w8 X)=>And.intro (jk hr hX) (HS.out X (zI hE9 hX)))
 clear hr hE9 HCx y0 y1 y2 y3 y4
 have HCx:=zF (HC4.out w8 _ ((HS.out w8 (zy _)).2.2.2.2.1))
 obtain ⟨y0,y1,y2,y3,y4⟩:=jO (HS.out w8 (zy _)).2.2.2.1
 clear HC4
 go_upto_region 8 with (go_at_call 24;refine HCx.out.mono ?_;rintro e w9 ⟨⟨F9,v9,rfl,hr⟩,hE9⟩)
 replace HE:=zF (zI HE.out hE9)
 replace HS:=zF (fun X (hX:Ext w9 X)=>And.intro (jk hr hX) (HS.out X (zI hE9 hX)))
 clear hr hE9 HCx y0 y1 y2 y3 y4
 obtain ⟨s9,s8,s7,s6,-⟩:=HS.out w9 (zy _)
 have t19:=s9.str (P:=Tryz.prog) 34 5 9 Tryz.underlying34 Tryz.underlying5 Tryz.underlying9
 have t18:=s8.str (P:=Tryz.prog) 34 5 9 Tryz.underlying34 Tryz.underlying5 Tryz.underlying9
 have t17:=s7.str (P:=Tryz.prog) 34 5 9 Tryz.underlying34 Tryz.underlying5 Tryz.underlying9
 have t16:=s6.str (P:=Tryz.prog) 34 5 9 Tryz.underlying34 Tryz.underlying5 Tryz.underlying9
 clear s9 s8 s7 s6
 have ne1:(t1 != t1)=false:=by cases t1 <;> rfl
 have ne2:(t2 != t2)=false:=by cases t2 <;> rfl
 go_upto_region 10 with fail
 clear t19 t18 t17 t16 ne1 ne2
 cases t1
 rotate_left
 focus
  have hrd:=Hg1.out rfl;obtain ⟨-,-,-,s6,-⟩:=HS.out w9 (zy _);have hrr:=ng (Al w9) F6 v6 b1' w9 s6 (fun q hq=>hq);rw [hrd] at hrr;have HRd:=zF hrr;clear hrd s6 hrr;go_upto_region 11 with fail;go_wp2_with fail;refine HRd.out.mono ?_;rintro e w10 ⟨⟨vk,rfl,hvk⟩,hEa⟩;replace HE:=zF (zI HE.out hEa);replace HS:=zF (fun X (hX:Ext w10 X)=>HS.out X (zI hEa hX));have hvk2:=hvk;obtain ⟨D0,D1,D2,D3,D4,x0,x1,x2,x3,x4,rfl,-,-,-,-,-⟩:=hvk2;obtain ⟨i0,hi0⟩:=eV ((digs 18446744073709551616 n).length);obtain ⟨i1,hi1⟩:=eV ((digs 18446744073709551616 ee).length);obtain ⟨i2,hi2⟩:=eV ((digs 18446744073709551616 d).length);obtain ⟨i3,hi3⟩:=eV ((digs 18446744073709551616 p).length);obtain ⟨i4,hi4⟩:=eV ((digs 18446744073709551616 q).length);simp only [hi0,hi1,hi2,hi3,hi4] at hvk ⊢;have hAk:=zb w10 (.cells #[.slice D0 i0 x0,.slice D1 i1 x1,.slice D2 i2 x2,.slice D3 i3 x3,.slice D4 i4 x4] 48);have hqk:=zP w10 (.cells #[.slice D0 i0 x0,.slice D1 i1 x1,.slice D2 i2 x2,.slice D3 i3 x3,.slice D4 i4 x4] 48);obtain ⟨gk,hgk⟩:=eV w10.heap.size;rw [hgk] at hqk;have hvv:=hvk.keep (P':=Al (w10.alloc (.cells #[.slice D0 i0 x0,.slice D1 i1 x1,.slice D2 i2 x2,.slice D3 i3 x3,.slice D4 i4 x4] 48))) (fun a ha=>Below.cell hAk ha) (fun q hq=>zR hq hAk.bsize);have Hgk:=zF hgk;clear hgk hvk hEa HRd hi0 hi1 hi2 hi3 hi4;go_upto_region 12 with fail;rw [Hgk.out];replace HE:=zF (zI HE.out hAk);generalize w10.alloc (.cells #[.slice D0 i0 x0,.slice D1 i1 x1,.slice D2 i2 x2,.slice D3 i3 x3,.slice D4 i4 x4] 48)=V at *;replace HS:=zF (fun X (hX:Ext V X)=>HS.out X (zI hAk hX));obtain ⟨-,-,-,-,hqu,huu,-⟩:=HS.out V (zy _);have Hyes:=zF (ao V hvv huu);obtain ⟨y0,y1,y2,y3,y4⟩:=jO hqk;obtain ⟨z0,z1,z2,z3,z4⟩:=jO hqu;clear hqk hqu huu hvv hAk Hgk;go_upto_region 14 with (go_at_call 26;refine Hyes.out.mono ?_;rintro e w12 ⟨rfl,hEb⟩);replace HE:=zF (zI HE.out hEb);replace HS:=zF (fun X (hX:Ext w12 X)=>HS.out X (zI hEb hX));clear hEb Hyes y0 y1 y2 y3 y4 z0 z1 z2 z3 z4
 rotate_left
 focus
  go_upto_region 14 with fail
 all_goals
  cases t2
  · go_wp2;go_ret;exact ⟨rfl,HE.out⟩
  · have hrd:=Hg2.out rfl;obtain ⟨-,s8,-⟩:=HS.out _ (zy _);have hrr:=cO _ F8 v8 b2' _ s8 (fun q hq=>hq);rw [hrd] at hrr;have HRd:=zF hrr;clear hrd s8 hrr;go_upto_region 15 with fail;go_wp2_with fail;refine HRd.out.mono ?_;rintro e w10 ⟨⟨vk,rfl,hvk⟩,hEa⟩;replace HE:=zF (zI HE.out hEa);replace HS:=zF (fun X (hX:Ext w10 X)=>HS.out X (zI hEa hX));have hvk2:=hvk;obtain ⟨D0,D1,D2,D3,D4,x0,x1,x2,x3,x4,rfl,-,-,-,-,-⟩:=hvk2;obtain ⟨i0,hi0⟩:=eV ((digs 18446744073709551616 n).length);obtain ⟨i1,hi1⟩:=eV ((digs 18446744073709551616 ee).length);have z64:(digs 18446744073709551616 0).length=0:=by rw [qU];rfl
    simp only [hi0,hi1,z64] at hvk ⊢;have hAk:=zb w10 (.cells #[.slice D0 i0 x0,.slice D1 i1 x1,.slice D2 0 x2,.slice D3 0 x3,.slice D4 0 x4] 48);have hqk:=zP w10 (.cells #[.slice D0 i0 x0,.slice D1 i1 x1,.slice D2 0 x2,.slice D3 0 x3,.slice D4 0 x4] 48);obtain ⟨gk,hgk⟩:=eV w10.heap.size;rw [hgk] at hqk;have hvv:=hvk.keep (P':=Al (w10.alloc (.cells #[.slice D0 i0 x0,.slice D1 i1 x1,.slice D2 0 x2,.slice D3 0 x3,.slice D4 0 x4] 48))) (fun a ha=>Below.cell hAk ha) (fun q hq=>zR hq hAk.bsize);have Hgk:=zF hgk;clear hgk hvk hEa HRd hi0 hi1 z64;go_upto_region 16 with fail;rw [Hgk.out];replace HE:=zF (zI HE.out hAk);generalize w10.alloc (.cells #[.slice D0 i0 x0,.slice D1 i1 x1,.slice D2 0 x2,.slice D3 0 x3,.slice D4 0 x4] 48)=V at *;replace HS:=zF (fun X (hX:Ext V X)=>HS.out X (zI hAk hX));obtain ⟨-,-,-,-,hqu,huu,-⟩:=HS.out V (zy _);have hkk:RKr V (.agg #[.slice B0 j0 b0,.slice B1 j1 b1,.slice none 0 0,.slice none 0 0,.slice none 0 0]) n ee 0 0 0:=by
     obtain ⟨E0,E1,E2,E3,E4,a0,a1,a2,a3,a4,he,g0,g1,-,-,-⟩:=huu;injection he with he
     injection he with he
     simp only [List.cons.injEq,Value.slice.injEq] at he;obtain ⟨⟨rfl,-,rfl⟩,⟨rfl,-,rfl⟩,-⟩:=he;have z0:NR V none 0 0:=⟨by rw [qU];exact RN.nil_ _ _,by rw [qU];simp⟩
     exact ⟨B0,B1,none,none,none,b0,b1,0,0,0,by rw [HJ.out.1,HJ.out.2,qU];rfl,g0,g1,z0,z0,z0⟩
    have Hyes:=zF (ao V hvv hkk);clear hkk;obtain ⟨y0,y1,y2,y3,y4⟩:=jO hqk;obtain ⟨z0,z1,z2,z3,z4⟩:=jO hqu;clear hqk hqu huu hvv hAk Hgk;go_wp2_with (go_at_call 26;refine Hyes.out.mono ?_;rintro e w12 ⟨rfl,hEb⟩);go_ret;exact ⟨rfl,zI HE.out hEb⟩
end Go.Proofs.YtmlbicgpehchhaaGreat.Der
namespace Go.Proofs.YtmlbicgpehchhaaGreat.fmtRSA
open Go.ChangeShapes Go.WideShapes Go.ChangeAt Go.RowKit
theorem own:ownKnob Tryz.prog.godebug=none:=by kernel_rfl
theorem laidOut:laidOutB Tryz.prog=true:=by kernel_rfl
theorem lifted (os:Os) (started:os.Started) (H:Type) (enc:TypeId×Value→H) :
 ReturnsInHanded {} Tryz.checked os 4 .any (Rows.fmtRSASpec.pre6 enc Tryz.prog Tryz.f4 Rows.fmtRSARow.domain false) (Rows.fmtRSASpec.post enc Tryz.prog Tryz.f4 false true false false):=by
 refine returnsInHanded_of_change_sized (C:=Tryz.checked) own started (by kernel_rfl) Tryz.func4
  (ChangeSpec.witness6 (enc:=enc) (C:=Tryz.checked) false ⟨#[],#[.agg #[.slice none 0 0,.slice none 0 0,.slice none 0 0,.slice none 0 0,.slice none 0 0]],[]⟩ 8 (by kernel_rfl) (by kernel_rfl) (by kernel_rfl) (by kernel_rfl)) ?_
 intro W base args ds gs before hval0 hW hcnd hsz0 _
 have hval:∀ (j:Nat) t v,Tryz.f4.params[j]?=some t→args[j]?=some v→Value.okWide Tryz.prog W .any base t v:=hval0
 have hsz:(DataW.weightsEach Tryz.prog (Tryz.f4.params.toList++Rows.fmtRSASpec.plain.varTypes Tryz.prog) (ds++gs)).all (· ≤ reachBytes)=true:=hsz0
 have hW':=hW
 obtain ⟨p,q,hA0,hV,rfl,hfz,hnd⟩:=hW
 have hA:DataW.TrodAll enc Tryz.prog W 0 (fun _=>true) true Tryz.f4.params.toList args.toList ds p:=hA0
 rw [Tryz.params4] at hA hval hsz
 obtain ⟨v0,vs0,d0,ds0,p0,q0,hargs,rfl,rfl,h0,r0⟩:=trodAll_cons hA
 obtain ⟨rfl,rfl,rfl⟩:=trodAll_nil r0
 obtain rfl:args=#[v0]:=by cases args;simp_all
 obtain ⟨rfl,rfl⟩:=trodVars_none hV
 have k0:=h0
 have lt0:∀ x∈p0,x.block<W.heap.size:=by obtain ⟨m,hm⟩:=k0;exact DataW.trod_lt m _ _ _ hm
 have fit:∀ (j:Nat) (t:TypeId) (d:DataW H),[48][j]?=some t→[d0][j]?=some d→pL t d:=fun j t d ht hd k hk=>by
  have:=List.all_eq_true.1 hsz k (DataW.weights_mem_each (ts:=[48]) (ds:=[d0]) ht hd k hk);simpa using this
 obtain ⟨l0a,l0b,l0c,l0d,l0e,hR0⟩:=Der.zAX (hval 0 48 v0 rfl rfl) h0 (fit 0 _ _ rfl rfl)
 clear hA0 hval0
 refine (Der.rA W hR0 (fun b hb=>hb)).mono fun e W' ⟨he,bel⟩=>?_
 subst he
 exact ⟨_,rfl,_,_,_,[],_,[],hW',trodAll_mk1 (shut_bool Tryz.underlying4 _),(trodAll_cons_mk (Below.trod laidOut (by kernel_rfl) (of_decide_eq_true (by kernel_rfl)) k0 bel lt0) trodAll_mk0),rfl,bel.frame _,fun h=>by cases h⟩
theorem over:Rows.fmtRSARow.holds Tryz.pinned (OpenSpec.ofChange Rows.fmtRSASpec) :=
 OpenClaim.holds_of_wide 4 Tryz.f4 rfl rfl rfl rfl rfl rfl rfl ⟨rfl,rfl,rfl,rfl,rfl⟩ rfl rfl rfl rfl rfl (by kernel_rfl) Tryz.func4 (by kernel_rfl)
  (of_decide_eq_true (by kernel_rfl)) (by unfold Func.isWrapper;first | (rw [qK (by decide +kernel)];kernel_rfl) | (rw [qA (by decide +kernel)];exact ⟨rfl,rfl⟩))
  (fun os started H enc _=>lifted os started H enc)
theorem proved:Rows.FmtRSASaid:=over
#print axioms proved
end Go.Proofs.YtmlbicgpehchhaaGreat.fmtRSA
