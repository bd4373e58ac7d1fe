/- Laws that the proof rests on. -/
import Derived.Test.YtmlbicgpehchhaaGreatQf2dcc3959b5a
set_option maxRecDepth 100000
set_option maxHeartbeats 16000000
namespace Go.Proofs.YtmlbicgpehchhaaGreat
def wm (B:Nat) (L0 y:List Nat) (q f:Nat) (L:List Nat) (j c b:Nat):Prop :=
 L.length=L0.length∧val B L+B ^ f*(q*val B (y.take j))=val B L0+B ^ (f+j)*(c+b)∧∀ i,f+j≤i→dg L i=dg L0 i
theorem wm.zero (B:Nat) (L y:List Nat) (q f:Nat):wm B L y q f L 0 0 0:=by simp [wm]
theorem wm.step {B:Nat} {L0 y L:List Nat} {q f j c b lo c' x b':Nat} (h:wm B L0 y q f L j c b) (hL:f+j<L.length) (h1:lo+B*c'=q*dg y j+c) (h2:x+lo+b=dg L (f+j)+B*b') :
 wm B L0 y q f (L.set (f+j) x) (j+1) c' b':=by
 obtain ⟨g1,g2,g3⟩:=h
 refine ⟨by simpa using g1,?_,fun i hi=>by rw [getD_set_ne (by omega)];exact g3 i (by omega)⟩
 have hs:=wI B hL x
 rw [z8,zl,zl,←jq f j 1,zv]
 have e1:B ^ f*(q*(B ^ j*dg y j))=B ^ (f+j)*(q*dg y j):=by
  rw [qM,jB q,←zf]
 have e2:B ^ (f+j)*(lo+B*c')=B ^ (f+j)*(q*dg y j+c):=by rw [h1]
 have e3:B ^ (f+j)*(x+lo+b)=B ^ (f+j)*(dg L (f+j)+B*b'):=by rw [h2]
 rw [e1,zf,zl]
 rw [zl] at g2
 simp only [zl] at e2 e3 ⊢
 generalize B ^ (f+j)*(B*c')=p1 at *
 generalize B ^ (f+j)*(B*b')=p2 at *
 generalize B ^ (f+j)*lo=p3 at *
 generalize B ^ (f+j)*(q*dg y j)=p4 at *
 generalize B ^ (f+j)*c=p5 at *
 generalize B ^ (f+j)*b=p6 at *
 generalize B ^ (f+j)*x=p7 at *
 generalize B ^ (f+j)*dg L (f+j)=p8 at *
 generalize B ^ f*(q*val B (y.take j))=p9 at *
 generalize val B (L.set (f+j) x)=p10 at *
 generalize val B L=p11 at *
 generalize val B L0=p12 at *
 omega
theorem wm.fin {B:Nat} {L0 y L:List Nat} {q f n c b x b':Nat} (h:wm B L0 y q f L n c b) (hn:y.length=n) (hL:f+n<L.length) (h2:x+c+b=dg L (f+n)+B*b') :
 (L.set (f+n) x).length=L0.length∧val B (L.set (f+n) x)+B ^ f*(q*val B y)=val B L0+B ^ (f+n+1)*b'∧∀ i,f+n+1≤i→dg (L.set (f+n) x) i=dg L0 i:=by
 obtain ⟨g1,g2,g3⟩:=h
 refine ⟨by simpa using g1,?_,fun i hi=>by rw [getD_set_ne (by omega)];exact g3 i (by omega)⟩
 rw [zx (by omega)] at g2
 have hs:=wI B hL x
 have e3:B ^ (f+n)*(x+c+b)=B ^ (f+n)*(dg L (f+n)+B*b'):=by rw [h2]
 rw [zv,zf]
 simp only [zl] at e3 g2
 generalize B ^ (f+n)*(B*b')=p2 at *
 generalize B ^ (f+n)*c=p5 at *
 generalize B ^ (f+n)*b=p6 at *
 generalize B ^ (f+n)*x=p7 at *
 generalize B ^ (f+n)*dg L (f+n)=p8 at *
 generalize B ^ f*(q*val B y)=p9 at *
 generalize val B (L.set (f+n) x)=p10 at *
 generalize val B L=p11 at *
 generalize val B L0=p12 at *
 omega
def wn (B:Nat) (L0 y:List Nat) (f:Nat) (L:List Nat) (j c:Nat):Prop :=
 L.length=L0.length∧val B L+B ^ (f+j)*c=val B L0+B ^ f*val B (y.take j)∧∀ i,f+j≤i→dg L i=dg L0 i
theorem wn.zero (B:Nat) (L y:List Nat) (f:Nat):wn B L y f L 0 0:=by simp [wn]
theorem wn.step {B:Nat} {L0 y L:List Nat} {f j c x c':Nat} (h:wn B L0 y f L j c) (hL:f+j<L.length) (h1:x+B*c'=dg L (f+j)+dg y j+c):wn B L0 y f (L.set (f+j) x) (j+1) c':=by
 obtain ⟨g1,g2,g3⟩:=h
 refine ⟨by simpa using g1,?_,fun i hi=>by rw [getD_set_ne (by omega)];exact g3 i (by omega)⟩
 have hs:=wI B hL x
 rw [z8,zl,←zf,←qM,←jq f j 1,zv,zf]
 have e2:B ^ (f+j)*(x+B*c')=B ^ (f+j)*(dg L (f+j)+dg y j+c):=by rw [h1]
 simp only [zl] at e2 ⊢
 generalize B ^ (f+j)*(B*c')=p1 at *
 generalize B ^ (f+j)*dg y j=p4 at *
 generalize B ^ (f+j)*c=p5 at *
 generalize B ^ (f+j)*x=p7 at *
 generalize B ^ (f+j)*dg L (f+j)=p8 at *
 generalize B ^ f*val B (y.take j)=p9 at *
 generalize val B (L.set (f+j) x)=p10 at *
 generalize val B L=p11 at *
 generalize val B L0=p12 at *
 omega
theorem wn.fin {B:Nat} {L0 y L:List Nat} {f n c x c':Nat} (h:wn B L0 y f L n c) (hn:y.length=n) (hL:f+n<L.length) (h1:x+B*c'=dg L (f+n)+c) :
 (L.set (f+n) x).length=L0.length∧val B (L.set (f+n) x)+B ^ (f+n+1)*c'=val B L0+B ^ f*val B y∧∀ i,f+n+1≤i→dg (L.set (f+n) x) i=dg L0 i:=by
 obtain ⟨g1,g2,g3⟩:=h
 refine ⟨by simpa using g1,?_,fun i hi=>by rw [getD_set_ne (by omega)];exact g3 i (by omega)⟩
 rw [zx (by omega)] at g2
 have hs:=wI B hL x
 have e3:B ^ (f+n)*(x+B*c')=B ^ (f+n)*(dg L (f+n)+c):=by rw [h1]
 rw [zv,zf]
 simp only [zl] at e3
 generalize B ^ (f+n)*(B*c')=p2 at *
 generalize B ^ (f+n)*c=p5 at *
 generalize B ^ (f+n)*x=p7 at *
 generalize B ^ (f+n)*dg L (f+n)=p8 at *
 generalize B ^ f*val B y=p9 at *
 generalize val B (L.set (f+n) x)=p10 at *
 generalize val B L=p11 at *
 generalize val B L0=p12 at *
 omega
theorem vC {B:Nat} (hB:0<B) {L:List Nat} (h:∀ x∈L,x<B) {m:Nat} (hz:∀ i,m≤i→dg L i=0):val B L<B ^ m:=by
 rcases qB L.length m with h1 | h1
 · exact zP (ji h) (zy hB (by omega))
 · have e:=qn B L h1
   have hd:val B (L.drop m)=0:=by
    apply vJ
    intro x hx
    obtain ⟨i,hi,rfl⟩:=List.getElem_of_mem hx
    rw [xf]
    have:=hz (m+i) (by omega)
    rwa [dg,q9 (by simp at hi;omega)] at this
   rw [hd,jK,qt] at e
   rw [e]
   have:=ji (B:=B) (l:=L.take m) fun x hx=>h x (qI hx)
   rwa [zz,qO h1] at this
theorem oh {B:Nat} {L:List Nat} (h:∀ x∈L,x<B) (i:Nat) (hi:i<L.length):dg L i=val B L / B ^ i % B:=by
 have hB:0<B:=jc (xD _) (h _ (jX hi))
 have e:=qn B L (qr hi)
 have h2:=ji (B:=B) (l:=L.take i) fun x hx=>h x (qI hx)
 rw [zz,qO (by omega)] at h2
 rw [qQ hi,jZ] at e
 rw [e,x8 _ _ (qN hB),qj h2,kE,jj,dg,q9 hi,qJ (h _ (jX hi))]
theorem xV {B:Nat} {L:List Nat} (h:∀ x∈L,x<B) {m:Nat} (hm:val B L<B ^ m) {i:Nat} (hi:m≤i):dg L i=0:=by
 rcases qB i L.length with h1 | h1
 · have hB:0<B:=jc (xD _) (h _ (jX h1))
   rw [oh h i h1,qj (zP hm (zy hB hi)),Nat.zero_mod]
 · rw [dg,zi,jD h1];rfl
end Go.Proofs.YtmlbicgpehchhaaGreat
namespace Go.Proofs.YtmlbicgpehchhaaGreat
open Go.RowKit
def yx (u u1 y1 y0 G:Nat):Prop:=G<18446744073709551616∧∀ q,q<18446744073709551616→q*(y1*18446744073709551616+y0)≤u*18446744073709551616+u1→q≤G
theorem yx.top (u u1 y1 y0:Nat):yx u u1 y1 y0 18446744073709551615:=⟨by omega,fun q hq _=>by omega⟩
theorem yx.of_eq {u u1 y1 y0 G:Nat} (h:vW 18446744073709551616 u u1 y1 y0) (he:G=(u*18446744073709551616+u1) / (y1*18446744073709551616+y0)):yx u u1 y1 y0 G:=by
 refine ⟨by rw [he];exact h.quo_lt,fun q _ hle=>?_⟩
 rw [he]
 refine (Nat.le_div_iff_mul_le ?_).2 hle
 have:=h.hy
 omega
theorem tz {hi lo r x p:Nat} (h:lo+18446744073709551616*hi=p) (hlo:lo<18446744073709551616) (hx:x<18446744073709551616):(hi<r∨hi=r∧lo≤x)↔p≤18446744073709551616*r+x:=by
 subst h
 rcases Nat.lt_trichotomy hi r with h1 | h1 | h1
 · refine ⟨fun _=>?_,fun _=>.inl h1⟩
   omega
 · subst h1
   exact ⟨fun h=>by omega,fun h=>by omega⟩
 · exact ⟨fun h=>by omega,fun h=>by omega⟩
theorem sI {B x2 x1 y1:Nat} (h1:x1<B) (h:x2<y1):(x2*B+x1) / y1<B:=by
 apply qP
 have:(x2+1)*B≤y1*B:=qb _ h
 rw [qZ,xE] at this
 omega
theorem te {a b:Int} (h:a=b):Ending.returned (.int .u64 a)=.returned (.int .u64 b):=by rw [h]
def yp (x2 x1 x0 y1 y0:Nat):Nat:=if y1≤x2 then 18446744073709551615 else ((x2*18446744073709551616+x1)*18446744073709551616+x0) / (y1*18446744073709551616+y0)
theorem oZ {x2 x1 x0 y1 y0:Nat} (h1:x1<18446744073709551616) (h0:x0<18446744073709551616) (g1:y1<18446744073709551616) (g0:y0<18446744073709551616) (gt:18446744073709551616≤2*y1) :
 yx (x2*18446744073709551616+x1) x0 y1 y0 (yp x2 x1 x0 y1 y0):=by
 unfold yp
 split
 · exact yx.top _ _ _ _
 · have hu:x2*18446744073709551616+x1<y1*18446744073709551616+y0:=by omega
   exact yx.of_eq ⟨by omega,gt,g1,g0,h0,hu⟩ rfl
theorem oY (x2 x1 x0 y1 y0:Nat) (w:World) (h1:x1<18446744073709551616) (h0:x0<18446744073709551616) (g1:y1<18446744073709551616) (g0:y0<18446744073709551616) (gt:18446744073709551616≤2*y1) :
 Calls Tryz.prog 162 #[.int .u64 (x2:Int),.int .u64 (x1:Int),.int .u64 (x0:Int),.int .u64 (y1:Int),.int .u64 (y0:Int)] w fun e w'=>e=.returned (.int .u64 (yp x2 x1 x0 y1 y0:Int))∧∃ n,w'=w.drewN n:=by
 by_cases hge:y1≤x2
 · have k1:y1≤x2:=hge
   have ht:yp x2 x1 x0 y1 y0=18446744073709551615:=qE hge
   have Ht:=zF ht
   clear h1 h0 g1 g0 gt hge ht
   go_enter Tryz.func162,Tryz.ntmps162
   go_wp2
   go_step3
   go_wp2
   try rw [jV]
   go_ret
   exact ⟨by rw [Ht.out];rfl,0,rfl⟩
 · have k1:¬ y1≤x2:=hge
   have hlt:x2<y1:=by omega
   have hu:x2*18446744073709551616+x1<y1*18446744073709551616+y0:=by omega
   have hq:=sI h1 hlt
   have hdv:=fun q r (hr:r<y1) (he:_=y1*q+r)=>cX x2 x1 y1 w h1 hlt g1 q r hr he
   have hF:yp x2 x1 x0 y1 y0=((x2*18446744073709551616+x1)*18446744073709551616+x0) / (y1*18446744073709551616+y0):=zr hge
   obtain ⟨u,hu'⟩:=eV (x2*18446744073709551616+x1)
   rw [hu'] at hu hq hdv hF
   have G:=(⟨by omega,gt,g1,g0,h0,hu⟩:vW 18446744073709551616 u x0 y1 y0)
   obtain ⟨hg,hr,hp⟩:=G.start
   have hrr:u - u / y1*y1<y1:=(fJ (by omega)).2
   have HG:Hid (∀ g,g=(u*18446744073709551616+x0) / (y1*18446744073709551616+y0)→g=yp x2 x1 x0 y1 y0):=zF fun g he=>he.trans hF.symm
   clear hF
   clear hu hu'
   obtain ⟨q,hq'⟩:=eV (u / y1)
   rw [hq'] at hg hr hp hrr hq
   obtain ⟨p,hp'⟩:=eV (q*y1)
   rw [hp'] at hg hr hp hrr
   obtain ⟨r,hr'⟩:=eV (u - p)
   rw [hr'] at hg hr hrr
   have Hdv:=zF (hdv q r hrr (by rw [zh,hp'];omega))
   have HGk:=zF G
   clear hdv hq' hp' hr' hp hrr hge hlt h1 G gt
   go_enter Tryz.func162,Tryz.ntmps162
   go_wp2
   go_step3
   go_wp2_with fail
   refine Hdv.out.mono ?_
   rintro e w1 ⟨rfl,n,rfl⟩
   go_wp2
   go_step3
   go_wp2
   go_loop [11,12] (fun qv rv=>∃ q r:Nat,qv=.int .u64 (q:Int)∧rv=.int .u64 (r:Int)∧kZ 18446744073709551616 u x0 y1 y0 q r∧r<18446744073709551616∧q<18446744073709551616) (fun qv _=>(intOf qv).toNat)
   case atStart=>exact ⟨q,r,rfl,rfl,hg,hr,hq⟩
   case round =>
    clear hg hr hq
    obtain ⟨q,r,rfl,rfl,hg,hr,hq⟩:=hrel
    obtain ⟨hi',lo,b1,b2⟩:∃ hi' lo:Nat,lo<18446744073709551616∧lo+18446744073709551616*hi'=q*y0:=⟨q*y0 / 18446744073709551616,q*y0 % 18446744073709551616,by omega,by omega⟩
    have hmul:=zF (fun w=>yN q y0 hi' lo hq g0 b1 b2 w)
    have hle:=tz (r:=r) b2 b1 h0
    by_cases hc:q*y0≤18446744073709551616*r+x0
    · have hQ:=zF (HG.out _ (hg.le HGk.out hc))
      have hc':=hle.2 hc
      clear hle hc hg hr hq b1 b2 g0 g1 h0
      rcases hc' with hc' | ⟨rfl,hc'⟩
      · have i1:hi'<r:=by omega
        clear hc'
        go_wp2_with fail
        refine (hmul.out _).mono ?_
        rintro e w1 ⟨rfl,rfl⟩
        go_wp2
        try rw [jV]
        go_ret
        exact ⟨by rw [←hQ.out];rfl,_,rfl⟩
      · have i1:¬ hi'<hi':=by omega
        have i2:lo≤x0:=by omega
        clear hc'
        go_wp2_with fail
        refine (hmul.out _).mono ?_
        rintro e w1 ⟨rfl,rfl⟩
        go_wp2
        try rw [jV]
        go_ret
        exact ⟨by rw [←hQ.out];rfl,_,rfl⟩
    · obtain ⟨hg',hq1⟩:=hg.step HGk.out (.inr (by omega))
      obtain ⟨m,rfl⟩:∃ m,q=m+1:=⟨q - 1,by omega⟩
      rw [jC] at hg'
      have hmB:m<18446744073709551616:=by omega
      obtain ⟨s,cc,s1,s2,s3⟩:∃ s cc:Nat,s<18446744073709551616∧cc≤1∧s+18446744073709551616*cc=r+y1+0:=⟨(r+y1) % 18446744073709551616,(r+y1) / 18446744073709551616,by omega,by omega,by omega⟩
      have hadd:=fun w=>kN r y1 0 s cc (by omega) s1 s3 w
      simp only [qf] at hadd
      have hn:¬ (hi'<r∨hi'=r∧lo≤x0):=fun h=>hc (hle.1 h)
      have hmi:(m:Int)<18446744073709551616:=by omega
      rcases zo cc with rfl | hcc
      · have hs:s=r+y1:=by omega
        rw [←hs] at hg'
        have Hs1:=zF s1
        have Hmb:=zF hmB
        clear s1 s2 s3 hs hg hle hc b1 b2 hq hr hq1 hmB
        by_cases hi:hi'=r
        · subst hi
          have i1:¬ hi'<hi':=by omega
          have i2:¬ lo≤x0:=by omega
          clear hn
          go_wp2_with fail
          refine (hmul.out _).mono ?_
          rintro e w1 ⟨rfl,rfl⟩
          go_wp2
          go_round
          case rel=>exact ⟨m,s,by go_num,rfl,hg',Hs1.out,Hmb.out⟩
          case measure=>simp [intOf]
        · have i1:¬ hi'<r:=by omega
          have i2:((hi':Int)==(r:Int))=false:=eqB (by omega)
          clear hn hi
          go_wp2_with fail
          refine (hmul.out _).mono ?_
          rintro e w1 ⟨rfl,rfl⟩
          go_wp2
          go_round
          case rel=>exact ⟨m,s,by go_num,rfl,hg',Hs1.out,Hmb.out⟩
          case measure=>simp [intOf]
      · obtain rfl:cc=1:=by omega
        have hQ:=zF (HG.out _ (hg'.out HGk.out (by omega) (by omega)))
        clear s1 s2 s3 hg hg' hle hc b1 b2 hq hr hq1 hmB
        simp only [qf] at hadd
        by_cases hi:hi'=r
        · subst hi
          have i1:¬ hi'<hi':=by omega
          have i2:¬ lo≤x0:=by omega
          clear hn
          go_wp2_with fail
          refine (hmul.out _).mono ?_
          rintro e w1 ⟨rfl,rfl⟩
          go_wp2
          try rw [jV]
          go_ret
          exact ⟨by rw [←hQ.out];exact te (by simp),_,rfl⟩
        · have i1:¬ hi'<r:=by omega
          have i2:((hi':Int)==(r:Int))=false:=eqB (by omega)
          clear hn hi
          go_wp2_with fail
          refine (hmul.out _).mono ?_
          rintro e w1 ⟨rfl,rfl⟩
          go_wp2
          try rw [jV]
          go_ret
          exact ⟨by rw [←hQ.out];exact te (by simp),_,rfl⟩
def Row (w:World) (g:Nat) (l:List Nat):Prop:=∃ cur,w.heap[g]?=some (.cells cur 69 (0,0))∧∀ (j:Nat) u,(nts l)[j]?=some u→cur[j]?=some u
section
variable {w w' w'':World} {g f:Nat} {l:List Nat} {p:Addr}
theorem gS (g f j:Nat):(⟨g,f,none⟩:Addr).add j=⟨g,f+j,none⟩:=by
 rcases zo j with h | h
 · subst h;rfl
 · simp [Addr.add,Nat.pos_iff_ne_zero.1 h]
theorem Row.cell (h:Row w g l) (hp:p=⟨g,f,none⟩) {j:Nat} (hj:f+j<l.length):w.cell? (p.add j)=some (.int .u64 (dg l (f+j):Int)):=by
 obtain ⟨cur,h1,h2⟩:=h
 rw [hp,gS,zH h1,h2 _ _ (xk hj)]
theorem Row.free (h:Row w g l) (hp:p=⟨g,f,none⟩) (j:Nat):w.frozen? (p.add j)=false:=by
 obtain ⟨cur,h1,h2⟩:=h
 rw [hp,gS,zp h1]
theorem Row.set (h:Row w g l) (hp:p=⟨g,f,none⟩) (j x:Nat):Row (w.setCell (p.add j) (.int .u64 (x:Int))) g (l.set (f+j) x):=by
 obtain ⟨cur,h1,h2⟩:=h
 rw [hp,gS]
 refine ⟨cur.setIfInBounds (f+j) (.int .u64 (x:Int)),by simp [World.setCell,jn,h1],fun i u hu=>?_⟩
 rw [nts,List.map_set,List.getElem?_set] at hu
 rw [Array.getElem?_setIfInBounds]
 by_cases e:f+j=i
 · rw [qE e] at hu ⊢
   split at hu
   · rename_i hl
     have:=h2 i _ (xk (by rw [←e];simpa using hl))
     have hi:=(Array.getElem?_eq_some_iff.1 this).1
     rw [qE (by omega)]
     exact hu
   · cases hu
 · rw [zr e] at hu ⊢
   exact h2 i u hu
theorem Row.lt (h:Row w g l):g<w.heap.size:=by obtain ⟨cur,h1,h2⟩:=h;exact ql h1
theorem Row.drewN (h:Row w g l) (n:Nat):Row (w.drewN n) g l:=h
theorem Row.of_heap (h:Row w g l) (he:w'.heap[g]?=w.heap[g]?):Row w' g l:=by
 obtain ⟨cur,h1,h2⟩:=h
 exact ⟨cur,he.trans h1,h2⟩
theorem Row.below {B:Nat} (h:Row w g l) (hb:Below B w w') (hg:g<B):Row w' g l:=h.of_heap (hb.block g hg)
theorem Row.ob (h:Row w g l) {base c:Nat} (hg:base≤g) (hl:Lim l) (hc:l.length≤c) (hc':c≤maxLen):OB w base (some ⟨g,0,none⟩) c l:=by
 obtain ⟨cur,h1,h2⟩:=h
 exact ⟨hl,hc,hc',fun _=>⟨g,cur,rfl,hg,h1,h2⟩⟩
theorem OB.row {base c:Nat} {A:Option Addr} (h:OB w base A c l) (h0:0<l.length):∃ g,A=some ⟨g,0,none⟩∧base≤g∧Row w g l:=by
 obtain ⟨h1,h2,h3,h4⟩:=h
 obtain ⟨g,cur,e,hg,h5,h6⟩:=h4 h0
 exact ⟨g,e,hg,cur,h5,h6⟩
theorem Row.blk (h:Blk w g l):Row w g l:=⟨_,h,fun j u hu=>by rw [zI];exact hu⟩
structure vP (g:Nat) (w w':World):Prop where
 os:w'.os=w.os
 tape:w'.tape=w.tape
 output:w'.output=w.output
 size:w'.heap.size=w.heap.size
 block:∀ k,k≠g→w'.heap[k]?=w.heap[k]?
theorem vP.refl (g:Nat) (w:World):vP g w w:=⟨rfl,rfl,rfl,rfl,fun _ _=>rfl⟩
theorem vP.trans (h:vP g w w') (k:vP g w' w''):vP g w w'':=⟨k.os.trans h.os,k.tape.trans h.tape,k.output.trans h.output,k.size.trans h.size,fun i hi=>(k.block i hi).trans (h.block i hi)⟩
theorem vP.setCell (h:vP g w w') (hp:p=⟨g,f,none⟩) (j:Nat) (v:Value):vP g w (w'.setCell (p.add j) v):=by
 have e:(p.add j).block=g:=by rw [hp,gS]
 refine ⟨h.os,h.tape,h.output,?_,fun k hk=>(zO _ _ _ _ (by rw [e];exact hk)).trans (h.block k hk)⟩
 have:(w'.setCell (p.add j) v).heap.size=w'.heap.size:=by unfold World.setCell;split <;> simp
 exact this.trans h.size
theorem vP.drewN (h:vP g w w') (n:Nat):vP g w (w'.drewN n):=⟨h.os,h.tape,h.output,h.size,h.block⟩
theorem vP.below {B:Nat} (h:vP g w w') (hB:B≤g):Below B w w':=⟨h.os,h.tape,h.output,yY h.size.symm,fun k hk=>h.block k (by omega)⟩
theorem RN.only {P:Nat→Prop} {A:Option Addr} {c:Nat} (h:RN w P A c l) (ho:vP g w w') (hP:∀ b,P b→b≠g):RN w' P A c l:=h.keep fun q hq=>zS (w:=w) (ho.block q.block (hP _ hq))
theorem Row.only {g':Nat} (h:Row w g' l) (ho:vP g w w') (hg:g'≠g):Row w' g' l:=h.of_heap (ho.block g' hg)
end
theorem bf (q v c x b:Nat) (hq:q<18446744073709551616) (hv:v<18446744073709551616) (hc:c<18446744073709551616) (hx:x<18446744073709551616) (hb:b≤1) :
    ∃ hi lo s c1 t b' : Nat, lo < 18446744073709551616 ∧ lo + 18446744073709551616 * hi = q * v ∧ s < 18446744073709551616 ∧ s + 18446744073709551616 * c1 = lo + c + 0 ∧ hi + c1 < 18446744073709551616 ∧ s + 18446744073709551616 * (hi + c1) = q * v + c ∧
      t<18446744073709551616∧b'≤1∧t+s+b=x+18446744073709551616*b':=by
  have hm:=xT hq hv hc (show 0<18446744073709551616 by omega)
  refine ⟨q*v / 18446744073709551616,q*v % 18446744073709551616,(q*v % 18446744073709551616+c) % 18446744073709551616,(q*v % 18446744073709551616+c) / 18446744073709551616,?_⟩
  obtain ⟨t,b',h1,h2,h3⟩:=yT x ((q*v % 18446744073709551616+c) % 18446744073709551616) b hx (qS _ (by omega)) hb
  refine ⟨t,b',?_⟩
  generalize q*v=p at *
  omega
theorem nz (g f:Nat) (p:Addr) (hp:p=⟨g,f,none⟩) (P:Nat→Prop) (A:Option Addr) (c cx n q:Nat) (L y:List Nat) (w:World) (hr:Row w g L) (hL:Lim L) (h:RN w P A c y) (hP:∀ b,P b→b≠g) (hn:y.length=n) (hf:f+n<L.length) (hq:q<18446744073709551616) :
 Calls Tryz.prog 163 #[.slice (some p) (n+1) cx,.slice A n c,.int .u64 (q:Int)] w fun e w'=>∃ (L':List Nat) (b:Nat),e=.returned (.bool (decide (0<b)))∧Row w' g L'∧Lim L'∧vP g w w' ∧
  L'.length=L.length∧val 18446744073709551616 L'+18446744073709551616 ^ f*(q*val 18446744073709551616 y)=val 18446744073709551616 L+18446744073709551616 ^ (f+n+1)*b∧∀ i,f+n+1≤i→dg L' i=dg L i:=by
 obtain ⟨h1,h2,h3⟩:=h.cap
 have hn1:n≤1000000:=by omega
 have hnc:n≤c:=by omega
 have Hp:=zF hp
 clear hp h1 h2 h3
 go_enter Tryz.func163,Tryz.ntmps163
 go_wp2
 go_loopw [7,8,16] (fun cv bv iv wr=>∃ (j cr b:Nat) (l:List Nat),iv=.int .i64 (j:Int)∧cv=.int .u64 (cr:Int)∧bv=.int .u64 (b:Int)∧j≤n∧cr<18446744073709551616∧b≤1∧wm 18446744073709551616 L y q f l j cr b∧Lim l∧Row wr g l∧vP g w wr) (fun _ _ iv _=>n - (intOf iv).toNat)
 case atStart=>exact ⟨0,0,0,L,rfl,rfl,rfl,by omega,by omega,by omega,wm.zero _ _ _ _ _,hL,hr,vP.refl _ _⟩
 case round =>
  obtain ⟨j,cr,b,l,rfl,rfl,rfl,hj,hcr,hb,hT,hl,hw,ho⟩:=hrel
  have hll:=hT.1
  by_cases hlt:j<n
  · obtain ⟨ad,rfl,_,q1⟩:=(h.only ho hP).at_ (i:=j) (by omega)
    obtain ⟨hi',lo,s,c1,t,b',b1,b2,b3,b4,b5,b6,b7,b8,b9⟩:=bf q (dg y j) cr (dg l (f+j)) b hq (h.2.dgLt j) hcr (hl.dgLt _) hb
    have hmul:=zF (fun w=>yN q (dg y j) hi' lo hq (h.2.dgLt j) b1 b2 w)
    have hadd:=fun w=>kN lo cr 0 s c1 (by omega) b3 b4 w
    simp only [qf] at hadd
    have hsub:=fun w=>yH (dg l (f+j)) s b t b' hb (hl.dgLt _) b3 b7 b9 b8 w
    have q3:=hw.cell Hp.out (j:=j) (by omega)
    have q4:=hw.free Hp.out j
    have hT':=hT.step (by omega) b6 b9
    have hw':=hw.set Hp.out j t
    have hl':=hl.set (f+j) t b7
    have ho':=ho.setCell Hp.out j (.int .u64 (t:Int))
    have k1:(j:Int)<(n:Int)+1:=by omega
    clear hT hl hw ho b1 b2 b3 b4 b6 b7 b9 hll hq hcr
    go_wp2_with fail
    refine (hmul.out _).mono ?_
    rintro e w1 ⟨rfl,rfl⟩
    go_wp2
    go_roundw
    case rel=>exact ⟨j+1,hi'+c1,b',l.set (f+j) t,by go_num,by go_num,rfl,by omega,b5,b8,hT',hl',hw',ho'⟩
    case measure=>simp [intOf];omega
  · obtain rfl:j=n:=by omega
    obtain ⟨t,b',b7,b8,b9⟩:=yT (dg l (f+j)) cr b (hl.dgLt _) hcr hb
    have hsub:=fun w=>yH (dg l (f+j)) cr b t b' hb (hl.dgLt _) hcr b7 b9 b8 w
    have q3:=hw.cell Hp.out (j:=j) (by omega)
    have q4:=hw.free Hp.out j
    have hT':=zF (hT.fin hn (by omega) b9)
    have hw':=hw.set Hp.out j t
    have hl':=hl.set (f+j) t b7
    have ho':=ho.setCell Hp.out j (.int .u64 (t:Int))
    have k1:(j:Int)<(j:Int)+1:=by omega
    clear hT hl hw ho b7 b9 hll hq hcr
    go_wp2
    go_ret
    exact ⟨l.set (f+j) t,b',by simp,hw',hl',ho',hT'.out⟩
theorem od (g f:Nat) (p:Addr) (hp:p=⟨g,f,none⟩) (P:Nat→Prop) (A:Option Addr) (c cx n:Nat) (L y:List Nat) (w:World) (hr:Row w g L) (hL:Lim L) (h:RN w P A c y) (hP:∀ b,P b→b≠g) (hn:y.length=n) (hf:f+n<L.length) :
 Calls Tryz.prog 164 #[.slice (some p) (n+1) cx,.slice A n c] w fun e w'=>∃ (L':List Nat) (b:Nat),e=.returned (.tuple #[])∧Row w' g L'∧Lim L'∧vP g w w' ∧
  L'.length=L.length∧val 18446744073709551616 L'+18446744073709551616 ^ (f+n+1)*b=val 18446744073709551616 L+18446744073709551616 ^ f*val 18446744073709551616 y∧∀ i,f+n+1≤i→dg L' i=dg L i:=by
 obtain ⟨h1,h2,h3⟩:=h.cap
 have hn1:n≤1000000:=by omega
 have hnc:n≤c:=by omega
 have Hp:=zF hp
 clear hp h1 h2 h3
 go_enter Tryz.func164,Tryz.ntmps164
 go_wp2
 go_loopw [4,9] (fun cv iv wr=>∃ (j cr:Nat) (l:List Nat),iv=.int .i64 (j:Int)∧cv=.int .u64 (cr:Int)∧j≤n∧cr≤1∧wn 18446744073709551616 L y f l j cr∧Lim l∧Row wr g l∧vP g w wr) (fun _ iv _=>n - (intOf iv).toNat)
 case atStart=>exact ⟨0,0,L,rfl,rfl,by omega,by omega,wn.zero _ _ _ _,hL,hr,vP.refl _ _⟩
 case round =>
  obtain ⟨j,cr,l,rfl,rfl,hj,hcr,hT,hl,hw,ho⟩:=hrel
  have hll:=hT.1
  by_cases hlt:j<n
  · obtain ⟨ad,rfl,_,q1⟩:=(h.only ho hP).at_ (i:=j) (by omega)
    obtain ⟨s,c',b7,b8,b9⟩:=yR (dg l (f+j)) (dg y j) cr (hl.dgLt _) (h.2.dgLt j) hcr
    have hadd:=fun w=>kN (dg l (f+j)) (dg y j) cr s c' hcr b7 b9 w
    have q3:=hw.cell Hp.out (j:=j) (by omega)
    have q4:=hw.free Hp.out j
    have hT':=hT.step (by omega) b9
    have hw':=hw.set Hp.out j s
    have hl':=hl.set (f+j) s b7
    have ho':=ho.setCell Hp.out j (.int .u64 (s:Int))
    have k1:(j:Int)<(n:Int)+1:=by omega
    clear hT hl hw ho b7 b9 hll hcr
    go_wp2
    go_roundw
    case rel=>exact ⟨j+1,c',l.set (f+j) s,by go_num,rfl,by omega,b8,hT',hl',hw',ho'⟩
    case measure=>simp [intOf];omega
  · obtain rfl:j=n:=by omega
    obtain ⟨t,b',b7,b8,b9⟩:=yR (dg l (f+j)) 0 cr (hl.dgLt _) (by omega) hcr
    have he:IntKind.u64.wrap ((dg l (f+j):Int)+(cr:Int))=(t:Int):=by
     have:(dg l (f+j):Int)+(cr:Int)=(t:Int)+18446744073709551616*(b':Int):=by omega
     rw [this]
     simp [IntKind.wrap,IntKind.bits,IntKind.signed]
     omega
    have q3:=hw.cell Hp.out (j:=j) (by omega)
    have q4:=hw.free Hp.out j
    have hT':=zF (hT.fin hn (by omega) (x:=t) (c':=b') (by omega))
    have hw':=hw.set Hp.out j t
    have hl':=hl.set (f+j) t b7
    have ho':=ho.setCell Hp.out j (.int .u64 (t:Int))
    have k1:(j:Int)<(j:Int)+1:=by omega
    clear hT hl hw ho b7 b9 hll hcr
    go_wp2
    go_end0
    exact ⟨l.set (f+j) t,b',rfl,hw',hl',ho',hT'.out⟩
end Go.Proofs.YtmlbicgpehchhaaGreat
namespace Go.Proofs.YtmlbicgpehchhaaGreat
theorem nt {B:Nat} {L:List Nat} {t:Nat} (h:∀ x∈L,x<B) (ht:t+3≤L.length) (hz:∀ j,t+3≤j→dg L j=0) :
 ∃ r,r<B ^ t∧val B L=r+B ^ t*((dg L (t+2)*B+dg L (t+1))*B+dg L t):=by
 refine ⟨val B (L.take t),?_,?_⟩
 · have:=ji (B:=B) (l:=L.take t) fun x hx=>h x (qI hx)
   rwa [zz,qO (by omega)] at this
 · have e:=qn B L ht
   have hd:val B (L.drop (t+3))=0:=by
    apply vJ
    intro x hx
    obtain ⟨i,hi,rfl⟩:=List.getElem_of_mem hx
    rw [xf]
    have:=hz (t+3+i) (by omega)
    rwa [dg,q9 (by simp at hi;omega)] at this
   rw [hd,jK,qt] at e
   rw [e,z8,z8,z8,show B ^ (t+2)=B ^ t*B*B from by simp only [zv],zv]
   have e1:B ^ t*B*B*dg L (t+2)=B ^ t*(dg L (t+2)*B*B):=by simp only [zf];rw [zh B (dg L (t+2)),←zf B,zh B (dg L (t+2)),zf]
   have e2:B ^ t*B*dg L (t+1)=B ^ t*(dg L (t+1)*B):=by rw [zf,zh B]
   rw [e1,e2,qZ,zl,zl]
   omega
theorem sE {B:Nat} {L:List Nat} {t:Nat} (ht:t+2=L.length) :
 ∃ r,val B L=r+B ^ t*(dg L (t+1)*B+dg L t):=by
 refine ⟨val B (L.take t),?_⟩
 have e:val B L=val B (L.take (t+2)):=by rw [ht,qu]
 rw [e,z8,z8,zv]
 have e2:B ^ t*B*dg L (t+1)=B ^ t*(dg L (t+1)*B):=by rw [zf,zh B]
 rw [e2,zl]
 omega
theorem du {B q DB V t D2 T rd rv:Nat} (hq:q*DB≤V) (hD:DB=rd+B ^ t*D2) (hV:V=rv+B ^ t*T) (hr:rv<B ^ t):q*D2≤T:=by
 have h1:q*(B ^ t*D2)≤q*DB:=qA _ (by omega)
 have h2:q*(B ^ t*D2)=B ^ t*(q*D2):=by rw [jB]
 have h3:B ^ t*(q*D2)<B ^ t*(T+1):=by rw [zl,jS];omega
 exact Nat.le_of_lt_succ (Nat.lt_of_mul_lt_mul_left h3)
def uB (B V i n D:Nat) (L:List Nat) (g:Nat) (too:Bool):Prop :=
 V / (B ^ i*D)≤g∧g<B∧(∀ j,i+n+1≤j→dg L j=0)∧val B L+B ^ i*(g*D)=V+if too then B ^ (i+n+1) else 0
section
variable {B V i n D g:Nat} {L L':List Nat}
theorem uB.start {b:Nat} (hq:V / (B ^ i*D)≤g) (hg:g<B) (hz:∀ j,i+n+1≤j→dg L' j=dg L j) (hz0:∀ j,i+n+1≤j→dg L j=0) (he:val B L'+B ^ i*(g*D)=V+B ^ (i+n+1)*b) (hL':∀ x∈L',x<B) (hB:2≤B) (hD:D<B ^ n) :
 uB B V i n D L' g (decide (0<b)):=by
 have hz':∀ j,i+n+1≤j→dg L' j=0:=fun j hj=>(hz j hj).trans (hz0 j hj)
 refine ⟨hq,hg,hz',?_⟩
 have h1:=vC (by omega) hL' hz'
 rw [he]
 have h2:B ^ i*(g*D)<B ^ (i+n+1):=by
  rw [jq,qM,zv,zh (B ^ n)]
  refine kF ?_ (qN (by omega))
  exact jc (qA g (qr hD)) (Nat.mul_lt_mul_of_pos_right hg (qN (by omega)))
 rcases qB b 2 with hb | hb
 · have:b=0∨b=1:=by omega
   rcases this with rfl | rfl <;> simp
 · exfalso
   have h3:B ^ (i+n+1)*2≤B ^ (i+n+1)*b:=qA _ hb
   omega
theorem uB.pos (h:uB B V i n D L g true) (hL:∀ x∈L,x<B) (hB:2≤B):V / (B ^ i*D)<g:=by
 obtain ⟨h1,h2,h3,h4⟩:=h
 have h5:=vC (by omega) hL h3
 apply qP
 simp only [if_true] at h4
 rw [zf,zh D]
 omega
theorem uB.step {c:Nat} (h:uB B V i n D L (g+1) true) (hL:∀ x∈L,x<B) (hL':∀ x∈L',x<B) (hB:2≤B) (hD:0<D) (hDn:D<B ^ n)
 (he:val B L'+B ^ (i+n+1)*c=val B L+B ^ i*D) (hz:∀ j,i+n+1≤j→dg L' j=dg L j):uB B V i n D L' g (decide (dg L' (i+n)≠0)):=by
 have hp:=h.pos hL hB
 obtain ⟨h1,h2,h3,h4⟩:=h
 have hz':∀ j,i+n+1≤j→dg L' j=0:=fun j hj=>(hz j hj).trans (h3 j hj)
 have h5:=vC (by omega) hL h3
 have h6:=vC (by omega) hL' hz'
 have hDi:B ^ i*D<B ^ (i+n):=by rw [qM];exact kF hDn (qN (by omega))
 have hBB:B ^ (i+n+1)=B ^ (i+n)*B:=zv _ _
 have hBB2:B ^ (i+n)*2≤B ^ (i+n)*B:=qA _ hB
 have hV:V<B ^ i*D*(g+1):=by
  have:=Nat.lt_mul_div_succ V (show 0<B ^ i*D from Nat.mul_pos (qN (by omega)) hD)
  exact zP this (qA _ (by omega))
 simp only [if_true] at h4
 have e1:B ^ i*((g+1)*D)=B ^ i*(g*D)+B ^ i*D:=by rw [qZ,xE,zl]
 have e2:B ^ i*D*(g+1)=B ^ i*(g*D)+B ^ i*D:=by rw [←e1,zf,zh D]
 have hgD:B ^ i*(g*D)+B ^ (i+n)*2≤B ^ (i+n+1)+B ^ (i+n):=by
  obtain ⟨m,hm⟩:∃ m,B=m+2:=⟨B - 2,by omega⟩
  have k1:g*D≤m*B ^ n:=Nat.mul_le_mul (by omega) (qr hDn)
  have k2:B ^ i*(g*D)≤B ^ i*(m*B ^ n):=qA _ k1
  have k3:B ^ i*(m*B ^ n)=B ^ (i+n)*m:=by rw [zh m,←zf,←qM]
  have k4:B ^ (i+n)*B=B ^ (i+n)*m+B ^ (i+n)*2:=by rw [←zl,←hm]
  omega
 rw [e1] at h4
 rw [e2] at hV
 refine ⟨by omega,by omega,hz',?_⟩
 rcases zo c with rfl | hc
 · rw [jK,qt] at he
   have hbig:B ^ (i+n)≤val B L':=by omega
   have hne:dg L' (i+n)≠0:=fun h0=>by
    have:=vC (B:=B) (m:=i+n) (by omega) hL' fun j hj=>by
     rcases qB (i+n) j with h | h
     · exact hz' j (by omega)
     · obtain rfl:j=i+n:=by omega
       exact h0
    omega
   rw [qi hne,qE rfl]
   omega
 · have hc1:c=1:=by
    rcases qB c 2 with h | h
    · omega
    · have:B ^ (i+n+1)*2≤B ^ (i+n+1)*c:=qA _ h
      omega
   subst hc1
   rw [jS] at he
   have hsmall:val B L'<B ^ (i+n):=by omega
   have h0:=xV hL' hsmall (zG _)
   rw [qp (by simp [h0]),zr (by simp)]
   omega
theorem uB.fin (h:uB B V i n D L g false) (hB:2≤B) (hD:0<D):val B L+B ^ i*(g*D)=V∧val B L<B ^ i*D:=by
 obtain ⟨h1,h2,h3,h4⟩:=h
 simp only [Bool.false_eq_true,if_false,qt] at h4
 refine ⟨h4,?_⟩
 have h5:=Nat.lt_mul_div_succ V (show 0<B ^ i*D from Nat.mul_pos (qN (by omega)) hD)
 have h6:B ^ i*D*(V / (B ^ i*D)+1)≤B ^ i*D*(g+1):=qA _ (by omega)
 have e:B ^ i*D*(g+1)=B ^ i*(g*D)+B ^ i*D:=by rw [zl,jS,zf,zh D]
 omega
end
def uW (B X D:Nat) (L qs:List Nat) (k:Nat):Prop:=val B L+D*(B ^ k*val B (qs.drop k))=X∧val B L<B ^ k*D
theorem uW.start {B D m:Nat} {L qs:List Nat} (hq:qs.length=m) (h:val B L<B ^ m*D):uW B (val B L) D L qs m:=by
 refine ⟨?_,h⟩
 rw [←hq,List.drop_length]
 simp
theorem uW.step {B X D k g:Nat} {L L' qs:List Nat} (h:uW B X D L qs (k+1)) (hk:k<qs.length) (h1:val B L'+B ^ k*(g*D)=val B L) (h2:val B L'<B ^ k*D):uW B X D L' (qs.set k g) k:=by
 obtain ⟨g1,g2⟩:=h
 refine ⟨?_,h2⟩
 have e:(qs.set k g).drop k=g :: qs.drop (k+1):=by
  rw [List.drop_set,zr (Nat.lt_irrefl _),qQ hk,Nat.sub_self,vR]
 rw [e,jZ,zl,zl,←g1,←h1,zv]
 have e1:D*(B ^ k*g)=B ^ k*(g*D):=by rw [jB,zh D]
 rw [e1,zf (B ^ k)]
 omega
theorem uW.fin {B X D:Nat} {L qs:List Nat} (h:uW B X D L qs 0):val B qs=X / D∧val B L=X % D:=by
 obtain ⟨g1,g2⟩:=h
 simp only [Nat.pow_zero,xE,List.drop_zero] at g1 g2
 rw [←g1]
 refine ⟨?_,?_⟩
 · rw [kG,Nat.mul_add_div (by omega),qj g2,qt]
 · rw [kG,Nat.mul_add_mod,qJ g2]
theorem zAP {B p u y top n:Nat} (hB:2≤B) (he:B % 2=0) (hp:B=u*p) (hn:(digs B y).length=n+1) (ht:dg (digs B y) n=top) (h1:B≤2*(top*p)) (h2:top*p<B) :
 (digs B (y*p)).length=n+1∧B≤2*dg (digs B (y*p)) n∧B ^ (n+1)≤2*(y*p):=by
 have hBn:0<B ^ n:=qN (by omega)
 have hy:y=val B ((digs B y).take n)+B ^ n*top:=by
  rw [←ht,←z8,←hn,qu,z7 hB]
 have hr:val B ((digs B y).take n)<B ^ n:=by
  have:=ji (B:=B) (l:=(digs B y).take n) fun x hx=>jm hB y x (qI hx)
  rwa [zz,qO (by omega)] at this
 generalize val B ((digs B y).take n)=r at *
 have hu:(top+1)*p≤B:=by
  have:top<u:=by
   rw [hp] at h2
   exact Nat.lt_of_mul_lt_mul_right h2
  rw [hp]
  exact qb _ this
 have hup:y*p<B ^ (n+1):=by
  have k1:y+1≤B ^ n*(top+1):=by rw [zl,jS];omega
  have hp0:0<p:=by
   rcases zo p with h | h
   · subst h;omega
   · exact h
  have k2:y*p<(y+1)*p:=Nat.mul_lt_mul_of_pos_right (by omega) hp0
  have k3:(y+1)*p≤B ^ n*(top+1)*p:=qb _ k1
  have k4:B ^ n*(top+1)*p≤B ^ n*B:=by rw [zf];exact qA _ hu
  rw [zv]
  omega
 have hlo:B ^ (n+1)≤2*(y*p):=by
  have k1:B ^ n*top*p≤y*p:=qb _ (by omega)
  have k2:B ^ n*B≤B ^ n*(2*(top*p)):=qA _ h1
  have k3:B ^ n*(2*(top*p))=2*(B ^ n*top*p):=by rw [jB,zf]
  rw [zv]
  omega
 have hBB:B ^ n*2≤B ^ n*B:=qA _ hB
 have hlen:(digs B (y*p)).length=n+1:=by
  refine Nat.le_antisymm (qV hB hup) ?_
  rcases qB n (digs B (y*p)).length with h | h
  · exact h
  · have k1:=qw hB (y*p)
    have k2:B ^ (digs B (y*p)).length≤B ^ n:=zy (by omega) h
    rw [zv] at hlo
    omega
 refine ⟨hlen,?_,hlo⟩
 have hD:y*p=val B ((digs B (y*p)).take n)+B ^ n*dg (digs B (y*p)) n:=by
  rw [←z8,←hlen,qu,z7 hB]
 have hr2:val B ((digs B (y*p)).take n)<B ^ n:=by
  have:=ji (B:=B) (l:=(digs B (y*p)).take n) fun x hx=>jm hB (y*p) x (qI hx)
  rwa [zz,qO (by omega)] at this
 generalize dg (digs B (y*p)) n=z at *
 have k1:B ^ n*B<B ^ n*(2*(z+1)):=by
  rw [zv] at hlo
  have:B ^ n*(2*(z+1))=2*(B ^ n*z+B ^ n):=by rw [jB,zl,jS]
  omega
 have k2:=Nat.lt_of_mul_lt_mul_left k1
 omega
theorem zAO {B x D n:Nat} (hB:2≤B) (hn:n≤(digs B x).length+1) (hD:B ^ n≤2*D):x<B ^ ((digs B x).length+1 - n)*D:=by
 have h1:=qw hB x
 generalize (digs B x).length=k at *
 have h2:B ^ (k+1 - n)*B ^ n≤B ^ (k+1 - n)*(2*D):=qA _ hD
 rw [←qM,show k+1 - n+n=k+1 by omega,zv,jB] at h2
 have h3:B ^ k*2≤B ^ k*B:=qA _ hB
 omega
theorem tM (u:List Nat) (k i:Nat):dg (u.drop k) i=dg u (k+i):=by
 simp [dg,List.getElem?_drop]
def xb (B:Nat) (u v W:List Nat) (k g i c b:Nat):Prop:=W.length=v.length+1∧val B (W.take i)+g*val B (v.take i)=val B ((u.drop k).take i)+B ^ i*(c+b)
section
variable {B k g i c b:Nat} {u v W:List Nat}
theorem xb.zero (h:W.length=v.length+1):xb B u v W k g 0 0 0:=⟨h,by simp⟩
theorem xb.step {lo c' x b':Nat} (h:xb B u v W k g i c b) (hi:i<W.length) (h1:lo+B*c'=c+g*dg v i) (h2:x+(lo+b)=dg u (k+i)+B*b'):xb B u v (W.set i x) k g (i+1) c' b':=by
 obtain ⟨g1,g2⟩:=h
 refine ⟨by simpa using g1,?_⟩
 rw [jM B hi,z8,z8,tM,zv]
 have e1:g*(B ^ i*dg v i)=B ^ i*(g*dg v i):=jB _ _ _
 have e2:B ^ i*(lo+B*c')=B ^ i*(c+g*dg v i):=by rw [h1]
 have e3:B ^ i*(x+(lo+b))=B ^ i*(dg u (k+i)+B*b'):=by rw [h2]
 rw [zl g,e1,zf,zl B,zl (B ^ i) (B*c')]
 simp only [zl] at e2 e3 g2 ⊢
 generalize B ^ i*(B*c')=p1 at *
 generalize B ^ i*(B*b')=p2 at *
 generalize B ^ i*lo=p3 at *
 generalize B ^ i*(g*dg v i)=p4 at *
 generalize B ^ i*c=p5 at *
 generalize B ^ i*b=p6 at *
 generalize B ^ i*x=p7 at *
 generalize B ^ i*dg u (k+i)=p8 at *
 omega
def yJ (u W:List Nat) (k:Nat):List Nat:=u.take k++W++u.drop (k+W.length)
theorem bH (h:k+W.length≤u.length):(yJ u W k).length=u.length:=by simp [yJ];omega
theorem nu (B:Nat) (h:k+W.length≤u.length):∃ r t:Nat,val B u=r+B ^ k*(val B ((u.drop k).take W.length)+B ^ W.length*t)∧val B (yJ u W k)=r+B ^ k*(val B W+B ^ W.length*t):=by
 refine ⟨val B (u.take k),val B (u.drop (k+W.length)),?_,?_⟩
 · rw [qn B u (n:=k) (by omega),qn B (u.drop k) (n:=W.length) (by simp;omega),List.drop_drop]
 · unfold yJ
   rw [jp,jp,zk,zz,qO (by omega),qM,zf,jq,←zl]
theorem xb.yes (h:xb B u v W k g W.length 0 0) (hk:k+W.length≤u.length):val B (yJ u W k)+B ^ k*(g*val B v)=val B u:=by
 obtain ⟨g1,g2⟩:=h
 obtain ⟨r,t,e1,e2⟩:=nu B (u:=u) (W:=W) hk
 rw [qu,zx (by omega:v.length≤W.length)] at g2
 simp only [qt,jK] at g2
 rw [e1,e2,←g2,zl,zl,zl]
 omega
theorem xb.no (h:xb B u v W k g W.length 0 1) (hW:∀ x∈W,x<B) (hu:∀ x∈u,x<B) (hz:∀ j,k+W.length≤j→dg u j=0) (hk:k+W.length≤u.length):val B u / (B ^ k*val B v)<g:=by
 obtain ⟨g1,g2⟩:=h
 rw [qu,zx (by omega:v.length≤W.length)] at g2
 simp only [kE,jS] at g2
 have h1:=ji hW
 have e1:=qn B u (n:=k) (by omega)
 have e2:=qn B (u.drop k) (n:=W.length) (by simp;omega)
 have h0:val B ((u.drop k).drop W.length)=0:=by
  apply vJ
  intro x hx
  rw [List.drop_drop] at hx
  obtain ⟨i,hi,rfl⟩:=List.getElem_of_mem hx
  rw [xf]
  have:=hz (k+W.length+i) (by omega)
  rwa [dg,q9 (by simp at hi;omega)] at this
 rw [h0,jK,qt] at e2
 have h2:val B (u.take k)<B ^ k:=by
  have:=ji (B:=B) (l:=u.take k) fun x hx=>hu x (qI hx)
  rwa [zz,qO (by omega)] at this
 apply qP
 rw [e1,e2]
 have h3:val B ((u.drop k).take W.length)+1≤g*val B v:=by omega
 have h4:B ^ k*(val B ((u.drop k).take W.length)+1)≤B ^ k*(g*val B v):=qA _ h3
 rw [zl,jS] at h4
 rw [zf,zh (val B v)]
 omega
theorem oa {n n1:Nat} (hn:n1+1=n) (hu:∀ x∈u,x<B) (hv:∀ x∈v,x<B) (hvn:v.length=n) (hlen:k+n<u.length) (htop:0<dg v n1) (hV:val B u<B ^ (k+1)*val B v) :
 (∀ i,k+n+1≤i→dg u i=0)∧val B u / (B ^ k*val B v)<B∧val B u / (B ^ k*val B v)≤(dg u (k+n)*B+dg u (k+n1)) / dg v n1:=by
 subst hn
 have hB:0<B:=jc (xD _) (hu _ (jX (by omega:k<u.length)))
 have hdl:=ji hv
 rw [hvn] at hdl
 have hz:∀ i,k+(n1+1)+1≤i→dg u i=0:=fun i hi=>xV hu (m:=k+(n1+1)+1) (xL hV (by
  rw [show k+(n1+1)+1=(k+1)+(n1+1) by omega,qM _ (k+1)]
  exact kF hdl (qN hB))) hi
 refine ⟨hz,?_,?_⟩
 · apply qP
   rw [zv,xK] at hV
   exact hV
 · rw [Nat.le_div_iff_mul_le htop]
   have e:=qn B u (n:=k+n1+2) (by omega)
   have hd:val B (u.drop (k+n1+2))=0:=by
    apply vJ
    intro x hx
    obtain ⟨i,hi,rfl⟩:=List.getElem_of_mem hx
    rw [xf]
    have:=hz (k+n1+2+i) (by omega)
    rwa [dg,q9 (by simp at hi;omega)] at this
   rw [hd,jK,qt,z8,z8,zv] at e
   have hr:=ji (B:=B) (l:=u.take (k+n1)) fun x hx=>hu x (qI hx)
   rw [zz,qO (by omega)] at hr
   have ev:val B v=val B (v.take n1)+B ^ n1*dg v n1:=by rw [←z8,←hvn,qu]
   refine du (B:=B) (t:=k+n1) (DB:=B ^ k*val B v) (rd:=B ^ k*val B (v.take n1)) (V:=val B u) (rv:=val B (u.take (k+n1))) (Nat.div_mul_le_self _ _) ?_ ?_ hr
   · rw [ev,zl,←zf,←qM]
   · rw [e,zf,zh B,zl,show k+(n1+1)=k+n1+1 by omega]
     omega
def ue (B:Nat) (a o:List Nat) (m i c:Nat):Prop:=o.length=a.length+1∧val B (o.take i)+B ^ i*c=m*val B (a.take i)
theorem ue.step {a o:List Nat} {m x c':Nat} (h:ue B a o m i c) (hi:i<o.length) (h1:x+B*c'=c+dg a i*m):ue B a (o.set i x) m (i+1) c':=by
 obtain ⟨g1,g2⟩:=h
 refine ⟨by simpa using g1,?_⟩
 rw [jM B hi,z8,zl,←g2,zv,zf]
 have e1:m*(B ^ i*dg a i)=B ^ i*(dg a i*m):=by rw [jB,zh m]
 have e2:B ^ i*(x+B*c')=B ^ i*(c+dg a i*m):=by rw [h1]
 rw [e1]
 simp only [zl] at e2
 omega
theorem ue.fin {a o:List Nat} {m:Nat} (h:ue B a o m a.length c):val B (o.set a.length c)=m*val B a:=by
 obtain ⟨g1,g2⟩:=h
 have e:(o.set a.length c).length=a.length+1:=by simpa using g1
 have e2:val B (o.set a.length c)=val B ((o.set a.length c).take (a.length+1)):=by rw [←e,qu]
 rw [e2,jM B (by omega),g2,qu]
end
end Go.Proofs.YtmlbicgpehchhaaGreat
namespace Go.Proofs.YtmlbicgpehchhaaGreat
open Go.RowKit
theorem gE (P:Nat→Prop) (A:Option Addr) (c:Nat) (l:List Nat) (d:Nat) (w:World) (h:RN w P A c l) (hP:∀ b,P b→b<w.heap.size) (hD:Dig l) (hl:l.length<100000) (hd':d<4294967296) :
 Calls Tryz.prog 171 #[.slice A l.length c,.int .u64 (d:Int)] w fun e w'=>∃ o,e=.returned (.slice (some ⟨w.heap.size,0,none⟩) (l.length+1) (l.length+1))∧Blk w' w.heap.size o∧o.length=l.length+1∧Dig o∧val 4294967296 o=d*val 4294967296 l∧Below w.heap.size w w':=by
 obtain ⟨h1,h2,h3⟩:=h.cap
 have hmk:=jJ (P:=Tryz.prog) 26 69 (.int .u64 0) 8 Tryz.underlying26 j9 rfl .i64 .i64 (l.length+1) (by omega) (by omega)
 simp only [vr,qf] at hmk
 go_enter Tryz.func171,Tryz.ntmps171
 go_wp2
 go_loopw [6,7] (fun cv iv wr=>∃ (i cr:Nat) (o:List Nat),iv=.int .i64 (i:Int)∧cv=.int .u64 (cr:Int)∧i≤l.length∧cr<4294967296∧ue 4294967296 l o d i cr∧Dig o∧Blk wr w.heap.size o∧Below w.heap.size w wr) (fun _ iv _=>l.length - (intOf iv).toNat)
 case atStart=>exact ⟨0,0,List.replicate (l.length+1) 0,rfl,rfl,by omega,by omega,⟨by simp,by simp⟩,by intro x hx;simp at hx;omega,vT w _,(zQ _ w).alloc (zG _) _⟩
 case round =>
  obtain ⟨i,cr,o,rfl,rfl,hi,hcr,hT,hDo,hblk,hB⟩:=hrel
  have hol:=hT.1
  by_cases hlt:i<l.length
  · obtain ⟨ad,rfl,had,q1⟩:=(h.below hB hP).at_ hlt
    have hb:=xT (hD.dgLt i) hd' hcr (show 0<4294967296 by omega)
    obtain ⟨pr,hpr⟩:=eV (dg l i*d)
    have Hpr:=zF (show (dg l i:Int)*(d:Int)=(pr:Int) by rw [←hpr,vq])
    rw [hpr] at hb
    obtain ⟨s,cr',hs,hcr',he⟩:∃ s c':Nat,s<4294967296∧c'<4294967296∧s+4294967296*c'=cr+pr:=⟨(cr+pr) % 4294967296,(cr+pr) / 4294967296,by omega,by omega,by omega⟩
    have e1:((cr:Int)+(pr:Int)) % 4294967296=(s:Int):=by omega
    have e2:((cr:Int)+(pr:Int)) / 4294967296=(cr':Int):=by omega
    have q3:=hblk.cell (i:=i) (by omega)
    have q4:=hblk.free i
    have hT':=hT.step (by omega) (by rw [hpr];exact he)
    have hblk':=hblk.set i s
    have hD':=hDo.set i s hs
    have hB':=hB.setCell (p:=⟨w.heap.size,i,none⟩) (zG _) (.int .u64 (s:Int))
    have k1:(i:Int)<(l.length:Int)+1:=by omega
    have k3:(pr:Int)<18446744073709551616:=by omega
    have k4:(cr:Int)+(pr:Int)<18446744073709551616:=by omega
    clear he hT hblk hDo hB hb hpr hol
    have hpr:=Hpr.out
    go_wp2
    go_roundw
    case rel=>exact ⟨i+1,cr',o.set i s,by go_num,(by first | rfl | exact congrArg (Value.int .u64) e2),by omega,hcr',hT',hD',hblk',hB'⟩
    case measure=>simp [intOf];omega
  · obtain rfl:i=l.length:=by omega
    have q3:=hblk.cell (i:=l.length) (by omega)
    have q4:=hblk.free l.length
    have hfin:=hT.fin
    have hblk':=hblk.set l.length cr
    have hD':=hDo.set l.length cr hcr
    have hB':=hB.setCell (p:=⟨w.heap.size,l.length,none⟩) (zG _) (.int .u64 (cr:Int))
    have k1:(l.length:Int)<(l.length:Int)+1:=by omega
    have Hf:=zF hfin
    have Hol:=zF (show (o.set l.length cr).length=l.length+1 by simpa using hol)
    clear hT hblk hDo hB hfin hol
    go_wp2
    go_ret
    exact ⟨o.set l.length cr,rfl,hblk',Hol.out,hD',Hf.out,hB'⟩
theorem gF (P:Nat→Prop) (A:Option Addr) (c:Nat) (l:List Nat) (d:Nat) (w:World) (h:RN w P A c l) (hP:∀ b,P b→b<w.heap.size) (hDl:Dig l) (hl:l.length<100000) (hd:0<d) (hd':d<4294967297) :
 Calls Tryz.prog 170 #[.slice A l.length c,.int .u64 (d:Int)] w fun e w'=>∃ A1 c1,e=.returned (.tuple #[.slice A1 (digs 4294967296 (val 4294967296 l / d)).length c1,.int .u64 ((val 4294967296 l % d:Nat):Int)]) ∧
  OB w' w.heap.size A1 c1 (digs 4294967296 (val 4294967296 l / d))∧Below w.heap.size w w':=by
 obtain ⟨h1,h2,h3⟩:=h.cap
 have hmk:=jJ (P:=Tryz.prog) 26 69 (.int .u64 0) 8 Tryz.underlying26 j9 rfl .i64 .i64 l.length (by omega) (by omega)
 have Hs:=zF (wS l.length)
 have n0:((d:Int)==0)=false:=eqB (by omega)
 have n1:¬ d=0:=by omega
 go_enter Tryz.func170,Tryz.ntmps170
 go_wp2
 go_loopw [7,8] (fun rv iv wr=>∃ (k r:Nat) (z:Int) (o:List Nat),iv=.int .i64 z∧vI k z∧rv=.int .u64 (r:Int)∧k≤l.length∧r<d∧wP 4294967296 l o d k r∧Dig o∧Blk wr w.heap.size o∧Below w.heap.size w wr) (fun _ iv _=>(intOf iv+1).toNat)
 case atStart=>exact ⟨l.length,0,_,List.replicate l.length 0,rfl,Hs.out,rfl,by omega,by omega,wP.start d (by simp),by intro x hx;simp at hx;omega,vT w _,(zQ _ w).alloc (zG _) _⟩
 case round =>
  obtain ⟨k,r,z,o,rfl,hz,rfl,hk,hr,hS,hDo,hblk,hB⟩:=hrel
  rcases hz with ⟨rfl,rfl⟩ | ⟨j,rfl,rfl⟩
  · obtain ⟨hv,hrem⟩:=hS.fin hr
    have hLo:Lim o:=⟨fun x hx=>by have:=hDo x hx;omega,by have:=hS.1;omega⟩
    have hOB:OB wr w.heap.size (some ⟨w.heap.size,0,none⟩) l.length o:=kj hblk (zG _) hLo (by have:=hS.1;omega) (by unfold maxLen;omega)
    have ht:=kK _ _ _ _ _ hOB.rn hDo
    have hOB':=hOB.trim32 hDo
    rw [hv,hS.1] at ht
    rw [hv] at hOB'
    have Ht:=zF ht
    have Hrem:=zF hrem
    clear hblk hLo ht hv hrem hOB hS hDo
    go_wp2_with fail
    refine Ht.out.mono ?_
    rintro e w1 ⟨rfl,rfl⟩
    go_wp2
    go_ret2
    exact ⟨_,_,by rw [Hrem.out];rfl,hOB',hB⟩
  · obtain ⟨ad,rfl,had,q1⟩:=(h.below hB hP).at_ (i:=j) (by omega)
    have hol:=hS.1
    have hlj:=hDl.dgLt j
    have q3:=hblk.cell (i:=j) (by omega)
    have q4:=hblk.free j
    obtain ⟨t,ht⟩:=eV (r*4294967296+dg l j)
    obtain ⟨q,r',hr',he,hq⟩:∃ q r':Nat,r'<d∧t=d*q+r'∧q<4294967296:=by
     refine ⟨t / d,t % d,qS _ hd,(vp _ d).symm,?_⟩
     apply qP
     have:(r+1)*4294967296≤d*4294967296:=qb _ hr
     omega
    have htb:(t:Int)<18446744073709551616:=by omega
    have f0:(r:Int)*4294967296+(dg l j:Int)=(t:Int):=by omega
    have f1:(t:Int) / (d:Int)=(q:Int):=by
     rw [←Int.natCast_ediv,he,Nat.mul_add_div hd,qj hr',qt]
    have f2:(t:Int) % (d:Int)=(r':Int):=by
     rw [←Int.natCast_emod,he,Nat.mul_add_mod,qJ hr']
    have f1':(t:Int).tdiv (d:Int)=(q:Int):=by rw [je (by omega)];exact f1
    have f2':(t:Int).tmod (d:Int)=(r':Int):=by rw [Int.tmod_eq_emod_of_nonneg (by omega)];exact f2
    have hS':=hS.step (by omega) (by rw [ht];exact he)
    have hblk':=hblk.set j q
    have hD':=hDo.set j q hq
    have hB':=hB.setCell (p:=⟨w.heap.size,j,none⟩) (zG _) (.int .u64 (q:Int))
    have k1:(j:Int)<(l.length:Int):=by omega
    have k2:(r:Int)*4294967296<18446744073709551616:=by omega
    have k3:(q:Int)<18446744073709551616:=by omega
    have k4:(r':Int)<18446744073709551616:=by omega
    have Hs':=zF (wS j)
    clear he hS hblk hDo hB hol ht
    go_wp2
    go_roundw
    case rel=>exact ⟨j,r',_,o.set j q,rfl,Hs'.out,by go_num,by omega,hr',hS',hD',hblk',hB'⟩
    case measure=>simp [intOf]
theorem yo:(Tryz.prog.info? 69).map (·.size)=some 1:=by kernel_rfl
theorem oD {u W:List Nat} {k:Nat} (hu:Dig u) (hW:Dig W):Dig (yJ u W k):=by
 intro x hx
 rcases List.mem_append.1 hx with h | h
 · rcases List.mem_append.1 h with h | h
   · exact hu x (qI h)
   · exact hW x h
 · exact hu x (List.mem_of_mem_drop h)
theorem sq (u W:List Nat) (k:Nat):(((nts u).toArray.toList.take k++nts W++(nts u).toArray.toList.drop (k+(nts W).length)).toArray)=(nts (yJ u W k)).toArray:=by
 simp [nts,yJ,List.map_take,List.map_drop]
theorem rZ (w:World) (g gw k n m cw:Nat) (u W:List Nat) (ty:TypeId) (hu:Blk w g u) (hw:Blk w gw W) (hn:W.length=n) (hk:k+n≤u.length) (hm:u.length - k=m) :
 (Builtin.copy_ #[26,26] ty #[.slice (some ⟨g,k,none⟩) m m,.slice (some ⟨gw,0,none⟩) n cw]).run Tryz.prog w=.ok (goInt n) (w.setRow g (nts (yJ u W k)).toArray):=by
 have h:=run_copy_row (P:=Tryz.prog) w 26 26 ty 69 g k m m ⟨gw,0,none⟩ n cw (nts u).toArray 69 (nts W) Tryz.underlying26 yo hu
  (by rw [qX,hn];exact (qO (by omega)).symm) (fun j v hj=>by rw [wl,zH hw j,zI];exact hj) (by rw [qX,hn];simp [nts];omega) (kM W)
 rw [sq,qX,hn] at h
 exact h
theorem Blk.put {w:World} {g:Nat} {u:List Nat} (h:Blk w g u) (v:List Nat):Blk (w.setRow g (nts v).toArray) g v:=setRow_heap w g _ _ _ _ h
theorem vP.put {w w':World} {g:Nat} (h:vP g w w') (v:Array Value):vP g w (w'.setRow g v) :=
  ⟨h.os, h.tape, h.output, by have : (w'.setRow g v).heap.size = w'.heap.size := by simp [World.setRow]
                              exact this.trans h.size,fun k hk=>by
    have:(w'.setRow g v).heap[k]?=w'.heap[k]?:=by simp [World.setRow,jn,yX hk]
    exact this.trans (h.block k hk)⟩
structure Two (g g':Nat) (w w':World):Prop where
 os:w'.os=w.os
 tape:w'.tape=w.tape
 output:w'.output=w.output
 size:w'.heap.size=w.heap.size
 block:∀ k,k≠g→k≠g'→w'.heap[k]?=w.heap[k]?
theorem Two.below {g g' B:Nat} {w w':World} (h:Two g g' w w') (hg:B≤g) (hg':B≤g'):Below B w w':=⟨h.os,h.tape,h.output,yY h.size.symm,fun k hk=>h.block k (by omega) (by omega)⟩
theorem vP.two {g g':Nat} {w w' w'':World} (h:vP g' w w') (k:vP g w' w''):Two g g' w w'':=⟨k.os.trans h.os,k.tape.trans h.tape,k.output.trans h.output,k.size.trans h.size,fun i hi hi'=>(k.block i hi).trans (h.block i hi')⟩
theorem RN.two {g g':Nat} {w w':World} {P:Nat→Prop} {A:Option Addr} {c:Nat} {l:List Nat} (h:RN w P A c l) (ho:Two g g' w w') (hP:∀ b,P b→b≠g∧b≠g'):RN w' P A c l:=h.keep fun q hq=>zS (w:=w) (ho.block q.block (hP _ hq).1 (hP _ hq).2)
theorem mc (g v c b x:Nat) (hg:g<4294967296) (hv:v<4294967296) (hc:c<4294967296) (hb:b≤1) (hx:x<4294967296) :
 ∃ pr lo c' off y b':Nat,g*v=pr∧pr<18446744073709551616∧c+pr<18446744073709551616∧lo+4294967296*c'=c+pr∧(c+pr) % 4294967296=lo∧(c+pr) / 4294967296=c'∧c'<4294967296∧off=lo+b∧off≤4294967296∧y<4294967296∧b'≤1∧y+(lo+b)=x+4294967296*b'∧(b'=0↔¬ x<off):=by
 have hm:=xT hg hv hc (show 0<4294967296 by omega)
 obtain ⟨pr,hpr⟩:=eV (g*v)
 rw [hpr] at hm
 by_cases h:x<(c+pr) % 4294967296+b
 · exact ⟨pr,(c+pr) % 4294967296,(c+pr) / 4294967296,(c+pr) % 4294967296+b,x+4294967296 - ((c+pr) % 4294967296+b),1,hpr,by omega,by omega,by omega,rfl,rfl,by omega,rfl,by omega,by omega,by omega,by omega,by simp [h]⟩
 · exact ⟨pr,(c+pr) % 4294967296,(c+pr) / 4294967296,(c+pr) % 4294967296+b,x - ((c+pr) % 4294967296+b),0,hpr,by omega,by omega,by omega,rfl,rfl,by omega,rfl,by omega,by omega,by omega,by omega,by simp [h]⟩
theorem rE (g gw k n m G:Nat) (P:Nat→Prop) (A:Option Addr) (c:Nat) (U V W:List Nat) (w:World) (hU:Blk w g U) (hW:Blk w gw W) (h:RN w P A c V) (hgg:g≠gw) (hP:∀ b,P b→b≠gw) (hDU:Dig U) (hDV:Dig V) (hUm:U.length=m) (hVn:V.length=n) (hWn:W.length=n+1) (hk:k+n+1≤m) (hm:m≤100000) (hG:G<4294967296) (hz:∀ j,k+n+1≤j→dg U j=0) :
 Calls Tryz.prog 172 #[.slice (some ⟨g,0,none⟩) m m,.slice A n c,.slice (some ⟨gw,0,none⟩) (n+1) (n+1),.int .i64 (k:Int),.int .u64 (G:Int)] w fun e w'=>∃ U' W',Blk w' g U'∧Dig U'∧U'.length=m∧Blk w' gw W'∧W'.length=n+1∧Two g gw w w' ∧
  ((e=.returned (.bool true)∧val 4294967296 U'+4294967296 ^ k*(G*val 4294967296 V)=val 4294967296 U)∨(e=.returned (.bool false)∧U'=U∧val 4294967296 U / (4294967296 ^ k*val 4294967296 V)<G)):=by
 obtain ⟨h1,h2,h3⟩:=h.cap
 have hnc:n≤c:=by omega
 have Hz:=zF hz
 have HVn:=zF hVn
 have HUm:=zF hUm
 have Hgg:=zF hgg
 have HG:=zF hG
 have hn1:n≤100000:=by omega
 clear h1 h2 h3 hz hVn hUm hgg hG
 go_enter Tryz.func172,Tryz.ntmps172
 go_wp2
 go_loopw [12,13,14] (fun cv bv iv wr=>∃ (i cr b:Nat) (o:List Nat),iv=.int .i64 (i:Int)∧cv=.int .u64 (cr:Int)∧bv=.int .u64 (b:Int)∧i≤n+1∧cr<4294967296∧b≤1∧(n<i→cr=0)∧xb 4294967296 U V o k G i cr b∧Dig (o.take i)∧Blk wr gw o∧vP gw w wr) (fun _ _ iv _=>n+1 - (intOf iv).toNat)
 case atStart=>exact ⟨0,0,0,W,rfl,rfl,rfl,by omega,by omega,by omega,by omega,xb.zero (by rw [HVn.out];exact hWn),by intro x hx;simp at hx,hW,vP.refl _ _⟩
 case round =>
  obtain ⟨i,cr,b,o,rfl,rfl,rfl,hi,hcr,hb,hc0,hS,hDo,hbw,ho⟩:=hrel
  have hol:=hS.1
  rw [HVn.out] at hol
  have hbu:Blk _ g U:=(ho.block g Hgg.out).trans hU
  by_cases hle:i≤n
  · have hxU:=hDU.dgLt (k+i)
    have q1:=hbu.cell (i:=k+i) (by rw [HUm.out];omega)
    have q3:=hbw.cell (i:=i) (by omega)
    have q4:=hbw.free i
    have k0:(k:Int)+(i:Int)<(m:Int):=by omega
    have k1:(i:Int)<(n:Int)+1:=by omega
    obtain ⟨pr,lo,c',off,y,b',b1,b2,b3,b4,b5,b6,b7,b8,b9,b10,b11,b12,b13⟩:=mc G (dg V i) cr b (dg U (k+i)) HG.out (hDV.dgLt i) hcr hb hxU
    have hS':=hS.step (x:=y) (c':=c') (b':=b') (lo:=lo) (by omega) (by rw [b1];exact b4) b12
    have hblk':=hbw.set i y
    have hD':Dig ((o.set i y).take (i+1)):=by
     rw [ya (by simpa using (by omega:i<o.length)),vH (by omega),List.take_set_of_le (by omega)]
     intro x hx
     rcases List.mem_append.1 hx with h | h
     · exact hDo x h
     · rw [List.mem_singleton.1 h];exact b10
    have ho':=ho.setCell (p:=⟨gw,0,none⟩) (f:=0) rfl i (.int .u64 (y:Int))
    rw [wl] at ho'
    have e3:(lo:Int)+(b:Int)=(off:Int):=by omega
    have kx:(dg U (k+i):Int)<4294967296:=by omega
    have kp:(pr:Int)<18446744073709551616:=by omega
    have kc:(cr:Int)+(pr:Int)<18446744073709551616:=by omega
    have ko:(off:Int)≤4294967296:=by omega
    have hc':n<i+1→c'=0:=by
     intro hni
     have hin:i=n:=by omega
     have:dg V i=0:=kY (by rw [HVn.out];omega)
     rw [this,jK] at b1
     omega
    have e1:((cr:Int)+(pr:Int)) % 4294967296=(lo:Int):=by omega
    have e2:((cr:Int)+(pr:Int)) / 4294967296=(c':Int):=by omega
    have Hb7:=zF b7
    have Hhc:=zF hc'
    by_cases hlt:i<n
    · obtain ⟨ad,rfl,_,q2⟩:=(h.only ho hP).at_ (i:=i) (by rw [HVn.out];exact hlt)
      have hpr:(dg V i:Int)*(G:Int)=(pr:Int):=by rw [←vq,zh,b1]
      rcases zo b' with h0 | h0
      · have hxo:=b13.1 h0
        have e4:(dg U (k+i):Int) - (off:Int)=(y:Int):=by omega
        subst h0
        clear b1 b2 b3 b4 b5 b6 b7 b8 b9 b10 b12 b13 hS hDo hbw ho hol hbu hxU hcr hc' hc0
        go_wp2
        go_roundw
        case rel=>exact ⟨i+1,c',0,o.set i y,by go_num,by go_num,rfl,by omega,Hb7.out,by omega,Hhc.out,hS',hD',hblk',ho'⟩
        case measure=>simp [intOf];omega
      · have h01:b'=1:=by omega
        have hxo:dg U (k+i)<off:=by
         rcases qB (dg U (k+i)) off with h | h
         · exact h
         · have:=b13.2 (by omega);omega
        have e4:(dg U (k+i):Int)+4294967296 - (off:Int)=(y:Int):=by omega
        subst h01
        clear b1 b2 b3 b4 b5 b6 b7 b8 b9 b10 b12 b13 hS hDo hbw ho hol hbu hxU hcr hc' hc0
        go_wp2
        go_roundw
        case rel=>exact ⟨i+1,c',1,o.set i y,by go_num,by go_num,rfl,by omega,Hb7.out,by omega,Hhc.out,hS',hD',hblk',ho'⟩
        case measure=>simp [intOf];omega
    · have hin:i=n:=by omega
      have hv0:dg V i=0:=kY (by rw [HVn.out];omega)
      rw [hv0,jK] at b1
      have e1':(cr:Int) % 4294967296=(lo:Int):=by omega
      have e2':(cr:Int) / 4294967296=(c':Int):=by omega
      subst hin
      rcases zo b' with h0 | h0
      · have hxo:=b13.1 h0
        have e4:(dg U (k+i):Int) - (off:Int)=(y:Int):=by omega
        subst h0
        clear b1 b2 b3 b4 b5 b6 b7 b8 b9 b10 b12 b13 hS hDo hbw ho hol hbu hxU hcr hc' hc0 hv0 e1 e2
        go_wp2
        go_roundw
        case rel=>exact ⟨i+1,c',0,o.set i y,by go_num,by go_num,rfl,by omega,Hb7.out,by omega,Hhc.out,hS',hD',hblk',ho'⟩
        case measure=>simp [intOf]
      · have h01:b'=1:=by omega
        have hxo:dg U (k+i)<off:=by
         rcases qB (dg U (k+i)) off with h | h
         · exact h
         · have:=b13.2 (by omega);omega
        have e4:(dg U (k+i):Int)+4294967296 - (off:Int)=(y:Int):=by omega
        subst h01
        clear b1 b2 b3 b4 b5 b6 b7 b8 b9 b10 b12 b13 hS hDo hbw ho hol hbu hxU hcr hc' hc0 hv0 e1 e2
        go_wp2
        go_roundw
        case rel=>exact ⟨i+1,c',1,o.set i y,by go_num,by go_num,rfl,by omega,Hb7.out,by omega,Hhc.out,hS',hD',hblk',ho'⟩
        case measure=>simp [intOf]
  · have hin:i=n+1:=by omega
    have hcz:=hc0 (by omega)
    subst hin hcz
    have hDo':Dig o:=by rwa [zx (by omega)] at hDo
    rw [←hol] at hS
    have hkl:k+o.length≤U.length:=by rw [HUm.out];omega
    have hle':¬ (n:Int)+1≤(n:Int):=by omega
    rcases zo b with h0 | h0
    · subst h0
      have hy:=zF (hS.yes hkl)
      have hcp:=rZ _ g gw k (n+1) (m - k) (n+1) U o 3 hbu hbw hol (by rw [HUm.out];omega) (by rw [HUm.out])
      have Hol:=zF hol
      have Hkl:=zF hkl
      clear hol hkl hS hDo
      have hbu2:=hbu.put (yJ U o k)
      have hbw2:Blk (World.setRow _ g (nts (yJ U o k)).toArray) gw o:=((vP.refl g _).put _ |>.block gw (yX Hgg.out)).trans hbw
      have htwo:=ho.two ((vP.refl g _).put (nts (yJ U o k)).toArray)
      go_wp2
      go_ret
      exact ⟨yJ U o k,hbu2,oD hDU hDo',(bH Hkl.out).trans HUm.out,o,hbw2,Hol.out,htwo,.inl ⟨rfl,hy.out⟩⟩
    · have hb1:b=1:=by omega
      subst hb1
      have hno:=zF (hS.no hDo' hDU (fun j hj=>Hz.out j (by omega)) hkl)
      have Hol:=zF hol
      clear hS hDo hol hkl
      go_wp2
      go_ret
      exact ⟨U,hbu,hDU,HUm.out,o,hbw,Hol.out,(vP.refl g _ |> fun r=>ho.two r),.inr ⟨rfl,rfl,hno.out⟩⟩
structure kD (g:Nat) (w w':World):Prop where
 os:w'.os=w.os
 tape:w'.tape=w.tape
 output:w'.output=w.output
 size:w.heap.size≤w'.heap.size
 block:∀ b,b<w.heap.size→b≠g→w'.heap[b]?=w.heap[b]?
theorem kD.refl (g:Nat) (w:World):kD g w w:=⟨rfl,rfl,rfl,zG _,fun _ _ _=>rfl⟩
theorem kD.trans {g:Nat} {a b c:World} (h:kD g a b) (k:kD g b c):kD g a c :=
 ⟨k.os.trans h.os,k.tape.trans h.tape,k.output.trans h.output,zU h.size k.size,fun i hi hn=>(k.block i (zP hi h.size) hn).trans (h.block i hi hn)⟩
theorem kD.set {g:Nat} {a b:World} (h:kD g a b) (i:Nat) (v:Value):kD g a (b.setCell ⟨g,i,none⟩ v) :=
 ⟨h.os,h.tape,h.output,by simpa [World.setCell] using h.size,fun j hj hn=>(zO _ _ _ _ (by exact hn)).trans (h.block j hj hn)⟩
theorem kD.drewN {g:Nat} {a b:World} (h:kD g a b) (n:Nat):kD g a (b.drewN n):=⟨h.os,h.tape,h.output,h.size,h.block⟩
theorem kD.cell {g:Nat} {w w':World} (h:kD g w w') {p:Addr} (hp:p.block<w.heap.size) (hn:p.block≠g):w'.cell? p=w.cell? p:=zS (h.block _ hp hn)
theorem kD.below {g B:Nat} {w w':World} (h:kD g w w') (hB:B≤g) (hw:B≤w.heap.size):Below B w w':=⟨h.os,h.tape,h.output,h.size,fun b hb=>h.block b (zP hb hw) (by omega)⟩
theorem RN.just {w w':World} {g:Nat} {P:Nat→Prop} {A:Option Addr} {c:Nat} {l:List Nat} (h:RN w P A c l) (hj:kD g w w') (hP:∀ b,P b→b<w.heap.size∧b≠g):RN w' P A c l :=
 h.keep fun _ hp=>hj.cell (hP _ hp).1 (hP _ hp).2
theorem gB {B g:Nat} {w w':World} (h:Below B w w') (hg:B≤g) (v:Array Value):Below B w (w'.setRow g v) :=
  ⟨h.os, h.tape, h.output, by have : (w'.setRow g v).heap.size = w'.heap.size := by simp [World.setRow]
                              rw [this];exact h.size,fun k hk=>by
    have:(w'.setRow g v).heap[k]?=w'.heap[k]?:=by simp [World.setRow,jn,show ¬ g=k by omega]
    exact this.trans (h.block k hk)⟩
def gd (v M:Nat):Nat:=if v<M then v else v - M
structure dV (B M:Nat) (a b t:List Nat) (i n:Nat):Prop where
 len:t.length=n+2
 top:dg t (n+1)=0
 bound:val B t<M+val B b
 cong:∃ k,val B t*B ^ i=val B (a.take i)*val B b+k*M
theorem dV.zero {B M:Nat} (a b:List Nat) (n:Nat) (hM:0<M):dV B M a b (List.replicate (n+2) 0) 0 n :=
 ⟨by simp,by rw [dg,zi,List.getElem?_replicate];split <;> rfl,by rw [kP];omega,0,by simp [kP]⟩
theorem gu {B:Nat} {t:List Nat} (ht:∀ x∈t,x<B) (_hB:0<B):val B t % B=dg t 0:=by
 cases t with
 | nil=>simp [dg]
 | cons x l=>rw [jZ,jj,qJ (ht x (by simp))];rfl
/-! What a round does to the numbers. -/
theorem aQ {B M inv d q v:Nat} (hi:(inv*M+1) % B=0) (hv:v % B=d) (hq:q=d*inv % B):(v+q*M) % B=0:=by
 have h1:(v+q*M) % B=(d*(inv*M+1)) % B:=by
  subst hq hv
  rw [zl,jS,Nat.add_mod,Nat.mod_mul_mod,←zf,kG (v % B*inv*M),Nat.add_mod_mod]
 rw [h1,Nat.mul_mod,hi]
 simp
theorem nV {M t0 ai b q t2 Bi A A' k:Nat} (h2:t2=t0+ai*b+q*M) (hk:t0*Bi=A*b+k*M) (hA:A'=A+Bi*ai):t2*Bi=A'*b+(k+q*Bi)*M:=by
 subst h2 hA
 rw [qZ,qZ,hk,qZ,qZ]
 have e1:ai*b*Bi=Bi*ai*b:=by rw [zh Bi ai,zf,zf,zh b Bi]
 have e2:q*M*Bi=q*Bi*M:=by rw [zf,zf,zh M Bi]
 omega
theorem dC {B M t0 ai b q t2 t4:Nat} (hB:0<B) (h2:t2=t0+ai*b+q*M) (hb:t0<M+b) (ha:ai<B) (hq:q<B) (h4:t2=B*t4):t4<M+b:=by
 have e1:ai*b≤(B - 1)*b:=qb _ (by omega)
 have e2:q*M≤(B - 1)*M:=qb _ (by omega)
 have e3:(B - 1)*b+b=B*b:=by rw [←Nat.succ_mul,Nat.succ_eq_add_one,Nat.sub_add_cancel hB]
 have e4:(B - 1)*M+M=B*M:=by rw [←Nat.succ_mul,Nat.succ_eq_add_one,Nat.sub_add_cancel hB]
 have e5:B*t4<B*(M+b):=by rw [zl,←h4];omega
 exact Nat.lt_of_mul_lt_mul_left e5
theorem dV.step {B M inv n i q:Nat} {a b t t2:List Nat} (hB:2≤B) (h:dV B M a b t i n) (ha:dg a i<B) (hi:(inv*M+1) % B=0) (hl2:t2.length=n+2) (hlim:∀ x∈t2,x<B)
 (hq:q=(val B t+dg a i*val B b) % B*inv % B) (hv2:val B t2=val B t+dg a i*val B b+q*M):dV B M a b (t2.drop 1++[0]) (i+1) n:=by
 have h0:val B t2 % B=0:=by rw [hv2];exact aQ hi rfl hq
 have hq':q<B:=by rw [hq];exact qS _ (by omega)
 obtain ⟨x,l,rfl⟩:∃ x l,t2=x :: l:=by
  cases t2 with
  | nil=>simp at hl2
  | cons x l=>exact ⟨x,l,rfl⟩
 rw [gu hlim (by omega)] at h0
 have hx:x=0:=h0
 subst hx
 have hlen:l.length=n+1:=by simpa using hl2
 have e4:val B (0 :: l)=B*val B l:=by rw [jZ];omega
 have e5:val B ((0 :: l).drop 1++[0])=val B l:=by simp [jp]
 obtain ⟨k,hk⟩:=h.cong
 refine ⟨by simp [hlen],?_,?_,k+q*B ^ i,?_⟩
 · simp [dg,hlen]
 · rw [e5]
   exact dC (by omega) hv2 h.bound ha hq' e4
 · rw [e5,zv,show val B l*(B ^ i*B)=(B*val B l)*B ^ i by rw [zh (B ^ i),←zf,zh (val B l)],←e4]
   exact nV hv2 hk (z8 B a i)
theorem nR {v M:Nat} (h:v<2*M):gd v M<M:=by rw [gd];split <;> omega
theorem pq {v M R x k:Nat} (h:v*R=x+k*M):gd v M*R % M=x % M:=by
 have h1:v*R % M=x % M:=by rw [h,vQ]
 rw [gd]
 split
 · exact h1
 · rename_i hge
   rw [←h1]
   have:v*R=(v - M)*R+R*M:=by rw [zh R M,←qZ,Nat.sub_add_cancel (by omega)]
   rw [this,vQ]
theorem pD (x y:Nat):IntKind.u64.wrap ((x:Int)*(y:Int))=((x*y % 18446744073709551616:Nat):Int):=by
 rw [IntKind.wrap_u64,←vq]
 omega
theorem fN {B M inv n a b:Nat} (hi:(inv*M+1) % B=0) (h:a*B ^ n % M=b*B ^ n % M):a % M=b % M:=by
  obtain ⟨u,hu⟩:∃ u,inv*M+1=B*u:=⟨(inv*M+1) / B,by have:=vp (inv*M+1) B;omega⟩
  have h1:∀ x,x*(B*u) % M=x % M:=fun x=>by rw [←hu,zl,jS,←zf,kG,vQ]
  have h2:∀ k x,x*B ^ k*u ^ k % M=x % M:=by
    intro k
    induction k with
    | zero=>intro x;simp
    | succ k ih =>
      intro x
      have e:x*B ^ (k+1)*u ^ (k+1)=(x*(B*u))*B ^ k*u ^ k:=by
        rw [zv,zv]
        simp only [zf,zh,jB]
      rw [e,ih,h1]
  rw [←h2 n a,←h2 n b,Nat.mul_mod,h,←Nat.mul_mod]
theorem zAQ {m y y' t z:Int} {k j:Nat} (hy:m*y=1+2 ^ k*t) (h':y'=y*(2 - m*y)+18446744073709551616*z) (hj:k+k+j=64):∃ s,m*y'=1+2 ^ (k+k)*s:=by
 refine ⟨-(t*t)+m*2 ^ j*z,?_⟩
 have e1:m*y'=m*y*(2 - m*y)+m*18446744073709551616*z:=by rw [h',Int.mul_add,←Int.mul_assoc,←Int.mul_assoc]
 have e2:(18446744073709551616:Int)=2 ^ (k+k)*2 ^ j:=by rw [←Int.pow_add,hj];rfl
 rw [e1,hy,e2,Int.pow_add]
 generalize (2:Int) ^ k=p
 generalize (2:Int) ^ j=r
 grind
theorem aN {m y:Int} : ∃ z,(y*((2 - m*y % 18446744073709551616) % 18446744073709551616)) % 18446744073709551616=y*(2 - m*y)+18446744073709551616*z:=by
 have e1:=Int.mul_ediv_add_emod (m*y) 18446744073709551616
 have e2:=Int.mul_ediv_add_emod (2 - m*y % 18446744073709551616) 18446744073709551616
 have e3:=Int.mul_ediv_add_emod (y*((2 - m*y % 18446744073709551616) % 18446744073709551616)) 18446744073709551616
 generalize (2 - m*y % 18446744073709551616) / 18446744073709551616=d2 at *
 generalize (y*((2 - m*y % 18446744073709551616) % 18446744073709551616)) / 18446744073709551616=d3 at *
 generalize (y*((2 - m*y % 18446744073709551616) % 18446744073709551616)) % 18446744073709551616=r3 at *
 generalize (2 - m*y % 18446744073709551616) % 18446744073709551616=r2 at *
 generalize (m*y) / 18446744073709551616=d1 at *
 generalize (m*y) % 18446744073709551616=r1 at *
 refine ⟨y*d1 - y*d2 - d3,?_⟩
 grind
theorem sr {m0 M:Nat} {y:Int} {t:Int} (hm:M % 18446744073709551616=m0) (h:(m0:Int)*y=1+18446744073709551616*t):((((-y) % 18446744073709551616).toNat)*M+1) % 18446744073709551616=0:=by
 have e1:=Int.mul_ediv_add_emod (-y) 18446744073709551616
 have h0:0≤(-y) % 18446744073709551616:=Int.emod_nonneg _ (by decide)
 obtain ⟨v,hv⟩:∃ v:Nat,(-y) % 18446744073709551616=(v:Int):=⟨_,(Int.toNat_of_nonneg h0).symm⟩
 rw [hv] at e1 ⊢
 rw [ku]
 obtain ⟨q,hq⟩:∃ q,M=m0+18446744073709551616*q:=⟨M / 18446744073709551616,by omega⟩
 have e2:((v*M+1:Nat):Int)=18446744073709551616*((v:Int)*q - t - (m0:Int)*((-y) / 18446744073709551616)):=by
  rw [hq]
  simp only [vr,vq,qf]
  generalize (-y) / 18446744073709551616=d at *
  grind
 omega
def nl (M:Nat):Nat:=(digs 18446744073709551616 M).length
theorem fG (B:Nat) (a:List Nat) (k:Nat):val B (a++List.replicate k 0)=val B a:=by rw [jp,kP,jK,qt]
theorem jf {w:World} {g:Nat} {t:TypeId} {cs:Array Value} (h:w.heap[g]?=some (.cells cs t (0,0))) (i:Nat) (u:Value):(w.setCell ⟨g,i,none⟩ u).heap[g]?=some (.cells (cs.setIfInBounds i u) t (0,0)):=by
 simp [World.setCell,jn,h]
theorem Ext.drewN (w:World) (n:Nat):Ext w (w.drewN n):=qT (zQ _ w) n
theorem qo {op:Oper} {a:Act} {X:World} {K:Act→World→Prop} {Q:Exit→Act→World→Prop} (ty:TypeId) (x y:Operand) (ho:op.op=.store ty x y) (hd:op.dst=none) {b:Nat} {cs cs':Array Value} {t:TypeId}
 (hx:a.eval x=.pointer (some ⟨b,0,none⟩)) (hy:a.eval y=.agg cs') (hg:X.heap[b]?=some (.cells cs t (0,0))) (hi:(Tryz.prog.info? ty).map (·.size)=some cs'.size) (hold:cs.size=cs'.size) (h1:cs'.all (·.oneCell')=true)
 (hK:∀ Y,Y.heap[b]?=some (.cells cs' t (0,0))→kD b X Y→Y.heap.size=X.heap.size→K a Y):op.wp Tryz.prog a X K Q:=by
 refine wp_store_row ty x y ho b cs' hx hy t cs hg hi hold h1 ?_
 rw [hd]
 exact hK _ (Go.setRow_heap X b cs cs' t _ hg) ⟨rfl,rfl,rfl,by simp [World.setRow],fun k _ hk=>Go.setRow_other X b k cs' hk⟩ (by simp [World.setRow])
theorem jg {op:Oper} {a:Act} {X:World} {K:Act→World→Prop} {Q:Exit→Act→World→Prop} (ty:TypeId) (x:Operand) (ho:op.op=.load ty x) {b:Nat} {cs:Array Value} {t:TypeId} {d:TypeDesc} (hx:a.eval x=.pointer (some ⟨b,0,none⟩)) (hg:X.heap[b]?=some (.cells cs t (0,0)))
 (hu:Tryz.prog.underlying ty=some d) (hd:d.isRow=true) (hi:(Tryz.prog.info? ty).map (·.size)=some cs.size) {v:Value} (hv:v=.agg cs) (hK:K (a.put op.dst v) X):op.wp Tryz.prog a X K Q :=
 wp_load_row ty x ho b hx t cs (0,0) d hg hu (by cases d <;> first | rfl | exact hd) hi (by rw [←hv];exact hK)
theorem kD.ext {b:Nat} {w X Y:World} (h:kD b X Y) (hE:Ext w X) (hb:w.heap.size≤b):Ext w Y:=kU hE (h.below hb hE.bsize)
theorem kD.at_ {b c:Nat} {X Y:World} {o:Obj} (h:kD b X Y) (hc:c≠b) (hx:X.heap[c]?=some o):Y.heap[c]?=some o:=(h.block c (ql hx) hc).trans hx
section
variable {Q:Exit→Act→World→Prop} {ol:List Oper} {m:Nat} {L AL:List Nat} {R:Nat→(Nat→Value)→World→Prop} {a:Act} {w:World} {F:List Oper→Prop} {k n:Nat} {o:Oper} {l:List Oper} {u:Value}
theorem bq {X:World} {b:Nat} {cs:Array Value} {t ty:TypeId} (hg:X.heap[b]?=some (.cells cs t (0,0))) (hd:(Tryz.prog.underlying ty).any (·.isRow)=true) (hi:(Tryz.prog.info? ty).map (·.size)=some cs.size):(Instr.loadAt ty (.pointer (some ⟨b,0,none⟩))).run Tryz.prog X=.ok (.agg cs) X:=by
 obtain ⟨d,hu,h2⟩:∃ d,Tryz.prog.underlying ty=some d∧d.isRow=true:=by
  cases h:Tryz.prog.underlying ty with
  | none=>rw [h] at hd;cases hd
  | some d=>rw [h] at hd;exact ⟨d,rfl,hd⟩
 unfold Instr.loadAt
 simp only [wg]
 rw [show (Instr.sureAddr (.pointer (some ⟨b,0,none⟩))).run Tryz.prog X=.ok ⟨b,0,none⟩ X from rfl,qk]
 exact run_loadVar_row X b t ty cs (0,0) d hg hu (by cases d <;> first | rfl | exact h2) hi
theorem lV0 (k' n':Nat) {b:Nat} {cs:Array Value} {t ty:TypeId} {x:Operand} (hg:w.heap[b]?=some (.cells cs t (0,0))) (hi:(Tryz.prog.info? ty).map (·.size)=some cs.size) (hs:Par.qd (Par.jU Tryz.prog ol Q Ext m L AL R a w) F k' n' l) (hR:∀ f X,f k=.agg cs→R k (Par.jb (fun i=>L.getD i 0) k f) X:=by exact fun _ _ h=>h) (hk:k+1=k':=by rfl) (hn:n'+1=n:=by rfl) (ha:AL.contains k=false:=by kernel_rfl)
 (hw:∀ f,Region.wanted o (yielded ol.toArray (Par.put ol.toArray (Par.nd (fun i=>L.getD i 0) k) f (List.range m) a).tmps)=true:=by intro _;kernel_rfl)
 (ho:o.op=.load ty x:=by rfl) (hx:∀ f,(Par.put ol.toArray (Par.nd (fun i=>L.getD i 0) k) f (List.range m) a).eval x=.pointer (some ⟨b,0,none⟩):=by intro _;kernel_rfl) (hd:(Tryz.prog.underlying ty).any (·.isRow)=true:=by kernel_rfl):Par.qd (Par.jU Tryz.prog ol Q Ext m L AL R a w) F k n (o :: l) :=
 Par.vx (fun f=>f) hs (fun _ _ _=>rfl) hR hk hn ha hw (fun f X hX=>by
  unfold execOp
  simp only [ho,wg,hx,bq (hX.at_ hg) hd hi,qk]
  rfl)
end
end Go.Proofs.YtmlbicgpehchhaaGreat
namespace Go.Proofs.YtmlbicgpehchhaaGreat
theorem xC:type_of% @Ext.drewN:=@Ext.drewN
end Go.Proofs.YtmlbicgpehchhaaGreat
namespace Go.Proofs.YtmlbicgpehchhaaGreat
open Go.RowKit
def OW (w:World) (base:Nat) (A:Option Addr) (c:Nat) (bs:List Nat):Prop:=w.ownsRow base 5 1 (.slice A bs.length c) bs.length (bys bs)∧∀ b∈bs,b<256
theorem pn {w:World} {base n size:Nat} {e:TypeId} {v:Value} {cs:List Value} (h:w.ownsRow base e size v n cs) (k:Nat) (hk:v.ownBlock=some k):base≤k:=by
 rcases h.2 with ⟨rfl,rfl⟩ | ⟨g,cap,cur,rfl,hg,_⟩
 · cases hk
 · simp [Value.ownBlock] at hk
   omega
theorem OW.rb {w:World} {base:Nat} {A:Option Addr} {c:Nat} {bs:List Nat} (h:OW w base A c bs) (hl:bs.length≤100000000):RB w (In base w.heap.size) A c bs:=⟨RS.of_own h.1,h.2,by omega⟩
theorem OW.lit (w:World) (b:Nat) (hb:b<256):OW (w.alloc (.cells #[.int .u8 (b:Int)] 5)) w.heap.size (some ⟨w.heap.size,0,none⟩) 1 [b] :=
 ⟨World.ownsRow_lit w #[.int .u8 (b:Int)] 1 (zG _) (by unfold maxLen;omega) rfl,by simp;exact hb⟩
theorem OW.ext {w X:World} {base:Nat} {A:Option Addr} {c:Nat} {bs:List Nat} (h:OW w base A c bs) (hE:w.grownBy X none):OW X base A c bs:=⟨pm h.1 hE,h.2⟩
theorem RB.upE {w X:World} {A:Option Addr} {c:Nat} {bs:List Nat} (h:RB w (fun b=>b<w.heap.size) A c bs) (hE:Ext w X):RB X (fun b=>b<X.heap.size) A c bs:=(h.below hE (fun _ hb=>hb)).mono fun _ hb=>zP hb hE.bsize
section
variable {w:World} {ops:Array Oper} {rest:List Oper} {o:Oper} {a:Act} {Q:Exit→Act→World→Prop}
theorem wf (hgd:o.guard=none) (s x:Operand) (ho:o.op=.call { callee:=.builtin .append,args:=#[s,x],argTypes:=#[34,34] }) (base:Nat) {A Au:Option Addr} {c cu:Nat} {bs cs:List Nat} {B:Nat→Prop}
 (hs:a.eval s=.slice A bs.length c) (hown:OW w base A c bs) (hx:a.eval x=.slice Au cs.length cu) (hr:RB w B Au cu cs) (hl:bs.length+cs.length≤100000000) (hbase:base≤w.heap.size)
 (h:∀ A' c' w',OW w' base A' c' (bs++cs)→Below base w w'→wpList Tryz.prog ops Q rest (a.put o.dst (.slice A' (bs++cs).length c')) w'):wpList Tryz.prog ops Q (o :: rest) a w:=by
 obtain ⟨i0,hi,hz0,hz1,hz2⟩:=info_parts cQ
 refine qz w hgd s x 34 ho base 5 i0 (.int .u8 0) 1 1 Tryz.underlying34 hi hz0 hz1 hz2 rfl (by decide) _ bs.length (bys bs) hs hown.1 B Au cs.length cu (bys cs) hx hr.1 (by intro u hu;obtain ⟨b,_,rfl⟩:=List.mem_map.1 hu;rfl) (bs.length+cs.length) rfl (by unfold maxLen;omega) (by omega) hbase ?_
 intro A' c' w' h1 h2 h3
 have hlen:(bs++cs).length=bs.length+cs.length:=zk
 refine (hlen▸h A' c' w' ⟨?_,?_⟩ ?_:_)
 · rw [hlen,show bys (bs++cs)=bys bs++bys cs by simp [bys]]
   exact h1
 · intro b hb
   rcases List.mem_append.1 hb with hb | hb
   · exact hown.2 b hb
   · exact hr.2.1 b hb
 · exact Below.grown (zQ base w) h2 hbase (pn hown.1)
end
end Go.Proofs.YtmlbicgpehchhaaGreat
namespace Go.Proofs.YtmlbicgpehchhaaGreat
theorem xB:type_of% @OW.lit:=@OW.lit
end Go.Proofs.YtmlbicgpehchhaaGreat
namespace Go.Proofs.YtmlbicgpehchhaaGreat.Der
open Go.RowKit Go.Shelf
attribute [local go_sem] Oper.semAt_some
theorem RB.getD {w:World} {P:Nat→Prop} {A:Option Addr} {c:Nat} {bs:List Nat} (h:RB w P A c bs) {i:Nat} (hi:i<bs.length):∃ ad,A=some ad∧P ad.block∧w.cell? (ad.add i)=some (.int .u8 (bs.getD i 0:Nat))∧bs.getD i 0<256:=by
 obtain ⟨ad,h1,h2,h3,h4⟩:=h.at_ hi
 rw [gD _ _ hi]
 exact ⟨ad,h1,h2,h3,by omega⟩
theorem RB.get0 {w:World} {P:Nat→Prop} {A:Option Addr} {c:Nat} {bs:List Nat} (h:RB w P A c bs) (hi:0<bs.length):∃ ad,A=some ad∧P ad.block∧w.cell? ad=some (.int .u8 (bs.getD 0 0:Nat))∧bs.getD 0 0<256:=by
 obtain ⟨ad,h1,h2,h3,h4⟩:=RB.getD h hi
 exact ⟨ad,h1,h2,by simpa [Addr.add] using h3,h4⟩
theorem RB.get1 {w:World} {P:Nat→Prop} {ad:Addr} {c:Nat} {bs:List Nat} (h:RB w P (some ad) c bs) (hi:1<bs.length):w.cell? ⟨ad.block,ad.off+1,none⟩=some (.int .u8 (bs.getD 1 0:Nat))∧bs.getD 1 0<256:=by
 obtain ⟨ad',h1,h2,h3,h4⟩:=RB.getD h hi
 injection h1 with h1
 subst h1
 exact ⟨by simpa [Addr.add] using h3,h4⟩
theorem rB (P:Nat→Prop) (A:Option Addr) (c:Nat) (b:List Nat) (w:World) (h:RB w P A c b) :
 Calls Tryz.prog 193 #[.slice A b.length c] w fun e w'=>e=.returned (.bool (xF b))∧∃ d,w'=w.drewN d:=by
 obtain ⟨hlc,hc,hl⟩:=h.cap
 have H:=zF h
 obtain ⟨R,hR⟩:=eV (xF b)
 rw [hR]
 have HR:=zF hR
 clear h hR
 go_enter Tryz.func193,Tryz.ntmps193
 go_wp2
 go_loopw [3,8] (fun v i wr=>∃ (k:Nat) (bg:Bool),k≤b.length∧i=.int .i64 k∧v=.bool bg∧xm true b=xm bg (b.drop k)∧∃ d,wr=w.drewN d) (fun _ i _=>b.length - (intOf i).toNat)
 case atStart=>exact ⟨0,true,by omega,rfl,rfl,by simp,0,rfl⟩
 case round =>
  obtain ⟨k,bg,hk,rfl,rfl,hN,d,rfl⟩:=hrel
  by_cases hlt:k<b.length
  · obtain ⟨ad,rfl,-,hx,hx2⟩:=(H.out.keep (w':=w.drewN d) fun _ _=>rfl).at_ hlt
    obtain ⟨x,hxe⟩:=eV (b[k])
    rw [hxe] at hx hx2
    have HN:=zF (hN.trans (cK hlt hxe))
    have q1:(k:Int)<(b.length:Int):=by omega
    clear hN hxe
    by_cases h1:bg=true∧x=128
    · obtain ⟨rfl,rfl⟩:=h1
      have hR:false=R:=by rw [←HR.out];unfold xF;rw [HN.out];simp
      subst hR
      go_wp2
      go_ret
      exact ⟨rfl,d,rfl⟩
    · have hN2:=zF (HN.out.trans (zr (by simpa using h1)))
      have g2:((x:Int)<128)=(x<128):=by simp;omega
      cases bg
      · go_wp2
        go_roundw
        case rel=>exact ⟨k+1,decide (x<128),by omega,by go_num,by simp [],hN2.out,d,rfl⟩
        case measure=>simp [intOf];omega
      · have g1:¬ (x:Int)=128:=by simp at h1;omega
        have g1':((x:Int)==128)=false:=by simpa using g1
        go_wp2
        go_roundw
        case rel=>exact ⟨k+1,decide (x<128),by omega,by go_num,by simp [],hN2.out,d,rfl⟩
        case measure=>simp [intOf];omega
  · obtain rfl:k=b.length:=by omega
    have hR:(decide (0<b.length) && bg)=R:=by rw [←HR.out];unfold xF;rw [hN];simp [xm]
    clear hN
    by_cases h0:0<b.length
    · have hR':bg=R:=by simpa [h0] using hR
      subst hR'
      have h0':(0:Int)<(b.length:Int):=by omega
      go_wp2
      go_ret
      exact ⟨rfl,d,rfl⟩
    · have hR':false=R:=by simpa [h0] using hR
      subst hR'
      have h0':¬ (0:Int)<(b.length:Int):=by omega
      go_wp2
      go_ret
      exact ⟨rfl,d,rfl⟩
theorem dw (P:Nat→Prop) (A:Option Addr) (c tag:Nat) (b:List Nat) (w:World) (h:RB w P A c b) :
 Calls Tryz.prog 185 #[.int .i64 tag,.slice A b.length c] w fun e w'=>e=.returned (.bool (jY tag b))∧∃ d,w'=w.drewN d:=by
 obtain ⟨hlc,hc,hl⟩:=h.cap
 have H:=zF h
 have HN:=zF (rB P A c b w h)
 obtain ⟨R,hR⟩:=eV (jY tag b)
 rw [hR]
 have fin:∀ {v:Bool},v=R→Ending.returned (.bool v)=Ending.returned (.bool R)∧∃ d,w=w.drewN d:=fun h=>⟨by rw [h],0,rfl⟩
 obtain ⟨n,hn⟩:=eV b.length
 rw [hn] at hlc hl HN ⊢
 have Hn:=zF hn
 clear h hn
 obtain ⟨z,hz⟩:∃ z:Int,(tag:Int)=z:=⟨_,rfl⟩
 rw [hz]
 by_cases t2:tag=2
 · subst t2
   obtain rfl:z=2:=hz.symm
   clear hz
   unfold jY at hR
   rw [qE rfl,Hn.out] at hR
   by_cases h0:n=0
   · have hR':false=R:=by rw [←hR];simp [h0]
     subst h0
     clear hR
     subst hR'
     go_enter Tryz.func185,Tryz.ntmps185
     go_wp2
     go_ret
     exact fin rfl
   have h0':(0:Int)<(n:Int):=by omega
   have h0'':0<n:=by omega
   obtain ⟨ad,rfl,-,x0,y0⟩:=RB.get0 H.out (by rw [Hn.out];omega)
   obtain ⟨b0,hb0⟩:=eV (b.getD 0 0)
   rw [hb0] at x0 y0 hR
   by_cases h1:b0<128
   rotate_left
   · have hR':false=R:=by rw [←hR];simp [h1]
     have h1':¬ (b0:Int)<128:=by omega
     clear hR
     subst hR'
     go_enter Tryz.func185,Tryz.ntmps185
     go_wp2
     go_ret
     exact fin rfl
   have h1':(b0:Int)<128:=by omega
   by_cases h2:0<b0
   · have hR':true=R:=by rw [←hR];simp [h0'',h1,h2]
     have h2':(0:Int)<(b0:Int):=by omega
     clear hR
     subst hR'
     go_enter Tryz.func185,Tryz.ntmps185
     go_wp2
     go_ret
     exact fin rfl
   have h2':¬ (0:Int)<(b0:Int):=by omega
   by_cases h3:n=1
   · have hR':true=R:=by rw [←hR];simp [h1,h2,h3]
     subst h3
     clear hR
     subst hR'
     go_enter Tryz.func185,Tryz.ntmps185
     go_wp2
     go_ret
     exact fin rfl
   have h3':((n:Int)==1)=false:=beq_eq_false_iff_ne.2 (by omega)
   have h4:1<n:=by omega
   have h4':(1:Int)<(n:Int):=by omega
   obtain ⟨x1,y1⟩:=RB.get1 H.out (by rw [Hn.out];omega)
   obtain ⟨b1,hb1⟩:=eV (b.getD 1 0)
   rw [hb1] at x1 y1 hR
   have hR':decide (128≤b1)=R:=by rw [←hR];simp [h0'',h1,h2,h3]
   by_cases h5:128≤b1
   · have h5':(128:Int)≤(b1:Int):=by omega
     have hR2:true=R:=by rw [←hR'];simp [h5]
     clear hR hR'
     subst hR2
     go_enter Tryz.func185,Tryz.ntmps185
     go_wp2
     go_ret
     exact fin rfl
   · have h5':¬ (128:Int)≤(b1:Int):=by omega
     have hR2:false=R:=by rw [←hR'];simp [h5]
     clear hR hR'
     subst hR2
     go_enter Tryz.func185,Tryz.ntmps185
     go_wp2
     go_ret
     exact fin rfl
 have t2':(z==2)=false:=beq_eq_false_iff_ne.2 (by omega)
 by_cases t3:tag=3
 · subst t3
   obtain rfl:z=3:=hz.symm
   clear hz
   unfold jY at hR
   rw [zr (by omega),qE rfl,Hn.out] at hR
   by_cases h0:n=0
   · have hR':false=R:=by rw [←hR];simp [h0]
     subst h0
     clear hR t2 t2'
     subst hR'
     go_enter Tryz.func185,Tryz.ntmps185
     go_wp2
     go_ret
     exact fin rfl
   have h0':(0:Int)<(n:Int):=by omega
   have h0'':0<n:=by omega
   obtain ⟨ad,rfl,-,x0,y0⟩:=RB.get0 H.out (by rw [Hn.out];omega)
   obtain ⟨b0,hb0⟩:=eV (b.getD 0 0)
   rw [hb0] at x0 y0 hR
   have hR':(b0==0)=R:=by rw [←hR];simp [h0'']
   by_cases h5:b0=0
   · subst h5
     have hR2:true=R:=by rw [←hR'];simp
     clear hR hR' t2 t2'
     subst hR2
     go_enter Tryz.func185,Tryz.ntmps185
     go_wp2
     go_ret
     exact fin rfl
   · have h5':((b0:Int)==0)=false:=by simp;omega
     have hR2:false=R:=by rw [←hR'];simp [h5]
     clear hR hR' t2 t2'
     subst hR2
     go_enter Tryz.func185,Tryz.ntmps185
     go_wp2
     go_ret
     exact fin rfl
 have t3':(z==3)=false:=beq_eq_false_iff_ne.2 (by omega)
 by_cases t4:tag=4
 · subst t4
   obtain rfl:z=4:=hz.symm
   clear hz
   have hR2:true=R:=by rw [←hR];rfl
   clear hR t2 t2' t3 t3'
   subst hR2
   go_enter Tryz.func185,Tryz.ntmps185
   go_wp2
   go_ret
   exact fin rfl
 have t4':(z==4)=false:=beq_eq_false_iff_ne.2 (by omega)
 by_cases t5:tag=5
 · subst t5
   obtain rfl:z=5:=hz.symm
   clear hz
   have hR':(n==0)=R:=by rw [←hR,←Hn.out];rfl
   clear hR t2 t2' t3 t3' t4 t4'
   by_cases h0:n=0
   · subst h0
     have hR2:true=R:=by rw [←hR'];simp
     clear hR'
     subst hR2
     go_enter Tryz.func185,Tryz.ntmps185
     go_wp2
     go_ret
     exact fin rfl
   · have h0':((n:Int)==0)=false:=beq_eq_false_iff_ne.2 (by omega)
     have hR2:false=R:=by rw [←hR'];simp [h0]
     clear hR'
     subst hR2
     go_enter Tryz.func185,Tryz.ntmps185
     go_wp2
     go_ret
     exact fin rfl
 have t5':(z==5)=false:=beq_eq_false_iff_ne.2 (by omega)
 by_cases t6:tag=6
 · subst t6
   obtain rfl:z=6:=hz.symm
   clear hz
   have hR':xF b=R:=by rw [←hR];rfl
   rw [hR'] at HN
   clear hR t2 t2' t3 t3' t4 t4' t5 t5' hR'
   go_enter Tryz.func185,Tryz.ntmps185
   go_wp2_with fail
   refine HN.out.mono ?_
   rintro e w1 ⟨rfl,d,rfl⟩
   go_wp2
   go_ret
   exact ⟨rfl,d,rfl⟩
 have t6':(z==6)=false:=beq_eq_false_iff_ne.2 (by omega)
 have hR2:false=R:=by rw [←hR];unfold jY;rw [zr t2,zr t3,zr t4,zr t5,zr t6]
 clear hR t2 t3 t4 t5 t6 hz
 subst hR2
 go_enter Tryz.func185,Tryz.ntmps185
 go_wp2
 go_ret
 exact fin rfl
theorem zAJ (a x:Nat) (ha:a<4294967296) (hx:x<256):bits .or .i64 ((a:Int)*256) (x:Int)=((256*a+x:Nat):Int):=by
 have h1:(BitVec.ofInt 64 ((a:Int)*256)).toNat=a*256:=by
  rw [show (a:Int)*256=((a*256:Nat):Int) by omega,BitVec.ofInt_natCast,BitVec.toNat_ofNat];exact qJ (by omega)
 have h2:(BitVec.ofInt 64 (x:Int)).toNat=x:=by
  rw [BitVec.ofInt_natCast,BitVec.toNat_ofNat];exact qJ (by omega)
 have h3:a*256 ||| x=256*a+x:=by
  have:=Nat.shiftLeft_add_eq_or_of_lt (b:=x) (i:=8) (by omega) a
  rw [Nat.shiftLeft_eq] at this
  rw [←this];omega
 show IntKind.i64.wrap ((BitVec.ofInt 64 ((a:Int)*256) ||| BitVec.ofInt 64 (x:Int)).toNat:Int)=_
 rw [BitVec.toNat_or,h1,h2,h3,qm]
 omega
def nr (R:Option (Nat×List Nat×List Nat)) (P:Nat→Prop) (e:Ending) (w':World):Prop :=
 match R with
 | none=>e=.returned (.tuple #[.int .i64 0,.slice none 0 0,.slice none 0 0,.bool false])
 | some (t,h,r)=>∃ A1 c1 A2 c2,e=.returned (.tuple #[.int .i64 t,.slice A1 h.length c1,.slice A2 r.length c2,.bool true])∧RB w' P A1 c1 h∧RB w' P A2 c2 r∧t<256
theorem pc {w:World} {P:Nat→Prop} {A:Option Addr} {c:Nat} {bs:List Nat} (h:RB w P A c bs) {k m c':Nat} (hkm:k≤m) (hm:m≤bs.length) (hc:m - k≤c') (hc':c'≤maxLen) {A':Option Addr} (hA:k<m→A'=A.map (·.add k)):RB w P A' c' ((bs.drop k).take (m - k)):=by
 have h1:=h.1.sub hkm hm hc hc' (A':=A') (by simpa using hA)
 have e:((bys bs).drop (k*1)).take ((m - k)*1)=bys ((bs.drop k).take (m - k)):=by simp [bys,List.map_take,List.map_drop]
 rw [e] at h1
 have hl:((bs.drop k).take (m - k)).length=m - k:=by rw [zz,jI];omega
 refine ⟨by rw [hl];exact h1,fun b hb=>h.2.1 b (List.mem_of_mem_drop (qI hb)),by rw [hl];have:=h.2.2;omega⟩
theorem sV {w:World} {P:Nat→Prop} {A:Option Addr} {c:Nat} {bs:List Nat} (h:RB w P A c bs) {k c':Nat} (hk:k≤bs.length) (hc:bs.length - k≤c') (hc':c'≤maxLen) {A':Option Addr} (hA:k<bs.length→A'=A.map (·.add k)):RB w P A' c' (bs.drop k):=by
 have:=pc h hk (zG _) hc hc' hA
 rwa [zx (by simp)] at this
theorem xX {w:World} {P:Nat→Prop} {A:Option Addr} {c N:Nat} {b:List Nat} (h:RB w P A c b) (hN:b.length=N) {k m:Nat} (hk:N=k+m):∃ A2,(∀ W,(Instr.slice 34 (.slice A N c) (some (.int .i64 (k:Int))) none none).run Tryz.prog W=.ok (.slice A2 m (c - k)) W)∧RB w P A2 (c - k) (b.drop k):=by
 obtain ⟨h1,h2,h3⟩:=h.cap
 refine ⟨if c=k then A else A.map (·.add k),fun W=>?_,sV h (by omega) (by omega) (by unfold maxLen;omega) (fun hlt=>by rw [zr (by omega)])⟩
 rw [run_slice_l W 34 A N c (by kernel_rfl) .i64 (k:Int) (by omega) (by omega)]
 rw [show ((sizeOf (Tryz.prog.elem 34)).run Tryz.prog W)=.ok 1 W by kernel_rfl]
 simp only [qk,sliced,ku,jS]
 rw [show N - k=m by omega]
theorem fT {w:World} {P:Nat→Prop} {A:Option Addr} {c N:Nat} {b:List Nat} (h:RB w P A c b) (hN:b.length=N) {k:Nat} (hk:k≤N):(∀ W,(Instr.slice 34 (.slice A N c) none (some (.int .i64 (k:Int))) none).run Tryz.prog W=.ok (.slice A k c) W)∧RB w P A c (b.take k):=by
 obtain ⟨h1,h2,h3⟩:=h.cap
 refine ⟨fun W=>?_,?_⟩
 · rw [run_slice_h W 34 A N c (by kernel_rfl) .i64 (k:Int) (by omega) (by omega)]
   rw [show ((sizeOf (Tryz.prog.elem 34)).run Tryz.prog W)=.ok 1 W by kernel_rfl]
   have e:(if c=0 then A else A.map (·.add (0*1)))=A:=by
    split
    · rfl
    · cases A <;> simp [Addr.add]
   simp only [qk,sliced,ku,e,Nat.sub_zero]
 · have:=pc h (k:=0) (m:=k) (c':=c) (A':=A) (by omega) (by omega) (by omega) (by unfold maxLen;omega) (fun _=>by cases A <;> simp [Addr.add])
   simpa using this
theorem tV {b:List Nat} {k:Nat} (hk:k<b.length) (n:Nat):be n (b.take (k+1))=256*be n (b.take k)+b.getD k 0:=by
 have happ:∀ (l:List Nat) (n x:Nat),be n (l++[x])=256*be n l+x:=by
  intro l
  induction l with
  | nil=>intro n x;rfl
  | cons y l ih=>intro n x;rw [List.cons_append,be,ih,be]
 rw [vz hk,happ,gD _ _ hk]
theorem dN {R:Option (Nat×List Nat×List Nat)} {P:Nat→Prop} {w':World} {t n m:Nat} {rest:List Nat} {A1 A2:Option Addr} {c1 c2:Nat} (hR:R=some (t,rest.take n,rest.drop n)) (hm:rest.length=m) (hn:n≤m) (ht:t<256) (h1:RB w' P A1 c1 (rest.take n)) (h2:RB w' P A2 c2 (rest.drop n)) :
 nr R P (.returned (.tuple #[.int .i64 t,.slice A1 n c1,.slice A2 (m - n) c2,.bool true])) w':=by
 subst hR
 refine ⟨A1,c1,A2,c2,?_,h1,h2,ht⟩
 rw [zz,jI,hm,qO hn]
theorem dM {t n:Nat} {rest:List Nat} (h:n<128):kq (t :: n :: rest)=um t n rest:=qE h
theorem ac {t n:Nat} {rest:List Nat} (h:¬ n<128) (h2:n - 128<1∨3<n - 128∨rest.length<n - 128∨rest.getD 0 0=0):kq (t :: n :: rest)=none:=(zr h).trans (qE h2)
theorem aZ {t n z:Nat} {rest:List Nat} (h:¬ n<128) (h2:¬ (n - 128<1∨3<n - 128∨rest.length<n - 128∨rest.getD 0 0=0)) (hz:be 0 (rest.take (n - 128))=z) (h3:z<128):kq (t :: n :: rest)=none:=(zr h).trans ((zr h2).trans (by rw [hz,qE h3]))
theorem cR {t n z:Nat} {rest:List Nat} (h:¬ n<128) (h2:¬ (n - 128<1∨3<n - 128∨rest.length<n - 128∨rest.getD 0 0=0)) (hz:be 0 (rest.take (n - 128))=z) (h3:¬ z<128):kq (t :: n :: rest)=um t z (rest.drop (n - 128)):=(zr h).trans ((zr h2).trans (by rw [hz,zr h3]))
theorem aw {t n:Nat} {rest:List Nat} (h:rest.length<n):um t n rest=none:=qE h
theorem cj {t n:Nat} {rest:List Nat} (h:n≤rest.length):um t n rest=some (t,rest.take n,rest.drop n):=zr (by omega)
theorem rJ (P:Nat→Prop) (A:Option Addr) (c:Nat) (b:List Nat) (w:World) (h:RB w P A c b) (_hP:∀ q,P q→q<w.heap.size) :
 Calls Tryz.prog 183 #[.slice A b.length c] w fun e w'=>nr (kq b) P e w'∧Below w.heap.size w w':=by
 obtain ⟨hlc,hc,hl⟩:=h.cap
 obtain ⟨R,hR⟩:=eV (kq b)
 rw [hR]
 by_cases hsh:b.length<2
 · have hR2:none=R:=by
    rw [←hR]
    rcases b with _ | ⟨x,_ | ⟨y,r⟩⟩
    · rfl
    · rfl
    · simp at hsh;omega
   subst hR2
   obtain ⟨N,hN⟩:=eV b.length
   rw [hN] at hsh ⊢
   have hsh':(N:Int)<2:=by omega
   clear h hR hN hlc hl
   go_enter Tryz.func183,Tryz.ntmps183
   go_wp2
   refine qF (v:=.tuple #[.int .i64 0,.slice none 0 0,.slice none 0 0,.bool false]) (by simp [results,Tryz.results183,go_sem]) rfl ?_
   exact ⟨rfl,zQ _ _⟩
 obtain ⟨t,n,rest,rfl⟩:∃ t n rest,b=t :: n :: rest:=by
  rcases b with _ | ⟨x,_ | ⟨y,r⟩⟩
  · simp at hsh
  · simp at hsh
  · exact ⟨x,y,r,rfl⟩
 obtain ⟨ad,rfl,-,x0,y0⟩:=RB.get0 h (by simp)
 obtain ⟨x1,y1⟩:=RB.get1 h (by simp)
 simp only [List.getD_cons_zero,List.getD_cons_succ] at x0 y0 x1 y1
 obtain ⟨m,hm⟩:=eV rest.length
 obtain ⟨N,hN⟩:=eV ((t :: n :: rest).length)
 have hNm:N=2+m:=by rw [←hN,←hm];simp;omega
 obtain ⟨A2,hs2,hr2⟩:=xX h hN (k:=2) (m:=m) hNm
 have hr2:RB w P A2 (c - 2) rest:=hr2
 obtain ⟨c2,hc2⟩:=eV (c - 2)
 rw [hc2] at hs2 hr2
 have hs2:∀ (W:World),(Instr.slice 34 (.slice (some ad) N c) (some (.int .i64 2)) none none).run Tryz.prog W=.ok (.slice A2 m c2) W:=hs2
 rw [hN] at hlc hl hsh ⊢
 have g0:¬ (N:Int)<2:=by omega
 have g1:(0:Int)<(N:Int):=by omega
 have g2:(1:Int)<(N:Int):=by omega
 have HR2:=zF hr2
 have HRe:=zF hR
 have Hm:=zF hm
 clear hR hm hN hc2 h hr2 hNm hsh
 obtain ⟨lc2,mc2,ll2⟩:=HR2.out.cap
 rw [Hm.out] at lc2 ll2
 go_enter Tryz.func183,Tryz.ntmps183
 go_wp2
 go_quiet (fail)
 have HD:=zF (qT (zQ w.heap.size w) nq)
 have HR3:=zF (HR2.out.keep (w':=w.drewN nq) fun _ _=>rfl)
 have Hy0:=zF (show t<256 by omega)
 clear x0 x1 hs2 g0 g1 g2 HR2 _hP
 generalize w.drewN nq=w1 at *
 by_cases hn:n<128
 · have HRn:=zF (HRe.out.symm.trans (dM hn))
   have hn1:¬ (128:Int)≤(n:Int):=by omega
   by_cases hmn:m<n
   · have hR:R=none:=HRn.out.trans (aw (by rw [Hm.out];exact hmn))
     subst hR
     have hmn':(m:Int)<(n:Int):=by omega
     go_wp2
     refine qF (v:=.tuple #[.int .i64 0,.slice none 0 0,.slice none 0 0,.bool false]) (by simp [results,Tryz.results183,go_sem]) rfl ?_
     exact ⟨rfl,HD.out⟩
   have hmn':¬ (m:Int)<(n:Int):=by omega
   have hR:R=some (t,rest.take n,rest.drop n):=HRn.out.trans (cj (by rw [Hm.out];omega))
   obtain ⟨s1,q1⟩:=fT HR3.out Hm.out (k:=n) (by omega)
   obtain ⟨A5,s2,q2⟩:=xX HR3.out Hm.out (k:=n) (m:=m - n) (by omega)
   obtain ⟨c5,hc5⟩:=eV (c2 - n)
   rw [hc5] at s2 q2
   obtain ⟨m5,hm5⟩:=eV (m - n)
   rw [hm5] at s2
   have Q1:=zF q1
   have Q2:=zF q2
   have HRR:=zF hR
   have Hm5:=zF hm5
   clear q1 q2 hR hc5 hm5
   go_wp2
   go_quiet (fail)
   go_wp2
   refine qF (v:=.tuple #[.int .i64 t,.slice A2 n c2,.slice A5 m5 c5,.bool true]) (by simp [results,Tryz.results183,go_sem]) rfl ?_
   refine ⟨?_,qT HD.out _⟩
   rw [←Hm5.out]
   exact dN HRR.out Hm.out (by omega) Hy0.out (Q1.out.keep fun _ _=>rfl) (Q2.out.keep fun _ _=>rfl)
 have hn1:(128:Int)≤(n:Int):=by omega
 obtain ⟨k,hk⟩:=eV (n - 128)
 have hk1:(n:Int) - 128=(k:Int):=by omega
 have hbd:=fun h2=>ac (t:=t) (n:=n) (rest:=rest) hn h2
 have hlo:=fun z h2 hz h3=>aZ (t:=t) (n:=n) (z:=z) (rest:=rest) hn h2 hz h3
 have hlg:=fun z h2 hz h3=>cR (t:=t) (n:=n) (z:=z) (rest:=rest) hn h2 hz h3
 rw [HRe.out,hk,Hm.out] at hbd
 simp only [HRe.out,hk,Hm.out] at hlo hlg
 have HBd:=zF hbd
 have HLo:=zF hlo
 have HLg:=zF hlg
 have Hk:=zF hk
 have k128:k<128:=by omega
 clear hbd hlo hlg hn hk HRe
 by_cases k1:k<1
 · have hR:R=none:=HBd.out (.inl k1)
   subst hR
   have k1':(k:Int)<1:=by omega
   go_wp2
   refine qF (v:=.tuple #[.int .i64 0,.slice none 0 0,.slice none 0 0,.bool false]) (by simp [results,Tryz.results183,go_sem]) rfl ?_
   exact ⟨rfl,HD.out⟩
 have k1':¬ (k:Int)<1:=by omega
 by_cases k3:3<k
 · have hR:R=none:=HBd.out (.inr (.inl k3))
   subst hR
   have k3':(3:Int)<(k:Int):=by omega
   go_wp2
   refine qF (v:=.tuple #[.int .i64 0,.slice none 0 0,.slice none 0 0,.bool false]) (by simp [results,Tryz.results183,go_sem]) rfl ?_
   exact ⟨rfl,HD.out⟩
 have k3':¬ (3:Int)<(k:Int):=by omega
 by_cases km:m<k
 · have hR:R=none:=HBd.out (.inr (.inr (.inl km)))
   subst hR
   have km':(m:Int)<(k:Int):=by omega
   go_wp2
   refine qF (v:=.tuple #[.int .i64 0,.slice none 0 0,.slice none 0 0,.bool false]) (by simp [results,Tryz.results183,go_sem]) rfl ?_
   exact ⟨rfl,HD.out⟩
 have km':¬ (m:Int)<(k:Int):=by omega
 have hm1:(0:Int)<(m:Int):=by omega
 obtain ⟨ar,rfl,-,x0,y0⟩:=RB.get0 HR3.out (by rw [Hm.out];omega)
 obtain ⟨r0,hr0⟩:=eV (rest.getD 0 0)
 rw [hr0] at x0 y0 HBd
 simp only [hr0] at HLo HLg
 by_cases k0:r0=0
 · subst k0
   have hR:R=none:=HBd.out (.inr (.inr (.inr rfl)))
   subst hR
   have x0':w1.cell? ar=some (.int .u8 0):=x0
   clear x0
   go_wp2
   refine qF (v:=.tuple #[.int .i64 0,.slice none 0 0,.slice none 0 0,.bool false]) (by simp [results,Tryz.results183,go_sem]) rfl ?_
   exact ⟨rfl,HD.out⟩
 have k0':((r0:Int)==0)=false:=beq_eq_false_iff_ne.2 (by omega)
 have hno:¬ (k<1∨3<k∨m<k∨r0=0):=by omega
 obtain ⟨s1,q1⟩:=fT HR3.out Hm.out (k:=k) (by omega)
 have Q1:=zF q1
 have Hno:=zF hno
 clear q1 hno hr0 HBd
 go_wp2
 go_loopw [7,51] (fun v i wr=>∃ j:Nat,j≤k∧i=.int .i64 j∧v=.int .i64 (be 0 (rest.take j):Nat)∧be 0 (rest.take j)<256 ^ j∧wr=w1) (fun _ i _=>k - (intOf i).toNat)
 case atStart=>exact ⟨0,by omega,rfl,rfl,by simp [be],rfl⟩
 case round =>
  obtain ⟨j,hj,rfl,rfl,hb,rfl⟩:=hrel
  by_cases hlt:j<k
  · obtain ⟨ar',er,-,xj,yj⟩:=RB.getD HR3.out (i:=j) (by rw [Hm.out];omega)
    injection er with er
    subst er
    obtain ⟨z,hz⟩:=eV (be 0 (rest.take j))
    have hz2:=tV (b:=rest) (k:=j) (by rw [Hm.out];omega) 0
    obtain ⟨x,hx⟩:=eV (rest.getD j 0)
    rw [hx] at xj yj hz2
    rw [hz] at hz2 hb ⊢
    have hp:(256:Nat) ^ j≤65536:=by
     have h3:j≤2:=by omega
     exact zy (by omega) h3
    have h1:IntKind.i64.wrap ((z:Int)*256)=(z:Int)*256:=by rw [qm];omega
    have h2:=zAJ z x (by omega) (by omega)
    have hlt':(j:Int)<(k:Int):=by omega
    have Hz2:=zF hz2
    have Hb2:=zF (show 256*z+x<256 ^ (j+1) by rw [zv];omega)
    clear hz hx hz2 hb hp
    go_wp2
    go_roundw
    case rel=>exact ⟨j+1,by omega,by go_num,by rw [Hz2.out];simp,by rw [Hz2.out];exact Hb2.out,by first | trivial | rfl⟩
    case measure=>simp [intOf];omega
  · obtain rfl:j=k:=by omega
    obtain ⟨z,hz⟩:=eV (be 0 (rest.take j))
    rw [hz]
    have HLo2:=HLo.out z Hno.out hz
    have HLg2:=HLg.out z Hno.out hz
    have hz3:z<16777216:=by
     rw [hz] at hb
     have:(256:Nat) ^ j≤256 ^ 3:=zy (by omega) (by omega)
     omega
    clear hz hb HLo HLg hlt hj
    by_cases hz1:z<128
    · have hR:R=none:=HLo2 hz1
      subst hR
      have hz1':(z:Int)<128:=by omega
      clear HLo2 HLg2
      go_wp2
      refine qF (v:=.tuple #[.int .i64 0,.slice none 0 0,.slice none 0 0,.bool false]) (by simp [results,Tryz.results183,go_sem]) rfl ?_
      exact ⟨rfl,HD.out⟩
    have hz1':¬ (z:Int)<128:=by omega
    have HRn:=zF (HLg2 hz1)
    clear HLo2 HLg2 s1 Q1
    obtain ⟨A3,s3,q3⟩:=xX HR3.out Hm.out (k:=j) (m:=m - j) (by omega)
    obtain ⟨c3,hc3⟩:=eV (c2 - j)
    rw [hc3] at s3 q3
    have hm3:(rest.drop j).length=m - j:=by rw [jI,Hm.out]
    obtain ⟨m3,hm3'⟩:=eV (m - j)
    rw [hm3'] at s3 hm3
    obtain ⟨rest3,hr3⟩:=eV (rest.drop j)
    rw [hr3] at q3 hm3 HRn
    have Q3:=zF q3
    have Hm3:=zF hm3
    obtain ⟨lc3,mc3,ll3⟩:=q3.cap
    rw [hm3] at lc3 ll3
    clear q3 hm3 hc3 hm3' hr3
    go_upto_region 17 with fail
    clear s3
    by_cases hmn:m3<z
    · have hR:R=none:=HRn.out.trans (aw (by rw [Hm3.out];exact hmn))
      subst hR
      have hmn':(m3:Int)<(z:Int):=by omega
      go_wp2
      refine qF (v:=.tuple #[.int .i64 0,.slice none 0 0,.slice none 0 0,.bool false]) (by simp [results,Tryz.results183,go_sem]) rfl ?_
      exact ⟨rfl,HD.out⟩
    have hmn':¬ (m3:Int)<(z:Int):=by omega
    have hR:R=some (t,rest3.take z,rest3.drop z):=HRn.out.trans (cj (by rw [Hm3.out];omega))
    obtain ⟨s1,q1⟩:=fT Q3.out Hm3.out (k:=z) (by omega)
    obtain ⟨A5,s2,q2⟩:=xX Q3.out Hm3.out (k:=z) (m:=m3 - z) (by omega)
    obtain ⟨c5,hc5⟩:=eV (c3 - z)
    rw [hc5] at s2 q2
    obtain ⟨m5,hm5⟩:=eV (m3 - z)
    rw [hm5] at s2
    have Q1:=zF q1
    have Q2:=zF q2
    have HRR:=zF hR
    have Hm5:=zF hm5
    clear q1 q2 hR hc5 hm5
    go_wp2
    go_quiet (fail)
    go_wp2
    refine qF (v:=.tuple #[.int .i64 t,.slice A3 z c3,.slice A5 m5 c5,.bool true]) (by simp [results,Tryz.results183,go_sem]) rfl ?_
    refine ⟨?_,qT HD.out _⟩
    rw [←Hm5.out]
    exact dN HRR.out Hm3.out (by omega) Hy0.out (Q1.out.keep fun _ _=>rfl) (Q2.out.keep fun _ _=>rfl)
mutual
def RD (w:World) (P:Nat→Prop):DN→Value→Prop
 | .mk tag bs kids,v=>∃ A c Ak ck cs,v=.agg #[.int .i64 (tag:Int),.slice A bs.length c,.slice Ak kids.length ck]∧RB w P A c bs∧(tag=48→A=none∧c=0)∧RS w P 3 Ak kids.length ck cs∧RDs w P kids cs
def RDs (w:World) (P:Nat→Prop):List DN→List Value→Prop
 | [],cs=>cs=[]
 | k :: ks,cs=>∃ a b c rest,cs=a :: b :: c :: rest∧RD w P k (.agg #[a,b,c])∧RDs w P ks rest
end
mutual
theorem RD.keep {w w':World} {P:Nat→Prop} (hk:∀ p:Addr,P p.block→w'.cell? p=w.cell? p):∀ {t:DN} {v:Value},RD w P t v→RD w' P t v
  | .mk tag bs kids, v, h => by
    unfold RD at h ⊢
    obtain ⟨A,c,Ak,ck,cs,h1,h2,h3,h4,h5⟩:=h
    exact ⟨A,c,Ak,ck,cs,h1,h2.keep hk,h3,h4.keep hk,RDs.keep hk h5⟩
theorem RDs.keep {w w':World} {P:Nat→Prop} (hk:∀ p:Addr,P p.block→w'.cell? p=w.cell? p):∀ {ks:List DN} {cs:List Value},RDs w P ks cs→RDs w' P ks cs
  | [],cs,h=>by unfold RDs at h ⊢;exact h
  | k :: ks, cs, h => by
    unfold RDs at h ⊢
    obtain ⟨a,b,c,rest,h1,h2,h3⟩:=h
    exact ⟨a,b,c,rest,h1,RD.keep hk h2,RDs.keep hk h3⟩
end
mutual
theorem RD.mono {w:World} {P P':Nat→Prop} (hp:∀ b,P b→P' b):∀ {t:DN} {v:Value},RD w P t v→RD w P' t v
  | .mk tag bs kids, v, h => by
    unfold RD at h ⊢
    obtain ⟨A,c,Ak,ck,cs,h1,h2,h3,h4,h5⟩:=h
    exact ⟨A,c,Ak,ck,cs,h1,h2.mono hp,h3,h4.mono hp,RDs.mono hp h5⟩
theorem RDs.mono {w:World} {P P':Nat→Prop} (hp:∀ b,P b→P' b):∀ {ks:List DN} {cs:List Value},RDs w P ks cs→RDs w P' ks cs
  | [],cs,h=>by unfold RDs at h ⊢;exact h
  | k :: ks, cs, h => by
    unfold RDs at h ⊢
    obtain ⟨a,b,c,rest,h1,h2,h3⟩:=h
    exact ⟨a,b,c,rest,h1,RD.mono hp h2,RDs.mono hp h3⟩
end
theorem RDs.length {w:World} {P:Nat→Prop} : ∀ {ks:List DN} {cs:List Value},RDs w P ks cs→cs.length=ks.length*3
  | [],cs,h=>by unfold RDs at h;simp [h]
  | k :: ks, cs, h => by
    unfold RDs at h
    obtain ⟨a,b,c,rest,rfl,h2,h3⟩:=h
    have:=RDs.length h3
    simp only [jA]
    omega
theorem RDs.snoc {w:World} {P:Nat→Prop} {a b c:Value} {k:DN} (hk:RD w P k (.agg #[a,b,c])):∀ {ks:List DN} {cs:List Value},RDs w P ks cs→RDs w P (ks++[k]) (cs++[a,b,c])
  | [], cs, h => by
    unfold RDs at h
    subst h
    show RDs w P [k] [a,b,c]
    unfold RDs
    exact ⟨a,b,c,[],rfl,hk,by unfold RDs;rfl⟩
  | k' :: ks, cs, h => by
    unfold RDs at h
    obtain ⟨a',b',c',rest,rfl,h2,h3⟩:=h
    show RDs w P (k' :: (ks++[k])) _
    unfold RDs
    exact ⟨a',b',c',rest++[a,b,c],rfl,h2,RDs.snoc hk h3⟩
theorem RD.shape {w:World} {P:Nat→Prop} {t:DN} {v:Value} (h:RD w P t v):∃ a B1 n1 d1 B2 n2 d2,v=.agg #[.int .i64 a,.slice B1 n1 d1,.slice B2 n2 d2]:=by
 cases t
 unfold RD at h
 obtain ⟨A,c,Ak,ck,cs,h1,-⟩:=h
 exact ⟨_,_,_,_,_,_,_,h1⟩
theorem RD.below {w w':World} {P:Nat→Prop} {t:DN} {v:Value} {B:Nat} (h:RD w P t v) (hb:Below B w w') (hB:∀ q,P q→q<B):RD w' P t v:=RD.keep (fun _ hp=>hb.cell (hB _ hp)) h
structure Bb (s g:Nat) (w w':World):Prop where
 os:w'.os=w.os
 tape:w'.tape=w.tape
 output:w'.output=w.output
 size:w.heap.size≤w'.heap.size
 block:∀ b,b<s→b≠g→w'.heap[b]?=w.heap[b]?
theorem Bb.refl (s g:Nat) (w:World):Bb s g w w:=⟨rfl,rfl,rfl,zG _,fun _ _ _=>rfl⟩
theorem Bb.trans {s g:Nat} {a b c:World} (h:Bb s g a b) (k:Bb s g b c):Bb s g a c :=
 ⟨k.os.trans h.os,k.tape.trans h.tape,k.output.trans h.output,zU h.size k.size,fun i hi hn=>(k.block i hi hn).trans (h.block i hi hn)⟩
theorem Bb.mono {s s' g:Nat} {a b:World} (h:Bb s g a b) (hs:s'≤s):Bb s' g a b:=⟨h.os,h.tape,h.output,h.size,fun i hi hn=>h.block i (zP hi hs) hn⟩
theorem wO {s:Nat} {w w':World} (h:Below s w w') (g:Nat):Bb s g w w':=⟨h.os,h.tape,h.output,h.size,fun b hb _=>h.block b hb⟩
theorem Bb.set {s g:Nat} {a b:World} (h:Bb s g a b) (i:Nat) (v:Value):Bb s g a (b.setCell ⟨g,i,none⟩ v) :=
 ⟨h.os,h.tape,h.output,by simpa [World.setCell] using h.size,fun i hi hn=>(zO _ _ _ _ (by exact hn)).trans (h.block i hi hn)⟩
theorem Bb.setCell {s g:Nat} {a b:World} (h:Bb s g a b) {p:Addr} (hp:s≤p.block) (v:Value):Bb s g a (b.setCell p v) :=
 ⟨h.os,h.tape,h.output,by simpa [World.setCell] using h.size,fun i hi hn=>(zO _ _ _ _ (by omega)).trans (h.block i hi hn)⟩
theorem Bb.alloc {s g:Nat} {a b:World} (h:Bb s g a b) (hs:s≤b.heap.size) (o:Obj):Bb s g a (b.alloc o):=h.trans (wO ((zQ s b).alloc hs o) g)
theorem Bb.cell {s g:Nat} {w w':World} (h:Bb s g w w') {p:Addr} (hp:p.block<s) (hn:p.block≠g):w'.cell? p=w.cell? p:=zS (h.block _ hp hn)
theorem Bb.rb {s g:Nat} {w w':World} {P:Nat→Prop} {A:Option Addr} {c:Nat} {bs:List Nat} (h:RB w P A c bs) (hb:Bb s g w w') (hP:∀ q,P q→q<s∧q≠g):RB w' P A c bs:=h.keep fun _ hp=>hb.cell (hP _ hp).1 (hP _ hp).2
theorem mB {w:World} {g:Nat} {t:TypeId} {cs:Array Value} (h:w.heap[g]?=some (.cells cs t (0,0))) (i:Nat) (u:Value):(w.setCell ⟨g,i,none⟩ u).heap[g]?=some (.cells (cs.setIfInBounds i u) t (0,0)):=by
 simp [World.setCell,jn,h]
theorem wK {w:World} {s:Nat} {t:TypeId} {a b c:Value} (h:w.heap[s]?=some (.cells #[a,b,c] t (0,0))) (u v x:Value):(((w.setCell ⟨s,0,none⟩ u).setCell ⟨s,1,none⟩ v).setCell ⟨s,2,none⟩ x).heap[s]?=some (.cells #[u,v,x] t (0,0)):=by
 simpa using mB (mB (mB h 0 u) 1 v) 2 x
theorem m9 (P:Nat→Prop) (A:Option Addr) (c:Nat) (bs:List Nat) (w:World) (h:RB w P A c bs) (hP:∀ b,P b→b<w.heap.size) :
 Calls Tryz.prog 184 #[.slice A bs.length c] w fun e w'=>∃ A' c',e=.returned (.slice A' bs.length c')∧RB w' (In w.heap.size w'.heap.size) A' c' bs∧Below w.heap.size w w':=by
 obtain ⟨i0,hi,hz0,hz1,hz2⟩:=info_parts cQ
 have q22:∀ (w:World) (a:Option Addr) (n c n' c':Nat),(binOp .eql 34 (.slice a n c) (.slice none n' c')).run Tryz.prog w=.ok (.bool a.isNone) w:=fun w a n c n' c'=>Lib.run_eql_slice_nil w _ _ a n c n' c' Tryz.underlying34
 obtain ⟨h1,h2,h3⟩:=h.cap
 have hc0:=h.2.1
 rcases A with _ | ad
 · have hl:bs.length=0:=by
    rcases zo bs.length with h0 | h0
    · exact h0
    · obtain ⟨ad,h,_⟩:=h.1.2.2.2 h0
      cases h
   obtain rfl:=qH hl
   clear hl
   go_enter Tryz.func184,Tryz.ntmps184
   go_wp2
   go_ret
   exact ⟨none,0,rfl,vY _ _,zQ _ _⟩
 · have h':RS (w.alloc (.cells #[] 5)) P 1 (some ad) bs.length c (bys bs):=h.1.keep fun p hp=>World.cell?_alloc_lt w _ p (hP _ hp)
   clear h
   go_enter Tryz.func184,Tryz.ntmps184
   go_wp2_with (at_builtin;refine qz _ rfl _ _ 34 rfl w.heap.size 5 i0 (.int .u8 0) 1 1 Tryz.underlying34 hi hz0 hz1 hz2 rfl (by decide) _ _ _ rfl (World.ownsRow_made w #[] 0 (zG _) (xD _) rfl) P (some ad) bs.length c (bys bs) rfl h' (by intro u hu;obtain ⟨x,_,rfl⟩:=List.mem_map.1 hu;rfl) bs.length (by omega) (by unfold maxLen;omega) (by omega) (by simp) ?_)
   intro A' c' w1 hown hgrow _
   go_wp2
   go_ret
   exact ⟨A',c',rfl,⟨RS.of_own (by simpa using hown),hc0,h3⟩,((zQ _ w).alloc (zG _) _).grown hgrow (by simp) (by intro k hk;simp [Value.ownBlock] at hk;omega)⟩
theorem oS:(Tryz.prog.info? 80).map (fun i=>(i.zero,i.size,i.bytes))=some (some (.agg #[.int .i64 0,.slice none 0 0,.slice none 0 0]),3,56):=by kernel_rfl
def mI (R:Option (DN×List Nat×Nat)) (P:Nat→Prop) (g s:Nat) (e:Ending) (w':World):Prop :=
  ∃ lf : Int, w'.heap[g]? = some (.cells #[.int .i64 lf] 191 (0, 0)) ∧
    match R with
    | none=>∃ x B1 n1 d1 B2 n2 d2 v2,e=.returned (.tuple #[.agg #[.int .i64 x,.slice B1 n1 d1,.slice B2 n2 d2],v2,.bool false])
    | some (t,r,l)=>lf=(l:Int)∧∃ v A c,e=.returned (.tuple #[v,.slice A r.length c,.bool true])∧RD w' (In s w'.heap.size) t v∧RB w' P A c r
theorem xY {P:Nat→Prop} {g s n1 d1 n2 d2:Nat} {lf x:Int} {B1 B2:Option Addr} {v2:Value} {w':World} (h:w'.heap[g]?=some (.cells #[.int .i64 lf] 191 (0,0))):mI none P g s (.returned (.tuple #[.agg #[.int .i64 x,.slice B1 n1 d1,.slice B2 n2 d2],v2,.bool false])) w':=⟨lf,h,x,B1,n1,d1,B2,n2,d2,v2,rfl⟩
theorem uR {w:World} {g s:Nat} {o:Obj} (h:w.heap[g]?=some o) (hn:g≠s) (u v x:Value):(((w.setCell ⟨s,0,none⟩ u).setCell ⟨s,1,none⟩ v).setCell ⟨s,2,none⟩ x).heap[g]?=some o :=
 (zO _ _ _ _ hn).trans ((zO _ _ _ _ hn).trans ((zO _ _ _ _ hn).trans h))
theorem cE (z n:Int) (g:Nat) (P:Nat→Prop) (A:Option Addr) (c N:Nat) (w:World) (hz:n=0∨z=16) (hn:0≤n∧n≤1024) (h:w.heap[g]?=some (.cells #[.int .i64 n] 191 (0,0))) :
 Calls Tryz.prog 153 #[.pointer (some ⟨g,0,none⟩),.slice A N c,.int .i64 z] w fun e w'=>mI none P g w.heap.size e w'∧Bb w.heap.size g w w':=by
 have hg:=ql h
 have x0:=(zm w (.cells #[.int .i64 0,.slice none 0 0,.slice none 0 0] 80) g hg).trans h
 have y0:=zH x0 0
 have f0:=zp x0 0
 simp at y0
 have x1:=mB x0 0 (.int .i64 (n - 1))
 have hr:=zN w (.cells #[.int .i64 0,.slice none 0 0,.slice none 0 0] 80)
 have hr1:=(zO (w.alloc (.cells #[.int .i64 0,.slice none 0 0,.slice none 0 0] 80)) ⟨g,0,none⟩ (.int .i64 (n - 1)) w.heap.size (Nat.ne_of_gt hg)).trans hr
 have hB0:Bb w.heap.size g w ((w.alloc (.cells #[.int .i64 0,.slice none 0 0,.slice none 0 0] 80)).setCell ⟨g,0,none⟩ (.int .i64 (n - 1))):=((Bb.refl w.heap.size g w).alloc (zG _) _).set 0 _
 have HB0:=zF hB0
 have Hr:=zF hr1
 have Hx1:Hid (((w.alloc (.cells #[.int .i64 0,.slice none 0 0,.slice none 0 0] 80)).setCell ⟨g,0,none⟩ (.int .i64 (n - 1))).heap[g]?=some (.cells #[.int .i64 (n - 1)] 191 (0,0))):=zF (by simpa using x1)
 have Hsz:Hid (((w.alloc (.cells #[.int .i64 0,.slice none 0 0,.slice none 0 0] 80)).setCell ⟨g,0,none⟩ (.int .i64 (n - 1))).heap.size=w.heap.size+1):=zF (by simp [World.setCell])
 obtain ⟨s,hs⟩:=eV w.heap.size
 rw [hs] at Hr HB0 Hsz hg ⊢
 have Hs:=zF hs
 clear x0 x1 h hr hr1 hB0 hs
 have z0:=zH Hx1.out 0
 simp at z0
 by_cases h0:n - 1<0
 · go_enter Tryz.func153,Tryz.ntmps153
   go_wp2
   go_step3
   go_upto_region 3 with fail
   rw [Hs.out]
   generalize (w.alloc (.cells #[.int .i64 0,.slice none 0 0,.slice none 0 0] 80)).setCell ⟨g,0,none⟩ (.int .i64 (n - 1))=W1 at *
   have q0:=zH Hr.out 0
   have q1:=zH Hr.out 1
   have q2:=zH Hr.out 2
   have p0:=zp Hr.out 0
   have p1:=zp Hr.out 1
   have p2:=zp Hr.out 2
   simp only [zI,zJ,zL] at q0 q1 q2
   go_wp2
   have r:=wK Hr.out (.int .i64 0) (.slice none 0 0) (.slice none 0 0)
   have r0:=zH r 0
   have r1:=zH r 1
   have r2:=zH r 2
   simp only [zI,zJ,zL] at r0 r1 r2
   rw [jV]
   refine qF (v:=.tuple #[.agg #[.int .i64 0,.slice none 0 0,.slice none 0 0],.slice none 0 0,.bool false]) (by simp [results,Tryz.results153,go_sem,r0,r1,r2]) rfl ⟨xY (uR Hx1.out (by omega) _ _ _),?_⟩
   exact ((HB0.out.setCell (p:=⟨s,0,none⟩) (zG _) _).setCell (p:=⟨s,1,none⟩) (zG _) _).setCell (p:=⟨s,2,none⟩) (zG _) _
 · have hz16:z=16:=by omega
   subst hz16
   go_enter Tryz.func153,Tryz.ntmps153
   go_wp2
   go_step3
   go_upto_region 3 with fail
   rw [Hs.out]
   generalize (w.alloc (.cells #[.int .i64 0,.slice none 0 0,.slice none 0 0] 80)).setCell ⟨g,0,none⟩ (.int .i64 (n - 1))=W1 at *
   have q0:=zH Hr.out 0
   have q1:=zH Hr.out 1
   have q2:=zH Hr.out 2
   have p0:=zp Hr.out 0
   have p1:=zp Hr.out 1
   have p2:=zp Hr.out 2
   simp only [zI,zJ,zL] at q0 q1 q2
   go_wp2
   have r:=wK Hr.out (.int .i64 0) (.slice none 0 0) (.slice none 0 0)
   have r0:=zH r 0
   have r1:=zH r 1
   have r2:=zH r 2
   simp only [zI,zJ,zL] at r0 r1 r2
   rw [jV]
   refine qF (v:=.tuple #[.agg #[.int .i64 0,.slice none 0 0,.slice none 0 0],.slice none 0 0,.bool false]) (by simp [results,Tryz.results153,go_sem,r0,r1,r2]) rfl ⟨xY (uR Hx1.out (by omega) _ _ _),?_⟩
   exact ((HB0.out.setCell (p:=⟨s,0,none⟩) (zG _) _).setCell (p:=⟨s,1,none⟩) (zG _) _).setCell (p:=⟨s,2,none⟩) (zG _) _
end Go.Proofs.YtmlbicgpehchhaaGreat.Der
