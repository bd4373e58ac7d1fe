/- Laws that the proof rests on. -/
import Derived.Test.YtmlbicgpehchhaaGreatQ0a9e960f97c8
set_option maxRecDepth 100000
set_option maxHeartbeats 16000000
namespace Go.Proofs.YtmlbicgpehchhaaGreat
open Go.RowKit
structure kj (g:Nat) (w w':World):Prop where
 os:w'.os=w.os
 tape:w'.tape=w.tape
 output:w'.output=w.output
 size:w.heap.size≤w'.heap.size
 block:∀ b,b<w.heap.size→b≠g→w'.heap[b]?=w.heap[b]?
theorem kj.refl (g:Nat) (w:World):kj g w w:=⟨rfl,rfl,rfl,zH _,fun _ _ _=>rfl⟩
theorem kj.trans {g:Nat}{a b c:World}(h:kj g a b) (k:kj g b c):kj g a c :=
 ⟨k.os.trans h.os,k.tape.trans h.tape,k.output.trans h.output,zQ h.size k.size,fun i hi hn=>(k.block i (zR hi h.size) hn).trans (h.block i hi hn)⟩
theorem kj.set {g:Nat}{a b:World}(h:kj g a b) (i:Nat) (v:Value):kj g a (b.setCell ⟨g,i,none⟩ v) :=
 ⟨h.os,h.tape,h.output,by simpa [World.setCell] using h.size,fun j hj hn=>(zN _ _ _ _ (by exact hn)).trans (h.block j hj hn)⟩
theorem kj.drewN {g:Nat}{a b:World}(h:kj g a b) (n:Nat):kj g a (b.drewN n):=⟨h.os,h.tape,h.output,h.size,h.block⟩
theorem kj.cell {g:Nat}{w w':World}(h:kj g w w'){p:Addr}(hp:p.block<w.heap.size) (hn:p.block≠g):w'.cell? p=w.cell? p:=zT (h.block _ hp hn)
theorem kj.below {g B:Nat}{w w':World}(h:kj g w w') (hB:B≤g) (hw:B≤w.heap.size):Below B w w':=⟨h.os,h.tape,h.output,h.size,fun b hb=>h.block b (zR hb hw) (by omega)⟩
theorem RN.just {w w':World}{g:Nat}{P:Nat→Prop}{A:Option Addr}{c:Nat}{l:List Nat}(h:RN w P A c l) (hj:kj g w w') (hP:∀ b,P b→b<w.heap.size∧b≠g):RN w' P A c l :=
 h.keep fun _ hp=>hj.cell (hP _ hp).1 (hP _ hp).2
theorem zAi {B n f c s c':Nat}{t o b:List Nat}(_hB:0<B) (h:yJ B t b f 0 o n c) (hn:b.length=n) (hl:o.length=n+2) (he:s+B*c'=dg o n+c) (hv:val B t+f*val B b<B ^ (n+2)) :
 dg o (n+1)+c'<B∧val B ((o.set n s).set (n+1) (dg o (n+1)+c'))=val B t+f*val B b:=by
 obtain ⟨_,h2,_⟩:=h
 rw [zk (by omega),kl,wH,jc] at h2
 have e1:=vp B (l:=o) (n:=n) (by omega) s
 have e2:=vp B (l:=o.set n s) (n:=n+1) (by simp;omega) (dg o (n+1)+c')
 rw [getD_set_ne (by omega)] at e2
 have e3:B ^ n*(s+B*c')=B ^ n*(dg o n+c):=by rw [he]
 have p1:B ^ n*B=B ^ (n+1):=(zu ..).symm
 rw [zr,zr,←zd,p1] at e3
 rw [zr] at e2
 have hfin:val B ((o.set n s).set (n+1) (dg o (n+1)+c'))=val B t+f*val B b:=by omega
 refine ⟨?_,hfin⟩
 rcases zz (dg o (n+1)+c') B with hlt | hge
 · exact hlt
 · exfalso;have e4:=qD B ((o.set n s).set (n+1) (dg o (n+1)+c')) (n+1);rw [zk (by simp;omega),vV (by simp;omega)] at e4;have e5:B ^ (n+1)*B≤B ^ (n+1)*(dg o (n+1)+c'):=zi _ hge;have p2:B ^ (n+1)*B=B ^ (n+2):=(zu ..).symm;rw [p2] at e5;omega
theorem vz.last {B:Nat}{a b o:List Nat}{k c:Nat}(h:vz B a b o k c) (ho:o.length=k) (ha:a.length=k) (hb:b.length=k):val B o+val B b=val B a+B ^ k*c:=by
 unfold vz at h;rwa [zk (by omega),zk (by omega),zk (by omega)] at h
theorem fN {dT sT:TypeId}(hdT:Tryz.prog.underlying dT=some (.slice 69)) (w:World) (g m cd n c:Nat) (P:Nat→Prop) (A:Option Addr) (u src:List Nat) (ty:TypeId) (hu:Blk w g u) (hs:RN w P A c src) (hpos:0<src.length) (hn:src.length=n) (hle:n≤m) (hm:m≤u.length) :
 (Builtin.copy_ #[dT,sT] ty #[.slice (some ⟨g,0,none⟩) m cd,.slice A n c]).run Tryz.prog w=.ok (goInt n) (w.setRow g (nts (src++u.drop n)).toArray):=by
 obtain ⟨ad,rfl,_,_⟩:=hs.at_ hpos
 have h:=run_copy_row (P:=Tryz.prog) w dT sT ty 69 g 0 m cd ad n c (nts u).toArray 69 (nts src) hdT xP hu
  (by rw [qj, hn]; exact (qc hle).symm) (fun j v hj => by
   have hj':j<src.length:=by have:=(List.getElem?_eq_some_iff.1 hj).1;simpa [nts] using this
   rw [hs.cells j hj']
   rw [uk hj'] at hj
   exact hj) (by rw [qj,hn];simp [nts];omega) (kG src)
 rw [qj,hn] at h
 rw [h]
 simp [nts,List.map_drop]
theorem wv {B g:Nat}{w w':World}(h:Below B w w') (hg:B≤g) (v:Array Value):Below B w (w'.setRow g v) :=
 ⟨h.os, h.tape, h.output, by have : (w'.setRow g v).heap.size = w'.heap.size := by simp [World.setRow]
                             rw [this];exact h.size,fun k hk=>by
   have:(w'.setRow g v).heap[k]?=w'.heap[k]?:=by simp [World.setRow,kY,show ¬ g=k by omega]
   exact this.trans (h.block k hk)⟩
def uj (v M:Nat):Nat:=if v<M then v else v - M
structure fO (B M:Nat) (a b t:List Nat) (i n:Nat):Prop where
 len:t.length=n+2
 top:dg t (n+1)=0
 bound:val B t<M+val B b
 cong:∃ k,val B t*B ^ i=val B (a.take i)*val B b+k*M
theorem fO.zero {B M:Nat}(a b:List Nat) (n:Nat) (hM:0<M):fO B M a b (List.replicate (n+2) 0) 0 n :=
 ⟨by simp,by rw [dg,zh,List.getElem?_replicate];split <;> rfl,by rw [kO];omega,0,by simp [kO]⟩
theorem uF {B:Nat}{t:List Nat}(ht:∀ x∈t,x<B) (_hB:0<B):val B t % B=dg t 0:=by
 cases t with
 | nil=>simp [dg]
 | cons x l=>rw [ju,kR,qG (ht x (by simp))];rfl
/-! What a round does to the numbers. -/
theorem oI {B M inv d q v:Nat}(hi:(inv*M+1) % B=0) (hv:v % B=d) (hq:q=d*inv % B):(v+q*M) % B=0:=by
 have h1:(v+q*M) % B=(d*(inv*M+1)) % B:=by
  subst hq hv;rw [zr,jS,Nat.add_mod,Nat.mod_mul_mod,←zd,kL (v % B*inv*M),Nat.add_mod_mod]
 rw [h1,vZ,hi];simp
theorem rq {M t0 ai b q t2 Bi A A' k:Nat}(h2:t2=t0+ai*b+q*M) (hk:t0*Bi=A*b+k*M) (hA:A'=A+Bi*ai):t2*Bi=A'*b+(k+q*Bi)*M:=by
 subst h2 hA;rw [qr,qr,hk,qr,qr];have e1:ai*b*Bi=Bi*ai*b:=by rw [zj Bi ai,zd,zd,zj b Bi]
 have e2:q*M*Bi=q*Bi*M:=by rw [zd,zd,zj M Bi]
 omega
theorem bE {B M t0 ai b q t2 t4:Nat}(hB:0<B) (h2:t2=t0+ai*b+q*M) (hb:t0<M+b) (ha:ai<B) (hq:q<B) (h4:t2=B*t4):t4<M+b:=by
 have e1:ai*b≤(B - 1)*b:=qf _ (by omega);have e2:q*M≤(B - 1)*M:=qf _ (by omega);have e3:(B - 1)*b+b=B*b:=by rw [←Nat.succ_mul,Nat.succ_eq_add_one,Nat.sub_add_cancel hB]
 have e4:(B - 1)*M+M=B*M:=by rw [←Nat.succ_mul,Nat.succ_eq_add_one,Nat.sub_add_cancel hB]
 have e5:B*t4<B*(M+b):=by rw [zr,←h4];omega
 exact Nat.lt_of_mul_lt_mul_left e5
theorem pj {B M R t0 ai b:Nat}(hB:2≤B) (hb:t0<M+b) (ha:ai<B) (hM:M≤R) (hbR:b<R):t0+ai*b<R*B*B:=by
 have e1:ai*b≤(B - 1)*b:=qf _ (by omega);have e3:(B - 1)*b+b=B*b:=by rw [←Nat.succ_mul,Nat.succ_eq_add_one,Nat.sub_add_cancel (by omega)]
 have e4:B*b≤B*R:=zi _ (by omega);have e5:R*B*2≤R*B*B:=zi _ hB;have e6:R*2≤R*B:=zi _ hB;rw [zj B R] at e4;omega
theorem pi {B M R t0 ai b q:Nat}(hB:2≤B) (hb:t0<M+b) (ha:ai<B) (hq:q<B) (hM:M≤R) (hbR:b<R):t0+ai*b+q*M<R*B*B:=by
 have e1:ai*b≤(B - 1)*b:=qf _ (by omega);have e2:q*M≤(B - 1)*M:=qf _ (by omega);have e3:(B - 1)*b+b=B*b:=by rw [←Nat.succ_mul,Nat.succ_eq_add_one,Nat.sub_add_cancel (by omega)]
 have e7:(B - 1)*M+M=B*M:=by rw [←Nat.succ_mul,Nat.succ_eq_add_one,Nat.sub_add_cancel (by omega)]
 have e4:B*b≤B*R:=zi _ (by omega);have e8:B*M≤B*R:=zi _ hM;have e5:R*B*2≤R*B*B:=zi _ hB;rw [zj B R] at e4 e8;omega
theorem fO.step {B M inv n i q:Nat}{a b t t2:List Nat}(hB:2≤B) (h:fO B M a b t i n) (ha:dg a i<B) (hi:(inv*M+1) % B=0) (hl2:t2.length=n+2) (hlim:∀ x∈t2,x<B)
 (hq:q=(val B t+dg a i*val B b) % B*inv % B) (hv2:val B t2=val B t+dg a i*val B b+q*M):fO B M a b (t2.drop 1++[0]) (i+1) n:=by
 have h0:val B t2 % B=0:=by rw [hv2];exact oI hi rfl hq
 have hq':q<B:=by rw [hq];exact qP _ (by omega)
 obtain ⟨x,l,rfl⟩:∃ x l,t2=x :: l:=by
  cases t2 with
  | nil=>simp at hl2
  | cons x l=>exact ⟨x,l,rfl⟩
 rw [uF hlim (by omega)] at h0
 have hx:x=0:=h0
 subst hx
 have hlen:l.length=n+1:=by simpa using hl2
 have e4:val B (0 :: l)=B*val B l:=by rw [ju];omega
 have e5:val B ((0 :: l).drop 1++[0])=val B l:=by simp [kJ]
 obtain ⟨k,hk⟩:=h.cong
 refine ⟨by simp [hlen],?_,?_,k+q*B ^ i,?_⟩
 · simp [dg,zh,hlen]
 · rw [e5];exact bE (by omega) hv2 h.bound ha hq' e4
 · rw [e5,zu,show val B l*(B ^ i*B)=(B*val B l)*B ^ i by rw [zj (B ^ i),←zd,zj (val B l)],←e4];exact rq hv2 hk (qD B a i)
theorem mc {v M:Nat}(h:v<2*M):uj v M<M:=by rw [uj];split <;> omega
theorem oA {v M R x k:Nat}(h:v*R=x+k*M):uj v M*R % M=x % M:=by
 have h1:v*R % M=x % M:=by rw [h,wU]
 rw [uj];split
 · exact h1
 · rename_i hge;rw [←h1];have:v*R=(v - M)*R+R*M:=by rw [zj R M,←qr,Nat.sub_add_cancel (by omega)]
   rw [this,wU]
theorem OB.of_blk_rn {w:World}{g c:Nat}{l:List Nat}(h:Blk w g l) (hl:Lim l) (hc:l.length≤c) (hc':c≤maxLen):RN w (fun b=>b=g) (some ⟨g,0,none⟩) c l :=
 ⟨⟨hc,hc',by simp [nts],fun _=>⟨_,rfl,rfl,fun j u hu=>by rw [xZ,zJ h j,zK];exact hu⟩⟩,hl⟩
theorem zBS {w:World}{g n:Nat}{l:List Nat}(h:Blk w g l) (hl:Lim l) (hn:l.length=n+2):RN w (fun b=>b=g) (some ⟨g,1,none⟩) (n+1) (l.drop 1) :=
 ⟨⟨by rw [jC]; omega, by have := hl.2; unfold maxLen; omega, by simp [nts], fun _ => ⟨_, rfl, rfl, fun j u hu => by
   have e:(⟨g,1,none⟩:Addr).add j=⟨g,j+1,none⟩:=by
     unfold Addr.add
     split
     · rename_i h0;rw [h0]
     · rw [kL]
   rw [e,zJ h (j+1),zK]
   rw [nts,wn,List.getElem?_drop,kL] at hu
   rw [nts,wn]
   exact hu⟩⟩,fun x hx=>hl.1 x (uQ hx),by rw [jC];have:=hl.2;omega⟩
theorem nG (x y:Nat):IntKind.u64.wrap ((x:Int)*(y:Int))=((x*y % 18446744073709551616:Nat):Int):=by
 rw [wc,←yW];omega
theorem fh (n:Nat):18446744073709551616 ^ (n+2)=18446744073709551616 ^ n*18446744073709551616*18446744073709551616:=by rw [zu,zu]
theorem pT {o:List Nat}{n:Nat}(h:o.length=n+2):(o.drop 1++o.drop (n+1)).set (n+1) 0=o.drop 1++[0]:=by
 have h1:(o.drop 1).length=n+1:=by rw [jC];omega
 have h2:(o.drop (n+1)).length=1:=by rw [jC];omega
 obtain ⟨x,hx⟩:∃ x,o.drop (n+1)=[x]:=by
  match ho:o.drop (n+1),h2 with
  | [x],_=>exact ⟨x,rfl⟩
 rw [hx,vN _ _ (by omega),h1,Nat.sub_self];rfl
theorem uw {B M inv n a b:Nat}(hi:(inv*M+1) % B=0) (h:a*B ^ n % M=b*B ^ n % M):a % M=b % M:=by
 obtain ⟨u,hu⟩:∃ u,inv*M+1=B*u:=⟨(inv*M+1) / B,by have:=vi (inv*M+1) B;omega⟩
 have h1:∀ x,x*(B*u) % M=x % M:=fun x=>by rw [←hu,zr,jS,←zd,kL,wU]
 have h2:∀ k x,x*B ^ k*u ^ k % M=x % M:=by
   intro k;induction k with
   | zero=>intro x;simp
   | succ k ih =>
     intro x;have e:x*B ^ (k+1)*u ^ (k+1)=(x*(B*u))*B ^ k*u ^ k:=by
       rw [zu,zu];simp only [zd,zj,jR]
     rw [e,ih,h1]
 rw [←h2 n a,←h2 n b,vZ,h,←vZ]
theorem zCj {m y y' t z:Int}{k j:Nat}(hy:m*y=1+2 ^ k*t) (h':y'=y*(2 - m*y)+18446744073709551616*z) (hj:k+k+j=64):∃ s,m*y'=1+2 ^ (k+k)*s:=by
 refine ⟨-(t*t)+m*2 ^ j*z,?_⟩;have e1:m*y'=m*y*(2 - m*y)+m*18446744073709551616*z:=by rw [h',Int.mul_add,←Int.mul_assoc,←Int.mul_assoc]
 have e2:(18446744073709551616:Int)=2 ^ (k+k)*2 ^ j:=by rw [←Int.pow_add,hj];rfl
 rw [e1,hy,e2,Int.pow_add];generalize (2:Int) ^ k=p;generalize (2:Int) ^ j=r;grind
theorem oG {m y:Int} : ∃ z,(y*((2 - m*y % 18446744073709551616) % 18446744073709551616)) % 18446744073709551616=y*(2 - m*y)+18446744073709551616*z:=by
 have e1:=Int.mul_ediv_add_emod (m*y) 18446744073709551616;have e2:=Int.mul_ediv_add_emod (2 - m*y % 18446744073709551616) 18446744073709551616;have e3:=Int.mul_ediv_add_emod (y*((2 - m*y % 18446744073709551616) % 18446744073709551616)) 18446744073709551616;generalize (2 - m*y % 18446744073709551616) / 18446744073709551616=d2 at *;generalize (y*((2 - m*y % 18446744073709551616) % 18446744073709551616)) / 18446744073709551616=d3 at *;generalize (y*((2 - m*y % 18446744073709551616) % 18446744073709551616)) % 18446744073709551616=r3 at *;generalize (2 - m*y % 18446744073709551616) % 18446744073709551616=r2 at *;generalize (m*y) / 18446744073709551616=d1 at *;generalize (m*y) % 18446744073709551616=r1 at *;refine ⟨y*d1 - y*d2 - d3,?_⟩;grind
theorem rj {m0 M:Nat}{y:Int}{t:Int}(hm:M % 18446744073709551616=m0) (h:(m0:Int)*y=1+18446744073709551616*t):((((-y) % 18446744073709551616).toNat)*M+1) % 18446744073709551616=0:=by
 have e1:=Int.mul_ediv_add_emod (-y) 18446744073709551616;have h0:0≤(-y) % 18446744073709551616:=Int.emod_nonneg _ (by decide);obtain ⟨v,hv⟩:∃ v:Nat,(-y) % 18446744073709551616=(v:Int):=⟨_,(Int.toNat_of_nonneg h0).symm⟩
 rw [hv] at e1 ⊢;rw [kU];obtain ⟨q,hq⟩:∃ q,M=m0+18446744073709551616*q:=⟨M / 18446744073709551616,by omega⟩
 have e2:((v*M+1:Nat):Int)=18446744073709551616*((v:Int)*q - t - (m0:Int)*((-y) / 18446744073709551616)):=by
  rw [hq];simp only [vK,yW,qe];generalize (-y) / 18446744073709551616=d at *;grind
 omega
def nl (M:Nat):Nat:=(digs 18446744073709551616 M).length
def RM (M:Nat):Nat:=18446744073709551616 ^ nl M
theorem fR (B:Nat) (a:List Nat) (k:Nat):val B (a++List.replicate k 0)=val B a:=by rw [kJ,kO,jK,qu]
theorem jm {w:World}{g:Nat}{t:TypeId}{cs:Array Value}(h:w.heap[g]?=some (.cells cs t (0,0))) (i:Nat) (u:Value):(w.setCell ⟨g,i,none⟩ u).heap[g]?=some (.cells (cs.setIfInBounds i u) t (0,0)):=by
 simp [World.setCell,kY,h]
end Go.Proofs.YtmlbicgpehchhaaGreat
namespace Go.Proofs.YtmlbicgpehchhaaGreat
def yv (m:Int) (r:Nat) (y:Int):Prop:=∃ t,m*y=1+2 ^ (2 ^ r)*t
theorem yv.zero {m:Int}(h:m % 2=1):yv m 0 1:=⟨(m - 1) / 2,by omega⟩
theorem yv.step {m y:Int}{r:Nat}(h:yv m r y) (hr:r<6):yv m (r+1) (y*((2 - m*y % 18446744073709551616) % 18446744073709551616) % 18446744073709551616):=by
 obtain ⟨t,ht⟩:=h;obtain ⟨z,hz⟩:=oG (m:=m) (y:=y);have hj:∃ j,2 ^ r+2 ^ r+j=64:=by
  have:r=0∨r=1∨r=2∨r=3∨r=4∨r=5:=by omega
  rcases this with rfl | rfl | rfl | rfl | rfl | rfl
  · exact ⟨62,rfl⟩
  · exact ⟨60,rfl⟩
  · exact ⟨56,rfl⟩
  · exact ⟨48,rfl⟩
  · exact ⟨32,rfl⟩
  · exact ⟨0,rfl⟩
 obtain ⟨j,hj⟩:=hj;obtain ⟨s,hs⟩:=zCj (z:=z) ht hz hj;exact ⟨s,by rw [zu,Nat.mul_two];exact hs⟩
theorem yv.fin {m:Int}{y:Int}(h:yv m 6 y):∃ t,m*y=1+18446744073709551616*t:=by
 obtain ⟨t,ht⟩:=h;exact ⟨t,ht⟩
theorem rO (n:Nat):val 18446744073709551616 (List.replicate n 0++[1])=18446744073709551616 ^ n:=by
 rw [kJ,kO,List.length_replicate];simp
theorem ut {v M k:Nat}(h:v≤M) (hM:(digs 18446744073709551616 M).length≤k):(digs 18446744073709551616 v).length≤k:=zQ (qg (by omega) h) hM
theorem sE {x y M k:Nat}(hx:x≤M) (hy:y≤M) (hM:(digs 18446744073709551616 M).length≤k):(digs 18446744073709551616 (x*y)).length≤k+k:=by
 have h1:=jl (B:=18446744073709551616) (by omega) M;have h2:18446744073709551616 ^ (digs 18446744073709551616 M).length≤18446744073709551616 ^ k:=qF (by omega) hM;refine qp (by omega) ?_;rw [qI];have h3:x*y≤M*M:=Nat.mul_le_mul hx hy;have h4:M*M<18446744073709551616 ^ k*18446744073709551616 ^ k:=Nat.mul_lt_mul'' (by omega) (by omega);omega
theorem sF {x y M k:Nat}(hx:x≤M) (hy:y≤M) (hM:(digs 18446744073709551616 M).length≤k):(digs 18446744073709551616 (x+y)).length≤k+1:=by
 have h1:=jl (B:=18446744073709551616) (by omega) M;have h2:18446744073709551616 ^ (digs 18446744073709551616 M).length≤18446744073709551616 ^ k:=qF (by omega) hM;refine qp (by omega) ?_;rw [zu];omega
end Go.Proofs.YtmlbicgpehchhaaGreat
namespace Go.Proofs.YtmlbicgpehchhaaGreat
open Go.RowKit
def kt (m r s t u:Nat):Nat×Nat:=if _h:s=0 then (r,t) else kt m s (r % s) u ((t+m - r / s*u % m) % m)
termination_by s
decreasing_by exact qP _ (by omega)
theorem yR (m r t u:Nat):kt m r 0 t u=(r,t):=by rw [kt];simp
theorem un {m r s t u:Nat}(h:s≠0):kt m r s t u=kt m s (r % s) u ((t+m - r / s*u % m) % m):=by rw [kt];simp [h]
def uo (x m:Nat):List Nat×Bool:=if (kt m m (x % m) 0 1).1=1 then (digs 18446744073709551616 (kt m m (x % m) 0 1).2,true) else ([],false)
theorem RNN.two {w:World}{P P':Nat→Prop}{A A':Option Addr}{c c':Nat}{a b:List Nat}(h:RN w P A c a) (h':RN w P' A' c' b) (hP:∀ b,P b→b<w.heap.size) (hP':∀ b,P' b→b<w.heap.size) :
 RNN (w.alloc (.cells #[.slice A a.length c,.slice A' b.length c'] 23)) (fun _=>True) (some ⟨w.heap.size,0,none⟩) 2 [a,b] [.slice A a.length c,.slice A' b.length c']:=by
 have hB:Below w.heap.size w (w.alloc (.cells #[.slice A a.length c,.slice A' b.length c'] 23)):=(zO _ w).alloc (zH _) _
 refine ⟨jM (w:=w) (P:=fun _=>True) #[.slice A a.length c,.slice A' b.length c'] 23 1 2 rfl (by unfold maxLen;omega) trivial,by simp,fun j l hl=>?_⟩
 match j,hl with
 | 0,hl=>simp at hl;subst hl;exact ⟨A,c,rfl,(h.below hB hP).mono fun _ _=>trivial⟩
 | 1,hl=>simp at hl;subst hl;exact ⟨A',c',rfl,(h'.below hB hP').mono fun _ _=>trivial⟩
 | j+2,hl=>simp at hl
theorem oT (P P':Nat→Prop) (A A':Option Addr) (c c':Nat) (a b:List Nat) (X M:Nat) (w:World) (h:RN w P A c a) (h':RN w P' A' c' b) (hP:∀ b,P b→b<w.heap.size) (hP':∀ b,P' b→b<w.heap.size) (hX:val 18446744073709551616 a=X) (hM:val 18446744073709551616 b=M) (hM2:2≤M)
 (hla:a.length<40000) (hlb:b.length<40000) (hmay:zo X≤4096∧zo M≤4096) :
 Calls Tryz.prog 72 #[.slice A a.length c,.slice A' b.length c'] w fun e w'=>∃ A1 c1,e=.returned (.tuple #[.slice A1 (uo X M).1.length c1,.bool (uo X M).2])∧OB w' w.heap.size A1 c1 (uo X M).1∧Below w.heap.size w w':=by
 have hb:=vJ P' A' c' b w h'
 have hlM:(digs 18446744073709551616 M).length≤40000:=by have:=ql (B:=18446744073709551616) (by omega) h'.2.1;rw [hM] at this;omega
 have hnb:2≤zo M:=by
  rcases zz (zo M) 2 with h0 | h0
  · have:=jw (x:=M) (k:=1) (by omega);omega
  · exact h0
 rw [hM] at hb
 have t1:decide ((zo M:Int)<2)=false:=qb (by omega)
 have hmy:=cA _ _ _ _ _ _ (RNN.two h h' hP hP')
 rw [show (([a,b]:List (List Nat)).all fun l=>decide (zo (val 18446744073709551616 l)≤4096))=true by simp [hX,hM,hmay.1,hmay.2]] at hmy
 simp only [qh,jI,jc,Nat.reduceAdd] at hmy
 have hB0:Below w.heap.size w (w.alloc (.cells #[.slice A a.length c,.slice A' b.length c'] 23)):=(zO _ w).alloc (zH _) _
 have hz0:(w.alloc (.cells #[.slice A a.length c,.slice A' b.length c'] 23)).heap.size=w.heap.size+1:=by simp
 have Hb:=zF hb
 have Hmy:=zF hmy
 clear hb hmy hmay hnb
 go_enter Tryz.func72,Tryz.ntmps72
 go_wp2_with fail
 refine Hb.out.mono ?_
 rintro e w' ⟨rfl,rfl⟩
 go_wp2_with fail
 refine Hmy.out.mono ?_
 rintro e w' ⟨rfl,rfl⟩
 generalize w.alloc (.cells #[.slice A a.length c,.slice A' b.length c'] 23)=W0 at *
 have hn1:=wy P' A' c' b W0 (h'.below hB0 hP')
 rw [hM] at hn1
 have Hn1:=zF hn1
 clear hn1
 go_wp2_with fail
 refine Hn1.out.mono ?_
 rintro e w1 ⟨A1,c1,rfl,hO1,hB1⟩
 have hB01:=hB0.trans (hB1.mono (by omega))
 have hr1:=fX P P' A A' c c' a b w1 (h.below hB01 hP) (h'.below hB01 hP') (fun b hb=>by have:=hP b hb;have:=hB01.size;omega) (fun b hb=>by have:=hP' b hb;have:=hB01.size;omega) (by omega) (by omega) (by omega)
 rw [hX,hM] at hr1
 have Hr1:=zF hr1
 clear hr1
 go_wp2_with fail
 refine Hr1.out.mono ?_
 rintro e w2 ⟨A2,c2,rfl,hO2,hB2⟩
 have hB02:=hB01.trans (hB2.mono hB01.size)
 have hof:=zF (xN 1 w2 (by omega))
 go_wp2_with fail
 refine hof.out.mono ?_
 rintro e w3 ⟨A3,c3,rfl,hO3,hB3⟩
 have hB03:=hB02.trans (hB3.mono hB02.size)
 have hz1:=hB01.size
 have hz2:=hB02.size
 have hz3:=hB03.size
 have zA:OB w3 w.heap.size A1 c1 (digs 18446744073709551616 M):=((hO1.below hB2 (zH _)).below hB3 (zH _)).mono (by omega)
 have zB:OB w3 w.heap.size A2 c2 (digs 18446744073709551616 (X % M)):=(hO2.below hB3 (zH _)).mono (by omega)
 have zC:OB w3 w.heap.size A3 c3 (digs 18446744073709551616 1):=hO3.mono (by omega)
 have hXm:=qP X (show 0<M by omega)
 clear hO1 hO2 hO3 hB0 hB1 hB2 hB3 hB01 hB02 Hn1 Hr1 hof h
 go_wp2_with fail
 go_loopw [6,7,8,9] (fun rv sv tv uv wr=>∃ (A1 A2 A3 A4:Option Addr) (c1 c2 c3 c4 r s t u:Nat),rv=.slice A1 (digs 18446744073709551616 r).length c1∧sv=.slice A2 (digs 18446744073709551616 s).length c2∧tv=.slice A3 (digs 18446744073709551616 t).length c3∧uv=.slice A4 (digs 18446744073709551616 u).length c4 ∧
  OB wr w.heap.size A1 c1 (digs 18446744073709551616 r)∧OB wr w.heap.size A2 c2 (digs 18446744073709551616 s)∧OB wr w.heap.size A3 c3 (digs 18446744073709551616 t)∧OB wr w.heap.size A4 c4 (digs 18446744073709551616 u)∧r≤M∧s≤M∧t≤M∧u≤M∧Hid (kt M r s t u=kt M M (X % M) 0 1)∧Below w.heap.size w wr)
  (fun _ sv _ _ wr=>gd wr sv)
 case atStart=>exact ⟨A1,A2,none,A3,c1,c2,0,c3,M,X % M,0,1,rfl,rfl,by rw [qU];rfl,rfl,zA,zB,by rw [qU];exact OB.nil_ _ _,zC,by omega,by omega,by omega,by omega,zF rfl,hB03⟩
 case round =>
  clear zA zB zC hB03 hXm;obtain ⟨A1,A2,A3,A4,c1,c2,c3,c4,r,s,t,u,rfl,rfl,rfl,rfl,zA,zB,zC,zD,hr,hs,ht,hu,hI,hB⟩:=hrel;have zw:=hB.size;by_cases h0:s=0
  · subst h0;have hI':=hI.out;rw [yR] at hI';have hbr:=zF (vJ _ A1 c1 _ wr zA.rn);rw [zc (by omega)] at hbr;rw [qU] at *;have hlr:(r:Nat)=1↔zo r=1:=by
     constructor
     · rintro rfl;decide
     · intro h;have h1:=jw (x:=r) (k:=1) (by omega);rcases za r with h2 | h2
       · subst h2;rw [ka] at h;omega
       · omega
    by_cases h1:r=1
    · have hn1:zo r=1:=hlr.1 h1;have hans:uo X M=(digs 18446744073709551616 t,true):=by rw [uo,←hI',qK h1]
      rw [hn1] at hbr;have Hans:=zF hans;clear hans hI hI' hlr h1 hn1;go_wp2_with fail;refine hbr.out.mono ?_;rintro e w' ⟨rfl,rfl⟩;go_wp2;go_ret2;exact ⟨A3,c3,by rw [Hans.out];rfl,by rw [Hans.out];exact zC,hB⟩
    · have hn1:((zo r:Nat):Int)≠1:=fun e=>h1 (hlr.2 (by omega));have hans:uo X M=([],false):=by rw [uo,←hI',qA h1]
      have t2:(((zo r:Nat):Int) != 1)=true:=by simpa using hn1
      have Hans:=zF hans;clear hans hI hI' hlr h1 hn1;go_wp2_with fail;refine hbr.out.mono ?_;rintro e w' ⟨rfl,rfl⟩;go_wp2;go_ret2;exact ⟨none,0,by rw [Hans.out];rfl,by rw [Hans.out];exact OB.nil_ _ _,hB⟩
  · have kp:(0:Int)<((digs 18446744073709551616 s).length:Int):=by
     have:0<(digs 18446744073709551616 s).length:=by rw [jT (by omega) (by omega)];simp
     omega
    have zm:=h'.below hB hP';have ltm:∀ X:World,Below w.heap.size w X→∀ b,P' b→b<X.heap.size:=fun X hX b hb=>by have:=hP' b hb;have:=hX.size;omega
    have vd:=fun v=>zc (B:=18446744073709551616) (by omega) v;have hq1:=uB _ _ A1 A2 c1 c2 _ _ wr zA.rn zB.rn (fun b hb=>hb.2) (fun b hb=>hb.2) (by have:=ut hr hlM;omega) (by have:=ut hs hlM;omega) (by rw [vd];omega);rw [vd,vd] at hq1;have hqM:r / s≤M:=zQ (wg _ _) hr;have hlM2:r % s≤M:=zQ (Nat.mod_le _ _) hr;have Hq1:=zF hq1;have hrd:=zB.rn.read;rw [vd] at hrd;have Hrd:=zF hrd;have hmod:=qP r (show 0<s by omega);have hstep:=zF (show kt M s (r % s) u ((t+M - r / s*u % M) % M)=kt M M (X % M) 0 1 by rw [←hI.out,un h0]);clear hq1 hrd hI;go_wp2_with fail;refine Hq1.out.mono ?_;rintro e w4 ⟨A5,c5,A6,c6,rfl,y5,y6,hB4⟩;have s4:=hB4.size;have zD4:=zD.below hB4 (zH _);have hm1:=dw _ _ A5 A4 c5 c4 _ _ w4 y5.rn zD4.rn (fun b hb=>hb.2) (fun b hb=>hb.2) (by have:=ut hqM hlM;omega) (by have:=ut hu hlM;omega);rw [vd,vd] at hm1;have Hm1:=zF hm1;clear hm1;go_wp2_with fail;refine Hm1.out.mono ?_;rintro e w5 ⟨A7,c7,rfl,y7,hB5⟩;have hB45:=hB4.trans (hB5.mono s4);have hBw5:=hB.trans (hB45.mono zw);have hr5:=fX _ P' A7 A' c7 c' _ b w5 y7.rn (h'.below hBw5 hP') (fun b hb=>hb.2) (ltm w5 hBw5) (by have:=sE hqM hu hlM;omega) (by omega) (by omega);rw [vd,hM] at hr5;have hlessM:=qP (r / s*u) (show 0<M by omega);generalize r / s*u % M=less at *;have Hr5:=zF hr5;clear hr5;go_wp2_with fail;refine Hr5.out.mono ?_;rintro e w6 ⟨A8,c8,rfl,y8,hB6⟩;have hBw6:=hBw5.trans (hB6.mono (by have:=hBw5.size;omega));have hB46:=hB45.trans (hB6.mono (by have:=hB45.size;omega));have zC6:=zC.below hB46 (zH _);have ha6:=zCA _ P' A3 A' c3 c' _ b w6 zC6.rn (h'.below hBw6 hP') (fun b hb=>hb.2) (ltm w6 hBw6) (by have:=ut ht hlM;omega) (by omega);rw [vd,hM] at ha6;have Ha6:=zF ha6;clear ha6;go_wp2_with fail;refine Ha6.out.mono ?_;rintro e w7 ⟨A9,c9,rfl,y9,hB7⟩;have y8':=y8.below hB7 (zH _);have hs7:=fU _ _ A9 A8 c9 c8 _ _ w7 y9.rn y8'.rn (fun b hb=>hb.2) (fun b hb=>hb.2) (by have:=sF ht (zH M) hlM;omega) (by rw [vd,vd];omega);rw [vd,vd] at hs7;have hdif:t+M - less≤M+M:=by omega
    have hlast:=sF (zH M) (zH M) hlM;have hld:=ut hdif hlast;generalize t+M - less=dif at *;have Hs7:=zF hs7;clear hs7;have hBw7:=hBw6.trans (hB7.mono hBw6.size);go_wp2_with fail;refine Hs7.out.mono ?_;rintro e w8 ⟨A10,c10,rfl,y10,hB8⟩;have hBw8:=hBw7.trans (hB8.mono hBw7.size);have hr8:=fX _ P' A10 A' c10 c' _ b w8 y10.rn (h'.below hBw8 hP') (fun b hb=>hb.2) (ltm w8 hBw8) (by omega) (by omega) (by omega);rw [vd,hM] at hr8;have hdm:=qP dif (show 0<M by omega);have Hr8:=zF hr8;clear hr8;go_wp2_with fail;refine Hr8.out.mono ?_;rintro e w9 ⟨A11,c11,rfl,y11,hB9⟩;have hB79:=hB8.trans (hB9.mono hB8.size);have hB49:Below wr.heap.size wr w9:=(hB46.trans (hB7.mono hB46.size)).trans (hB79.mono (by have:=hB46.size;have:=hB7.size;omega));have hBw9:=hB.trans (hB49.mono zw);have f2:=(zB.below hB49 (zH _))
    have f6:OB w9 w.heap.size A6 c6 (digs 18446744073709551616 (r % s)):=(y6.below (B:=w4.heap.size) (((hB5.trans (hB6.mono hB5.size)).trans (hB7.mono (by have:=hB5.size;have:=hB6.size;omega))).trans (hB79.mono (by have:=hB5.size;have:=hB6.size;have:=hB7.size;omega))) (zH _)).mono zw;have f4:=(zD.below hB49 (zH _))
    have f11:=y11.mono (base':=w.heap.size) hBw8.size;have hrd9:=f6.rn.read;rw [vd] at hrd9;have Hrd9:=zF hrd9;clear hrd9;go_wp2;go_roundw;case rel=>exact ⟨A2,A6,A4,A11,c2,c6,c4,c11,s,r % s,u,dif % M,rfl,rfl,rfl,rfl,f2,f6,f4,f11,hs,hlM2,hu,by omega,hstep,hBw9⟩
    case measure=>rw [Hrd.out,Hrd9.out];exact hmod
theorem oN (P':Nat→Prop) (A':Option Addr) (c' ct g f:Nat) (t b:List Nat) (w:World) (h:Blk w g t) (hL:Lim t) (h':RN w P' A' c' b) (hP':∀ x,P' x→x<w.heap.size∧x≠g) (hl:t.length=b.length+2) (hf:f<18446744073709551616)
 (hv:val 18446744073709551616 t+f*val 18446744073709551616 b<18446744073709551616 ^ (b.length+2)) :
 Calls Tryz.prog 196 #[.slice (some ⟨g,0,none⟩) t.length ct,.slice A' b.length c',.int .u64 (f:Int)] w fun e w'=>e=.returned (.tuple #[])∧∃ o,o.length=t.length∧Lim o∧val 18446744073709551616 o=val 18446744073709551616 t+f*val 18446744073709551616 b∧Blk w' g o∧kj g w w':=by
 obtain ⟨g1,g2,g3⟩:=h'.cap
 have hlt2:=hL.2
 have Hv:=zF hv
 have Hl:=zF hl
 clear hv hl
 go_enter Tryz.func196,Tryz.ntmps196
 go_wp2_with fail
 go_loopw [6,16] (fun cv jv wr=>∃ (j cr:Nat) (o:List Nat),jv=.int .i64 (j:Int)∧cv=.int .u64 (cr:Int)∧j≤b.length∧cr<18446744073709551616∧yJ 18446744073709551616 t b f 0 o j cr∧Lim o∧Blk wr g o∧kj g w wr) (fun _ jv _=>b.length - (intOf jv).toNat)
 case atStart=>exact ⟨0,0,t,rfl,rfl,by omega,by omega,yJ.zero _ _ _ _ _,hL,h,kj.refl _ _⟩
 case round =>
  clear h;obtain ⟨j,cr,o,rfl,rfl,hj,hcr,hM,hLo,hblk,hB⟩:=hrel;have hol:o.length=t.length:=hM.1;have hl:=Hl.out;by_cases hjt:j<b.length
  · obtain ⟨ae,rfl,_,q2⟩:=(h'.just hB hP').at_ hjt;have hok:0+j<o.length:=by omega
    have q3:=hblk.cell hok;have q4:=hblk.free (0+j);obtain ⟨hi',lo,s1,c1,s2,c2,b1,b2,b3,b4,b5,b6,b7,b8,b9,b10,he⟩:=ge f (dg b j) (dg o (0+j)) cr hf (h'.2.dgLt j) (hLo.dgLt _) hcr;have hmul:=zF (fun w=>yk f (dg b j) hi' lo hf (h'.2.dgLt j) b1 b2 w);have hadd1:=fun w=>kF lo (dg o (0+j)) 0 s1 c1 (by omega) b3 b4 w;have hadd2:=fun w=>kF s1 cr 0 s2 c2 (by omega) b5 b6 w;simp only [qe] at hadd1 hadd2;have hM':=hM.step hok he;have hblk':=hblk.set (0+j) s2;have hLo':=hLo.set (0+j) s2 b5;have hB':=hB.set (0+j) (.int .u64 (s2:Int));rw [jc] at q3 q4 hadd1 hblk' hLo' hB' hM';have k1:(j:Int)<(t.length:Int):=by omega
    clear he b2 b4 b6 hM hblk hLo hB hok hol hl;go_wp2_with fail;refine (hmul.out _).mono ?_;rintro e w1 ⟨rfl,rfl⟩;go_wp2;go_roundw;case rel=>exact ⟨j+1,hi'+c1+c2,o.set j s2,by go_num,by go_num,by omega,b10,hM',hLo',hblk',hB'⟩
    case measure=>simp [intOf];omega
  · obtain rfl:j=b.length:=by omega
    have q3:=hblk.cell (i:=b.length) (by omega);have q4:=hblk.free b.length;have q5:=hblk.cell (i:=b.length+1) (by omega);have q6:=hblk.free (b.length+1);obtain ⟨s,c1,hs1,hs2,hs3⟩:=xp (dg o b.length) cr 0 (hLo.dgLt _) hcr (by omega);have hadd:=fun w=>kF (dg o b.length) cr 0 s c1 (by omega) hs1 hs3 w;simp only [qe] at hadd;obtain ⟨hx,hfin⟩:=zAi (by omega) hM rfl (by omega) (by omega) Hv.out;have hblk1:=hblk.set b.length s;have q7:=hblk1.cell (i:=b.length+1) (by simp;omega);have q8:=hblk1.free (b.length+1);rw [getD_set_ne (by omega)] at q7;have hblk2:=hblk1.set (b.length+1) (dg o (b.length+1)+c1);have hLo2:=(hLo.set b.length s hs1).set (b.length+1) (dg o (b.length+1)+c1) hx;have hB2:=(hB.set b.length (.int .u64 (s:Int))).set (b.length+1) (.int .u64 ((dg o (b.length+1)+c1:Nat):Int));have hx':(dg o (b.length+1):Int)+(c1:Int)<18446744073709551616:=by omega
    have k1:(b.length:Int)<(t.length:Int):=by omega
    have k2:(b.length:Int)+1<(t.length:Int):=by omega
    have hol2:((o.set b.length s).set (b.length+1) (dg o (b.length+1)+c1)).length=t.length:=by simp [hol]
    have Hfin:=zF hfin;have Hol2:=zF hol2;clear hM hblk hblk1 hLo hB hfin hol2 hs3 hl;go_wp2;go_end0;exact ⟨rfl,_,Hol2.out,hLo2,Hfin.out,by simpa using hblk2,by simpa using hB2⟩
theorem pm (P Pt:Nat→Prop) (Am At:Option Addr) (cm ct g over:Nat) (ml t:List Nat) (w:World) (h0:w.cell? ⟨g,0,none⟩=some (.slice Am ml.length cm)) (hg:g<w.heap.size) (hm:RN w P Am cm ml) (hP:∀ b,P b→b<w.heap.size) (ht:RN w Pt At ct t) (hPt:∀ b,Pt b→b<w.heap.size)
 (hl:t.length=ml.length) (ho:over<18446744073709551616) (hv:val 18446744073709551616 t+18446744073709551616 ^ ml.length*over<2*val 18446744073709551616 ml) :
 Calls Tryz.prog 197 #[.pointer (some ⟨g,0,none⟩),.slice At t.length ct,.int .u64 (over:Int)] w fun e w'=>∃ A' c' o,e=.returned (.slice A' ml.length c')∧o.length=ml.length∧OB w' w.heap.size A' c' o ∧
  val 18446744073709551616 o=uj (val 18446744073709551616 t+18446744073709551616 ^ ml.length*over) (val 18446744073709551616 ml)∧Below w.heap.size w w':=by
 obtain ⟨m1,m2,m3⟩:=hm.cap
 obtain ⟨t1,t2,t3⟩:=ht.cap
 have hmk:=jH (P:=Tryz.prog) 22 69 (.int .u64 0) 8 Tryz.underlying22 j9 rfl .i64 .i64 ml.length (by omega) (by omega)
 have hvm:=jf (B:=18446744073709551616) hm.2.1
 have hvt:=jf (B:=18446744073709551616) ht.2.1
 rw [hl] at hvt
 have Hv:=zF hv
 have Hl:=zF hl
 clear hv hl
 go_enter Tryz.func197,Tryz.ntmps197
 go_wp2_with fail
 go_loopw [8,18] (fun cv iv wr=>∃ (k cr:Nat) (o:List Nat),iv=.int .i64 (k:Int)∧cv=.int .u64 (cr:Int)∧k≤ml.length∧cr≤1∧vz 18446744073709551616 t ml o k cr∧Hid (o.length=ml.length)∧Lim o∧Blk wr w.heap.size o∧Below w.heap.size w wr) (fun _ iv _=>ml.length - (intOf iv).toNat)
 case atStart=>exact ⟨0,0,List.replicate ml.length 0,rfl,rfl,by omega,by omega,vz.zero _ _ _ _,zF (by simp),⟨by simp,by simp;omega⟩,vA w _,(zO _ w).alloc (zH _) _⟩
 case round =>
  obtain ⟨k,cr,o,rfl,rfl,hk,hcr,hA,Ho,hLo,hblk,hB⟩:=hrel;by_cases hlt:k<ml.length
  · have hlt2:k<t.length:=by have:=Hl.out;omega
    obtain ⟨ad,rfl,hb1,q1⟩:=(ht.below hB hPt).at_ hlt2;obtain ⟨ae,rfl,hb2,q2⟩:=(hm.below hB hP).at_ hlt;have c0:=(hB.cell (p:=⟨g,0,none⟩) hg).trans h0;obtain ⟨s,cr',hs,hcr',he⟩:=yY (dg t k) (dg ml k) cr (ht.2.dgLt k) (hm.2.dgLt k) hcr;have hok:k<o.length:=by have:=Ho.out;omega
    have q3:=hblk.cell hok;have q4:=hblk.free k;have hA':=hA.step hok he;have hblk':=hblk.set k s;have hLo':=hLo.set k s hs;have hB':=hB.setCell (p:=⟨w.heap.size,k,none⟩) (zH _) (.int .u64 (s:Int));have Ho':Hid ((o.set k s).length=ml.length):=zF (by rw [jt];exact Ho.out);have hsub:=fun w=>ye (dg t k) (dg ml k) cr s cr' hcr (ht.2.dgLt k) (hm.2.dgLt k) hs he hcr' w;have ki:(k:Int)<(t.length:Int):=by omega
    clear he hA hblk hLo hB hok;go_wp2_with fail;have hfar:∀ p:Addr,p.block<w.heap.size→(wr.setCell ⟨w.heap.size,k,none⟩ (.int .u64 (s:Int))).drew.cell? p=wr.cell? p:=fun p hp=>zT (zN _ _ _ _ (by show p.block≠w.heap.size;omega));have f0:=(hfar ⟨g,0,none⟩ hg).trans c0;have f1:=(hfar (ad.add k) (by rw [xC];exact hPt _ hb1)).trans q1;have f2:=(hfar (ae.add k) (by rw [xC];exact hP _ hb2)).trans q2;clear hfar;go_region_held3 (fun w'=>w'.cell? ⟨g,0,none⟩=some (.slice (some ae) ml.length cm)∧w'.cell? (ad.add k)=some (.int .u64 (dg t k:Int))∧w'.cell? (ae.add k)=some (.int .u64 (dg ml k:Int))) (first | exact ⟨c0,q1,q2⟩ | exact ⟨f0,f1,f2⟩ | go_keep) (fail);go_wp2;go_roundw;case rel=>exact ⟨k+1,cr',o.set k s,by go_num,rfl,by omega,hcr',hA',Ho',hLo',hblk',hB'.drew⟩
    case measure=>simp [intOf];omega
  · obtain rfl:k=ml.length:=by omega
    have hfin:=hA.last Ho.out Hl.out rfl;have hvo:=jf (B:=18446744073709551616) hLo.1;rw [Ho.out] at hvo;have hv:=Hv.out;by_cases hcase:over<cr
    · obtain rfl:cr=1:=by omega
      obtain rfl:over=0:=by omega
      rw [jK,qu] at hv;have hoff:uj (val 18446744073709551616 t+18446744073709551616 ^ ml.length*0) (val 18446744073709551616 ml)=val 18446744073709551616 t:=by rw [jK,qu,uj,qK (by omega)]
      have hpos:0<t.length:=by
       rcases za t.length with h | h
       · have h1:=Hl.out;have:ml=[]:=qC (by omega);rw [this] at hv;simp at hv
       · exact h
      have hcp:=fN (dT:=22) (sT:=22) Tryz.underlying22 wr w.heap.size ml.length ml.length t.length ct Pt At o t 3 hblk (ht.below hB hPt) hpos rfl (by have:=Hl.out;omega) (by have:=Ho.out;omega);rw [yG (by have:=Ho.out;have:=Hl.out;omega),List.append_nil] at hcp;have hb2:=hblk.put t;have hB2:=wv hB (zH _) (nts t).toArray;have hO2:OB (wr.setRow w.heap.size (nts t).toArray) w.heap.size (some ⟨w.heap.size,0,none⟩) ml.length t:=kA hb2 (zH _) ht.2 (by have:=Hl.out;omega) (by unfold maxLen;omega);have Hoff:=zF hoff;clear hvo hv hfin hvm hvt hoff hA hblk hLo hB hb2 hpos;go_wp2_with (at_builtin;refine cH _ rfl _ _ 22 22 rfl _ _ rfl rfl hcp ?_);go_ret;exact ⟨_,_,t,rfl,Hl.out,hO2,Hoff.out.symm,hB2⟩
    · have hoff:val 18446744073709551616 o=uj (val 18446744073709551616 t+18446744073709551616 ^ ml.length*over) (val 18446744073709551616 ml):=by
       have hcr':cr=0∨cr=1:=by omega
       generalize 18446744073709551616 ^ ml.length=R at *;rcases za over with rfl | hpo
       · obtain rfl:cr=0:=by omega
         rw [jK,qu] at hfin hv ⊢;rw [uj,qA (by omega)];omega
       · have h1:R*1≤R*over:=zi _ hpo;have h2:over=1:=by
          rcases zz over 2 with h | h
          · omega
          · have:R*2≤R*over:=zi _ h;omega
         subst h2;rw [uj,qA (by omega)];rcases hcr' with rfl | rfl
         · rw [jK,qu] at hfin;omega
         · omega
      have hO2:OB wr w.heap.size (some ⟨w.heap.size,0,none⟩) ml.length o:=kA hblk (zH _) hLo (by have:=Ho.out;omega) (by unfold maxLen;omega);have Hoff:=zF hoff;clear hvo hv hfin hvm hvt hoff hA hblk hLo;go_wp2;go_ret;exact ⟨_,_,o,rfl,Ho.out,hO2,Hoff.out,hB⟩
theorem fj (P Pa Pb:Nat→Prop) (Am Aa Ab:Option Addr) (cm ca cb g inv:Nat) (ml a b:List Nat) (w:World) (h0:w.cell? ⟨g,0,none⟩=some (.slice Am ml.length cm)) (h1:w.cell? ⟨g,1,none⟩=some (.int .u64 (inv:Int))) (hg:g<w.heap.size) (hm:RN w P Am cm ml) (hP:∀ b,P b→b<w.heap.size)
 (ha:RN w Pa Aa ca a) (hPa:∀ b,Pa b→b<w.heap.size) (hb:RN w Pb Ab cb b) (hPb:∀ b,Pb b→b<w.heap.size) (hla:a.length=ml.length) (hlb:b.length=ml.length) (hM:0<val 18446744073709551616 ml) (hbM:val 18446744073709551616 b<val 18446744073709551616 ml)
 (_hinv:inv<18446744073709551616) (hi:(inv*val 18446744073709551616 ml+1) % 18446744073709551616=0) (hsm:ml.length≤100000) :
 Calls Tryz.prog 190 #[.pointer (some ⟨g,0,none⟩),.slice Aa a.length ca,.slice Ab b.length cb] w fun e w'=>∃ A' c' o,e=.returned (.slice A' ml.length c')∧o.length=ml.length∧OB w' w.heap.size A' c' o∧val 18446744073709551616 o<val 18446744073709551616 ml ∧
  val 18446744073709551616 o*18446744073709551616 ^ ml.length % val 18446744073709551616 ml=val 18446744073709551616 a*val 18446744073709551616 b % val 18446744073709551616 ml∧Below w.heap.size w w':=by
 obtain ⟨m1,m2,m3⟩:=hm.cap
 obtain ⟨a1,a2,a3⟩:=ha.cap
 obtain ⟨b1,b2,b3⟩:=hb.cap
 obtain ⟨n,hn⟩:=eV ml.length
 have hvm:=jf (B:=18446744073709551616) hm.2.1
 have hvb:=jf (B:=18446744073709551616) hb.2.1
 rw [hlb] at hvb
 rw [hn] at hvm hvb
 have hmk:=jH (P:=Tryz.prog) 22 69 (.int .u64 0) 8 Tryz.underlying22 j9 rfl .i64 .i64 (n+2) (by omega) (by omega)
 simp only [vK,qe] at hmk
 have Hla:=zF (hla.trans hn)
 have Hlb:=zF (hlb.trans hn)
 have Hn:=zF hn
 have Hlm:=zF (show ml.length≤100000 from hsm)
 have hn0:0<n:=by
  rcases za n with h | h
  · subst h;have:ml=[]:=qC hn;rw [this] at hM;simp at hM
  · exact h
 have hns:n≤100000:=by omega
 rw [hn] at h0
 have Hvm:=zF hvm
 have Hvb:=zF hvb
 have HbM:=zF hbM
 have Hi:=zF hi
 have HM:=zF hM
 clear hla hlb hn hsm hvm hvb hbM hi hM
 go_enter Tryz.func190,Tryz.ntmps190
 go_wp2_with fail
 go_loopw [19] (fun iv wr=>∃ (i:Nat) (t:List Nat),iv=.int .i64 (i:Int)∧i≤n∧Hid (fO 18446744073709551616 (val 18446744073709551616 ml) a b t i n)∧Lim t∧Blk wr w.heap.size t∧Below w.heap.size w wr) (fun iv _=>n - (intOf iv).toNat)
 case atStart=>exact ⟨0,List.replicate (n+2) 0,rfl,by omega,zF (fO.zero _ _ _ HM.out),⟨by simp,by simp;omega⟩,vA w _,(zO _ w).alloc (zH _) _⟩
 case round =>
  obtain ⟨i,t,rfl,hil,hMt,hLt,hblk,hB⟩:=hrel;by_cases hlt:i<n
  · have hlt2:i<a.length:=by have:=Hla.out;omega
    obtain ⟨ad,rfl,hba,q1⟩:=(ha.below hB hPa).at_ hlt2;have hMlen:=hMt.out.len;have zw:=hB.size;have hrt:(t.length:Nat)=b.length+2:=by have:=Hlb.out;omega
    have hail:=ha.2.dgLt i;have hrm:val 18446744073709551616 t+dg a i*val 18446744073709551616 b<18446744073709551616 ^ (b.length+2):=by
     rw [Hlb.out,fh];exact pj (by omega) hMt.out.bound hail (qt Hvm.out) Hvb.out
    have c1:=oN Pb Ab cb (n+2) w.heap.size (dg a i) t b wr hblk hLt (hb.below hB hPb) (fun x hx=>by have:=hPb x hx;omega) hrt hail hrm;rw [hMlen] at c1;have C1:=zF c1;have hai:(i:Int)<(a.length:Int):=by omega
    clear c1 hrm hblk;generalize hdi:dg a i=di at *;have Hdi:=zF hdi;clear hdi hMlen hrt;go_wp2_with fail;refine C1.out.mono ?_;rintro e w1 ⟨rfl,o1,hl1,hL1,hv1,hb1,hJ1⟩;have zw1:=hJ1.size;have hB1:Below w.heap.size w w1:=hB.trans (hJ1.below (zH _) (by omega));have c0:=(hB1.cell (p:=⟨g,0,none⟩) hg).trans h0;have c1:=(hB1.cell (p:=⟨g,1,none⟩) hg).trans h1;have c2:=hb1.cell (i:=0) (by omega);have hrm2:val 18446744073709551616 o1+dg o1 0*inv % 18446744073709551616*val 18446744073709551616 ml<18446744073709551616 ^ (ml.length+2):=by
     rw [hv1,Hn.out,fh];exact pi (by omega) hMt.out.bound hail (qP _ (by omega)) (qt Hvm.out) Hvb.out
    have d1:=oN P Am cm (n+2) w.heap.size (dg o1 0*inv % 18446744073709551616) o1 ml w1.drew (hb1.drewN 1) hL1 ((hm.below hB1 hP).drewN 1) (fun x hx=>by have:=hP x hx;show x<w1.heap.size∧_;omega) (by have:=Hn.out;omega) (qP _ (by omega)) hrm2;rw [hl1,Hn.out] at d1;have D1:=zF d1;have hwq:=nG (dg o1 0) inv;have Hl1:=zF hl1;have Hv1:=zF hv1;clear d1 hrm2 hb1 hl1 hv1;obtain ⟨q,hq⟩:=eV (dg o1 0*inv % 18446744073709551616);rw [hq] at D1 hwq;have Hq:=zF hq;have k5:(0:Int)<(n:Int)+2:=by omega
    have k6:(n:Int)+1<(n:Int)+2:=by omega
    clear hq;go_wp2_with fail;go_still_tail 13,(by kernel_rfl)
    change wpList _ _ _ _ _ w1.drew;go_wp2_with fail;refine D1.out.mono ?_;rintro e w2 ⟨rfl,o2,hl2,hL2,hv2,hb2,hJ2⟩;have hJ2':kj w.heap.size w1 w2:=⟨hJ2.os,hJ2.tape,hJ2.output,hJ2.size,hJ2.block⟩
    have hB2:Below w.heap.size w w2:=hB1.trans (hJ2'.below (zH _) (by omega));have hcp:=fN (dT:=22) (sT:=22) Tryz.underlying22 w2 w.heap.size (n+2) (n+2) (n+1) (n+1) _ (some ⟨w.heap.size,1,none⟩) o2 (o2.drop 1) 3 hb2 (zBS hb2 hL2 hl2) (by rw [jC];omega) (by rw [jC];omega) (by omega) (by omega);have hb3:=hb2.put (o2.drop 1++o2.drop (n+1));have hB3:=wv hB2 (zH _) (nts (o2.drop 1++o2.drop (n+1))).toArray;have q3:=hb3.cell (i:=n+1) (by rw [zt,jC,jC];omega);have q4:=hb3.free (n+1);have hb4:=hb3.set (n+1) 0;rw [pT hl2] at hb4;have hB4:=hB3.setCell (p:=⟨w.heap.size,n+1,none⟩) (zH _) (.int .u64 ((0:Nat):Int))
    have hL4:Lim (o2.drop 1++[0]):=⟨fun x hx=>by
     rcases List.mem_append.1 hx with h | h
     · exact hL2.1 x (uQ h)
     · simp at h;omega,by simp;have:=hL2.2;omega⟩
    have hM4:=hMt.out.step (by omega) (by rw [Hdi.out];exact hail) Hi.out hl2 hL2.1 (q:=q) (by rw [←Hq.out,Hdi.out,←Hv1.out,uF hL1.1 (by omega)]) (by rw [hv2,Hv1.out,Hdi.out]);have HM4:=zF hM4;simp only [qe] at hb4 hB4;clear hb2 hb3 hB2 hB3 hv2 hJ2 hJ2' hM4 hMt;generalize o2.drop 1=D at *;generalize o2.drop (n+1)=E at *;go_wp2_with fail;go_roundw;case rel=>exact ⟨i+1,D++[0],by go_num,by omega,HM4,hL4,hb4,hB4⟩
    case measure=>simp [intOf];omega
  · obtain rfl:i=n:=by omega
    have hMe:=hMt.out;have hMlen:=hMe.len;have q3:=hblk.cell (i:=i) (by omega);have hvt:val 18446744073709551616 (t.take i)+18446744073709551616 ^ i*dg t i=val 18446744073709551616 t:=by
     have e1:=qD 18446744073709551616 t i;have e2:=qD 18446744073709551616 t (i+1);rw [hMe.top,jK,qu,zk (by omega)] at e2;omega
    have htl:(t.take i).length=i:=by rw [qB];omega
    have hb:=pm P (fun b=>b=w.heap.size) Am (some ⟨w.heap.size,0,none⟩) cm (i+2) g (dg t i) ml (t.take i) wr.drew (by rw [Hn.out];exact (hB.cell (p:=⟨g,0,none⟩) hg).trans h0) (by have:=hB.size;show g<wr.heap.size;omega) ((hm.below hB hP).drewN 1) (fun b hb=>by have:=hP b hb;have:=hB.size;show b<wr.heap.size;omega)
     (((OB.of_blk_rn hblk hLt (c:=i+2) (by omega) (by unfold maxLen;omega)).take i).drewN 1) (fun b hb=>by have:=hblk.lt;show b<wr.heap.size;omega) (by rw [htl];exact Hn.out.symm) (hLt.dgLt i) (by rw [Hn.out,hvt];have:=hMe.bound;have:=HbM.out;omega)
    rw [htl,Hn.out,hvt] at hb;have Hb:=zF hb;have hlt3:=mc (v:=val 18446744073709551616 t) (M:=val 18446744073709551616 ml) (by have:=hMe.bound;have:=HbM.out;omega);obtain ⟨kk,hkk⟩:=hMe.cong;rw [zk (by have:=Hla.out;omega)] at hkk;have Hmod:=zF (oA hkk);have Hlt3:=zF hlt3;have k5:(i:Int)<(i:Int)+2:=by omega
    have k6:(i:Int)≤(i:Int)+2:=by omega
    clear hb hMe hvt htl hkk hMt hblk hlt3 hMlen;go_wp2_with fail;go_still_tail 8,(by kernel_rfl)
    change wpList _ _ _ _ _ wr.drew;go_wp2_with fail;refine Hb.out.mono ?_;rintro e w3 ⟨A3,c3,o,rfl,hlo,hO3,hvo,hB3⟩;go_wp2;go_ret;exact ⟨A3,c3,o,by rw [Hn.out];rfl,by rw [Hn.out];exact hlo,hO3.mono hB.size,by rw [hvo];exact Hlt3.out,by rw [hvo,Hn.out];exact Hmod.out,hB.trans (Below.mono (B':=w.heap.size) ⟨hB3.os,hB3.tape,hB3.output,hB3.size,hB3.block⟩ hB.size)⟩
structure ZM (w:World) (P:Nat→Prop) (g M inv:Nat) (Am Ao Ar:Option Addr) (cm co cr:Nat) (ol rl:List Nat):Prop where
 blk:w.heap[g]?=some (.cells #[.slice Am (digs 18446744073709551616 M).length cm,.int .u64 (inv:Int),.slice Ao ol.length co,.slice Ar rl.length cr] 238 (0,0))
 m:RN w P Am cm (digs 18446744073709551616 M)
 one:RN w P Ao co ol
 rr:RN w P Ar cr rl
 oneLen:ol.length=(digs 18446744073709551616 M).length
 rrLen:rl.length=(digs 18446744073709551616 M).length
 oneV:val 18446744073709551616 ol=RM M % M
 rrV:val 18446744073709551616 rl=RM M*RM M % M
 invLt:inv<18446744073709551616
 invV:(inv*M+1) % 18446744073709551616=0
 big:1<M
 small:(digs 18446744073709551616 M).length≤100000
theorem ZM.below {w w':World}{P:Nat→Prop}{g M inv:Nat}{Am Ao Ar:Option Addr}{cm co cr B:Nat}{ol rl:List Nat}(h:ZM w P g M inv Am Ao Ar cm co cr ol rl) (hb:Below B w w') (hP:∀ b,P b→b<B) (hg:g<B):ZM w' P g M inv Am Ao Ar cm co cr ol rl :=
 ⟨(hb.block g hg).trans h.blk,h.m.below hb hP,h.one.below hb hP,h.rr.below hb hP,h.oneLen,h.rrLen,h.oneV,h.rrV,h.invLt,h.invV,h.big,h.small⟩
theorem bP (Pa:Nat→Prop) (Am Aa:Option Addr) (cm ca g n:Nat) (a:List Nat) (w:World) (h0:w.cell? ⟨g,0,none⟩=some (.slice Am n cm)) (ha:RN w Pa Aa ca a) (hPa:∀ b,Pa b→b<w.heap.size) (hl:a.length≤n) (hn:n≤100000) :
 Calls Tryz.prog 194 #[.pointer (some ⟨g,0,none⟩),.slice Aa a.length ca] w fun e w'=>∃ A' c' o,e=.returned (.slice A' n c')∧o.length=n∧OB w' w.heap.size A' c' o∧val 18446744073709551616 o=val 18446744073709551616 a∧Below w.heap.size w w':=by
 have hmk:=jH (P:=Tryz.prog) 22 69 (.int .u64 0) 8 Tryz.underlying22 j9 rfl .i64 .i64 n (by omega) (by omega)
 have hb0:=vA w n
 have hB0:Below w.heap.size w (w.alloc (.cells (madeCells #[.int .u64 0] n) 69)):=(zO _ w).alloc (zH _) _
 have hL0:Lim (List.replicate n 0):=⟨by simp,by simp;omega⟩
 rcases za a.length with hz | hpos
 · have hcp:=run_copy_none (P:=Tryz.prog) (w.alloc (.cells (madeCells #[.int .u64 0] n) 69)) 22 23 3 69 (some ⟨w.heap.size,0,none⟩) Aa n n a.length ca Tryz.underlying22 xP (by rw [hz];exact qc (j6 _));have hav:val 18446744073709551616 a=0:=by rw [qC hz];rfl
   have Hav:=zF hav;have hO:OB (w.alloc (.cells (madeCells #[.int .u64 0] n) 69)) w.heap.size (some ⟨w.heap.size,0,none⟩) n (List.replicate n 0):=kA hb0 (zH _) hL0 (by simp) (by unfold maxLen;omega);clear hz hav hb0;go_enter Tryz.func194,Tryz.ntmps194;go_wp2;go_ret;exact ⟨_,_,List.replicate n 0,rfl,by simp,hO,by rw [Hav.out,kO],hB0⟩
 · have ha':RN (w.alloc (.cells (madeCells #[.int .u64 0] n) 69)) Pa Aa ca a:=ha.below hB0 hPa;have hcp:=fN (dT:=22) (sT:=23) Tryz.underlying22 _ w.heap.size n n a.length ca Pa Aa (List.replicate n 0) a 3 hb0 ha' hpos rfl hl (by simp);have hb1:=hb0.put (a++(List.replicate n 0).drop a.length);have hB1:=wv hB0 (zH _) (nts (a++(List.replicate n 0).drop a.length)).toArray;have hlen:(a++(List.replicate n 0).drop a.length).length=n:=by simp;omega
   have hv:val 18446744073709551616 (a++(List.replicate n 0).drop a.length)=val 18446744073709551616 a:=by rw [List.drop_replicate,fR]
   have hL1:Lim (a++(List.replicate n 0).drop a.length):=⟨fun x hx=>by
    rcases List.mem_append.1 hx with h | h
    · exact ha.2.1 x h
    · have:=uQ h;simp at this;omega,by rw [hlen];omega⟩
   generalize a++(List.replicate n 0).drop a.length=o at *;have hO:OB _ w.heap.size (some ⟨w.heap.size,0,none⟩) n o:=kA hb1 (zH _) hL1 (by omega) (by unfold maxLen;omega);have Hlen:=zF hlen;have Hv:=zF hv;clear hb0 hb1 hlen hv ha' hB0 hL0 hL1 hl;go_enter Tryz.func194,Tryz.ntmps194;go_wp2;go_ret;exact ⟨_,_,o,rfl,Hlen.out,hO,Hv.out,hB1⟩
def nT (bs:List Nat):ByteArray:=strOfNums (bs.map fun b:Nat=>(b:Int))
theorem t8 {a b:List Nat}(ha:∀ x∈a,x<256) (hb:∀ x∈b,x<256) (h:(nT a).toList=(nT b).toList):a=b:=by
 have e:∀ l:List Nat,(∀ x∈l,x<256)→(nT l).toList.map UInt8.toNat=l:=by
  intro l hl;rw [nT,Lib.strOfNums_toList,Lib.bytesOf];simp only [List.map_map];conv=>rhs;rw [←List.map_id l]
  apply List.map_congr_left;intro x hx;have:=hl x hx;simp;omega
 rw [←e a ha,←e b hb,h]
section
variable {w:World} {Q:Nat→Prop} {A:Option Addr} {c:Nat} {bs:List Nat}
theorem RB.str {P:Program}(h:RB w Q A c bs) (src e dst:TypeId) (hs:P.underlying src=some (.slice e)) (he:P.underlying e=some (.int .u8)) (hd:P.underlying dst=some .string) :
 (convert src dst (.slice A bs.length c)).run P w=.ok (.string (nT bs)) w:=by
 rcases A with _ | ad
 · have hl:bs.length=0:=by
    rcases za bs.length with h0 | h0
    · exact h0
    · obtain ⟨ad,h,_⟩:=h.1.2.2.2 h0;cases h
   obtain rfl:=qC hl;rw [run_convert_bytes_nil w src e hs he _ _ dst hd];rfl
 · have hc:∀ j v,(bys bs)[j]?=some v→w.cell? (ad.add j)=some v:=by
    intro j v hj;rcases za bs.length with h0 | h0
    · obtain rfl:=qC h0;simp [bys] at hj
    · obtain ⟨ad',h,_,hc⟩:=h.1.2.2.2 h0;injection h with h
      subst h;exact hc j v hj
   have hl:(loadCells ad bs.length).run P w=.ok ((bs.map fun b:Nat=>(b:Int)).map (Value.int .u8)).toArray w:=by
    have:=run_loadCells_list (P:=P) w ad (bys bs) hc;simpa [bys,Function.comp_def] using this
   rw [run_convert_bytes_string w src dst e _ _ c hs he hd,run_bytesToString w _ _ c _ hl,foldl_push_bytes];simp [nT,strOfNums,ByteArray.empty,ByteArray.emptyWithCapacity];rfl
end
theorem zBQ {M inv x o:Nat}(hi:(inv*M+1) % 18446744073709551616=0) (ho:o<M) (h:o*18446744073709551616 ^ nl M % M=x*(RM M*RM M % M) % M):o=x*RM M % M:=by
 have h1:o*18446744073709551616 ^ nl M % M=(x*RM M)*18446744073709551616 ^ nl M % M:=by
  rw [h,vZ,xr,←vZ,←zd];rfl
 have h2:=uw hi h1;rwa [qG ho] at h2
theorem tQ {M inv x o v:Nat}(hi:(inv*M+1) % 18446744073709551616=0) (ho:o<M) (h:o*18446744073709551616 ^ nl M % M=v*1 % M) (hv:v=x*RM M % M):o=x % M:=by
 have h1:o*18446744073709551616 ^ nl M % M=x*18446744073709551616 ^ nl M % M:=by
  rw [h,jS,hv,xr];rfl
 have h2:=uw hi h1;rwa [qG ho] at h2
theorem bD {M inv x y o u v:Nat}(hi:(inv*M+1) % 18446744073709551616=0) (ho:o<M) (h:o*18446744073709551616 ^ nl M % M=u*v % M) (hu:u=x*RM M % M) (hv:v=y*RM M % M):o=x*y*RM M % M:=by
 have h1:o*18446744073709551616 ^ nl M % M=(x*y*RM M)*18446744073709551616 ^ nl M % M:=by
  rw [h,hu,hv,←vZ];show x*RM M*(y*RM M) % M=x*y*RM M*RM M % M;congr 1;simp only [zd,zj,jR]
 have h2:=uw hi h1;rwa [qG ho] at h2
section
variable {w:World} {P:Nat→Prop} {g M inv:Nat} {Am Ao Ar:Option Addr} {cm co cr:Nat} {ol rl:List Nat}
theorem zBp (hZ:ZM w P g M inv Am Ao Ar cm co cr ol rl) (hP:∀ b,P b→b<w.heap.size) (Pa:Nat→Prop) (Aa:Option Addr) (ca:Nat) (a:List Nat) (ha:RN w Pa Aa ca a) (hPa:∀ b,Pa b→b<w.heap.size) (hl:a.length≤(digs 18446744073709551616 M).length) :
 Calls Tryz.prog 188 #[.pointer (some ⟨g,0,none⟩),.slice Aa a.length ca] w fun e w'=>∃ A' c' o,e=.returned (.slice A' (digs 18446744073709551616 M).length c')∧o.length=(digs 18446744073709551616 M).length∧OB w' w.heap.size A' c' o∧val 18446744073709551616 o=val 18446744073709551616 a*RM M % M∧Below w.heap.size w w':=by
 have hg:=qw hZ.blk
 have c0:=zJ hZ.blk 0
 have c3:=zJ hZ.blk 3
 simp at c0 c3
 have hvd:=zc (B:=18446744073709551616) (by omega) M
 have hf:=bP Pa Am Aa cm ca g _ a w.drew c0 (ha.drewN 1) hPa hl hZ.small
 have Hf:=zF hf
 have hmul:=zF (fun w1 A1 c1 (o1:List Nat) (hO:OB w1 w.heap.size A1 c1 o1) (hl1:o1.length=(digs 18446744073709551616 M).length) (hB:Below w.heap.size w w1) =>
  fj P (In w.heap.size w1.heap.size) P Am A1 Ar cm c1 cr g inv (digs 18446744073709551616 M) o1 rl w1 ((hB.cell (p:=⟨g,0,none⟩) hg).trans c0) ((hB.cell (p:=⟨g,1,none⟩) hg).trans (by have:=zJ hZ.blk 1;simpa using this)) (by have:=hB.size;omega)
   (hZ.m.below hB hP) (fun b hb=>by have:=hP b hb;have:=hB.size;omega) hO.rn (fun b hb=>hb.2) (hZ.rr.below hB hP) (fun b hb=>by have:=hP b hb;have:=hB.size;omega) hl1 hZ.rrLen (by rw [hvd];have:=hZ.big;omega) (by rw [hvd,hZ.rrV];exact qP _ (by have:=hZ.big;omega)) hZ.invLt (by rw [hvd];exact hZ.invV) hZ.small)
 have HZ:=zF hZ
 have Hvd:=zF hvd
 obtain ⟨n,hn⟩:=eV ((digs 18446744073709551616 M).length)
 have hrl:=hZ.rrLen
 rw [hn] at c0 hrl Hf
 rw [hrl] at c3
 clear hf hvd hZ hl
 go_enter Tryz.func188,Tryz.ntmps188
 go_wp2_with fail
 go_region_held3 (fun w'=>w'.cell? ⟨g,3,none⟩=some (.slice Ar n cr))
  (first | exact c3 | exact c31 | exact c32 | go_keep)
  (first
   | (go_at_call 194;refine Hf.out.mono ?_;rintro e w1 ⟨A1,c1,o1,rfl,hl1,hO1,hv1,hB1'⟩;have hB1:Below w.heap.size w w1:=⟨hB1'.os,hB1'.tape,hB1'.output,hB1'.size,hB1'.block⟩;have c31:=(hB1.cell (p:=⟨g,3,none⟩) hg).trans c3)
   | (go_at_call 190;have H:=hmul.out w1 A1 c1 o1 hO1 (by rw [hn];exact hl1) hB1;rw [hl1,hrl,hn] at H;refine H.mono ?_;clear H;rintro e w2 ⟨A2,c2,o2,rfl,hl2,hO2,hlt2,hv2,hB2⟩;have c32:=(hB2.cell (p:=⟨g,3,none⟩) (by have:=hB1.size;show g<w1.heap.size;omega)).trans c31))
 have hB12:=hB1.trans (hB2.mono hB1.size)
 rw [Hvd.out] at hlt2
 have hZ:=HZ.out
 have hfin:val 18446744073709551616 o2=val 18446744073709551616 a*RM M % M:=by
  rw [Hvd.out] at hv2;exact zBQ hZ.invV hlt2 (by rw [nl,hn,hv2,hv1,hZ.rrV])
 have hO2':=hO2.mono hB1.size
 go_wp2
 go_ret
 exact ⟨A2,c2,o2,by rw [hn];rfl,by rw [hn];exact hl2,hO2',hfin,hB12⟩
theorem tB (hZ:ZM w P g M inv Am Ao Ar cm co cr ol rl) (hP:∀ b,P b→b<w.heap.size) (Pa:Nat→Prop) (Aa:Option Addr) (ca:Nat) (a:List Nat) (x:Nat) (ha:RN w Pa Aa ca a) (hPa:∀ b,Pa b→b<w.heap.size) (hl:a.length=(digs 18446744073709551616 M).length) (hx:val 18446744073709551616 a=x*RM M % M) :
 Calls Tryz.prog 189 #[.pointer (some ⟨g,0,none⟩),.slice Aa a.length ca] w fun e w'=>∃ A' c',e=.returned (.slice A' (digs 18446744073709551616 (x % M)).length c')∧OB w' w.heap.size A' c' (digs 18446744073709551616 (x % M))∧Below w.heap.size w w':=by
 have hg:=qw hZ.blk
 have c0:=zJ hZ.blk 0
 simp at c0
 have hvd:=zc (B:=18446744073709551616) (by omega) M
 obtain ⟨n,hn⟩:=eV ((digs 18446744073709551616 M).length)
 have hsm:=hZ.small
 have hn0:0<n:=by
  rcases za n with h | h
  · have h1:=(oo (B:=18446744073709551616) (by omega)).1 (qC (hn.trans h));have:=hZ.big;omega
  · exact h
 rw [hn] at c0 hsm
 have hmk:=jH (P:=Tryz.prog) 22 69 (.int .u64 0) 8 Tryz.underlying22 j9 rfl .i64 .i64 n (by omega) (by omega)
 have hb0:=vA w n
 have hB0:Below w.heap.size w (w.alloc (.cells (madeCells #[.int .u64 0] n) 69)):=(zO _ w).alloc (zH _) _
 have q3:=hb0.cell (i:=0) (by simpa using hn0)
 have q4:=hb0.free 0
 have hb1:=hb0.set 0 1
 have hB1:=hB0.setCell (p:=⟨w.heap.size,0,none⟩) (zH _) (.int .u64 ((1:Nat):Int))
 simp only [Int.natCast_one] at hb1 hB1
 rw [World.setCell_alloc_at _ _ _ _ _ rfl] at hb1 hB1
 have hlen:((List.replicate n 0).set 0 1).length=n:=by simp
 have hv1:val 18446744073709551616 ((List.replicate n 0).set 0 1)=1:=by
  obtain ⟨k,rfl⟩:∃ k,n=k+1:=⟨n - 1,by omega⟩
  rw [List.replicate_succ,List.set_cons_zero,ju,kO]
 have hL1:Lim ((List.replicate n 0).set 0 1):=Lim.set ⟨by simp,by simp;omega⟩ 0 1 (by omega)
 generalize (List.replicate n 0).set 0 1=one at *
 have hO1:OB _ w.heap.size (some ⟨w.heap.size,0,none⟩) n one:=kA hb1 (zH _) hL1 (by omega) (by unfold maxLen;omega)
 have hmul:=fj P Pa _ Am Aa (some ⟨w.heap.size,0,none⟩) cm ca n g inv (digs 18446744073709551616 M) a one _ (by rw [hn];exact (hB1.cell (p:=⟨g,0,none⟩) hg).trans c0) ((hB1.cell (p:=⟨g,1,none⟩) hg).trans (by have:=zJ hZ.blk 1;simpa using this)) (by have:=hB1.size;omega)
  (hZ.m.below hB1 hP) (fun b hb=>by have:=hP b hb;have:=hB1.size;omega) (ha.below hB1 hPa) (fun b hb=>by have:=hPa b hb;have:=hB1.size;omega) hO1.rn (fun b hb=>hb.2) hl (by rw [hlen,hn]) (by rw [hvd];have:=hZ.big;omega) (by rw [hv1,hvd];exact hZ.big) hZ.invLt (by rw [hvd];exact hZ.invV) hZ.small
 rw [hlen,hn,hvd,hv1,hx] at hmul
 have Hmul:=zF hmul
 have HZ:=zF hZ
 have Hn:=zF hn
 have kn:(0:Int)<(n:Int):=by omega
 clear hmul hZ hvd hn hb1 hb0 hO1 hlen hv1 hl hx ha
 go_enter Tryz.func189,Tryz.ntmps189
 go_wp2_with fail
 refine Hmul.out.mono ?_
 rintro e w2 ⟨A2,c2,o2,rfl,hl2,hO2,hlt2,hv2,hB2⟩
 have hfin:=tQ (x:=x) HZ.out.invV hlt2 (by rw [nl,Hn.out];rw [hv2]) rfl
 have hnorm:=wy _ A2 c2 o2 w2 hO2.rn
 rw [hl2,hfin] at hnorm
 have Hnorm:=zF hnorm
 have hw2:=hB1.trans (hB2.mono hB1.size)
 clear hnorm hv2 hB2
 go_wp2_with fail
 refine Hnorm.out.mono ?_
 rintro e w3 ⟨A3,c3,rfl,hO3,hB3⟩
 go_wp2
 go_ret
 exact ⟨A3,c3,rfl,hO3.mono hw2.size,hw2.trans (hB3.mono hw2.size)⟩
theorem zAe (hZ:ZM w P g M inv Am Ao Ar cm co cr ol rl) :
 Calls Tryz.prog 195 #[.pointer (some ⟨g,0,none⟩)] w fun e w'=>∃ A' c',e=.returned (.slice A' ol.length c')∧OB w' w.heap.size A' c' ol∧Below w.heap.size w w':=by
 obtain ⟨i0,hi,hz0,hz1,hz2⟩:=wM j9
 have c2:=zJ hZ.blk 2
 simp at c2
 have h1:=hZ.one
 obtain ⟨h2,h3,h4⟩:=h1.cap
 go_enter Tryz.func195,Tryz.ntmps195
 go_wp2_with (at_builtin;refine jG _ rfl _ _ 22 rfl w.heap.size 69 i0 (.int .u64 0) 1 8 Tryz.underlying22 hi hz0 hz1 hz2 rfl (by decide) _ 0 [] rfl (kr _ _ _ _) P Ao ol.length co (nts ol) rfl h1.1 (kG ol) ol.length (by omega) (by unfold maxLen;omega) (by omega) (zH _) ?_)
 intro A' c' w1 hown hgrow hblk
 go_wp2
 go_ret
 exact ⟨A',c',rfl,OB.of_own (by simpa using hown) h1.2,(zO _ w).grown hgrow (zH _) (by intro k hk;simp [Value.ownBlock] at hk)⟩
end
theorem zAf (P:Nat→Prop) (A:Option Addr) (c:Nat) (a:List Nat) (M:Nat) (w:World) (h:RN w P A c a) (_hP:∀ b,P b→b<w.heap.size) (hM:val 18446744073709551616 a=M) (h1:1<M) (hodd:M % 2=1) (hl:a.length<40000) :
 Calls Tryz.prog 186 #[.slice A a.length c] w fun e w'=>∃ g inv Am Ao Ar cm co cr ol rl,e=.returned (.pointer (some ⟨g,0,none⟩))∧w.heap.size≤g∧ZM w' (In w.heap.size w'.heap.size) g M inv Am Ao Ar cm co cr ol rl∧Below w.heap.size w w':=by
 obtain ⟨i0,hi,hz0,hz1,hz2⟩:=wM j9
 have hn1:=wy P A c a w h
 have hln:=ql (B:=18446744073709551616) (by omega) h.2.1
 rw [hM] at hn1 hln
 have hvd:=zc (B:=18446744073709551616) (by omega) M
 have hlim:=kQ (B:=18446744073709551616) (by omega) M
 have hm0:=uF hlim (by omega)
 rw [hvd] at hm0
 obtain ⟨ml,hml⟩:=eV (digs 18446744073709551616 M)
 rw [hml] at hn1 hln hvd hm0 hlim
 obtain ⟨m0,hm0'⟩:=eV (dg ml 0)
 rw [hm0'] at hm0
 have hm2:(m0:Int) % 2=1:=by omega
 obtain ⟨n,hn⟩:=eV ml.length
 have hn0:0<n:=by
  rcases za n with h0 | h0
  · have:ml=[]:=qC (hn.trans h0);rw [this] at hvd;simp at hvd;omega
  · exact h0
 have hns:n<40000:=by omega
 have kn:(0:Int)<(n:Int):=by omega
 rw [hn] at hn1
 have Hn1:=zF hn1
 have Hml:=zF hml
 have Hn:=zF hn
 have Hvd:=zF hvd
 have Hm0:=zF hm0
 have Hm2:=zF hm2
 clear hn1 hln hml hn hvd hm0 hm2 hl hodd hM hlim
 go_enter Tryz.func186,Tryz.ntmps186
 go_wp2_with fail
 refine Hn1.out.mono ?_
 rintro e w1 ⟨A1,c1,rfl,hO1,hB1⟩
 have r1:=hO1.rn
 obtain ⟨ad,rfl,hb1,q1⟩:=r1.at_ (i:=0) (by rw [Hn.out];exact hn0)
 rw [hm0'] at q1
 have q1b:w1.cell? ad=some (.int .u64 (m0:Int)):=by simpa [Addr.add] using q1
 go_wp2_with fail
 go_loopw [3,14] (fun iv jv wr=>∃ (y:Int) (r:Nat),jv=.int .i64 (r:Int)∧iv=.int .u64 y∧r≤6∧yv (m0:Int) r y∧w1=wr) (fun _ jv _=>6 - (intOf jv).toNat)
 case atStart=>exact ⟨1,0,rfl,rfl,by omega,yv.zero Hm2.out,rfl⟩
 case round =>
  obtain ⟨y,r,rfl,rfl,hr,hN,rfl⟩:=hrel;by_cases hlt:r<6
  · have hN':=hN.step hlt;have hw1:IntKind.u64.wrap ((m0:Int)*y)=(m0:Int)*y % 18446744073709551616:=wc _;have hw2:IntKind.u64.wrap (2 - (m0:Int)*y % 18446744073709551616)=(2 - (m0:Int)*y % 18446744073709551616) % 18446744073709551616:=wc _;have hw3:IntKind.u64.wrap (y*((2 - (m0:Int)*y % 18446744073709551616) % 18446744073709551616))=y*((2 - (m0:Int)*y % 18446744073709551616) % 18446744073709551616) % 18446744073709551616:=wc _;generalize (m0:Int)*y % 18446744073709551616=x1 at *;generalize (2 - x1) % 18446744073709551616=x2 at *;generalize y*x2 % 18446744073709551616=x3 at *;have HN:=zF hN';clear hN hN';go_wp2;go_roundw;case rel=>exact ⟨x3,r+1,by go_num,by first | rfl | simp [hw1,hw2,hw3],by omega,HN.out,by first | rfl | trivial⟩
    case measure=>simp [intOf];omega
  · obtain rfl:r=6:=by omega
    obtain ⟨t,ht⟩:=hN.fin;have hinv:=rj Hm0.out ht;have h0:0≤(-y) % 18446744073709551616:=Int.emod_nonneg _ (by decide);have hlt2:(-y) % 18446744073709551616<18446744073709551616:=Int.emod_lt_of_pos _ (by decide);obtain ⟨inv,hv⟩:∃ inv:Nat,(-y) % 18446744073709551616=(inv:Int):=⟨_,(Int.toNat_of_nonneg h0).symm⟩
    have hneg:IntKind.u64.wrap (-y)=(inv:Int):=by rw [wc];exact hv
    rw [hv,kU] at hinv;rw [hv] at hlt2;have Hinv:=zF hinv;have Hlt2:=zF hlt2;have hmk:=jH (P:=Tryz.prog) 23 69 (.int .u64 0) 8 Tryz.underlying23 j9 rfl .i64 .i64 n (by omega) (by omega);clear ht hinv h0 hv hN hlt hlt2;have hbz:=vA (w1.alloc (.cells #[.slice (some ad) n c1,.int .u64 (inv:Int),.slice none 0 0,.slice none 0 0] 238)) n
    have hown:((w1.alloc (.cells #[.slice (some ad) n c1,.int .u64 (inv:Int),.slice none 0 0,.slice none 0 0] 238)).alloc (.cells (madeCells #[.int .u64 0] n) 69)).ownsRow (w1.heap.size+1) 69 1 (.slice (some ⟨w1.heap.size+1,0,none⟩) n n) n (nts (List.replicate n 0)) :=
     fJ (o:=List.replicate n 0) (by rw [qL] at hbz;exact hbz) (zH _) (by simp) (by unfold maxLen;omega) (zH _) (by simp) (by simp)
    have hfr:RS (((w1.alloc (.cells #[.slice (some ad) n c1,.int .u64 (inv:Int),.slice none 0 0,.slice none 0 0] 238)).alloc (.cells (madeCells #[.int .u64 0] n) 69)).alloc (.cells #[.int .u64 1] 69)) (fun _=>True) 1 (some ⟨w1.heap.size+1+1,0,none⟩) 1 1 (nts [1]):=by
     have:=jM (w:=((w1.alloc (.cells #[.slice (some ad) n c1,.int .u64 (inv:Int),.slice none 0 0,.slice none 0 0] 238)).alloc (.cells (madeCells #[.int .u64 0] n) 69))) (P:=fun _=>True) #[.int .u64 1] 69 1 1 rfl (by unfold maxLen;omega) trivial;rw [qL,qL] at this;exact this
    have hown':=hown.alloc (.cells #[.int .u64 1] 69);have hG:=zP w1 (.cells #[.slice (some ad) n c1,.int .u64 (inv:Int),.slice none 0 0,.slice none 0 0] 238);have hBG:Below w1.heap.size w1 (((w1.alloc (.cells #[.slice (some ad) n c1,.int .u64 (inv:Int),.slice none 0 0,.slice none 0 0] 238)).alloc (.cells (madeCells #[.int .u64 0] n) 69)).alloc (.cells #[.int .u64 1] 69)):=(((zO _ w1).alloc (zH _) _).alloc (by simp) _).alloc (by simp;omega) _;replace hG:=(zx ((w1.alloc (.cells #[.slice (some ad) n c1,.int .u64 (inv:Int),.slice none 0 0,.slice none 0 0] 238)).alloc (.cells (madeCells #[.int .u64 0] n) 69)) (.cells #[.int .u64 1] 69) w1.heap.size (by simp;omega)).trans ((zx (w1.alloc (.cells #[.slice (some ad) n c1,.int .u64 (inv:Int),.slice none 0 0,.slice none 0 0] 238)) (.cells (madeCells #[.int .u64 0] n) 69) w1.heap.size (by simp)).trans hG);have hzG:(((w1.alloc (.cells #[.slice (some ad) n c1,.int .u64 (inv:Int),.slice none 0 0,.slice none 0 0] 238)).alloc (.cells (madeCells #[.int .u64 0] n) 69)).alloc (.cells #[.int .u64 1] 69)).heap.size=w1.heap.size+3:=by simp
    clear hbz hown;go_upto_region 8 with fail;go_wp2_with (at_builtin;generalize ((w1.alloc (.cells #[.slice (some ad) n c1,.int .u64 (inv:Int),.slice none 0 0,.slice none 0 0] 238)).alloc (.cells (madeCells #[.int .u64 0] n) 69)).alloc (.cells #[.int .u64 1] 69)=W at *;refine jG _ rfl _ _ 23 rfl (w1.heap.size+1) 69 i0 (.int .u64 0) 1 8 Tryz.underlying23 hi hz0 hz1 hz2 rfl (by decide) (.slice (some ⟨w1.heap.size+1,0,none⟩) n n) n _ rfl hown' (fun _=>True) _ 1 1 (nts [1]) rfl hfr (kG [1]) (n+1) rfl (by unfold maxLen;omega) (by omega) (by omega) ?_;intro A2 c2 w2 hown2 hg2 hor2);have hzw2:=hg2.size;have hBw2:Below w1.heap.size w1 w2:=hBG.grown hg2 (by omega) (fun k hk=>by simp [Value.ownBlock] at hk;omega);have hs2:=hBw2.size;have hG2:=(hg2.block w1.heap.size (by omega) (by simp [Value.ownBlock])).trans hG
    have hLr:Lim (List.replicate n 0++[1]):=⟨fun x hx=>by
     rcases List.mem_append.1 hx with h | h
     · simp at h;omega
     · simp at h;omega,by simp;omega⟩
    have hlr:(List.replicate n 0++[1]).length=n+1:=by simp
    have hOr:OB w2 (w1.heap.size+1) A2 c2 (List.replicate n 0++[1]):=OB.of_own (by rw [hlr];simpa [nts] using hown2) hLr;have hvr:=rO n;generalize List.replicate n 0++[1]=rlst at *;have hw1:=hB1.size;have r2:=r1.below hBw2 fun b hb=>hb.2;have hq1:=uB _ _ A2 (some ad) c2 c1 rlst ml w2 hOr.rn r2 (fun b hb=>hb.2) (fun b hb=>by have:=hb.2;omega) (by omega) (by have:=Hn.out;omega) (by rw [Hvd.out];omega);rw [hvr,Hvd.out,hlr,Hn.out] at hq1;obtain ⟨v1,hv1⟩:=eV (18446744073709551616 ^ n % M);rw [hv1] at hq1;have hv1M:v1<M:=by rw [←hv1];exact qP _ (by omega)
    have hl1:(digs 18446744073709551616 v1).length≤n:=by
     have:=qg (B:=18446744073709551616) (by omega) (qt hv1M);rw [Hml.out,Hn.out] at this;exact this
    have Hq1:=zF hq1;have Hv1:=zF hv1;have hBw:=hB1.trans (hBw2.mono hw1);clear hq1 hown2 hg2 hor2 hfr hown' hG hBG hzG hOr hvr hlr hLr hmk hv1;refine Hq1.out.mono ?_;rintro e w3 ⟨A3,c3,A4,c4,rfl,_,hO4,hB3⟩;have hG3:=(hB3.block w1.heap.size (qw hG2)).trans hG2;have hs3:=hB3.size;have hm1:=dw _ _ A4 A4 c4 c4 _ _ w3 hO4.rn hO4.rn (fun b hb=>hb.2) (fun b hb=>hb.2) (by omega) (by omega);rw [zc (by omega)] at hm1;have Hm1:=zF hm1;clear hm1;go_wp2_with fail;refine Hm1.out.mono ?_;rintro e w4 ⟨A5,c5,rfl,hO5,hB4⟩;have hs4:=hB4.size;have hB24:=hB3.trans (hB4.mono hs3);have r4:=r2.below hB24 fun b hb=>by have:=hb.2;omega
    have hl2:(digs 18446744073709551616 (v1*v1)).length<90000:=by
     have h1:v1*v1<18446744073709551616 ^ (n+n):=by
      have e1:=jl (B:=18446744073709551616) (by omega) M;rw [Hml.out,Hn.out] at e1;have e2:v1*v1≤v1*M:=zi _ (by omega);have e3:v1*M<18446744073709551616 ^ n*18446744073709551616 ^ n:=Nat.mul_lt_mul'' (by omega) e1;rw [qI];omega
     have:=qp (B:=18446744073709551616) (by omega) h1;omega
    have hq2:=uB _ _ A5 (some ad) c5 c1 _ ml w4 hO5.rn r4 (fun b hb=>hb.2) (fun b hb=>by have:=hb.2;omega) hl2 (by have:=Hn.out;omega) (by rw [Hvd.out];omega);rw [zc (by omega),Hvd.out,Hn.out] at hq2;obtain ⟨v2,hv2⟩:=eV (v1*v1 % M);rw [hv2] at hq2;have hv2M:v2<M:=by rw [←hv2];exact qP _ (by omega)
    have hl3:(digs 18446744073709551616 v2).length≤n:=by
     have:=qg (B:=18446744073709551616) (by omega) (qt hv2M);rw [Hml.out,Hn.out] at this;exact this
    have Hq2:=zF hq2;have Hv2:=zF hv2;clear hq2 hv2 hl2;go_wp2_with fail;refine Hq2.out.mono ?_;rintro e w5 ⟨A6,c6,A7,c7,rfl,_,hO7,hB5⟩;have hs5:=hB5.size;have hB35:=hB4.trans (hB5.mono hs4);have hG5:=(hB35.block w1.heap.size (qw hG3)).trans hG3;have g50:=zJ hG5 0;simp at g50;have hf1:=bP _ (some ad) A4 c1 c4 w1.heap.size n _ w5 g50 (hO4.rn.below hB35 fun b hb=>hb.2) (fun b hb=>by have:=hb.2;omega) hl1 (by omega);rw [zc (by omega)] at hf1;have Hf1:=zF hf1;clear hf1;go_wp2_with fail;refine Hf1.out.mono ?_;rintro e w6 ⟨A8,c8,o1,rfl,hlo1,hO8,hvo1,hB6⟩;have hs6:=hB6.size;have hG6:=(hB6.block w1.heap.size (qw hG5)).trans hG5;have g60:=zJ hG6 0;simp at g60;have hf2:=bP _ (some ad) A7 c1 c7 w1.heap.size n _ w6 g60 (hO7.rn.below hB6 fun b hb=>hb.2) (fun b hb=>by have:=hb.2;omega) hl3 (by omega);rw [zc (by omega)] at hf2;have Hf2:=zF hf2;clear hf2 g50 g60;go_wp2_with fail;refine Hf2.out.mono ?_;rintro e w7 ⟨A9,c9,o2,rfl,hlo2,hO9,hvo2,hB7⟩;have hs7:=hB7.size;have hG7:=(hB7.block w1.heap.size (qw hG6)).trans hG6;have g2:=zJ hG7 2;have g3:=zJ hG7 3;have f2:=zv hG7 2;have f3:=zv hG7 3;simp at g2 g3;have hset:=jm (jm hG7 2 (.slice A8 n c8)) 3 (.slice A9 n c9);have hB17:=(((((hB3.trans (hB4.mono hs3)).trans (hB5.mono (by omega))).trans (hB6.mono (by omega))).trans (hB7.mono (by omega))))
    have hBw7:Below w.heap.size w w7:=hBw.trans (hB17.mono (by omega));have hB8:Below w1.heap.size w7 ((w7.setCell ⟨w1.heap.size,2,none⟩ (.slice A8 n c8)).setCell ⟨w1.heap.size,3,none⟩ (.slice A9 n c9)):=((zO _ w7).setCell (p:=⟨w1.heap.size,2,none⟩) (zH _) _).setCell (p:=⟨w1.heap.size,3,none⟩) (zH _) _;have hJ8:kj w1.heap.size w7 ((w7.setCell ⟨w1.heap.size,2,none⟩ (.slice A8 n c8)).setCell ⟨w1.heap.size,3,none⟩ (.slice A9 n c9)):=((kj.refl _ w7).set 2 _).set 3 _;have zG:=qw hG5;have hz8:((w7.setCell ⟨w1.heap.size,2,none⟩ (.slice A8 n c8)).setCell ⟨w1.heap.size,3,none⟩ (.slice A9 n c9)).heap.size=w7.heap.size:=by simp [World.setCell]
    have rm8:=(r2.below (hB17) fun b hb=>by have:=hb.2;omega).just hJ8 (fun b hb=>by have:=hb.2;omega);have rO8:=((hO8.rn.below hB7 fun b hb=>hb.2)).just hJ8 (fun b hb=>by have:=hb.1;have:=hb.2;omega);have rO9:=(hO9.rn).just hJ8 (fun b hb=>by have:=hb.1;have:=hb.2;omega);have hRM:18446744073709551616 ^ n=RM M:=by rw [RM,nl,Hml.out,Hn.out]
    have hZ:ZM ((w7.setCell ⟨w1.heap.size,2,none⟩ (.slice A8 n c8)).setCell ⟨w1.heap.size,3,none⟩ (.slice A9 n c9)) (In w.heap.size w7.heap.size) w1.heap.size M inv (some ad) A8 A9 c1 c8 c9 o1 o2 :=
     ⟨by rw [hset, Hml.out, Hn.out, hlo1, hlo2]; simp, by rw [Hml.out]; exact rm8.mono fun b hb => ⟨hb.1, by have := hb.2; omega⟩, rO8.mono fun b hb => ⟨by have := hb.1; omega, by have := hb.2; omega⟩, rO9.mono fun b hb => ⟨by have := hb.1; omega, hb.2⟩,
      by rw [Hml.out,Hn.out];exact hlo1,by rw [Hml.out,Hn.out];exact hlo2,by rw [hvo1,←Hv1.out,hRM],by rw [hvo2,←Hv2.out,←Hv1.out,hRM,←vZ],by have:=Hlt2.out;omega,Hinv.out,h1,by rw [Hml.out,Hn.out];omega⟩
    have HZ:=zF hZ;have hBf:Below w.heap.size w ((w7.setCell ⟨w1.heap.size,2,none⟩ (.slice A8 n c8)).setCell ⟨w1.heap.size,3,none⟩ (.slice A9 n c9)):=hBw7.trans (hB8.mono hw1);have Hz8:=zF hz8;clear hset hB8 hJ8 rm8 rO8 rO9 hZ hz8 hG7 hG6 hG5 hG3 hG2;go_wp2;go_ret;exact ⟨w1.heap.size,inv,_,_,_,_,_,_,o1,o2,rfl,hw1,by rw [Hz8.out];exact HZ.out,hBf⟩
theorem au:(Tryz.prog.info? 5).map (fun i=>(i.zero,i.size,i.bytes))=some (some (.int .u8 0),1,1):=by kernel_rfl
def ga (w:World) (g:Nat) (l:List Nat):Prop:=w.heap[g]?=some (.cells (bys l).toArray 5 (0,0))
section
variable {w w':World} {g:Nat} {l:List Nat}
theorem zB6 {l:List Nat}{i:Nat}(h:i<l.length):(bys l)[i]?=some (.int .u8 (dg l i:Int)):=by
 rw [dg,jW h];simp [bys,qO h]
theorem ga.cell (h:ga w g l){i:Nat}(hi:i<l.length):w.cell? ⟨g,i,none⟩=some (.int .u8 (dg l i:Int)):=by
 rw [zJ h i,zK,zB6 hi]
theorem ga.free (h:ga w g l) (i:Nat):w.frozen? ⟨g,i,none⟩=false:=zv h i
theorem ga.set (h:ga w g l) (i:Nat) (x:Nat):ga (w.setCell ⟨g,i,none⟩ (.int .u8 (x:Int))) g (l.set i x):=by
 unfold ga at *;simp [World.setCell,kY,h,bys]
theorem ga.made (w:World) (n:Nat):ga (w.alloc (.cells (madeCells #[.int .u8 0] n) 5)) w.heap.size (List.replicate n 0):=by
 unfold ga;rw [zP];congr 1;congr 1;apply Array.ext_getElem?;intro i;by_cases hi:i<n
 · have hs:i<(madeCells #[Value.int .u8 0] n).size:=by rw [size_madeCells];simpa using hi
   rw [qi hs];simp [madeCells,bys,hi,Nat.mod_one]
 · rw [yH (by rw [size_madeCells];omega),yH (by simp [bys];omega)]
theorem ga.rb {P:Nat→Prop}(h:ga w g l) (hP:P g) (hl:∀ b∈l,b<256) (hn:l.length≤1000000):RB w P (some ⟨g,0,none⟩) l.length l:=by
 refine ⟨⟨zH _,by unfold maxLen;omega,by simp [bys],fun _=>⟨_,rfl,hP,fun j u hu=>?_⟩⟩,hl,by omega⟩;rw [xZ,zJ h j,zK];exact hu
end
def wX (x n:Nat) (o:List Nat) (k:Nat):Prop:=o.length=n∧(∀ j,j<k→dg o j=x / 2 ^ (8*(n - 1 - j)) % 256)∧(∀ j,k≤j→dg o j=0)∧∀ b∈o,b<256
theorem wX.zero (x n:Nat):wX x n (List.replicate n 0) 0:=by
 refine ⟨by simp,fun j hj=>by omega,fun j _=>?_,fun b hb=>by simp at hb;omega⟩;rw [dg,zh,List.getElem?_replicate];split <;> rfl
theorem wX.step {x n:Nat}{o:List Nat}{k b:Nat}(h:wX x n o k) (hk:k<n) (hb:x / 2 ^ (8*(n - 1 - k)) % 256=b):wX x n (o.set k b) (k+1):=by
 obtain ⟨h1,h2,h3,h4⟩:=h;refine ⟨by simpa using h1,fun j hj=>?_,fun j hj=>by rw [getD_set_ne (by omega)];exact h3 j (by omega),wu h4 (by omega)⟩;rcases zz j k with h | h
 · rw [getD_set_ne (by omega)];exact h2 j h
 · obtain rfl:j=k:=by omega
   rw [vV (by omega)];exact hb.symm
theorem wX.skip {x n:Nat}{o:List Nat}{k:Nat}(h:wX x n o k) (hb:x / 2 ^ (8*(n - 1 - k)) % 256=0):wX x n o (k+1):=by
 obtain ⟨h1,h2,h3,h4⟩:=h;refine ⟨h1,fun j hj=>?_,fun j hj=>h3 j (by omega),h4⟩;rcases zz j k with h | h
 · exact h2 j h
 · obtain rfl:j=k:=by omega
   rw [hb];exact h3 j h
theorem wX.fin {x n:Nat}{o:List Nat}(h:wX x n o n):o=bytesOf x n:=by
 obtain ⟨h1,h2,_⟩:=h;apply List.ext_getElem (by rw [h1,jp]);intro i h3 h4;have:=h2 i (by omega);rw [dg,jW h3] at this;rw [this];simp [bytesOf]
theorem mH (d j:Nat):IntKind.u8.wrap ((d:Int) / 2 ^ j)=((d / 2 ^ j % 256:Nat):Int):=by
 rw [show (d:Int) / 2 ^ j=((d / 2 ^ j:Nat):Int) by simp];generalize d / 2 ^ j=z;simp [IntKind.wrap,IntKind.bits,IntKind.signed]
theorem dK (P:Nat→Prop) (A:Option Addr) (c:Nat) (a:List Nat) (n:Nat) (w:World) (h:RN w P A c a) (hP:∀ b,P b→b<w.heap.size) (hn:n≤65536) (hn':zo (val 18446744073709551616 a)≤8*n) :
 Calls Tryz.prog 43 #[.slice A a.length c,.int .i64 (n:Int)] w fun e w'=>∃ A1,e=.returned (.tuple #[.slice A1 n n,.bool true]) ∧
  RB w' (In w.heap.size w'.heap.size) A1 n (bytesOf (val 18446744073709551616 a) n)∧Below w.heap.size w w':=by
 obtain ⟨h1,h2,h3⟩:=h.cap
 have hb:=zF (vJ P A c a w h)
 have hby:=fun k j hj=>nI (m:=64) a h.2.1 k j hj
 rw [show (2:Nat) ^ 64=18446744073709551616 by decide] at hby
 generalize hX:val 18446744073709551616 a=x at *
 generalize zo x=k0 at *
 have hk0:(k0:Int)≤8*(n:Int):=by omega
 have Hby:=zF hby
 clear hby hX hn'
 have hmk:=jH (P:=Tryz.prog) 34 5 (.int .u8 0) 1 Tryz.underlying34 au rfl .i64 .i64 n (by omega) (by omega)
 go_enter Tryz.func43,Tryz.ntmps43
 go_wp2_with fail
 refine hb.out.mono ?_
 rintro e w1 ⟨rfl,rfl⟩
 clear hb
 go_wp2
 go_loopw [26] (fun iv wr=>∃ (k:Nat) (o:List Nat),iv=.int .i64 (k:Int)∧k≤n∧wX x n o k∧ga wr w.heap.size o∧Below w.heap.size w wr) (fun iv _=>n - (intOf iv).toNat)
 case atStart=>exact ⟨0,List.replicate n 0,rfl,by omega,wX.zero x n,ga.made w n,(zO _ w).alloc (zH _) _⟩
 case round =>
  obtain ⟨k,o,rfl,hk,hA,hblk,hB⟩:=hrel;by_cases hlt:k<n
  · obtain ⟨m,q,r,hm,hr,hmq⟩:∃ m q r,m=n - 1 - k∧r<8∧m=8*q+r:=⟨n - 1 - k,(n - 1 - k) / 8,(n - 1 - k) % 8,rfl,by omega,by omega⟩
    have hbv:=Hby.out q (r*8) (by omega);rw [show 64*q+r*8=8*m by omega,hm] at hbv;have e1:(n:Int) - 1 - (k:Int)=(m:Int):=by omega
    have e2:(m:Int) / 8=(q:Int):=by omega
    have e3:(m:Int) % 8=(r:Int):=by omega
    have k1:(m:Int)<(n:Int):=by omega
    by_cases hq:q<a.length
    · obtain ⟨ad,rfl,had,q1⟩:=(h.below hB hP).at_ hq;obtain ⟨b,hbb⟩:=eV (dg a q / 2 ^ (r*8) % 256);rw [hbb] at hbv;have e4:=mH (dg a q) (r*8);rw [hbb] at e4;have hA':=hA.step hlt hbv;have q3:=hblk.cell (i:=k) (by rw [hA.1];exact hlt);have q4:=hblk.free k;have hblk':=hblk.set k b;have hB':=hB.setCell (p:=⟨w.heap.size,k,none⟩) (zH _) (.int .u8 (b:Int));have k2:(q:Int)<(a.length:Int):=by omega
      have k3:(r:Int)<8:=by omega
      clear hbb hbv hA hblk hB hmq hm;go_wp2;go_roundw;case rel=>exact ⟨k+1,o.set k b,by go_num,by omega,hA',hblk',hB'⟩
      case measure=>simp [intOf];omega
    · rw [vH (by omega:a.length≤q),Nat.zero_div,Nat.zero_mod] at hbv;have hA':=hA.skip hbv;have k2:¬ (q:Int)<(a.length:Int):=by omega
      clear hbv hA hmq hm;go_wp2;go_roundw;case rel=>exact ⟨k+1,o,by go_num,by omega,hA',hblk,hB⟩
      case measure=>simp [intOf];omega
  · obtain rfl:k=n:=by omega
    have he:=hA.fin;have hl4:=hA.2.2.2;have hlen:=hA.1;have hrb:=hblk.rb (P:=In w.heap.size wr.heap.size) ⟨zH _,qw hblk⟩ hl4 (by omega);rw [hlen] at hrb;rw [he] at hrb;clear hA he hl4 hlen hblk;go_wp2;go_ret2;exact ⟨_,rfl,hrb,hB⟩
end Go.Proofs.YtmlbicgpehchhaaGreat
namespace Go.Proofs.YtmlbicgpehchhaaGreat
open Go.RowKit Go.Shelf
attribute [local go_sem] Oper.semAt_some
def kz (x:Nat) (j:Nat):Nat×Nat:=(zo x - 1 - j,x / 2 ^ (zo x - 1 - j) % 2)
theorem bU (P:Nat→Prop) (A:Option Addr) (c:Nat) (a:List Nat) (w:World) (h:RN w P A c a) (hP:∀ b,P b→b<w.heap.size) :
 Calls Tryz.prog 141 #[.slice A a.length c] w fun e w'=>∃ A1 c1,e=.returned (.func (.func 179) #[] #[.pointer (some ⟨w.heap.size,0,none⟩)]) ∧
  w'.heap[w.heap.size]?=some (.cells #[.slice A1 (digs 18446744073709551616 (val 18446744073709551616 a)).length c1] 23 (0,0))∧OB w' w.heap.size A1 c1 (digs 18446744073709551616 (val 18446744073709551616 a))∧Below w.heap.size w w':=by
 have hm:=zF (fun w h=>fk P A c a w h)
 have hR:RN (w.alloc (.cells #[.slice A a.length c] 23)) P A c a:=h.below ((zO _ w).alloc (zH _) _) hP
 generalize digs 18446744073709551616 (val 18446744073709551616 a)=l at *
 go_enter Tryz.func141,Tryz.ntmps141
 go_wp2_with fail
 refine (hm.out _ hR).mono ?_
 rintro e w1 ⟨A1,c1,rfl,hO,hB⟩
 have hb:=(hB.block w.heap.size (by simp)).trans (zP w _)
 have f0:=zv hb 0
 have c0:=zJ hb 0
 simp at c0
 go_wp2
 go_ret
 refine ⟨A1,c1,rfl,?_,?_,(((zO _ w).alloc (zH _) _).trans (hB.mono (by simp))).setCell (p:=⟨w.heap.size,0,none⟩) (zH _) _⟩
 · simp [World.setCell,kY,hb]
 · obtain ⟨h1,h2,h3,h4⟩:=hO;refine ⟨h1,h2,h3,fun hn=>?_⟩;obtain ⟨g,cur,e,hg,hh,hc⟩:=h4 hn;simp at hg;exact ⟨g,cur,e,by omega,(zN _ _ _ _ (by show g≠w.heap.size;omega)).trans hh,hc⟩
def xz (lo hi:Nat) (W W':World):Prop:=W.heap.size≤W'.heap.size∧∀ k,lo≤k→k<hi→W'.heap[k]?=W.heap[k]?
theorem xz.trans {lo hi:Nat}{a b c:World}(h:xz lo hi a b) (k:xz lo hi b c):xz lo hi a c:=⟨zQ h.1 k.1,fun i h1 h2=>(k.2 i h1 h2).trans (h.2 i h1 h2)⟩
theorem xz.refl (lo hi:Nat) (w:World):xz lo hi w w:=⟨zH _,fun _ _ _=>rfl⟩
theorem bT (Bs lo n₀:Nat) (P:Nat→Prop) (A:Option Addr) (c:Nat) (a:List Nat) (w:World) (hP:∀ b,P b→lo≤b∧b<n₀) (hlo:lo≤Bs) (hBs:Bs<n₀) (hn₀:n₀≤w.heap.size) (hc0:w.cell? ⟨Bs,0,none⟩=some (.slice A a.length c)) (hR0:RN w P A c a) :
 zCM Tryz.prog 179 #[.pointer (some ⟨Bs,0,none⟩)] (fun k=>#[.int .i64 ((kz (val 18446744073709551616 a) k).1:Int),.int .u64 ((kz (val 18446744073709551616 a) k).2:Int)]) zBK nC (xz lo n₀) 0 (zo (val 18446744073709551616 a)) true w:=by
 intro n l' J J' Jx W hn hW _ _ _ _ _ hT _ hY h0
 have hc:=(hW.cell (p:=⟨Bs,0,none⟩) (zR hBs hn₀)).trans hc0
 have hR:=hR0.below hW fun b hb=>zR (hP b hb).2 hn₀
 have zW:=hW.size
 clear hc0 hR0
 have hbits:=zF (fun W (h:RN W P A c a)=>(callsIn_wide (n:=n - 1)).2 (vJ P A c a W h))
 have hbit:=zF (fun i W (h:RN W P A c a) (hi:i≤9223372036854775807)=>(callsIn_wide (n:=n - 1)).2 (fu P A c a i W h hi))
 have hcap:=hR.cap
 have hnb:zo (val 18446744073709551616 a)≤64*a.length:=by
  apply kh;have:=jf hR.2.1;rwa [show (18446744073709551616:Nat)=2 ^ 64 by decide,←wE] at this
 have hbv:=fun k=>(show xH (val 18446744073709551616 a) ((k:Nat):Int)=val 18446744073709551616 a / 2 ^ k % 2 by simp [xH,show ¬ (k:Int)<0 by omega])
 have Hbv:=zF hbv
 clear hbv
 generalize hx:val 18446744073709551616 a=x at *
 have hba:=zF (fun k=>(show kz x k=(zo x - 1 - k,x / 2 ^ (zo x - 1 - k) % 2) by rfl))
 obtain ⟨nb,hnb'⟩:=eV (zo x)
 rw [hnb'] at hbits hba hnb hY hT ⊢
 have HT:=zF hT
 have HY:=zF hY
 clear hT hY
 clear hx hnb'
 have hnb1:nb≤64000000:=by have:=hcap.2.2;omega
 clear hnb
 refine callsIn_of_wp Tryz.func179 rfl trivial ?_ rfl
 simp only [Tryz.ntmps179,jF,qh,jI,Nat.reduceAdd,Nat.reduceSub,wt,ws,yx,xI,kI,kN]
 gi_wp2
 refine ⟨trivial,(hbits.out _ hR).mono ?_⟩
 rintro e w' ⟨rfl,rfl⟩
 have Hst:=zF (vc nb)
 gi_wp2
 gi_loopw [3] (fun i wr=>∃ (k:Nat) (z:Int),k≤nb∧vT (nb - k) z∧i=.int .i64 z∧J k wr∧xz lo n₀ W wr)
  (fun i _=>(intOf i+1).toNat)
 case atStart=>exact ⟨0,_,j6 _,Hst.out,rfl,h0,xz.refl _ _ _⟩
 case round =>
  obtain ⟨k,z,hk,hz,rfl,hJs,hnx⟩:=hrel;have hcx:=(zT (w':=wr) (a:=⟨Bs,0,none⟩) (hnx.2 Bs hlo hBs)).trans hc;have hRx:=hR.keep (w':=wr) fun p hp=>zT (hnx.2 _ (hP _ hp).1 (hP _ hp).2);rcases hz with ⟨hk0,rfl⟩ | ⟨j,hj,rfl⟩
  · obtain rfl:k=nb:=by omega
    have hjn:=HT.out k _ _ (zH _) hJs (World.grownBy.refl wr none);gi_wp2;go_end0;exact ⟨⟨_,rfl⟩,.inl hjn⟩
  · obtain ⟨fn,tmps,assign,body,hy,hRo⟩:=HY.out k wr (HT.out k _ _ hk hJs (World.grownBy.refl wr none)) (by omega) (by have:=hnx.1;omega);have hb1:=hba.out k;rw [show nb - 1 - k=j by omega] at hb1;have hbj:=hbit.out (j:Int) wr hRx (by omega);rw [Hbv.out j] at hbj;rw [hb1] at hy;obtain ⟨bb,hbb⟩:=eV (x / 2 ^ j % 2);rw [hbb] at hy hb1 hbj;dsimp only at hy;have Hbj:=zF hbj;have Hb1:=zF hb1;clear hb1 hbj hbb;gi_wp2;refine ⟨trivial,Hbj.out.mono ?_⟩;rintro e w' ⟨rfl,rfl⟩;gi_wp2;refine hRo.mono ?_;rintro e W3 (⟨rfl,hJ3,hk3,_⟩ | ⟨rfl,hJx3,_⟩)
    · gi_wp2;go_roundw;case rel=>exact ⟨k+1,_,by omega,by rw [show nb - (k+1)=j by omega];exact vc j,rfl,hJ3,hnx.trans hk3⟩
      case measure=>simp [intOf]
    · gi_wp2;refine qS (results_none rfl _ _ _) rfl ?_;exact ⟨⟨_,rfl⟩,.inr ⟨k+1,by omega,by omega,hJx3⟩⟩
def yd (E k:Nat):Nat:=E / 2 ^ (zo E - k)
theorem pS (E:Nat):yd E 0=0:=by rw [yd,Nat.sub_zero];exact qn (jw (zH _))
theorem sV (E:Nat):yd E (zo E)=E:=by rw [yd,Nat.sub_self,kl,Nat.div_one]
theorem cJ {E k:Nat}(hk:k<zo E):yd E (k+1)=2*yd E k+(kz E k).2:=by
 rw [yd,yd,kz,show zo E - k=(zo E - (k+1))+1 by omega,show zo E - 1 - k=zo E - (k+1) by omega,zu,←jd];have:=vi (E / 2 ^ (zo E - (k+1))) 2;omega
theorem zBd {x E k:Nat}(hk:k<zo E) (hb:(kz E k).2=0):x ^ yd E (k+1)=x ^ yd E k*x ^ yd E k:=by
 rw [cJ hk,hb,qu,Nat.two_mul,qI]
theorem zAR {x E k:Nat}(hk:k<zo E) (hb:(kz E k).2=1):x ^ yd E (k+1)=x ^ yd E k*x ^ yd E k*x:=by
 rw [cJ hk,hb,zu,Nat.two_mul,qI]
theorem OB.same {w w':World}{base:Nat}{A:Option Addr}{c:Nat}{l:List Nat}(h:OB w base A c l) (hs:∀ (b:Nat) (o:Obj),w.heap[b]?=some o→o.isCells=true→w'.heap[b]?=some o):OB w' base A c l:=by
 obtain ⟨h1,h2,h3,h4⟩:=h;refine ⟨h1,h2,h3,fun hn=>?_⟩;obtain ⟨g,cur,e,hg,hh,hc⟩:=h4 hn;exact ⟨g,cur,e,hg,hs g _ hh rfl,hc⟩
theorem OB.put {w:World}{base q:Nat}{A:Option Addr}{c:Nat}{l:List Nat}{cs:Array Value}(h:OB w base A c l) (hq:w.heap[q]?=some (.cells cs 22 (0,0))) (v:Value):OB (w.setCell ⟨q,0,none⟩ v) base A c l:=by
 obtain ⟨h1,h2,h3,h4⟩:=h;refine ⟨h1,h2,h3,fun hn=>?_⟩;obtain ⟨g,cur,e,hg,hh,hc⟩:=h4 hn;refine ⟨g,cur,e,hg,(zN _ _ _ _ (show g≠q from fun e'=>?_)).trans hh,hc⟩;subst e';rw [hh] at hq;injection hq with hq
 injection hq with h1 h2
 exact absurd h2 (by decide)
def pI (base q M x E n k:Nat) (X:World):Prop:=∃ A c o,X.heap[q]?=some (.cells #[.slice A n c] 22 (0,0))∧o.length=n∧val 18446744073709551616 o=x ^ yd E k*RM M % M∧OB X base A c o
theorem zAg {w:World}{P:Nat→Prop}{g M inv:Nat}{Am Ao Ar:Option Addr}{cm co cr:Nat}{ol rl:List Nat}(hZ:ZM w P g M inv Am Ao Ar cm co cr ol rl) (hP:∀ b,P b→b<w.heap.size) (Pa Pe:Nat→Prop) (Aa Ae:Option Addr) (ca ce:Nat) (a e:List Nat) (x E:Nat)
 (ha:RN w Pa Aa ca a) (hPa:∀ b,Pa b→b<w.heap.size) (hl:a.length=(digs 18446744073709551616 M).length) (hx:val 18446744073709551616 a=x*RM M % M) (he:RN w Pe Ae ce e) (hPe:∀ b,Pe b→b<w.heap.size) (hE:val 18446744073709551616 e=E) :
 Calls Tryz.prog 187 #[.pointer (some ⟨g,0,none⟩),.slice Aa a.length ca,.slice Ae e.length ce] w fun e w'=>∃ A' c' o,e=.returned (.slice A' (digs 18446744073709551616 M).length c')∧o.length=(digs 18446744073709551616 M).length∧OB w' w.heap.size A' c' o ∧
  val 18446744073709551616 o=x ^ E*RM M % M∧Below w.heap.size w w':=by
 obtain ⟨n,hn⟩:=eV ((digs 18446744073709551616 M).length)
 obtain ⟨s,hs⟩:=eV w.heap.size
 rw [hl,hn,hs]
 rw [hn] at hl
 have Hl:=zF hl
 have Hn:=zF hn
 clear hl hn
 have hg:=qw hZ.blk
 have m0:=zP w (.cells #[.pointer (some ⟨g,0,none⟩)] 231)
 have m1:=zP (w.alloc (.cells #[.pointer (some ⟨g,0,none⟩)] 231)) (.cells #[.slice Aa n ca] 22)
 replace m0:=(zx (w.alloc (.cells #[.pointer (some ⟨g,0,none⟩)] 231)) (.cells #[.slice Aa n ca] 22) w.heap.size (by simp)).trans m0
 have hB0:Below w.heap.size w ((w.alloc (.cells #[.pointer (some ⟨g,0,none⟩)] 231)).alloc (.cells #[.slice Aa n ca] 22)):=((zO _ w).alloc (zH _) _).alloc (by simp) _
 have hz0:((w.alloc (.cells #[.pointer (some ⟨g,0,none⟩)] 231)).alloc (.cells #[.slice Aa n ca] 22)).heap.size=s+2:=by simp [hs]
 rw [qL] at m1
 rw [hs] at m0 m1 hB0 hg hP hPa hPe
 refine (callsIn_wide (n:=6)).1 ?_
 refine callsIn_of_wp_marks Tryz.func187 rfl trivial ?_ rfl
 simp only [Tryz.ntmps187,jF,qh,jI,Nat.reduceAdd,Nat.reduceSub,wt,ws,yx,xI,kI,kN]
 gi_wp2
 generalize (w.alloc (.cells #[.pointer (some ⟨g,0,none⟩)] 231)).alloc (.cells #[.slice Aa n ca] 22)=W0 at *
 have hZ0:=hZ.below hB0 hP hg
 have hone:=zAe hZ0
 rw [hZ0.oneLen,Hn.out] at hone
 refine ⟨trivial,(callsIn_wide.2 hone).mono ?_⟩
 rintro e' w1 ⟨A1,c1,rfl,hO1,hB1⟩
 rw [hz0] at hO1 hB1
 have hB01:=hB0.trans (hB1.mono (by omega))
 obtain ⟨q,hq⟩:=eV w1.heap.size
 have zq:s+2≤q:=by rw [←hq];have:=hB1.size;omega
 have b1:=zP w1 (.cells #[.slice A1 n c1] 22)
 have hB2:Below q w1 (w1.alloc (.cells #[.slice A1 n c1] 22)):=by rw [←hq];exact (zO _ w1).alloc (zH _) _
 have hz2:(w1.alloc (.cells #[.slice A1 n c1] 22)).heap.size=q+1:=by simp [hq]
 rw [hq] at b1
 clear hone hZ0
 gi_wp2
 generalize w1.alloc (.cells #[.slice A1 n c1] 22)=W2 at *
 have hBw2:=hB01.trans (hB2.mono (by omega))
 have heach:=bU Pe Ae ce e W2 (he.below hBw2 hPe) (fun b hb=>by have:=hPe b hb;omega)
 rw [hE,hz2] at heach
 have Hq:=zF hq
 clear hq
 refine ⟨trivial,(callsIn_wide.2 heach).mono ?_⟩
 rintro e' w3 ⟨Ae',ce',rfl,be,hOe,hB3⟩
 have zn:q+1<w3.heap.size:=qw be
 have hbe:=zJ be 0
 simp only [zK,zL] at hbe
 have hseq:=bT (q+1) (q+1) w3.heap.size (In (q+1) w3.heap.size) Ae' ce' (digs 18446744073709551616 E) w3 (fun b hb=>hb) (zH _) zn (zH _) hbe hOe.rn
 rw [zc (by omega)] at hseq
 have Hseq:=zF hseq
 have hW23:Below s w w3:=hBw2.trans (hB3.mono (by omega))
 have hB13:Below q w1 w3:=hB2.trans (hB3.mono (by omega))
 have n0:=(hB13.block s (by omega)).trans ((hB1.block s (by omega)).trans m0)
 have n1:=(hB13.block (s+1) (by omega)).trans ((hB1.block (s+1) (by omega)).trans m1)
 have nq:=(hB3.block q (by omega)).trans b1
 have hO3:OB w3 (s+2) A1 c1 ol:=hO1.below hB13 (by have:=Hq.out;omega)
 have hout0:pI (s+2) q M x E n 0 w3:=⟨A1,c1,ol,nq,hZ.oneLen.trans Hn.out,by rw [hZ.oneV,pS,kl,wH],hO3⟩
 have hZw:=fun X (h:Below s w X)=>hZ.below h hP hg
 have hmul:=fun X (h:Below s w X) A2 c2 (o2:List Nat) (hO:OB X (s+2) A2 c2 o2) (hlo:o2.length=n) A4 c4 (P4:Nat→Prop) (o4:List Nat) (hR4:RN X P4 A4 c4 o4) (hP4:∀ b,P4 b→b<X.heap.size) (hl4:o4.length=n) (hv4:val 18446744073709551616 o4<M) =>
  fj P _ P4 Am A2 A4 cm c2 c4 g inv (digs 18446744073709551616 M) o2 o4 X (by have:=zJ (hZw X h).blk 0;simpa using this) (by have:=zJ (hZw X h).blk 1;simpa using this) (qw (hZw X h).blk) (hZw X h).m (fun b hb=>by have:=hP b hb;have:=h.size;omega) hO.rn (fun b hb=>hb.2) hR4 hP4 (hlo.trans Hn.out.symm) (hl4.trans Hn.out.symm)
   (by rw [zc (by omega)];have:=hZ.big;omega) (by rw [zc (by omega)];exact hv4) hZ.invLt (by rw [zc (by omega)];exact hZ.invV) hZ.small
 have Hmul:=zF hmul
 have HZ:=zF hZ
 clear hseq heach hmul hZw b1 m0 m1 nq hB2 hB1 hO1 hO3 hbe be hOe hB01 hBw2 hz2 hz0 hB13 hB3 hB0
 have hInv:OwnFrom w3.heap.size (fun (k:Nat) X=>pI (s+2) q M x E n k X∧Below q w3 X):=by
  rintro k X X' row ⟨⟨A,c,o,h1,h2,h3,h4⟩,h5⟩ hg' hr;have hr':=fun r e=>(hr r e).2;exact ⟨⟨A,c,o,(yK hg' hr' h1 rfl).trans h1,h2,h3,h4.same fun b o' ho hc=>(yK hg' hr' ho hc).trans ho⟩,ownFrom_below (by omega) (by omega) k X X' row h5 hg' hr⟩
 gi_wp2
 refine' dB (by omega) (gf:=179) (lb:=#[.pointer (some ⟨q+1,0,none⟩)]) rfl (enters_of Tryz.func179 (by kernel_rfl) rfl)
  Hseq.out (fun h k=>xz.trans h k) (fun X l o o' hl ho _ _=>⟨by simp,fun i _ hi=>qY (by omega)⟩) yM (zO _ _) (fun _=>rfl)
  (fun k X=>pI (s+2) q M x E n k X∧Below q w3 X) (fun k X=>pI (s+2) q M x E n k X∧Below q w3 X) (fun _ _ _=>False)
  hInv hInv (fun _ _ _ _ _ h=>h.elim) (fun _ _ _ _=>trivial) (fun B k A C _ _ hi ht=>?hIT) (fun h=>by cases h) ⟨hout0,zO _ _⟩ _ ?assign ?body ?done ?stop
 case hIT=>exact xV (I:=fun k X=>pI (s+2) q M x E n k X∧Below q w3 X) (B:=w3.heap.size) hInv hi ht
 case assign =>
  intro l k X K hK;gi_wp2;exact hK
 case body =>
  rintro l k X ⟨⟨A2,c2,o2,h1,h2,h3,h4⟩,h5⟩ hlt _;have zX:=h5.size;have d0:=zJ ((h5.block s (by omega)).trans n0) 0;have d1:=zJ ((h5.block (s+1) (by omega)).trans n1) 0;have d2:=zJ h1 0;have d3:=zv h1 0;simp only [zK,zL] at d0 d1 d2;have hbw:=hW23.trans (h5.mono (by omega));have hM1:=HZ.out.big;have hcl:=Hmul.out X hbw A2 c2 o2 h4 h2 A2 c2 _ o2 h4.rn (fun b hb=>hb.2) h2 (by rw [h3];exact qP _ (by omega));rw [h2,Hn.out,zc (by omega)] at hcl;have Hcl:=zF hcl;have H1:=zF h1;have H3:=zF h3;clear hcl h1 h3 h4;gi_wp2;refine ⟨trivial,(callsIn_wide.2 Hcl.out).mono ?_⟩;rintro e' X1 ⟨A3,c3,o3,rfl,hl3,hO3,hlt3,hv3,hB3⟩;have hf3:=bD HZ.out.invV hlt3 (by rw [nl,Hn.out];exact hv3) H3.out H3.out;have zX1:=hB3.size;have y1:=(hB3.block q (qw H1.out)).trans H1.out;have y2:=zJ y1 0;have y3:=zv y1 0;have y4:=(hB3.cell (p:=⟨s,0,none⟩) (by show s<X.heap.size;omega)).trans d0;have y5:=(hB3.cell (p:=⟨s+1,0,none⟩) (by show s+1<X.heap.size;omega)).trans d1;simp only [zK,zL] at y2;have hO4:=(hO3.mono (base':=s+2) (by omega)).put y1 (.slice A3 n c3);have hq4:(X1.setCell ⟨q,0,none⟩ (.slice A3 n c3)).heap[q]?=some (.cells #[.slice A3 n c3] 22 (0,0)):=by simpa using jm y1 0 (.slice A3 n c3)
  have hB4:Below q w3 (X1.setCell ⟨q,0,none⟩ (.slice A3 n c3)):=(h5.trans (hB3.mono (by omega))).setCell (p:=⟨q,0,none⟩) (zH _) _;have hK4:jP w3.heap.size (w3.heap.size+2) 0 X (X1.setCell ⟨q,0,none⟩ (.slice A3 n c3)):=(jP.below hB3 (zH _)).trans (jP.setCell _ _ _ _ (.inl (by show q<_;omega)) _);have hS4:xz (q+1) w3.heap.size X (X1.setCell ⟨q,0,none⟩ (.slice A3 n c3)):=⟨by simpa [World.setCell] using zX1,fun b hb1 hb2=>(zN _ _ _ _ (by show b≠q;omega)).trans (hB3.block b (by omega))⟩
  have e0:=(World.cell?_setCell_far X1 ⟨q,0,none⟩ ⟨s,0,none⟩ (.slice A3 n c3) (by show q≠s;omega)).trans y4;have e1:=(World.cell?_setCell_far X1 ⟨q,0,none⟩ ⟨s+1,0,none⟩ (.slice A3 n c3) (by show q≠s+1;omega)).trans y5;have e2:=zJ hq4 0;have e3:=zv hq4 0;simp only [zK,zL] at e2;have hz4:(X1.setCell ⟨q,0,none⟩ (.slice A3 n c3)).heap.size=X1.heap.size:=by simp [World.setCell]
  have hbw4:=hW23.trans (hB4.mono (by omega));have hcl2:=Hmul.out _ hbw4 A3 c3 o3 hO4 hl3 Aa ca Pa a (ha.below hbw4 hPa) (fun b hb=>by have:=hPa b hb;omega) Hl.out (by rw [hx];exact qP _ (by omega));rw [hl3,Hl.out,Hn.out,zc (by omega)] at hcl2;have Hcl2:=zF hcl2;have HO4:=zF hO4;have HK4:=zF hK4;have HS4:=zF hS4;have HB4:=zF hB4;have Hq4:=zF hq4;have Hf3:=zF hf3;have Hl3:=zF hl3;have hbit:(kz E k).2=0∨(kz E k).2=1:=by
   have:(kz E k).2<2:=qP _ (by omega);omega
  clear hcl2 hO4 hK4 hS4 hB4 hq4 hf3 hv3 y1 hO3;rcases hbit with hb0 | hb1
  · have hp:=zF (zBd (x:=x) hlt hb0);rw [hb0];clear hb0;gi_wp2;exact ⟨HK4.out,HS4.out,⟨A3,c3,o3,Hq4.out,Hl3.out,by rw [hp.out];exact Hf3.out,HO4.out⟩,HB4.out⟩
  · have hp:=zF (zAR (x:=x) hlt hb1);rw [hb1];clear hb1;gi_wp2;generalize X1.setCell ⟨q,0,none⟩ (.slice A3 n c3)=X2 at *;refine ⟨trivial,(callsIn_wide.2 Hcl2.out).mono ?_⟩;rintro e' X3 ⟨A5,c5,o5,rfl,hl5,hO5,hlt5,hv5,hB5⟩;have hf5:=bD HZ.out.invV hlt5 (by rw [nl,Hn.out];exact hv5) Hf3.out hx;have zX3:=hB5.size;have x1:=(hB5.block q (qw Hq4.out)).trans Hq4.out;have x2:=zJ x1 0;have x3:=zv x1 0;simp only [zK,zL] at x2;have hO6:=(hO5.mono (base':=s+2) (by omega)).put x1 (.slice A5 n c5);have hq6:(X3.setCell ⟨q,0,none⟩ (.slice A5 n c5)).heap[q]?=some (.cells #[.slice A5 n c5] 22 (0,0)):=by simpa using jm x1 0 (.slice A5 n c5)
    have hB6:Below q w3 (X3.setCell ⟨q,0,none⟩ (.slice A5 n c5)):=(HB4.out.trans (hB5.mono (by omega))).setCell (p:=⟨q,0,none⟩) (zH _) _;have hK6:jP w3.heap.size (w3.heap.size+2) 0 X (X3.setCell ⟨q,0,none⟩ (.slice A5 n c5)):=HK4.out.trans ((jP.below hB5 (zH _)).trans (jP.setCell _ _ _ _ (.inl (by show q<_;omega)) _));have hS6:xz (q+1) w3.heap.size X (X3.setCell ⟨q,0,none⟩ (.slice A5 n c5)):=HS4.out.trans ⟨by simpa [World.setCell] using zX3,fun b hb1 hb2=>(zN _ _ _ _ (by show b≠q;omega)).trans (hB5.block b (by omega))⟩;have HO6:=zF hO6;have HK6:=zF hK6;have HS6:=zF hS6;have HB6:=zF hB6;have Hq6:=zF hq6;have Hf5:=zF hf5;have Hl5:=zF hl5;clear hO6 hK6 hS6 hB6 hq6 hf5 hv5 x1 hO5;gi_wp2;exact ⟨HK6.out,HS6.out,⟨A5,c5,o5,Hq6.out,Hl5.out,by rw [hp.out];exact Hf5.out,HO6.out⟩,HB6.out⟩
 case done =>
  rintro D X hD ⟨⟨A2,c2,o2,h1,h2,h3,h4⟩,h5⟩ hK;rw [sV] at h3;have d2:=zJ h1 0;simp only [zK,zL] at d2;have hbw:=hW23.trans (h5.mono (by omega));have zD:s≤D:=by omega
  have hO:OB (X.putObj D (.deferred none)) (s+2) A2 c2 o2:=h4.same fun b o' ho hc=>(qY (fun e=>by subst e;rw [hK] at ho;cases ho;cases hc)).trans ho;have HO:=zF (hO.mono (base':=s) (by omega));have H3:=zF h3;have H2:=zF h2;clear h1 h3 h4 hO;gi_wp2;go_wp2;refine ⟨by simp,.inl ⟨_,_,rfl,run_takeDeferred hK,_,results_tmp rfl _ _ _,⟨A2,c2,o2,rfl,H2.out,HO.out,H3.out,hbw.trans (belowK_b (w:=w) (x9 hs.symm) _ D _ _ (by omega) hK rfl rfl)⟩⟩⟩
 case stop=>exact fun _ _ _ _ _ _ _ h _=>h.elim
end Go.Proofs.YtmlbicgpehchhaaGreat
namespace Go.Proofs.YtmlbicgpehchhaaGreat
open Go.RowKit
theorem RNN.three {w:World}{P P' P'':Nat→Prop}{A A' A'':Option Addr}{c c' c'':Nat}{a b d:List Nat}(h:RN w P A c a) (h':RN w P' A' c' b) (h'':RN w P'' A'' c'' d) (hP:∀ b,P b→b<w.heap.size) (hP':∀ b,P' b→b<w.heap.size) (hP'':∀ b,P'' b→b<w.heap.size) :
 RNN (w.alloc (.cells #[.slice A a.length c,.slice A' b.length c',.slice A'' d.length c''] 23)) (fun _=>True) (some ⟨w.heap.size,0,none⟩) 3 [a,b,d] [.slice A a.length c,.slice A' b.length c',.slice A'' d.length c'']:=by
 have hB:Below w.heap.size w (w.alloc (.cells #[.slice A a.length c,.slice A' b.length c',.slice A'' d.length c''] 23)):=(zO _ w).alloc (zH _) _
 refine ⟨jM (w:=w) (P:=fun _=>True) #[.slice A a.length c,.slice A' b.length c',.slice A'' d.length c''] 23 1 3 rfl (by unfold maxLen;omega) trivial,by simp,fun j l hl=>?_⟩
 match j,hl with
 | 0,hl=>simp at hl;subst hl;exact ⟨A,c,rfl,(h.below hB hP).mono fun _ _=>trivial⟩
 | 1,hl=>simp at hl;subst hl;exact ⟨A',c',rfl,(h'.below hB hP').mono fun _ _=>trivial⟩
 | 2,hl=>simp at hl;subst hl;exact ⟨A'',c'',rfl,(h''.below hB hP'').mono fun _ _=>trivial⟩
 | j+3,hl=>simp at hl
theorem RNN.one {w:World}{P:Nat→Prop}{A:Option Addr}{c:Nat}{a:List Nat}(h:RN w P A c a) (hP:∀ b,P b→b<w.heap.size) :
 RNN (w.alloc (.cells #[.slice A a.length c] 23)) (fun _=>True) (some ⟨w.heap.size,0,none⟩) 1 [a] [.slice A a.length c]:=by
 have hB:Below w.heap.size w (w.alloc (.cells #[.slice A a.length c] 23)):=(zO _ w).alloc (zH _) _
 refine ⟨jM (w:=w) (P:=fun _=>True) #[.slice A a.length c] 23 1 1 rfl (by unfold maxLen;omega) trivial,by simp,fun j l hl=>?_⟩
 match j,hl with
 | 0,hl=>simp at hl;subst hl;exact ⟨A,c,rfl,(h.below hB hP).mono fun _ _=>trivial⟩
 | j+1,hl=>simp at hl
theorem yp (N:Nat):xH N 0=N % 2:=by simp [xH]
theorem aZ {N:Nat}(h:1<N):2≤zo N:=by
 rcases zz (zo N) 2 with h0 | h0
 · have:=jw (x:=N) (k:=1) (by omega);omega
 · exact h0
theorem mt (P:Nat→Prop) (A:Option Addr) (c:Nat) (a:List Nat) (N:Nat) (w:World) (h:RN w P A c a) (hP:∀ b,P b→b<w.heap.size) (hN:val 18446744073709551616 a=N) (hno:N % 2=0∨N<2) :
 Calls Tryz.prog 156 #[.slice A a.length c] w fun e w'=>e=.returned (.tuple #[.bool false,.bool (decide (N=2))])∧Below w.heap.size w w':=by
 have hb0:=fu P A c a 0 w h (by omega)
 have hbs:=vJ P A c a w h
 have hof:=xN 2 w (by omega)
 have hcm:=fun A' c' X (hX:Below w.heap.size w X) (hO:OB X w.heap.size A' c' (digs 18446744073709551616 2))=>wL P _ A A' c c' a _ X (h.below hX hP) hO.rn
 rw [hN,yp] at hb0
 rw [hN] at hbs
 simp only [hN,zc (show 2≤18446744073709551616 by omega)] at hcm
 have hcv:(jo N 2==0)=decide (N=2):=by
  rcases jb N 2 with ⟨h1,h2⟩ | ⟨h1,h2⟩ | ⟨h1,h2⟩ <;> rw [h2] <;> simp <;> omega
 have Hb0:=zF hb0
 have Hbs:=zF hbs
 have Hof:=zF hof
 have Hcm:=zF hcm
 have Hcv:=zF hcv
 have key:Hid (∀ W,W=w→True):=zF fun _ _=>trivial
 clear hb0 hbs hof hcm hcv key
 generalize hcz:jo N 2=cz at *
 by_cases he:N % 2=0
 · have t1:((N % 2:Nat):Int)=0:=by omega
   rw [he] at Hb0;clear hno t1;go_enter Tryz.func156,Tryz.ntmps156;go_wp2_with fail;refine Hb0.out.mono ?_;rintro e w' ⟨rfl,rfl⟩;go_wp2_with fail;refine Hof.out.mono ?_;rintro e w1 ⟨A1,c1,rfl,hO1,hB1⟩;have Hc1:=zF (Hcm.out A1 c1 w1 hB1 hO1);go_wp2_with fail;refine Hc1.out.mono ?_;rintro e w2 ⟨rfl,n,rfl⟩;go_wp2;go_ret2;exact ⟨by rw [Hcv.out];rfl,hB1.os,hB1.tape,hB1.output,hB1.size,hB1.block⟩
 · have hlt:N<2:=by omega
   have hn1:zo N≤1:=kh (by omega);have t2:N % 2=1:=by omega
   have t3:decide ((zo N:Int)<2)=true:=qX (by omega);rw [t2] at Hb0;clear hno he t2 hlt;go_enter Tryz.func156,Tryz.ntmps156;go_wp2_with fail;refine Hb0.out.mono ?_;rintro e w' ⟨rfl,rfl⟩;go_wp2_with fail;refine Hbs.out.mono ?_;rintro e w' ⟨rfl,rfl⟩;go_wp2_with fail;refine Hof.out.mono ?_;rintro e w1 ⟨A1,c1,rfl,hO1,hB1⟩;have Hc1:=zF (Hcm.out A1 c1 w1 hB1 hO1);go_wp2_with fail;refine Hc1.out.mono ?_;rintro e w2 ⟨rfl,n,rfl⟩;go_wp2;go_ret2;exact ⟨by rw [Hcv.out];rfl,hB1.os,hB1.tape,hB1.output,hB1.size,hB1.block⟩
theorem fB (P:Nat→Prop) (A:Option Addr) (c:Nat) (a:List Nat) (N:Nat) (w:World) (h:RN w P A c a) (hP:∀ b,P b→b<w.heap.size) (hN:val 18446744073709551616 a=N) (hodd:N % 2=1) (hgt:1<N) :
 Calls Tryz.prog 156 #[.slice A a.length c] w fun e w'=>e=.returned (.tuple #[.bool (decide (zo N≤4096)),.bool false])∧Below w.heap.size w w':=by
 have hb0:=fu P A c a 0 w h (by omega)
 have hbs:=vJ P A c a w h
 rw [hN,yp,hodd] at hb0
 rw [hN] at hbs
 have hmy:=cA _ _ _ _ _ _ (RNN.one h hP)
 rw [show (([a]:List (List Nat)).all fun l=>decide (zo (val 18446744073709551616 l)≤4096))=decide (zo N≤4096) by simp [hN]] at hmy
 simp only [qh,jI,jc] at hmy
 have hB0:Below w.heap.size w (w.alloc (.cells #[.slice A a.length c] 23)):=(zO _ w).alloc (zH _) _
 have hnb:=aZ hgt
 have t3:decide ((zo N:Int)<2)=false:=qb (by omega)
 have Hb0:=zF hb0
 have Hbs:=zF hbs
 have Hmy:=zF hmy
 clear hb0 hbs hmy hodd hgt hnb
 go_enter Tryz.func156,Tryz.ntmps156
 go_wp2_with fail
 refine Hb0.out.mono ?_
 rintro e w' ⟨rfl,rfl⟩
 go_wp2_with fail
 refine Hbs.out.mono ?_
 rintro e w' ⟨rfl,rfl⟩
 go_wp2_with fail
 refine Hmy.out.mono ?_
 rintro e w' ⟨rfl,rfl⟩
 go_wp2
 go_ret2
 exact ⟨rfl,hB0⟩
end Go.Proofs.YtmlbicgpehchhaaGreat
namespace Go.Proofs.YtmlbicgpehchhaaGreat
def fT:Nat→Nat→Nat
 | 0,_=>0
 | f+1,x=>if x % 2=0 then fT f (x / 2)+1 else 0
def uS (x:Nat):Nat:=fT x x
theorem aK:∀ (f x k:Nat),k<fT f x→x / 2 ^ k % 2=0
 | 0,_,_,h=>by simp [fT] at h
 | f + 1, x, k, h => by
   by_cases h0:x % 2=0
   · simp only [fT,h0,if_true] at h;match k,h with
     | 0,_=>simpa using h0
     | k + 1, h =>
       have:=aK f (x / 2) k (by omega);rwa [jd,←Nat.pow_succ',] at this
   · simp [fT,h0] at h
theorem aJ:∀ (f x:Nat),0<x→x≤f→x / 2 ^ fT f x % 2=1
 | 0,_,h,h'=>by omega
 | f + 1, x, h, h' => by
   by_cases h0:x % 2=0
   · simp only [fT,h0,if_true];have:=aJ f (x / 2) (by omega) (by omega);rwa [jd,←Nat.pow_succ'] at this
   · simp only [fT,h0,if_false,kl,Nat.div_one];omega
theorem nM {x k:Nat}(h:k<uS x):x / 2 ^ k % 2=0:=aK x x k h
theorem fS {x:Nat}(h:0<x):x / 2 ^ uS x % 2=1:=aJ x x h (zH _)
theorem nL {x:Nat}(h:0<x):2 ^ uS x≤x:=by
 have h1:=fS h;rcases zz x (2 ^ uS x) with h2 | h2
 · rw [qn h2] at h1;omega
 · exact h2
theorem sR {x:Nat}(h0:0<x) (h:x % 2=0):0<uS x:=by
 rcases za (uS x) with h1 | h1
 · have:=fS h0;rw [h1] at this;simp at this;omega
 · exact h1
def jY (N W k:Nat):Nat:=(W % N) ^ ((N - 1) / 2 ^ uS (N - 1)*2 ^ k) % N
def yQ (N W k:Nat):Bool:=decide (jY N W k=N - 1) || (decide (k=0) && decide (jY N W k=1))
def kP (N W:Nat):Bool :=
 if N % 2=0∨N<2 then decide (N=2) else if 4096<zo N then false else if W % N=0 then true else (List.range (uS (N - 1))).any (yQ N W)
theorem dW (N W k:Nat):jY N W (k+1)=jY N W k*jY N W k % N:=by
 unfold jY;rw [←vZ,←qI,zu,←zd];congr 2;omega
theorem yt (f:Nat→Bool){n k:Nat}(h:k<n):(List.range' k (n - k)).any f=(f k || (List.range' (k+1) (n - (k+1))).any f):=by
 rw [show n - k=(n - (k+1))+1 by omega,List.range'_succ,List.any_cons]
theorem dL (f:Nat→Bool) (n:Nat):(List.range n).any f=(List.range' 0 (n - 0)).any f:=by
 rw [List.range_eq_range',Nat.sub_zero]
theorem fC (f:Nat→Bool) (n:Nat):(List.range' n (n - n)).any f=false:=by simp
theorem nS {N:Nat}(W:Nat) (h:N % 2=0∨N<2):kP N W=decide (N=2):=by simp only [kP,h,if_true]
theorem xJ {N W:Nat}(h:N % 2=1) (h1:1<N) (h2:zo N≤4096):kP N W=if W % N=0 then true else (List.range (uS (N - 1))).any (yQ N W):=by
 simp only [kP,show ¬ (N % 2=0∨N<2) by omega,show ¬ 4096<zo N by omega,if_false]
theorem sh {a b x:Nat}(h:2 ^ a≤x) (h':x<2 ^ b):a≤b:=by
 rcases zz b a with h5 | h5
 · have:2 ^ b≤2 ^ a:=qF (by omega) (by omega);omega
 · exact h5
theorem pR {N K:Nat}(h:1<N) (h2:zo N≤K):uS (N - 1)≤K :=
 sh (nL (x:=N - 1) (by omega)) (jB (xF N 1) (jw h2))
theorem rR {N:Nat}(h:1<N) (h2:zo N≤4096):uS (N - 1)≤4096:=pR h h2
end Go.Proofs.YtmlbicgpehchhaaGreat
namespace Go.Proofs.YtmlbicgpehchhaaGreat
open Go.RowKit
section
variable {w:World} {P:Nat→Prop} {g M inv:Nat} {Am Ao Ar:Option Addr} {cm co cr:Nat} {ol rl:List Nat}
theorem mmulz (hZ:ZM w P g M inv Am Ao Ar cm co cr ol rl) (hP:∀ b,P b→b<w.heap.size) (Pa Pb:Nat→Prop) (Aa Ab:Option Addr) (ca cb:Nat) (a b:List Nat) (X Y:Nat)
 (ha:RN w Pa Aa ca a) (hPa:∀ b,Pa b→b<w.heap.size) (hla:a.length=(digs 18446744073709551616 M).length) (hx:val 18446744073709551616 a=X*RM M % M)
 (hb:RN w Pb Ab cb b) (hPb:∀ b,Pb b→b<w.heap.size) (hlb:b.length=(digs 18446744073709551616 M).length) (hy:val 18446744073709551616 b=Y*RM M % M) :
 Calls Tryz.prog 190 #[.pointer (some ⟨g,0,none⟩),.slice Aa (digs 18446744073709551616 M).length ca,.slice Ab (digs 18446744073709551616 M).length cb] w fun e w'=>∃ A' c' o,e=.returned (.slice A' (digs 18446744073709551616 M).length c')∧o.length=(digs 18446744073709551616 M).length∧OB w' w.heap.size A' c' o ∧
  val 18446744073709551616 o=X*Y*RM M % M∧Below w.heap.size w w':=by
 have hbig:=hZ.big
 have hm:=fj P Pa Pb Am Aa Ab cm ca cb g inv (digs 18446744073709551616 M) a b w (by have:=zJ hZ.blk 0;simpa using this) (by have:=zJ hZ.blk 1;simpa using this) (qw hZ.blk) hZ.m hP ha hPa hb hPb hla hlb (by rw [zc (by omega)];omega) (by rw [zc (by omega),hy];exact qP _ (by omega)) hZ.invLt (by rw [zc (by omega)];exact hZ.invV) hZ.small
 rw [hla,hlb,zc (by omega)] at hm
 refine hm.mono ?_
 rintro e w' ⟨A',c',o,rfl,hl,hO,hlt,hv,hB⟩
 exact ⟨A',c',o,rfl,hl,hO,bD hZ.invV hlt hv hx hy,hB⟩
end
theorem nR (P P':Nat→Prop) (A A':Option Addr) (c c':Nat) (a b:List Nat) (N W:Nat) (w:World) (h:RN w P A c a) (h':RN w P' A' c' b) (hP:∀ b,P b→b<w.heap.size) (hP':∀ b,P' b→b<w.heap.size) (hN:val 18446744073709551616 a=N) (hW:val 18446744073709551616 b=W)
 (hodd:N % 2=1) (hgt:1<N) (hmay:zo N≤4096) (hla:a.length<40000) (hlb:b.length<40000) :
 Calls Tryz.prog 157 #[.slice A a.length c,.slice A' b.length c'] w fun e w'=>e=.returned (.bool (kP N W))∧Below w.heap.size w w':=by
 have hc:=fB P A c a N w h hP hN hodd hgt
 rw [qX hmay] at hc
 have Hc:=zF hc
 have hst:=xJ (W:=W) hodd hgt hmay
 have Hst:=zF hst
 have Htw:=zF (rR hgt hmay)
 have Hodd:=zF hodd
 have hlM:(digs 18446744073709551616 N).length≤40000:=by have:=ql (B:=18446744073709551616) (by omega) h.2.1;rw [hN] at this;omega
 have vd:=fun v=>zc (B:=18446744073709551616) (by omega) v
 clear hc hst hodd hmay
 go_enter Tryz.func157,Tryz.ntmps157
 go_wp2_with fail
 refine Hc.out.mono ?_
 rintro e w1 ⟨rfl,hB1⟩
 have zW1:=hB1.size
 have hr:=fX P' P A' A c' c b a w1 (h'.below hB1 hP') (h.below hB1 hP) (fun b hb=>by have:=hP' b hb;omega) (fun b hb=>by have:=hP b hb;omega) (by omega) (by omega) (by omega)
 rw [hN,hW] at hr
 have Hr:=zF hr
 clear hr
 go_wp2_with fail
 refine Hr.out.mono ?_
 rintro e w2 ⟨A2,c2,rfl,hO2,hB2⟩
 have hB02:=hB1.trans (hB2.mono zW1)
 have zW2:=hB2.size
 clear Hr Hc
 by_cases h0:W % N=0
 · have hs0:=Hst.out;rw [qK h0] at hs0;have Hs0:=zF hs0;rw [h0,qU];clear Hst hs0 h0;simp only [jI];go_wp2;go_ret;exact ⟨by rw [Hs0.out];rfl,hB02⟩
 have hs1:=Hst.out
 rw [qA h0,dL] at hs1
 have Hs1:=zF hs1
 have hWN:=qP W (show 0<N by omega)
 generalize hR:W % N=R at *
 have hla2:∀ k,jY N W k=R ^ ((N - 1) / 2 ^ uS (N - 1)*2 ^ k) % N:=fun k=>by rw [jY,hR]
 have Hla2:=zF hla2
 have hrlM:(digs 18446744073709551616 R).length≤(digs 18446744073709551616 N).length:=qg (by omega) (by omega)
 have hrl0:0<(digs 18446744073709551616 R).length:=by rw [jT (by omega) (by omega)];simp
 generalize hrl:(digs 18446744073709551616 R).length=rl at *
 have hng:((rl:Int)==0)=false:=by simpa using (by omega:¬ rl=0)
 have hof:=zF (xN 1 w2 (by omega))
 have Hrl:=zF hrl
 clear Hst hs1 hla2 hR hrl h0
 go_wp2_with fail
 refine hof.out.mono ?_
 rintro e w3 ⟨A3,c3,rfl,hO3,hB3⟩
 have hB03:=hB02.trans (hB3.mono (by omega))
 have zW3:=hB3.size
 have hsb:=fU _ _ A A3 c c3 a _ w3 (h.below hB03 hP) hO3.rn (fun b hb=>by have:=hP b hb;omega) (fun b hb=>hb.2) (by omega) (by rw [vd,hN];omega)
 rw [vd,hN] at hsb
 have Hsb:=zF hsb
 clear hsb hof hO3
 go_wp2_with fail
 refine Hsb.out.mono ?_
 rintro e w4 ⟨A4,c4,rfl,hO4,hB4⟩
 have hB04:=hB03.trans (hB4.mono (by omega))
 have zW4:=hB4.size
 have hrd:RN w4 _ A4 c4 _:=hO4.rn
 have hbit:=fun (k:Nat) (hk:k≤4096)=>fu _ A4 c4 _ (k:Int) w4 hrd (by omega)
 simp only [vd] at hbit
 have hbv:=fun k:Nat=>(show xH (N - 1) (k:Int)=(N - 1) / 2 ^ k % 2 by simp [xH,show ¬ (k:Int)<0 by omega])
 simp only [hbv] at hbit
 have Hbit:=zF hbit
 have hO2':=hO2.below (hB3.trans (hB4.mono zW3)) (zH _)
 have Hgt:=zF hgt
 have Htl:Hid (∀ k,k<uS (N - 1)→(N - 1) / 2 ^ k % 2=0):=zF fun k hk=>nM hk
 have Htt:Hid ((N - 1) / 2 ^ uS (N - 1) % 2=1):=zF (fS (by omega))
 obtain ⟨lN,hlN⟩:=eV ((digs 18446744073709551616 (N - 1)).length)
 have hlN2:lN≤40000:=by rw [←hlN];exact ut (xF N 1) hlM
 have Hx1:Hid (∀ x,x=N - 1↔x+1=N):=zF fun x=>by omega
 rw [hlN] at Hbit
 generalize hs:uS (N - 1)=s at *
 clear Hsb hbit hbv hs hO2
 go_wp2_with fail
 go_loopw [9] (fun sv wr=>∃ k:Nat,sv=.int .i64 (k:Int)∧k≤s∧w4=wr) (fun sv _=>s - (intOf sv).toNat)
 case atStart=>exact ⟨0,rfl,j6 _,rfl⟩
 case round =>
  obtain ⟨k,rfl,hk,rfl⟩:=hrel;have hs4:=Htw.out;by_cases hks:k<s
  · have hb1:=Hbit.out k (by omega);rw [Htl.out k hks] at hb1;have Hb1:=zF hb1;clear hb1;go_wp2_with fail;refine Hb1.out.mono ?_;rintro e w' ⟨rfl,rfl⟩;go_wp2;go_roundw;case rel=>exact ⟨k+1,by go_num,by omega,by first | rfl | trivial⟩
    case measure=>simp [intOf];omega
  · obtain rfl:k=s:=by omega
    have hb1:=Hbit.out k (by omega);rw [Htt.out] at hb1;have Hb1:=zF hb1;clear hb1;have ltm:∀ X:World,Below w.heap.size w X→∀ b,P b→b<X.heap.size:=fun X hX b hb=>by have:=hP b hb;have:=hX.size;omega
    have Hnew:=zF (zAf P A c a N w4 (h.below hB04 hP) (ltm w4 hB04) hN Hgt.out Hodd.out hla);go_wp2_with fail;refine Hb1.out.mono ?_;rintro e w' ⟨rfl,rfl⟩;go_wp2_with fail;refine Hnew.out.mono ?_;rintro e w5 ⟨g,inv,Am,Ao,Ar,cm,co,cr,ol,zl,rfl,hg,hZ,hB5⟩;have hg5:=qw hZ.blk;have hB05:=hB04.trans (hB5.mono (by omega));have hO25:=hO2'.below hB5 (by omega);have hto:=zBp hZ (fun b hb=>hb.2) _ _ _ _ hO25.rn (fun b hb=>hb.2) (by rw [Hrl.out];exact hrlM);rw [vd,Hrl.out] at hto;have Hto:=zF hto;clear hto Hnew hO2' Hb1 Hbit;go_wp2_with fail;refine Hto.out.mono ?_;rintro e w6 ⟨A6,c6,o6,rfl,hl6,hO6,hv6,hB6⟩;have zW6:=hB6.size;have zW5:=hB5.size;have hB06:=hB05.trans (hB6.mono (by omega));have hB46:=hB5.trans (hB6.mono (by omega));have hO46:=hO4.below hB46 (zH _);have hsh:=rT _ A4 c4 _ k w6 hO46.rn (fun b hb=>hb.2) (by omega) (by omega);rw [vd,hlN] at hsh;have Hsh:=zF hsh;clear hsh Hto;go_wp2_with fail;refine Hsh.out.mono ?_;rintro e w7 ⟨A7,c7,rfl,hO7,hB7⟩;have zW7:=hB7.size;have hB57:=hB6.trans (hB7.mono (by omega));have hZ7:=hZ.below hB57 (fun b hb=>hb.2) hg5;have hB07:=hB06.trans (hB7.mono (by omega));have hO67:=hO6.below hB7 (zH _);have hex:=zAg hZ7 (fun b hb=>by have:=hb.2;omega) _ _ A6 A7 c6 c7 o6 _ R _ hO67.rn (fun b hb=>hb.2) hl6 hv6 hO7.rn (fun b hb=>hb.2) rfl;rw [hl6,vd] at hex;obtain ⟨E,hE⟩:=eV ((N - 1) / 2 ^ k);rw [hE] at Hla2 hex ⊢;have Hex:=zF hex;clear hex Hsh Htt Htl hO67 hO6 hl6 hv6;go_wp2_with fail;refine Hex.out.mono ?_;rintro e w8 ⟨A8,c8,o8,rfl,hl8,hO8,hv8,hB8⟩;have zW8:=hB8.size;have hB58:=hB57.trans (hB8.mono (by omega));have hZ8:=hZ.below hB58 (fun b hb=>hb.2) hg5;have hB08:=hB07.trans (hB8.mono (by omega));have hO48:=hO46.below (hB7.trans (hB8.mono zW7)) (by omega);obtain ⟨nN,hnN⟩:=eV ((digs 18446744073709551616 N).length);have HnN:=zF hnN;rw [hnN] at hl8 ⊢;have H8:Hid (R ^ E % N=jY N W 0):=zF (by rw [Hla2.out,kl,jS]);have hZw:=zF (fun X (hX:Below w8.heap.size w8 X)=>(⟨hZ8.below hX (fun b hb=>by have:=hb.2;omega) (by omega),hO48.below hX (by omega)⟩:_∧_));have Hl8:=zF hl8;have HlN:=zF hlN;clear Hex hO7 hO46 hZ7 hnN hl8 hlN hE hZ;go_wp2_with fail
    go_loopw [11,51] (fun vv iv wr=>∃ (j:Nat) (A1:Option Addr) (c1:Nat) (o:List Nat) (X:Nat),vv=.slice A1 nN c1∧iv=.int .i64 (j:Int)∧j≤k∧o.length=nN∧val 18446744073709551616 o=X*RM N % N∧Hid (X % N=jY N W j)∧OB wr w7.heap.size A1 c1 o ∧
     Hid (kP N W=(List.range' j (k - j)).any (yQ N W))∧Below w8.heap.size w8 wr) (fun _ iv _=>k - (intOf iv).toNat)
    case atStart=>exact ⟨0,A8,c8,o8,R ^ E,rfl,rfl,j6 _,Hl8.out,hv8,H8,hO8,Hs1,zO _ _⟩
    case round =>
     obtain ⟨j,A1,c1,o,X,rfl,rfl,hj,ho,hv,hX,hO,hany,hBr⟩:=hrel;have zwr:=hBr.size;have hB0r:=hB08.trans (hBr.mono (by omega));by_cases hjk:j<k
     · obtain ⟨hZr,hOr4⟩:=hZw.out wr hBr;have hany2:=hany.out;rw [yt _ hjk] at hany2;have hlk:yQ N W j=(decide (jY N W j=N - 1) || (decide (j=0) && decide (jY N W j=1))):=rfl;have hfr:=tB hZr (fun b hb=>by have:=hb.2;omega) _ A1 c1 o X hO.rn (fun b hb=>hb.2) (ho.trans HnN.out.symm) hv;rw [ho,hX.out] at hfr;generalize hL:jY N W j=L at *;have hLlt:L<N:=by rw [←hL];exact qP _ (by omega)
       have HL:=zF hL;have Hfr:=zF hfr;have HX:=hX;have Hlk:=zF hlk;have Hany2:=zF hany2;have Hv:=zF hv;have Ho:=zF ho;clear hfr hany hany2 hlk hX hL hv ho;go_wp2_with fail;refine Hfr.out.mono ?_;rintro e w9 ⟨A9,c9,rfl,hO9,hB9⟩;have zw9:=hB9.size;have hcm:=wL _ _ A9 A4 c9 c4 _ _ w9 hO9.rn (hOr4.below hB9 (by omega)).rn;rw [vd,vd,HlN.out] at hcm;have hbs:=fun n=>vJ _ A9 c9 _ (w9.drewN n) (hO9.rn.drewN n);simp only [vd] at hbs;have Hbs:=zF hbs;have hB9r:=hBr.trans (hB9.mono (by omega));clear hbs;by_cases heq:L=N - 1
       · have hyes:kP N W=true:=by rw [Hany2.out,Hlk.out,qX heq];rfl
         have Hyes:=zF hyes;rw [heq,gp] at hcm;rw [heq] at *;have Hcm:=zF hcm;clear hyes hcm;go_wp2_with fail;refine Hcm.out.mono ?_;rintro e w10 ⟨rfl,n10,rfl⟩;go_wp2;go_ret;exact ⟨by rw [Hyes.out];rfl,qR (hB08.trans (hB9r.mono (by omega))) n10⟩
       · have hne:(jo L (N - 1)==0)=false:=by
          rcases jb L (N - 1) with ⟨_,h2⟩ | ⟨h1,_⟩ | ⟨_,h2⟩
          · rw [h2];rfl
          · exact absurd h1 heq
          · rw [h2];rfl
         generalize jo L (N - 1)=cz at *;have Hcm:=zF hcm;have hB10:=fun n=>qR hB9r n;obtain ⟨HZ10,_⟩:=hZw.out w9 hB9r;have hml:=fun n=>mmulz ((hZw.out (w9.drewN n) (hB10 n)).1) (fun b hb=>by have:=hb.2;show b<w9.heap.size;omega) _ _ A1 A1 c1 c1 o o X X ((hO.below hB9 (zH _)).rn.drewN n) (fun b hb=>hb.2) (Ho.out.trans HnN.out.symm) Hv.out ((hO.below hB9 (zH _)).rn.drewN n) (fun b hb=>hb.2) (Ho.out.trans HnN.out.symm) Hv.out;simp only [HnN.out] at hml;have Hml:=zF hml;have Hsucc:Hid (X*X % N=jY N W (j+1)):=zF (by rw [dW,HL.out,←HX.out,←vZ]);clear hcm hml;by_cases hj0:j=0
         · subst hj0;by_cases hL1:L=1
           · have hyes:kP N W=true:=by rw [Hany2.out,Hlk.out,qX hL1,qX rfl];simp
             have Hyes:=zF hyes;have hb1:zo L=1:=by rw [hL1];rfl
             rw [hb1] at Hbs;clear hyes hb1 Hml Hsucc Hany2 Hlk hL1;go_wp2_with fail;refine Hcm.out.mono ?_;rintro e w10 ⟨rfl,n10,rfl⟩;go_wp2_with fail;refine (Hbs.out n10).mono ?_;rintro e w11 ⟨rfl,rfl⟩;go_wp2;go_ret;exact ⟨by rw [Hyes.out];rfl,qR (hB08.trans (hB9r.mono (by omega))) n10⟩
           · have hno:kP N W=(List.range' (0+1) (k - (0+1))).any (yQ N W):=by rw [Hany2.out,Hlk.out,qb hL1,qb heq];simp
             have Hno:=zF hno;have hnb1:((zo L:Int)==1)=false:=by
              have:zo L≠1:=fun h1=>by
               have h2:=jw (x:=L) (k:=1) (by omega);rcases za L with h3 | h3
               · subst h3;rw [ka] at h1;omega
               · omega
              simpa using (show ¬ (zo L:Int)=1 by omega)
             generalize zo L=nb at *;clear hno Hany2 Hlk hL1;go_wp2_with fail;refine Hcm.out.mono ?_;rintro e w10 ⟨rfl,n10,rfl⟩;go_wp2_with fail;refine (Hbs.out n10).mono ?_;rintro e w11 ⟨rfl,rfl⟩;have Hm:=zF (Hml.out n10);clear Hml;go_wp2_with fail;refine Hm.out.mono ?_;rintro e w12 ⟨A12,c12,o12,rfl,hl12,hO12,hv12,hB12⟩;have hBr12:=(hB10 n10).trans (hB12.mono (by show w8.heap.size≤w9.heap.size;omega));have hO12':OB w12 w7.heap.size A12 c12 o12:=hO12.mono (by show w7.heap.size≤w9.heap.size;omega);go_wp2;go_roundw;case rel=>exact ⟨1,A12,c12,o12,X*X,rfl,by first | rfl | go_num,by omega,hl12,hv12,Hsucc,hO12',Hno,hBr12⟩
             case measure=>simp [intOf];omega
         · have hno:kP N W=(List.range' (j+1) (k - (j+1))).any (yQ N W):=by rw [Hany2.out,Hlk.out,qb hj0,qb heq];simp
           have Hno:=zF hno;have tj:((j:Int)==0)=false:=by simpa using hj0
           clear hno Hany2 Hlk;go_wp2_with fail;refine Hcm.out.mono ?_;rintro e w10 ⟨rfl,n10,rfl⟩;have Hm:=zF (Hml.out n10);clear Hml;go_wp2_with fail;refine Hm.out.mono ?_;rintro e w12 ⟨A12,c12,o12,rfl,hl12,hO12,hv12,hB12⟩;have hBr12:=(hB10 n10).trans (hB12.mono (by show w8.heap.size≤w9.heap.size;omega));have hO12':OB w12 w7.heap.size A12 c12 o12:=hO12.mono (by show w7.heap.size≤w9.heap.size;omega);go_wp2;go_roundw;case rel=>exact ⟨j+1,A12,c12,o12,X*X,rfl,by go_num,by omega,hl12,hv12,Hsucc,hO12',Hno,hBr12⟩
           case measure=>simp [intOf];omega
     · obtain rfl:j=k:=by omega
       have hend:=hany.out;rw [fC] at hend;have Hend:=zF hend;clear hend hany hX;go_wp2;go_ret;exact ⟨by rw [Hend.out];rfl,hB0r⟩
end Go.Proofs.YtmlbicgpehchhaaGreat
namespace Go.Proofs.YtmlbicgpehchhaaGreat
open Go.RowKit
attribute [local go_sem] Oper.semAt_some
def xn:List Nat:=[2,3,5,7,11,13,17,19,23,29,31,37]
def FewV (base k:Nat) (b:Option Addr×Nat) (W:World):Prop:=OB W base b.1 b.2 [xn.getD k 0]
def zCn (_:Nat) (b:Option Addr×Nat):Array Value:=#[.slice b.1 1 b.2]
theorem mi {k:Nat}(h:k<12):0<xn.getD k 0∧xn.getD k 0<18446744073709551616∧digs 18446744073709551616 (xn.getD k 0)=[xn.getD k 0]:=by
 have h1:0<xn.getD k 0∧xn.getD k 0<100:=by
  match k,h with
  | 0,_ | 1,_ | 2,_ | 3,_ | 4,_ | 5,_ | 6,_ | 7,_ | 8,_ | 9,_ | 10,_ | 11,_=>decide
 refine ⟨h1.1,by omega,?_⟩;rw [jT (by omega) (by omega),qG (by omega),qn (by omega),qU]
theorem zCm (w:World) (t:Nat) (h:t<12):Sem.run Tryz.prog (Instr.index 200 (.agg #[.int .u64 2,.int .u64 3,.int .u64 5,.int .u64 7,.int .u64 11,.int .u64 13,.int .u64 17,.int .u64 19,.int .u64 23,.int .u64 29,.int .u64 31,.int .u64 37]) (.int .i64 (t:Int))) w=.ok (.int .u64 (xn.getD t 0:Int)) w:=by
 match t,h with
 | 0,_ | 1,_ | 2,_ | 3,_ | 4,_ | 5,_ | 6,_ | 7,_ | 8,_ | 9,_ | 10,_ | 11,_=>rfl
theorem zBx (w:World):zBI Tryz.prog 158 #[] zCn (FewV w.heap.size) zBK nC (fun _ _=>True) 0 12 true w:=by
 intro n l J J' Jx W _ hW _ hJ hJ' hJx _ hT _ hY h0;have HT:=zF hT;have HY:=zF hY;have zW:=hW.size;clear hT hY;refine callsIn_of_wp Tryz.func158 rfl trivial ?_ rfl;simp only [Tryz.ntmps158,jF,qh,jI,Nat.reduceAdd,Nat.reduceSub,wt,ws,yx,xI,kI,kN];gi_wp2;gi_loopw [5] (fun i wr=>∃ t:Nat,t≤12∧i=.int .i64 (t:Int)∧J t wr∧W.heap.size≤wr.heap.size) (fun i _=>12 - (intOf i).toNat);case atStart=>exact ⟨0,by omega,rfl,h0,zH _⟩
 case round =>
  obtain ⟨t,ht,rfl,hj,hz⟩:=hrel;by_cases hlt:t<12
  · have hof:=xN (xn.getD t 0) wr (mi hlt).2.1;rw [(mi hlt).2.2] at hof;have Hof:=zF ((callsIn_wide (n:=n - 1)).2 hof);clear hof;have hix:=zCm wr t hlt;have HFv:Hid (∀ A c X,OB X wr.heap.size A c [xn.getD t 0]→FewV w.heap.size t (A,c) X):=zF fun A c X h=>h.mono (by omega);generalize hp:xn.getD t 0=p at *;clear hp;gi_wp2;refine ⟨trivial,Hof.out.mono ?_⟩;rintro e w1 ⟨A1,c1,rfl,hO1,hB1⟩;have hj1:=HT.out t wr w1 ht hj ⟨hB1.os,hB1.tape,hB1.output,hB1.size,fun b hb _=>hB1.block b hb⟩;have zw1:=hB1.size;obtain ⟨fn,tmps,assign,body,hy,hRo⟩:=HY.out t _ w1 hj1 (HFv.out A1 c1 w1 hO1) hlt (by omega);simp only [qh,jI,jc];dsimp only [zCn] at hy;gi_wp2;refine hRo.mono ?_;rintro e W3 (⟨rfl,hJ3,_,hz3⟩ | ⟨rfl,hJx3,_⟩)
    · have zW3:=hz3.size;gi_wp2;go_roundw;case rel=>exact ⟨t+1,by omega,by go_num,hJ3,by omega⟩
      case measure=>simp [intOf];omega
    · gi_wp2;refine qS (results_none rfl _ _ _) rfl ?_;exact ⟨⟨_,rfl⟩,.inr ⟨t+1,by omega,by omega,hJx3⟩⟩
  · obtain rfl:t=12:=by omega
    have hjn:=HT.out 12 _ _ (zH _) hj (World.grownBy.refl wr none);gi_wp2;go_end0;exact ⟨⟨_,rfl⟩,.inl hjn⟩
theorem zCU (w:World) (f:Fn) (a b:Array Value):(binOp .eql 158 (.func f a b) .nilFunc).run Tryz.prog w=.ok (.bool false) w:=by kernel_rfl
def wz (N k:Nat):Bool:=(List.range k).all fun i=>kP N (xn.getD i 0)
theorem fM (N k:Nat):wz N (k+1)=(wz N k && kP N (xn.getD k 0)):=by
 rw [wz,List.range_succ,List.all_append,List.all_cons,List.all_nil,Bool.and_true];rfl
theorem gU {N k:Nat}(h:wz N k=false):∀ {m},k≤m→wz N m=false
 | 0, hm => by obtain rfl : k = 0 := by omega
               exact h
 | m + 1, hm => by
   rcases zz m k with h1 | h1
   · obtain rfl:k=m+1:=by omega
     exact h
   · rw [fM,gU h h1,Bool.false_and]
theorem zAQ (P:Nat→Prop) (A:Option Addr) (c:Nat) (a:List Nat) (N:Nat) (w:World) (h:RN w P A c a) (hP:∀ b,P b→b<w.heap.size) (hN:val 18446744073709551616 a=N)
 (hodd:N % 2=1) (hgt:1<N) (hmay:zo N≤4096) (hla:a.length<40000) :
 Calls Tryz.prog 117 #[.slice A a.length c,.func (.func 158) #[] #[]] w fun e w'=>e=.returned (.bool (wz N 12))∧Below w.heap.size w w':=by
 obtain ⟨s,hs⟩:=eV w.heap.size
 have m0:=zP w (.cells #[.slice A a.length c] 23)
 have hB0:Below w.heap.size w (w.alloc (.cells #[.slice A a.length c] 23)):=(zO _ w).alloc (zH _) _
 have hz0:(w.alloc (.cells #[.slice A a.length c] 23)).heap.size=s+1:=by simp [hs]
 rw [hs] at m0 hB0 hP ⊢
 have hnil:=fun w=>zCU w (.func 158) #[] #[]
 have Hmay:=zF hmay
 have Hodd:=zF hodd
 have Hgt:=zF hgt
 clear hodd hgt hmay
 refine (callsIn_wide (n:=6)).1 ?_
 refine callsIn_of_wp_marks Tryz.func117 rfl trivial ?_ rfl
 simp only [Tryz.ntmps117,jF,qh,jI,Nat.reduceAdd,Nat.reduceSub,wt,ws,yx,xI,kI,kN]
 have d0:=zJ m0 0
 simp only [zK,zL] at d0
 have hc:=fun (V:World) (hV:RN V P A c a) (hs:∀ b,P b→b<V.heap.size)=>fB P A c a N V hV hs hN Hodd.out Hgt.out
 rw [qX Hmay.out] at hc
 have Hc:=zF hc
 have ha0:=h.below hB0 hP
 have hP0:∀ b,P b→b<(w.alloc (.cells #[.slice A a.length c] 23)).heap.size:=fun b hb=>by have:=hP b hb;omega
 clear hc
 gi_wp2
 refine wpIn_wide.2 ?_
 go_step3
 generalize w.alloc (.cells #[.slice A a.length c] 23)=W0 at *
 go_wp2_with fail
 refine (Hc.out _ ha0 hP0).mono ?_
 rintro e' W1 ⟨rfl,hB1⟩
 rw [hz0] at hB1
 have hB01:=hB0.trans (hB1.mono (by omega))
 have zW1:=hB1.size
 obtain ⟨q,hq⟩:=eV W1.heap.size
 have n0:=(hB1.block s (by omega)).trans m0
 have b1:=zP W1 (.cells #[.bool true] 4)
 have hB2:Below q W1 (W1.alloc (.cells #[.bool true] 4)):=by rw [←hq];exact (zO _ W1).alloc (zH _) _
 have hz2:(W1.alloc (.cells #[.bool true] 4)).heap.size=q+1:=by simp [hq]
 rw [hq] at b1
 have n2:=(hB2.block s (by omega)).trans n0
 clear Hc d0 n0
 go_wp2
 go_step3
 go_wp2
 generalize W1.alloc (.cells #[.bool true] 4)=W2 at *
 have hBw2:=hB01.trans (hB2.mono (by omega))
 have zq:s+1≤q:=by omega
 have Hq:=zF hq
 have hseq:=zBx W2
 rw [hz2] at hseq
 have Hseq:=zF hseq
 have ha:=fun X (hX:Below s w X)=>h.below hX hP
 have HPa:Hid (∀ X:World,Below s w X→∀ b,P b→b<X.heap.size):=zF fun X hX b hb=>by have:=hP b hb;have:=hX.size;omega
 clear hseq hB1 zW1 m0 ha0 hP0 hB0 hz0 hq hB2 hB01
 have hInv:∀ v:Bool,OwnFrom W2.heap.size (fun (k:Nat) X=>X.heap[q]?=some (.cells #[.bool v] 4 (0,0))∧Below q W2 X∧Hid (wz N k=v)):=by
  rintro v k X X' row ⟨h1,h2,h3⟩ hg' hr;have hr':=fun r e=>(hr r e).2;exact ⟨(yK hg' hr' h1 rfl).trans h1,ownFrom_below (by omega) (by omega) k X X' row h2 hg' hr,h3⟩
 have HInv:=zF hInv
 clear hInv
 refine (wpIn_wide (n:=6)).1 ?_
 refine' pQ (by omega) (gf:=158) (lb:=#[]) rfl (enters_of Tryz.func158 (by kernel_rfl) rfl)
  Hseq.out (fun _ _=>trivial) (fun _ _ _ _ _ _ _ _=>trivial) yM (zO _ _) (fun _ _=>rfl) (fun k b X l o o' hv hl hc=>?hVp)
  (fun k X=>X.heap[q]?=some (.cells #[.bool true] 4 (0,0))∧Below q W2 X∧Hid (wz N k=true)) (fun k X=>X.heap[q]?=some (.cells #[.bool true] 4 (0,0))∧Below q W2 X∧Hid (wz N k=true))
  (fun cc k X=>cc=.exit 0∧X.heap[q]?=some (.cells #[.bool false] 4 (0,0))∧Below q W2 X∧Hid (wz N k=false))
  (HInv.out true) (HInv.out true) (fun cc=>?hIx) (fun _ _ _ _=>trivial) (fun B k A C _ _ hi ht=>?hIT) (fun h=>by cases h) ⟨b1,zO _ _,zF rfl⟩ _ ?assign ?body ?done ?stop
 case hVp=>exact hv.same fun b o' ho hc'=>(qY (fun e=>by subst e;rw [hl] at ho;cases ho;rw [hc] at hc';cases hc')).trans ho
 case hIx=>exact fun k X X' row hi hg' hr=>⟨hi.1,HInv.out false k X X' row hi.2 hg' hr⟩
 case hIT=>exact xV (HInv.out true) hi ht
 case assign =>
  intro l k b X K hK;dsimp only [zCn];gi_wp2;exact hK
 case body =>
  rintro l k ⟨A2,c2⟩ X ⟨h1,h2,h3⟩ hv hlt hm;have zX:=h2.size;have hO2:OB X (q+1) A2 c2 [xn.getD k 0]:=hv;have hbx:=hBw2.trans (h2.mono (by omega));have d0:=zJ ((h2.block s (by omega)).trans n2) 0;simp only [zK,zL] at d0;have hcl:=nR P _ A A2 c c2 a _ N (xn.getD k 0) X (ha X hbx) hO2.rn (HPa.out X hbx) (fun b hb=>hb.2) hN (by simp) Hodd.out Hgt.out Hmay.out hla (by simp);have hsucc:=fM N k;rw [h3.out,Bool.true_and] at hsucc;rw [←hsucc] at hcl;simp only [qh,jI,jc] at hcl;have Hcl:=zF hcl;clear hcl hsucc h3 hO2 hv;gi_wp2;refine ⟨trivial,(callsIn_wide.2 Hcl.out).mono ?_⟩;rintro e' X1 ⟨rfl,hB3⟩;have y1:=(hB3.block q (qw h1)).trans h1;have y2:=zJ y1 0;simp only [zK,zL] at y2;have y3:=zv y1 0;have hBx1:Below q W2 X1:=h2.trans (hB3.mono (by omega));have hK1:jP W2.heap.size (W2.heap.size+2) 0 X X1:=jP.below hB3 (zH _);have hq4:(X1.setCell ⟨q,0,none⟩ (.bool false)).heap[q]?=some (.cells #[.bool false] 4 (0,0)):=by simpa using jm y1 0 (.bool false)
  have hB4:Below q W2 (X1.setCell ⟨q,0,none⟩ (.bool false)):=hBx1.setCell (p:=⟨q,0,none⟩) (zH _) _;have hK4:jP W2.heap.size (W2.heap.size+2) 0 X (X1.setCell ⟨q,0,none⟩ (.bool false)):=hK1.trans (jP.setCell _ _ _ _ (.inl (by show q<_;omega)) _);rcases hfk:wz N (k+1) with _ | _
  · have Hfk:=zF hfk;have HK4:=zF hK4;have HB4:=zF hB4;have Hq4:=zF hq4;clear hfk hK4 hB4 hq4 y1 h1;gi_wp2;exact ⟨HK4.out,rfl,Hq4.out,HB4.out,Hfk⟩
  · have Hfk:=zF hfk;have HK1:=zF hK1;have HB1:=zF hBx1;have Hy1:=zF y1;clear hfk hK4 hB4 hq4 y1 h1 hK1 hBx1;gi_wp2;exact ⟨HK1.out,trivial,Hy1.out,HB1.out,Hfk⟩
 case done =>
  rintro D X hD ⟨h1,h2,h3⟩ hK;have hz:=h2.size;have d2:=zJ h1 0;simp only [zK,zL] at d2;have hb:Below s w (X.putObj D (.deferred none)):=(hBw2.trans (h2.mono (by omega))).trans ⟨rfl,rfl,rfl,by simp,fun b hb=>qY (by omega)⟩;clear h1 h2;gi_wp2;go_wp2;rw [jE];exact ⟨by simp,.inl ⟨_,_,rfl,run_takeDeferred hK,_,results_tmp rfl _ _ _,by rw [h3.out];rfl,hb⟩⟩
 case stop =>
  rintro D cc k X hD _ hk ⟨rfl,h1,h2,h3⟩ hK;have hz:=h2.size;have d2:=zJ h1 0;simp only [zK,zL] at d2;have hb:Below s w (X.putObj D (.deferred none)):=(hBw2.trans (h2.mono (by omega))).trans ⟨rfl,rfl,rfl,by simp,fun b hb=>qY (by omega)⟩;have h4:=zF (gU h3.out hk);clear h1 h2 h3;gi_wp2;go_wp2;rw [jE];exact ⟨by simp,.inl ⟨_,_,rfl,run_takeDeferred hK,_,results_tmp rfl _ _ _,by rw [h4.out];rfl,hb⟩⟩
end Go.Proofs.YtmlbicgpehchhaaGreat
namespace Go.Proofs.YtmlbicgpehchhaaGreat
open Go.RowKit
theorem zAx (w:World):Calls Tryz.prog 118 #[] w fun e w'=>e=.returned (.func (.func 158) #[] #[])∧w=w':=by
 go_enter Tryz.func118,Tryz.ntmps118;go_wp2;go_ret;exact ⟨rfl,rfl⟩
def dA (B V k D G:Nat):Prop:=G<B∧V / (B ^ k*D)≤G
theorem zAN {B k D g V x:Nat}(hB:0<B) (hD:0<D) (hq:V / (B ^ k*D)≤g) (he:x+B ^ k*(g*D)=V):x<B ^ k*D:=by
 have h5:=Nat.lt_mul_div_succ V (show 0<B ^ k*D from Nat.mul_pos (qZ hB) hD);have h6:B ^ k*D*(V / (B ^ k*D)+1)≤B ^ k*D*(g+1):=zi _ (by omega);have e:B ^ k*D*(g+1)=B ^ k*(g*D)+B ^ k*D:=by rw [zr,jS,zd,zj D]
 omega
theorem nW {y n1:Nat}(hn:(digs 4294967296 y).length=n1+1):∃ top sc,dg (digs 4294967296 y) n1=top∧0<top∧top<4294967296∧4294967296 / (top+1)=sc∧0<sc∧sc<4294967296∧(digs 4294967296 (sc*y)).length=n1+1∧0<dg (digs 4294967296 (sc*y)) n1∧4294967296 ^ n1≤y:=by
 have hB:(2:Nat)≤4294967296:=by omega
 have hlt:=kQ hB y;have hy0:0<y:=by
  rcases za y with h | h
  · subst h;rw [qU] at hn;simp at hn
  · exact h
 have hlow:=gJ hB hy0;rw [hn,jU] at hlow;obtain ⟨top,ht⟩:=eV (dg (digs 4294967296 y) n1);have htl:top<4294967296:=by rw [←ht];exact jZ (by omega) hlt _
 have ey:y=val 4294967296 ((digs 4294967296 y).take n1)+4294967296 ^ n1*top:=by
  rw [←ht,←qD,←hn,jN,zc hB]
 have hr:val 4294967296 ((digs 4294967296 y).take n1)<4294967296 ^ n1:=by
  have:=jf (B:=4294967296) (l:=(digs 4294967296 y).take n1) fun x hx=>hlt x (qW hx);rwa [qB,qc (by omega)] at this
 have h0:0<top:=by
  rcases za top with h | h
  · subst h;omega
  · exact h
 obtain ⟨sc,hsc⟩:=eV (4294967296 / (top+1));have hs1:sc*(top+1)≤4294967296:=by rw [←hsc];exact Nat.div_mul_le_self _ _
 have hs0:0<sc:=by rw [←hsc];exact Nat.div_pos (by omega) (by omega)
 have hsl:sc<4294967296:=by rw [←hsc];exact Nat.div_lt_self (by omega) (by omega)
 have hup:sc*y<4294967296 ^ (n1+1):=by
  have k1:y<4294967296 ^ n1*(top+1):=by rw [zr,jS];omega
  have k2:sc*y<sc*(4294967296 ^ n1*(top+1)):=vC k1 hs0;have k3:sc*(4294967296 ^ n1*(top+1))=4294967296 ^ n1*(sc*(top+1)):=jR _ _ _;have k4:4294967296 ^ n1*(sc*(top+1))≤4294967296 ^ n1*4294967296:=zi _ hs1;rw [zu];omega
 have hlo2:4294967296 ^ n1≤sc*y:=zQ hlow (Nat.le_mul_of_pos_left _ hs0);have hlen:(digs 4294967296 (sc*y)).length=n1+1:=by
  refine Nat.le_antisymm (qp hB hup) ?_;have:=qg hB (show y≤sc*y from Nat.le_mul_of_pos_left _ hs0);omega
 refine ⟨top,sc,ht,h0,htl,hsc,hs0,hsl,hlen,?_,hlow⟩;have ed:sc*y=val 4294967296 ((digs 4294967296 (sc*y)).take n1)+4294967296 ^ n1*dg (digs 4294967296 (sc*y)) n1:=by
  rw [←qD,←hlen,jN,zc hB]
 have hr2:val 4294967296 ((digs 4294967296 (sc*y)).take n1)<4294967296 ^ n1:=by
  have:=jf (B:=4294967296) (l:=(digs 4294967296 (sc*y)).take n1) fun x hx=>kQ hB (sc*y) x (qW hx);rwa [qB,qc (by omega)] at this
 rcases za (dg (digs 4294967296 (sc*y)) n1) with h | h
 · rw [h,jK] at ed;omega
 · exact h
def Tu (w:World) (b:Nat):Prop:=∃ cur,w.heap[b]?=some (.cells cur 69 (0,0))
theorem OB.tt {w:World}{base:Nat}{A:Option Addr}{c:Nat}{l:List Nat}(h:OB w base A c l):RN w (fun b=>b<w.heap.size∧Tu w b) A c l:=by
 have hr:=h.rn;obtain ⟨h1,h2,h3,h4⟩:=h;obtain ⟨⟨r1,r2,r3,r4⟩,r5⟩:=hr;refine ⟨⟨r1,r2,r3,fun hl=>?_⟩,r5⟩;obtain ⟨g,cur,rfl,hb,hg,hc⟩:=h4 hl;obtain ⟨ad,e,hin,hcell⟩:=r4 hl;cases e;exact ⟨_,rfl,⟨hin.2,cur,hg⟩,hcell⟩
theorem OB.rt {w:World}{base:Nat}{P:Nat→Prop}{A:Option Addr}{c:Nat}{l:List Nat}(h:OB w base A c l):RN w (fun b=>b<w.heap.size∧(P b∨Tu w b)) A c l:=RN.mono h.tt fun _ hb=>⟨hb.1,.inr hb.2⟩
theorem bz (P P':Nat→Prop) (A A':Option Addr) (c c':Nat) (x y:Nat) (w:World) (h:RN w P A c (digs 4294967296 x)) (h':RN w P' A' c' (digs 4294967296 y)) (hP:∀ b,P b→b<w.heap.size) (hl:(digs 4294967296 x).length<100000) (h0:0<y) (hs:x<y∨(digs 4294967296 y).length=1) :
 Calls Tryz.prog 129 #[.slice A (digs 4294967296 x).length c,.slice A' (digs 4294967296 y).length c'] w fun e w'=>∃ A1 c1 A2 c2,e=.returned (.tuple #[.slice A1 (digs 4294967296 (x / y)).length c1,.slice A2 (digs 4294967296 (x % y)).length c2])∧OB w' w.heap.size A1 c1 (digs 4294967296 (x / y))∧RN w' (fun b=>b<w'.heap.size∧(P b∨Tu w' b)) A2 c2 (digs 4294967296 (x % y))∧Below w.heap.size w w':=by
 have tc:=vW P P' A A' c c' x y w h h'
 by_cases hlt:x<y
 · rw [xY hlt] at tc;have Tc:=zF tc;have hd:x / y=0:=qn hlt;have hm:x % y=x:=qG hlt;rw [hd,hm,qU];clear tc hlt hs hd hm;go_enter Tryz.func129,Tryz.ntmps129;go_wp2_with fail;refine Tc.out.mono ?_;rintro e w1 ⟨rfl,nd,rfl⟩;go_wp2;go_ret2;exact ⟨none,0,A,c,rfl,OB.nil_ _ _,RN.drewN (h.mono fun b hb=>⟨hP b hb,.inl hb⟩) nd,qR (zO _ _) _⟩
 · have hn:(digs 4294967296 y).length=1:=by omega
   have hyB:y<4294967296:=by
    have:=jl (B:=4294967296) (by omega) y;rw [hn] at this;omega
   have hd1:digs 4294967296 y=[y]:=by
    rw [jT (by omega) h0,qG hyB,qn hyB,qU]
   have hcv:0≤jo x y:=by rcases jb x y with h | h | h <;> omega
   generalize jo x y=v at tc hcv;have hcv':¬ v<0:=by omega
   have Tc:=zF tc;obtain ⟨ad,rfl,_,q1⟩:=h'.at_ (i:=0) (by omega);rw [hd1] at q1 Tc;rw [hd1];have q1':w.cell? (ad.add 0)=some (.int .u64 (y:Int)):=q1;have q2:ad.add 0=ad:=rfl;rw [q2] at q1';have tS:=fun n=>fZ P A c _ y (w.drewN n) (h.drewN n) hP (wV x) hl h0 (by omega);rw [zc (by omega)] at tS;have TS:=zF tS;have hrB:x % y<4294967296:=Nat.lt_trans (qP _ h0) hyB;obtain ⟨r,hr⟩:=eV (x % y);rw [hr] at TS hrB;have Hr:=zF hrB;have Hrr:=zF hr;clear tc tS hlt hs hn hcv h' hr hrB hd1 q1 q2 hyB;go_enter Tryz.func129,Tryz.ntmps129;go_wp2_with fail;refine Tc.out.mono ?_;rintro e w1 ⟨rfl,nd,rfl⟩;go_wp2_with fail;refine (TS.out nd).mono ?_;rintro e w2 ⟨A1,c1,rfl,hO,hB⟩;have hdr:Dig [r]:=by intro x hx;rw [List.mem_singleton.1 hx];exact Hr.out
   have ht:=vG _ _ _ [r] _ (RN.one w2 r (by have:=Hr.out;omega)) hdr;have hO2:=(kA (c:=1) (w:=w2.alloc (.cells #[.int .u64 (r:Int)] 69)) (g:=w2.heap.size) (l:=[r]) (show Blk (w2.alloc (.cells #[.int .u64 (r:Int)] 69)) w2.heap.size [r] from zP w2 _) (base:=0) (j6 _) ⟨fun x hx=>by have:=hdr x hx;omega,by simp⟩ (by simp) (by unfold maxLen;omega)).trim32 hdr;have hvr:val 4294967296 [r]=r:=by simp
   rw [hvr] at ht hO2;have Ht:=zF ht;clear ht hdr hvr;go_wp2_with fail;refine Ht.out.mono ?_;rintro e w3 ⟨rfl,rfl⟩;go_wp2;go_ret2;exact ⟨A1,c1,some ⟨w2.heap.size,0,none⟩,(digs 4294967296 r).length,by rw [Hrr.out];rfl,hO.below ((zO w2.heap.size w2).alloc (zH _) _) (zH _),by rw [Hrr.out];exact hO2.rt,(Below.mk hB.os hB.tape hB.output hB.size hB.block:Below w.heap.size w w2).alloc hB.size _⟩
theorem na (P P':Nat→Prop) (A A':Option Addr) (c c':Nat) (x y:Nat) (w:World) (h:RN w P A c (digs 4294967296 x)) (h':RN w P' A' c' (digs 4294967296 y)) (hP:∀ b,P b→b<w.heap.size) (hP':∀ b,P' b→b<w.heap.size) (hl:(digs 4294967296 x).length<90000) (hge:y≤x) (hbig:1<(digs 4294967296 y).length) :
 Calls Tryz.prog 129 #[.slice A (digs 4294967296 x).length c,.slice A' (digs 4294967296 y).length c'] w fun e w'=>∃ A1 c1 A2 c2,e=.returned (.tuple #[.slice A1 (digs 4294967296 (x / y)).length c1,.slice A2 (digs 4294967296 (x % y)).length c2])∧OB w' w.heap.size A1 c1 (digs 4294967296 (x / y))∧RN w' (fun b=>b<w'.heap.size∧(P b∨Tu w' b)) A2 c2 (digs 4294967296 (x % y))∧Below w.heap.size w w':=by
 have tc:=vW P P' A A' c c' x y w h h'
 have hcv:0≤jo x y:=by rcases jb x y with h | h | h <;> omega
 generalize jo x y=v at tc hcv
 have hcv':¬ v<0:=by omega
 obtain ⟨n1,hn⟩:∃ n1,(digs 4294967296 y).length=n1+1:=⟨(digs 4294967296 y).length - 1,by omega⟩
 obtain ⟨top,sc,htop,ht0,htl,hsc,hs0,hsl,hDn,hDt,hlow⟩:=nW hn
 have hy0:0<y:=by have:=qZ (n:=n1) (show 0<4294967296 by omega);omega
 have hmono:=qg (B:=4294967296) (by omega) hge
 have hxl:=jl (B:=4294967296) (by omega) x
 have hxv:=zc (B:=4294967296) (by omega) x
 have hyv:=zc (B:=4294967296) (by omega) y
 have dx:=wV x
 have dy:=wV y
 generalize digs 4294967296 x=l at *
 generalize digs 4294967296 y=m at *
 obtain ⟨n,hn'⟩:=eV (n1+1)
 rw [hn'] at hn hDn
 obtain ⟨t,htt⟩:=eV (l.length+1 - n)
 have hXD:sc*x<4294967296 ^ t*(sc*y):=by
  have k1:4294967296 ^ l.length≤4294967296 ^ t*y:=by
   have:4294967296 ^ t*4294967296 ^ n1≤4294967296 ^ t*y:=zi _ hlow;rwa [←qI,show t+n1=l.length by omega] at this
  rw [jR];exact vC (zR hxl k1) hs0
 have T1:=zF fun W (hW:RN W P A c l) (hp:∀ b,P b→b<W.heap.size)=>fY P A c l sc W hW hp dx (by omega) hsl
 have T2:=zF fun W (hW:RN W P' A' c' m) (hp:∀ b,P' b→b<W.heap.size)=>fY P' A' c' m sc W hW hp dy (by omega) hsl
 rw [hxv] at T1
 rw [hyv,hn] at T2
 rw [hn] at tc
 rw [hn]
 have hqx:(sc*x) / (sc*y)=x / y:=Nat.mul_div_mul_left _ _ hs0
 have hrx:(sc*x) % (sc*y) / sc=x % y:=by rw [Nat.mul_mod_mul_left,Nat.mul_div_cancel_left _ hs0]
 generalize x % y=rr at *
 have hD0:0<sc*y:=Nat.mul_pos hs0 hy0
 have dD:=wV (sc*y)
 have hDv:=zc (B:=4294967296) (by omega) (sc*y)
 obtain ⟨D,hD⟩:=eV (sc*y)
 obtain ⟨X,hX⟩:=eV (sc*x)
 rw [hD] at hqx hrx hD0 dD hDv hDn hDt hXD T2
 rw [hX] at hqx hrx hXD T1
 have hnb:n<90000:=by omega
 have hlb:l.length<90000:=by omega
 have i1:(n:Int) - 1=(n1:Int):=by omega
 have i2:n1<n:=by omega
 have i3:((n:Int)==1)=false:=eqB (by omega)
 have i4:(l.length:Int)+1 - (n:Int)=(t:Int):=by omega
 have i5:(4294967296:Int) / ((top:Int)+1)=(sc:Int):=by rw [←hsc];simp
 have i5':(4294967296:Int).tdiv ((top:Int)+1)=(sc:Int):=by rw [kH (by omega)];exact i5
 have i6:((top:Int)+1==0)=false:=eqB (by omega)
 have i7:IntKind.u64.wrap ((top:Int)+1)=(top:Int)+1:=jD _ (by omega)
 have i8:IntKind.u64.wrap (sc:Int)=(sc:Int):=jD _ (by omega)
 have i9:¬ (top:Int)+1=0:=by omega
 obtain ⟨ad',rfl,hPad,q1⟩:=h'.at_ (i:=n1) (by omega)
 rw [htop] at q1
 have Htc:=zF tc
 have Hn1:=zF hn'
 have HXD:=zF hXD
 have Htt:=zF htt
 have Hqx:=zF hqx
 have Hrx:=zF hrx
 have HDv:=zF hDv
 have HDn:=zF hDn
 have HDt:=zF hDt
 have Hs0:=zF hs0
 have Hsl:=zF (show sc<4294967297 by omega)
 have HdD:=zF dD
 clear tc hn' hXD htt hqx hrx hDv hDn hDt hX hD hlow hxl hxv hyv hsc htop ht0 hbig hge hy0 hmono dx dy hs0 hsl htl hcv dD
 go_enter Tryz.func129,Tryz.ntmps129
 go_wp2_with fail
 refine Htc.out.mono ?_
 rintro e w1 ⟨rfl,nd,rfl⟩
 obtain ⟨W,hW⟩:=eW (w.drewN nd)
 have q2:W.cell? (ad'.add n1)=some (.int .u64 (top:Int)):=by rw [hW];exact q1
 have Hsz:=zF (show W.heap.size=w.heap.size by rw [hW];rfl)
 have hB0:Below w.heap.size w W:=by rw [hW];exact qR (zO _ _) _
 have hRa:RN W P A c l:=by rw [hW];exact h.drewN _
 have hRb:RN W P' (some ad') c' m:=by rw [hW];exact h'.drewN _
 rw [←hW]
 have T1':=zF (T1.out W hRa (by rw [Hsz.out];exact hP))
 clear hW q1 T1 hRa h h'
 go_wp2_with fail
 refine T1'.out.mono ?_
 rintro e w1 ⟨u0,rfl,hbu,hul,hDu,hvu,hB1⟩
 have hB1s:=hB1.size
 have hgu:=hbu.lt
 have T2':=zF (T2.out w1 (hRb.below hB1 (by rw [Hsz.out];exact hP')) (by have:=Hsz.out;intro b hb;have:=hP' b hb;omega))
 clear T2 hRb q2
 go_wp2_with fail
 refine T2'.out.mono ?_
 rintro e w2 ⟨v0,rfl,hbv,hvl,hDv0,hvv,hB2⟩
 have hB2s:=hB2.size
 have hOv:OB w2 w1.heap.size (some ⟨w1.heap.size,0,none⟩) (n+1) v0:=kA hbv (zH _) ⟨fun x hx=>by have:=hDv0 x hx;omega,by omega⟩ (by omega) (by unfold maxLen;omega)
 have htv:=vG _ _ _ _ _ hOv.rn hDv0
 have hRv:=(hOv.trim32 hDv0).rn
 rw [hvv,HDn.out,hvl] at htv
 rw [hvv,HDn.out] at hRv
 have Htv:=zF htv
 clear htv hOv hbv hvl hDv0 hvv T2' T1'
 go_wp2_with fail
 refine Htv.out.mono ?_
 rintro e w3 ⟨rfl,hw3⟩
 obtain rfl:w2=w3:=hw3
 have hmk1:=jH (P:=Tryz.prog) 26 69 (.int .u64 0) 8 Tryz.underlying26 j9 rfl .i64 .i64 t (by have:=Htt.out;omega) (by have:=Htt.out;omega)
 have hmk2:=jH (P:=Tryz.prog) 26 69 (.int .u64 0) 8 Tryz.underlying26 j9 rfl .i64 .i64 (n+1) (by omega) (by omega)
 simp only [vK,qe] at hmk2
 have htb:t≤90001:=by have:=Htt.out;omega
 go_wp2_with fail
 have hWw:=Hsz.out
 have hbu4:=((hbu.below hB2 hgu).alloc (.cells (madeCells #[.int .u64 0] t) 69)).alloc (.cells (madeCells #[.int .u64 0] (n+1)) 69)
 have hbq4:=(vA w2 t).alloc (.cells (madeCells #[.int .u64 0] (n+1)) 69)
 have hbw4:Blk ((w2.alloc (.cells (madeCells #[.int .u64 0] t) 69)).alloc (.cells (madeCells #[.int .u64 0] (n+1)) 69)) (w2.heap.size+1) (List.replicate (n+1) 0):=by
  have:=vA (w2.alloc (.cells (madeCells #[.int .u64 0] t) 69)) (n+1);simpa using this
 have hRv4:=(hRv.alloc_ (fun b hb=>hb.2) (.cells (madeCells #[.int .u64 0] t) 69)).alloc_ (fun b hb=>by have:=hb.2;simp;omega) (.cells (madeCells #[.int .u64 0] (n+1)) 69)
 have hB4:=((hB0.trans (hB1.mono (by omega))).trans (hB2.mono (by omega))).alloc (by omega) (.cells (madeCells #[.int .u64 0] t) 69) |>.alloc (by simp;omega) (.cells (madeCells #[.int .u64 0] (n+1)) 69)
 have Hs:=zF (vc t)
 clear hbu hRv hB0 hB1 hB2 hWw
 go_loopw [14] (fun iv wr=>∃ (k:Nat) (z:Int) (L qs Wl:List Nat),iv=.int .i64 z∧vT k z∧k≤t∧gZ 4294967296 X D L qs k∧Hid (L.length=l.length+1)∧Hid (qs.length=t)∧Hid (Wl.length=n+1)∧Dig L∧Dig qs∧Blk wr W.heap.size L∧Blk wr w2.heap.size qs∧Blk wr (w2.heap.size+1) Wl∧RN wr (In w1.heap.size w2.heap.size) (some ⟨w1.heap.size,0,none⟩) n (digs 4294967296 D)∧Below w.heap.size w wr) (fun iv _=>(intOf iv+1).toNat)
 case atStart=>exact ⟨t,_,u0,List.replicate t 0,_,rfl,Hs.out,by omega,by rw [←hvu];exact gZ.start (by simp) (by rw [hvu];exact HXD.out),zF hul,zF (by simp),zF (by simp),hDu,by intro x hx;simp at hx;omega,hbu4,hbq4,hbw4,hRv4,hB4⟩
 case round =>
  obtain ⟨k,z,L,qs,Wl,rfl,hz,hk,hQ,HL,Hqs,HW,hDL,hDq,hbu,hbq,hbw,hRD,hB⟩:=hrel;clear hbu4 hbq4 hbw4 hRv4 hB4 hvu hul hDu;rcases hz with ⟨rfl,rfl⟩ | ⟨j,rfl,rfl⟩
  · obtain ⟨v1,v2⟩:=hQ.fin;rw [Hqx.out] at v1;have hws:=hB.size;have hWw:=Hsz.out;have hOu:=kA (c:=l.length+1) hbu (base:=w.heap.size) (by omega) ⟨fun x hx=>by have:=hDL x hx;omega,by have:=HL.out;omega⟩ (by have:=HL.out;omega) (by unfold maxLen;omega);have hOq:=kA (c:=t) hbq (base:=w.heap.size) (by omega) ⟨fun x hx=>by have:=hDq x hx;omega,by have:=Hqs.out;omega⟩ (by have:=Hqs.out;omega) (by unfold maxLen;omega);have tu:=vG _ _ _ _ _ hOu.rn hDL;have hOu':=hOu.trim32 hDL;have tq:=fun w h=>vG (fun b=>b<w.heap.size) (some ⟨w2.heap.size,0,none⟩) t qs w h hDq;have hOq':=hOq.trim32 hDq;rw [HL.out] at tu;have hlu:(digs 4294967296 (val 4294967296 L)).length<100000:=by have:=ql (B:=4294967296) (by omega) hDL;have:=HL.out;omega
    have ts:=fZ _ _ _ _ sc _ hOu'.rn (fun b hb=>hb.2) (wV _) hlu Hs0.out Hsl.out;rw [v1] at hOq' tq;rw [Hqs.out] at tq;have Hv6:=zF (show val 4294967296 (digs 4294967296 (val 4294967296 L)) / sc=rr by rw [v2,zc (B:=4294967296) (by omega),Hrx.out]);have Tu:=zF tu;have Ts:=zF ts;have Tq:=zF tq;have hqu:RN _ (fun b=>b<_) (some ⟨w2.heap.size,0,none⟩) t qs:=hOq.rn.mono fun b hb=>hb.2;clear hQ hDL hDq hbu hbq hbw hRD hOu hOu' tu ts tq hlu v1 v2 hOq hWw;go_wp2_with fail;refine Tu.out.mono ?_;rintro e w5 ⟨rfl,rfl⟩;go_wp2_with fail;refine Ts.out.mono ?_;rintro e w6 ⟨A6,c6,rfl,hO6,hB6⟩;go_wp2_with fail;refine (Tq.out w6 ((hqu.below hB6 fun b hb=>hb).mono fun b hb=>zR hb hB6.size)).mono ?_;rintro e w7 ⟨rfl,rfl⟩;go_wp2;go_ret2;exact ⟨_,_,A6,c6,by rw [Hv6.out];rfl,hOq'.below hB6 (zH _),by rw [←Hv6.out];exact hO6.rt,hB.trans (hB6.mono hws)⟩
  · have hLl:=HL.out;have hDl:=HDn.out;have e1:=Hn1.out;have hjt:=Htt.out;have hDd:=HdD.out;obtain ⟨hz0,hQB,hge⟩:=tN (k:=j) e1 hDL hDd hDl (by omega) HDt.out (by rw [HDv.out];exact hQ.2);rw [HDv.out] at hQB hge;have d1:=hRD.cells n1 (by omega);obtain ⟨y0,hy0⟩:=eV (j+n);obtain ⟨y1,hy1⟩:=eV (j+n1);rw [hy0,hy1] at hge;have r0:=hbu.cell (i:=y0) (by omega);have r1:=hbu.cell (i:=y1) (by omega);rw [xZ] at d1;obtain ⟨a0,ha0⟩:=eV (dg L y0);obtain ⟨a1,ha1⟩:=eV (dg L y1);obtain ⟨vt,hvt⟩:=eV (dg (digs 4294967296 D) n1);have hvp:=HDt.out;have la0:=hDL.dgLt y0;have la1:=hDL.dgLt y1;rw [ha0] at r0 hge la0;rw [ha1] at r1 hge la1;rw [hvt] at d1 hge hvp;obtain ⟨tt,htt⟩:=eV (a0*4294967296+a1);rw [htt] at hge;obtain ⟨G0,hG0⟩:=eV (tt / vt);rw [hG0] at hge;have hG0t:G0≤tt:=by rw [←hG0];exact wg _ _
    have f0:(a0:Int)*4294967296+(a1:Int)=(tt:Int):=by omega
    have f1:(tt:Int) / (vt:Int)=(G0:Int):=by rw [←Int.natCast_ediv,hG0]
    have f1':(tt:Int).tdiv (vt:Int)=(G0:Int):=by rw [kH (by omega)];exact f1
    have f2:IntKind.u64.wrap ((a0:Int)*4294967296)=(a0:Int)*4294967296:=jD _ (by omega);have f3:IntKind.u64.wrap (tt:Int)=(tt:Int):=jD _ (by omega);have f4:IntKind.u64.wrap (G0:Int)=(G0:Int):=jD _ (by omega);have f5:((vt:Int)==0)=false:=eqB (by omega);have f6:¬ vt=0:=by omega
    have c0:(j:Int)+(n:Int)=(y0:Int):=by omega
    have c1':(y0:Int) - 1=(y1:Int):=by omega
    have b0:(y0:Int)<(l.length:Int)+1:=by omega
    have b1:(y1:Int)<(l.length:Int)+1:=by omega
    have Hz0:=zF hz0;have Hjk:Hid (j+n+1≤l.length+1):=zF (by omega);have hQf:=zF hQB;have hgf:=zF hge;have Hy0:=zF hy0;have hjb:j<90001:=by omega
    have hy0b:y0<200000:=by omega
    clear hLl hDl e1 hjt hDd hz0 hQB hge hy1 ha0 ha1 hvt hvp la0 la1 htt hG0 hG0t hy0;go_wp2_with fail;go_quiet (fail);obtain ⟨bb,hb1,hb2,hb3⟩:∃ bb:Bool,decide ((4294967296:Int)≤(G0:Int))=bb∧decide (4294967296≤G0)=bb∧Hid (bb=true↔4294967296≤G0):=⟨decide (4294967296≤G0),by simp only [decide_eq_decide];omega,rfl,zF (by simp)⟩
    go_upto_if 94 with fail;go_cut [15] (fun s15 wx=>∃ G:Nat,s15=.int .u64 (G:Int)∧dA 4294967296 (val 4294967296 L) j D G∧wx=World.drewN wr nq);case first =>
     rcases bb with _ | _
     · have hGl:dA 4294967296 (val 4294967296 L) j D G0:=⟨(zz G0 4294967296).elim id (fun h1=>absurd (hb3.out.2 h1) (by simp)),hgf.out⟩
       clear hb1 hb2 hb3 f0 f1 f1' f2 f3 f4 f5 f6 hgf;go_wp2_with fail;go_meet;case rel=>exact ⟨G0,rfl,hGl,rfl⟩
     · have hgg:dA 4294967296 (val 4294967296 L) j D 4294967295:=⟨by omega,by have:=hQf.out;exact Nat.le_of_lt_succ this⟩
       clear hb1 hb2 hb3 f0 f1 f1' f2 f3 f4 f5 f6 hgf;go_wp2_with fail;go_meet;case rel=>exact ⟨4294967295,rfl,hgg,rfl⟩
    case rest =>
     obtain ⟨G,rfl,hGd,rfl⟩:=hcut;clear hb1 hb2 hb3 hQf hgf f0 f1 f1' f2 f3 f4 f5 f6 r0 r1 d1 c1' b0 b1;have hbu':=hbu.drewN nq;have hbq':=hbq.drewN nq;have hbw':=hbw.drewN nq;have hRD':=hRD.drewN nq;have hB':=qR hB nq;clear hbu hbq hbw hRD hB;go_wp2_with fail;go_loopw [15] (fun gv wr=>∃ (G:Nat) (Wl:List Nat),gv=.int .u64 (G:Int)∧dA 4294967296 (val 4294967296 L) j D G∧Hid (Wl.length=n+1)∧Blk wr W.heap.size L∧Blk wr w2.heap.size qs∧Blk wr (w2.heap.size+1) Wl∧RN wr (In w1.heap.size w2.heap.size) (some ⟨w1.heap.size,0,none⟩) n (digs 4294967296 D)∧Below w.heap.size w wr) (fun gv _=>(intOf gv).toNat);case atStart=>exact ⟨G,Wl,rfl,hGd,HW,hbu',hbq',hbw',hRD',hB'⟩
     case round =>
      clear hGd HW hbu' hbq' hbw' hRD' hB';obtain ⟨G,Wl,rfl,hGd,HW,hbu,hbq,hbw,hRD,hB⟩:=hrel;have hwW:=Hsz.out;have hless:=zAk W.heap.size (w2.heap.size+1) j n (l.length+1) G _ _ _ L _ Wl wr hbu hbw hRD (by omega) (fun b hb=>by have:=hb.2;omega) hDL (wV D) HL.out HDn.out HW.out Hjk.out (by omega) hGd.1 Hz0.out;rw [HDv.out] at hless;have Hless:=zF hless;clear hwW hless;go_wp2_with fail;refine Hless.out.mono ?_;rintro e w5 ⟨L5,W5,hbu5,hDL5,hl5,hbw5,hw5,htwo,⟨rfl,hv5⟩ | ⟨rfl,rfl,hv5⟩⟩
      · have hlt5:=zAN (by omega) hD0 hGd.2 hv5;have hjq:j<qs.length:=by have:=Hqs.out;have:=Hjk.out;omega
        have hQ':=hQ.step hjq hv5 hlt5;have hneq:w2.heap.size≠W.heap.size:=by omega
        have hwW:=Hsz.out;have hbq5:Blk w5 w2.heap.size qs:=(htwo.block _ hneq (by omega)).trans hbq;have hRD5:=hRD.two htwo (fun b hb=>by have:=hb.1;have:=hb.2;omega);have hB5:=hB.trans (htwo.below (B:=w.heap.size) (by omega) (by omega));have q3:=hbq5.cell hjq;have q4:=hbq5.free j;have hbq':=hbq5.set j G;have hDq':=hDq.set j G hGd.1;have hB':=hB5.setCell (p:=⟨w2.heap.size,j,none⟩) (by show w.heap.size≤w2.heap.size;omega) (.int .u64 (G:Int));have hRD':RN (World.setCell w5 ⟨w2.heap.size,j,none⟩ (.int .u64 (G:Int))) (In w1.heap.size w2.heap.size) (some ⟨w1.heap.size,0,none⟩) n (digs 4294967296 D):=hRD5.keep fun q hq=>zT (w:=w5) (zN _ _ _ q.block (by have:=hq.2;show q.block≠w2.heap.size;omega));have hbu':=hbu5.other (p:=⟨w2.heap.size,j,none⟩) (by show W.heap.size≠w2.heap.size;omega) (.int .u64 (G:Int));have hbw':=hbw5.other (p:=⟨w2.heap.size,j,none⟩) (by show w2.heap.size+1≠w2.heap.size;omega) (.int .u64 (G:Int));have Hqs':Hid ((qs.set j G).length=t):=zF (by simpa using Hqs.out);have k1:j<t:=by omega
        have Hs':=zF (vc j);have HL5:=zF hl5;have HW5:=zF hw5;clear hQ hDq hB hRD hbu hbq hbw hbu5 hbq5 hbw5 hRD5 hB5 htwo hv5 hlt5 hl5 hw5 hneq hwW hjq Hless hGd;go_wp2;go_roundw;case rel=>exact ⟨j,_,L5,qs.set j G,W5,rfl,Hs'.out,by omega,hQ',HL5,Hqs',HW5,hDL5,hDq',hbu',hbq',hbw',hRD',hB'⟩
        case measure=>simp [intOf]
      · have hpos:=jB (j6 _) hv5;obtain ⟨G,rfl⟩:∃ k,G=k+1:=⟨G - 1,by omega⟩
        have hGd':dA 4294967296 (val 4294967296 L5) j D G:=⟨by have:=hGd.1;omega,Nat.le_of_lt_succ hv5⟩
        have hGi:IntKind.u64.wrap (G:Int)=(G:Int):=jD _ (by have:=hGd'.1;omega);have hwW:=Hsz.out;have hbq5:Blk w5 w2.heap.size qs:=(htwo.block _ (by omega) (by omega)).trans hbq;have hRD5:=hRD.two htwo (fun b hb=>by have:=hb.1;have:=hb.2;omega);have hB5:=hB.trans (htwo.below (B:=w.heap.size) (by omega) (by omega));have HW5:=zF hw5;clear hQ hB hRD hbu hbq hbw htwo hv5 hl5 hw5 hwW Hless hGd hpos;go_wp2;go_roundw;case rel=>exact ⟨G,W5,by go_num,hGd',HW5,hbu5,hbq5,hbw5,hRD5,hB5⟩
        case measure=>simp [intOf]
theorem zAF (P P':Nat→Prop) (A A':Option Addr) (c c':Nat) (x y:Nat) (w:World) (h:RN w P A c (digs 4294967296 x)) (h':RN w P' A' c' (digs 4294967296 y)) (hP:∀ b,P b→b<w.heap.size) (hP':∀ b,P' b→b<w.heap.size) (hl:(digs 4294967296 x).length<90000) (h0:0<y) :
 Calls Tryz.prog 129 #[.slice A (digs 4294967296 x).length c,.slice A' (digs 4294967296 y).length c'] w fun e w'=>∃ A1 c1 A2 c2,e=.returned (.tuple #[.slice A1 (digs 4294967296 (x / y)).length c1,.slice A2 (digs 4294967296 (x % y)).length c2])∧OB w' w.heap.size A1 c1 (digs 4294967296 (x / y))∧RN w' (fun b=>b<w'.heap.size∧(P b∨Tu w' b)) A2 c2 (digs 4294967296 (x % y))∧Below w.heap.size w w':=by
 have hpos:0<(digs 4294967296 y).length:=by
  rw [jT (by omega) h0];simp
 by_cases hs:x<y∨(digs 4294967296 y).length=1
 · exact bz P P' A A' c c' x y w h h' hP (by omega) h0 hs
 · exact na P P' A A' c c' x y w h h' hP hP' hl (by omega) (by omega)
theorem fE (P P':Nat→Prop) (A A':Option Addr) (c c':Nat) (x y:Nat) (w:World) (h:RN w P A c (digs 4294967296 x)) (h':RN w P' A' c' (digs 4294967296 y)) (hP:∀ b,P b→b<w.heap.size) (hP':∀ b,P' b→b<w.heap.size) (hl:(digs 4294967296 x).length<90000) (h0:0<y) :
 Calls Tryz.prog 129 #[.slice A (digs 4294967296 x).length c,.slice A' (digs 4294967296 y).length c'] w fun e w'=>∃ A1 c1 A2 c2,e=.returned (.tuple #[.slice A1 (digs 4294967296 (x / y)).length c1,.slice A2 (digs 4294967296 (x % y)).length c2])∧OB w' w.heap.size A1 c1 (digs 4294967296 (x / y))∧RN w' (fun b=>b<w'.heap.size) A2 c2 (digs 4294967296 (x % y))∧Below w.heap.size w w' :=
 (zAF P P' A A' c c' x y w h h' hP hP' hl h0).mono fun _ _ ⟨A1,c1,A2,c2,he,hO,hR,hB⟩=>⟨A1,c1,A2,c2,he,hO,RN.mono hR fun _ hb=>hb.1,hB⟩
def fa (w:World) (v:Value):Nat:=match v with
 | .slice (some a) n _=>val 4294967296 ((List.range n).map fun i=>match w.cell? (a.add i) with | some (.int _ z)=>z.toNat | _=>0)
 | _=>0
theorem RN.readD {w:World}{P:Nat→Prop}{A:Option Addr}{c x:Nat}(h:RN w P A c (digs 4294967296 x)):fa w (.slice A (digs 4294967296 x).length c)=x:=by
 have hx:=zc (B:=4294967296) (by omega) x;rcases za (digs 4294967296 x).length with h0 | h0
 · have hn:=qC h0;rw [hn] at hx ⊢;cases A <;> simp [fa] <;> simpa using hx
 · obtain ⟨ad,rfl,_,_⟩:=h.at_ h0;simp only [fa];refine Eq.trans (congrArg _ ?_) hx;apply List.ext_getElem?;intro i;rw [wn];by_cases hi:i<(digs 4294967296 x).length
   · rw [List.getElem?_range hi,qO hi,Option.map_some,h.cells i hi,uD hi];simp
   · rw [qx (by simp;omega),qx (by omega)];rfl
theorem dJ {x y:Nat}(h:jo x y=0):x=y:=by rcases jb x y with h1 | h1 | h1 <;> omega
theorem xR {v M k:Nat}(h:v≤M) (hM:(digs 4294967296 M).length≤k):(digs 4294967296 v).length≤k:=zQ (qg (by omega) h) hM
theorem mC {x y j k:Nat}(hx:(digs 4294967296 x).length≤j) (hy:(digs 4294967296 y).length≤k):(digs 4294967296 (x*y)).length≤j+k:=by
 have h1:=jl (B:=4294967296) (by omega) x;have h2:=jl (B:=4294967296) (by omega) y;have h3:4294967296 ^ (digs 4294967296 x).length≤4294967296 ^ j:=qF (by omega) hx;have h4:4294967296 ^ (digs 4294967296 y).length≤4294967296 ^ k:=qF (by omega) hy;refine qp (by omega) ?_;rw [qI];exact Nat.mul_lt_mul'' (by omega) (by omega)
theorem mD {x y M k:Nat}(hx:x≤M) (hy:y≤M) (hM:(digs 4294967296 M).length≤k):(digs 4294967296 (x+y)).length≤k+1:=by
 have h1:=jl (B:=4294967296) (by omega) M;have h2:4294967296 ^ (digs 4294967296 M).length≤4294967296 ^ k:=qF (by omega) hM;refine qp (by omega) ?_;rw [zu];omega
def RT (w:World) (A:Option Addr) (c:Nat) (l:List Nat):Prop:=RN w (fun b=>b<w.heap.size∧Tu w b) A c l
theorem kZ (A A':Option Addr) (c c' x y:Nat) (w:World) (h:RU w A c (digs 4294967296 x)) (h':RU w A' c' (digs 4294967296 y)) (hl:(digs 4294967296 x).length<90000) (h0:0<y) :
 Calls Tryz.prog 79 #[.slice A (digs 4294967296 x).length c,.slice A' (digs 4294967296 y).length c'] w fun e w'=>∃ A1 c1,e=.returned (.slice A1 (digs 4294967296 (x % y)).length c1)∧RU w' A1 c1 (digs 4294967296 (x % y))∧Below w.heap.size w w':=by
 have hq:=zF (fE _ _ A A' c c' x y w h h' (fun _ hb=>hb) (fun _ hb=>hb) hl h0)
 go_enter Tryz.func79,Tryz.ntmps79
 go_wp2_with fail
 refine hq.out.mono ?_
 rintro e w1 ⟨A1,c1,A2,c2,rfl,hO,hR,hB⟩
 go_wp2
 go_ret
 exact ⟨A2,c2,rfl,hR,hB⟩
theorem uJ (A A' Am:Option Addr) (c c' cm x y m:Nat) (w:World) (h:RU w A c (digs 4294967296 x)) (h':RU w A' c' (digs 4294967296 y)) (hm:RU w Am cm (digs 4294967296 m)) (hl:(digs 4294967296 x).length<40000) (hl':(digs 4294967296 y).length<40000) (h0:0<m) :
 Calls Tryz.prog 136 #[.slice A (digs 4294967296 x).length c,.slice A' (digs 4294967296 y).length c',.slice Am (digs 4294967296 m).length cm] w fun e w'=>∃ A1 c1,e=.returned (.slice A1 (digs 4294967296 (x*y % m)).length c1)∧RU w' A1 c1 (digs 4294967296 (x*y % m))∧Below w.heap.size w w':=by
 have hq:=zF (fF _ _ A A' c c' x y w h h' (fun _ hb=>hb) (fun _ hb=>hb) (by omega) (by omega))
 go_enter Tryz.func136,Tryz.ntmps136
 go_wp2_with fail
 refine hq.out.mono ?_
 rintro e w1 ⟨A1,c1,rfl,hO,hB⟩
 have hr:=zF (kZ A1 Am c1 cm (x*y) m w1 hO.ru (hm.up hB) (by have:=mC (zH (digs 4294967296 x).length) (zH (digs 4294967296 y).length);omega) h0)
 go_wp2_with fail
 refine hr.out.mono ?_
 rintro e w2 ⟨A2,c2,rfl,hR,hB2⟩
 go_wp2
 go_ret
 exact ⟨A2,c2,rfl,hR,hB.trans (hB2.mono hB.size)⟩
end Go.Proofs.YtmlbicgpehchhaaGreat
