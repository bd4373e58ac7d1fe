/- Laws that the proof rests on. -/
import Derived.Test.YtaemogcomplhiaaGreatDoorQec29d082f5d4
set_option maxRecDepth 100000
set_option maxHeartbeats 16000000
namespace Go.Proofs.YtaemogcomplhiaaGreatDoor
open Go.RowKit
theorem fN (P P':Nat→Prop)(A A':Option Addr)(c c':Nat)(x y:Nat)(w:World)(h:RN w P A c (digs 4294967296 x))(M:RN w P' A' c' (digs 4294967296 y))(V:∀ b,P b→b<w.heap.size)(W:∀ b,P' b→b<w.heap.size)
 (hl:(digs 4294967296 x).length<100000) (Q:y≤x) :
 Calls Tryz.prog 81 #[.slice A (digs 4294967296 x).length c,.slice A' (digs 4294967296 y).length c'] w fun e w'=>∃ I c1,e=.returned (.slice I (digs 4294967296 (x-y)).length c1) ∧
  OB w' w.heap.size I c1 (digs 4294967296 (x-y))∧Below w.heap.size w w':=by
 have E:=zi (B:=4294967296) (by omega) x
 have R:=zi (B:=4294967296) (by omega) y
 have X:=jO (B:=4294967296) (by omega) Q
 have T:=xU x
 have U:=xU y
 generalize digs 4294967296 x=l at *
 generalize digs 4294967296 y=m at *
 have J:=zF E
 have K:=zF R
 clear E R
 obtain⟨h1,h2,h3⟩:=h.cap
 obtain⟨g1,g2,g3⟩:=M.cap
 have af:=qt (P:=Tryz.prog) 28 65 (.int .u64 0) 8 Tryz.underlying28 kU rfl .i64 .i64 l.length (by omega) (by omega)
 go_enter Tryz.func81,Tryz.ntmps81
 go_wp2
 go_loopw [6,7] (fun cv iv wr=>∃(k a:Nat) (o:List Nat),iv=.int .i64 (k:Int)∧cv=.int .u64 (a:Int)∧k≤l.length∧a≤1∧xZ 4294967296 l m o k a∧Hid (o.length=l.length)∧Dig o∧Blk wr w.heap.size o∧Below w.heap.size w wr) (fun _ iv _=>l.length-(intOf iv).toNat)
 case atStart=>exact⟨0,0,List.replicate l.length 0,rfl,rfl,by omega,by omega,xZ.zero _ _ _ _,zF (by simp),by intro x E;simp at E;omega,wD w _,(zo _ w).alloc (zG _) _⟩
 case round =>
  obtain⟨k,a,o,rfl,rfl,hk,ac,i,j,d,f,g⟩:=hrel;by_cases hlt:k<l.length
  · have n:k<o.length:=by have:=j.out;omega
    have q3:=f.cell n;have q4:=f.free k;have b1:=T.dgLt k;have b2:=U.dgLt k;obtain⟨ad,rfl,aa,q1⟩:=(h.below g V).at_ hlt;by_cases hm2:k<m.length
    · obtain⟨ae,rfl,ab,q2⟩:=(M.below g W).at_ hm2;by_cases hb:dg l k<a+dg m k
      · obtain⟨s,C,F⟩:∃ s:Nat,s<4294967296∧(dg l k:Int)+4294967296-((a:Int)+(dg m k:Int))=(s:Int):=⟨dg l k+4294967296-(a+dg m k),by omega,by omega⟩
        have r:=i.step (s:=s) (c':=1) n (by omega);have v:=f.set k s;have u:=d.set k s C;have t:=g.setCell (p:=⟨w.heap.size,k,none⟩) (zG _) (.int .u64 (s:Int));have q:Hid ((o.set k s).length=l.length):=zF (by rw[jr];exact j.out);have Z:(dg l k:Int)<(a:Int)+(dg m k:Int):=by omega
        clear i f d g n hb;go_wp2;go_roundw;case rel=>exact⟨k+1,1,o.set k s,by go_num,by go_num,by omega,by omega,r,q,u,v,t⟩
        case measure=>simp[intOf];omega
      · obtain⟨s,C,F⟩:∃ s:Nat,s<4294967296∧(dg l k:Int)-((a:Int)+(dg m k:Int))=(s:Int):=⟨dg l k-(a+dg m k),by omega,by omega⟩
        have r:=i.step (s:=s) (c':=0) n (by omega);have v:=f.set k s;have u:=d.set k s C;have t:=g.setCell (p:=⟨w.heap.size,k,none⟩) (zG _) (.int .u64 (s:Int));have q:Hid ((o.set k s).length=l.length):=zF (by rw[jr];exact j.out);have Z:¬(dg l k:Int)<(a:Int)+(dg m k:Int):=by omega
        clear i f d g n hb;go_wp2;go_roundw;case rel=>exact⟨k+1,0,o.set k s,by go_num,by go_num,by omega,by omega,r,q,u,v,t⟩
        case measure=>simp[intOf];omega
    · have L:dg m k=0:=vJ (by omega);by_cases hb:dg l k<a
      · obtain⟨s,C,F⟩:∃ s:Nat,s<4294967296∧(dg l k:Int)+4294967296-(a:Int)=(s:Int):=⟨dg l k+4294967296-a,by omega,by omega⟩
        have r:=i.step (s:=s) (c':=1) n (by omega);have v:=f.set k s;have u:=d.set k s C;have t:=g.setCell (p:=⟨w.heap.size,k,none⟩) (zG _) (.int .u64 (s:Int));have q:Hid ((o.set k s).length=l.length):=zF (by rw[jr];exact j.out);clear i f d g n L;go_wp2;go_roundw;case rel=>exact⟨k+1,1,o.set k s,by go_num,by go_num,by omega,by omega,r,q,u,v,t⟩
        case measure=>simp[intOf];omega
      · obtain⟨s,C,F⟩:∃ s:Nat,s<4294967296∧(dg l k:Int)-(a:Int)=(s:Int):=⟨dg l k-a,by omega,by omega⟩
        have r:=i.step (s:=s) (c':=0) n (by omega);have v:=f.set k s;have u:=d.set k s C;have t:=g.setCell (p:=⟨w.heap.size,k,none⟩) (zG _) (.int .u64 (s:Int));have q:Hid ((o.set k s).length=l.length):=zF (by rw[jr];exact j.out);clear i f d g n L;go_wp2;go_roundw;case rel=>exact⟨k+1,0,o.set k s,by go_num,by go_num,by omega,by omega,r,q,u,v,t⟩
        case measure=>simp[intOf];omega
  · obtain rfl:k=l.length:=by omega
    have D:=i.fin j.out d rfl X (by rw[J.out,K.out];exact Q);rw[J.out,K.out]at D;have N:Lim o:=⟨fun z Y=>by have:=d z Y;omega,by rw[j.out];omega⟩
    have G:OB wr w.heap.size (some ⟨w.heap.size,0,none⟩) l.length o:=kq f (zG _) N (by have:=j.out;omega) (by unfold maxLen;omega);have H:=kW _ _ _ _ _ G.rn d;have O:=G.trim32 d;rw[D,j.out]at H;rw[D]at O;have S:=zF H;clear f N H D G i;go_wp2_with fail;refine S.out.mono ?_;rintro e w1 ⟨rfl,rfl⟩;go_wp2;go_ret;exact⟨_,_,rfl,O,g⟩
theorem bW (P P':Nat→Prop)(A A':Option Addr)(c c':Nat)(x y:Nat)(w:World)(h:RN w P A c (digs 4294967296 x))(I:RN w P' A' c' (digs 4294967296 y))(hP:∀ b,P b→b<w.heap.size)(aa:∀ b,P' b→b<w.heap.size)
 (hl:(digs 4294967296 x).length<100000) (aj:(digs 4294967296 y).length<100000) :
 Calls Tryz.prog 80 #[.slice A (digs 4294967296 x).length c,.slice A' (digs 4294967296 y).length c'] w fun e w'=>∃ G c1,e=.returned (.slice G (digs 4294967296 (x*y)).length c1) ∧
  OB w' w.heap.size G c1 (digs 4294967296 (x*y))∧Below w.heap.size w w':=by
 have t:=zi (B:=4294967296) (by omega) x
 have O:=zi (B:=4294967296) (by omega) y
 have W:=xU x
 have X:=xU y
 generalize digs 4294967296 x=l at *
 generalize digs 4294967296 y=m at *
 have S:=zF t
 have T:=zF O
 clear t O
 obtain⟨h1,h2,h3⟩:=h.cap
 obtain⟨g1,g2,g3⟩:=I.cap
 have af:=qt (P:=Tryz.prog) 28 65 (.int .u64 0) 8 Tryz.underlying28 kU rfl .i64 .i64 (l.length+m.length) (by omega) (by omega)
 simp only[vj]at af
 go_enter Tryz.func80,Tryz.ntmps80
 go_wp2
 go_loopw [6] (fun iv wr=>∃(i:Nat) (o:List Nat),iv=.int .i64 (i:Int)∧i≤l.length∧gl 4294967296 l m o i∧Dig o∧Blk wr w.heap.size o∧Below w.heap.size w wr) (fun iv _=>l.length-(intOf iv).toNat)
 case atStart=>exact⟨0,List.replicate (l.length+m.length) 0,rfl,by omega,gl.zero _ _ _,by intro x t;simp at t;omega,wD w _,(zo _ w).alloc (zG _) _⟩
 case round =>
  obtain⟨i,o0,rfl,hi,hR,f,d,g⟩:=hrel;obtain⟨wo,rfl⟩:=eW wr;by_cases hlt:i<l.length
  · obtain⟨ad,rfl,ah,q1⟩:=(h.below g hP).at_ hlt;have ag:=W.dgLt i;go_wp2;go_loopw [7,9] (fun cv jv wr=>∃(j a:Nat) (o:List Nat),jv=.int .i64 (j:Int)∧cv=.int .u64 (a:Int)∧j≤m.length∧a<4294967296∧ui 4294967296 o0 m (dg l i) i o j a∧Dig o∧Blk wr w.heap.size o∧Below w.heap.size w wr) (fun _ jv _=>m.length-(intOf jv).toNat);case atStart=>exact⟨0,0,o0,rfl,rfl,by omega,by omega,ui.zero _ _ _ _ _,f,d,g⟩
    case round =>
     clear q1 g d f;obtain⟨j,a,o,rfl,rfl,hj,M,k,f,d,g⟩:=hrel;have n:o.length=l.length+m.length:=k.1.trans hR.1;by_cases hjt:j<m.length
     · obtain⟨ae,rfl,ai,q2⟩:=(I.below g aa).at_ hjt;have E:i+j<o.length:=by omega
       have q3:=d.cell E;have q4:=d.free (i+j);have U:=X.dgLt j;have V:=f.dgLt (i+j);have L:=yh ag U V M;obtain⟨pr,q⟩:=eV (dg l i*dg m j);have Q:=zF (show(dg l i:Int)*(dg m j:Int)=(pr:Int) by rw[←q,vi]);rw[q]at L
       obtain⟨s,H,hs,ac,N⟩:∃ s c':Nat,s<4294967296∧c'<4294967296∧s+4294967296*c'=pr+dg o (i+j)+a :=
        ⟨(pr+dg o (i+j)+a)%4294967296,(pr+dg o (i+j)+a)/4294967296,by omega,by omega,by omega⟩
       have e1:((a:Int)+((dg o (i+j):Int)+(pr:Int)))%4294967296=(s:Int):=by omega
       have Y:((a:Int)+((dg o (i+j):Int)+(pr:Int)))/4294967296=(H:Int):=by omega
       have Z:=k.step E (by rw[q];exact N);have D:=d.set (i+j) s;have v:=f.set (i+j) s hs;have u:=g.setCell (p:=⟨w.heap.size,i+j,none⟩) (zG _) (.int .u64 (s:Int));have k1:(i:Int)+(j:Int)<(l.length:Int)+(m.length:Int):=by omega
       have k3:(pr:Int)<18446744073709551616:=by omega
       have k4:(a:Int)+((dg o (i+j):Int)+(pr:Int))<18446744073709551616:=by omega
       clear N k d f g E n L q;have q:=Q.out;go_wp2;go_quiet (fail);go_wp2;go_roundw;case rel=>exact⟨j+1,H,o.set (i+j) s,by go_num,(by first|rfl|exact congrArg (Value.int .u64) Y),by omega,ac,Z,v,D,qp u _⟩
       case measure=>simp[intOf];omega
     · obtain rfl:j=m.length:=by omega
       have ab:=hR.step hlt k;have q3:=d.cell (i:=i+m.length) (by omega);have q4:=d.free (i+m.length);have D:=d.set (i+m.length) a;have v:=f.set (i+m.length) a M;have u:=g.setCell (p:=⟨w.heap.size,i+m.length,none⟩) (zG _) (.int .u64 (a:Int));have k1:(i:Int)+(m.length:Int)<(l.length:Int)+(m.length:Int):=by omega
       clear k d f g n;go_wp2;go_roundw;case rel=>exact⟨i+1,o.set (i+m.length) a,by go_num,by omega,ab,v,D,u⟩
       case measure=>simp[intOf];omega
  · obtain rfl:i=l.length:=by omega
    have r:=hR.fin;rw[S.out,T.out]at r;have n:=hR.1;have J:Lim o0:=⟨fun z hz=>by have:=f z hz;omega,by omega⟩
    have C:OB wo w.heap.size (some ⟨w.heap.size,0,none⟩) (l.length+m.length) o0:=kq d (zG _) J (by omega) (by unfold maxLen;omega);have F:=kW _ _ _ _ _ C.rn f;have K:=C.trim32 f;rw[r,n]at F;rw[r]at K;have R:=zF F;clear d J F r C hR n;go_wp2_with fail;refine R.out.mono ?_;rintro e w1 ⟨rfl,rfl⟩;go_wp2;go_ret;exact⟨_,_,rfl,K,g⟩
end Go.Proofs.YtaemogcomplhiaaGreatDoor
namespace Go.Proofs.YtaemogcomplhiaaGreatDoor
def vK (b u u1 y1 y0 q r:Nat):Prop:=q*y1+r=u∧(u*b+u1) /(y1*b+y0)≤q∧q≤b+1
structure wY (b u u1 y1 y0:Nat):Prop where
 hb:2≤b
 hy:b≤2*y1
 hy1:y1<b
 hy0:y0<b
 hu1:u1<b
 hu:u<y1*b+y0
section
variable {b u u1 y1 y0 q r:Nat}
theorem wY.start (h:wY b u u1 y1 y0):vK b u u1 y1 y0 (u/y1) (u-u/y1*y1)∧u-u/y1*y1<b∧u/y1*y1≤u:=by
 obtain⟨k,n,q,o,m,l⟩:=h;have a:u/y1*y1≤u:=Nat.div_mul_le_self u y1;have c:u<u/y1*y1+y1:=Nat.lt_div_mul_add (by omega);generalize j:u/y1=G at *;have d:G≤b+1:=by
  rcases qH (b+1) G with h|h
  · have g:(b+2)*y1≤G*y1:=qr _ h;rw[qb,zp b]at g;omega
  · exact h
 have e:(u*b+u1) /(y1*b+y0)≤G:=by
  apply Nat.le_of_lt_succ;apply jN;have f:(y1*b+y0)*(G+1)=(G*y1+y1)*b+y0*(G+1):=by
   rw[zl,qb,jM,zl,jM,qb,yK,zp y1 G];omega
  have i:(u+1)*b≤(G*y1+y1)*b:=qr _ c;rw[qb,kH]at i;show _<_*(G+1);rw[f];omega
 unfold vK;generalize G*y1=p at *;exact⟨⟨by omega,e,d⟩,by omega,a⟩
theorem wY.quo_lt (h:wY b u u1 y1 y0):(u*b+u1) /(y1*b+y0)<b:=by
 obtain⟨d,f,i,g,e,c⟩:=h;apply jN;have a:(u+1)*b≤(y1*b+y0)*b:=qr _ c;rw[qb,kH]at a;omega
theorem vK.le (h:wY b u u1 y1 y0)(f:vK b u u1 y1 y0 q r)(j:q*y0≤b*r+u1):q=(u*b+u1) /(y1*b+y0):=by
 obtain⟨a,c,i⟩:=f;have d:0<y1*b+y0:=by have:=Nat.mul_pos (show 0<y1 by have:=h.hy;have:=h.hb;omega) (show 0<b by have:=h.hb;omega);omega
 refine Nat.le_antisymm ((Nat.le_div_iff_mul_le d).2 ?_) c;have e:q*(y1*b+y0)=q*y1*b+q*y0:=by rw[zl,zd]
 have g:u*b=q*y1*b+b*r:=by rw[←a,qb,zp r]
 omega
theorem vK.gt (h:wY b u u1 y1 y0)(d:vK b u u1 y1 y0 q r)(a:b≤q∨b*r+u1<q*y0):(u*b+u1) /(y1*b+y0)<q:=by
 obtain⟨c,g,i⟩:=d;rcases a with a|a
 · have:=h.quo_lt;omega
 · apply jN;have e:(y1*b+y0)*q=q*y1*b+q*y0:=by rw[zp,zl,zd]
   have f:u*b=q*y1*b+b*r:=by rw[←c,qb,zp r]
   omega
theorem vK.step (h:wY b u u1 y1 y0)(a:vK b u u1 y1 y0 q r)(e:b≤q∨b*r+u1<q*y0):vK b u u1 y1 y0 (q-1) (r+y1)∧1≤q:=by
 have d:=a.gt h e;obtain⟨c,f,g⟩:=a;obtain⟨n,rfl⟩:∃ n,q=n+1:=⟨q-1,by have:=xB ((u*b+u1) /(y1*b+y0));omega⟩
 refine⟨⟨?_,by rw[kG];exact Nat.le_of_lt_succ d,by omega⟩,by omega⟩;rw[qb]at c;rw[kG];omega
theorem vK.out (h:wY b u u1 y1 y0)(a:vK b u u1 y1 y0 q r)(c:q≤b)(d:b≤r):q=(u*b+u1) /(y1*b+y0):=by
 refine a.le h ?_;have e:q*y0≤b*b:=xn c (by have:=h.hy0;omega);have f:b*b≤b*r:=qI _ d;omega
theorem vK.mul_le (c:vK b u u1 y1 y0 q r)(f:y0<b):q*y0<b*b:=by
 obtain⟨_,_,a⟩:=c;obtain⟨n,rfl⟩:∃ n,b=n+1:=⟨b-1,by omega⟩
 have d:q*y0≤(n+2)*n:=xn (by omega) (by omega);have e:(n+2)*n=n*n+2*n:=by rw[qb]
 have a:(n+1)*(n+1)=n*n+2*n+1:=by simp only[qb,zl];omega
 omega
end
theorem bE {N D:Nat}(b:0<D):N/D*D≤N∧N-N/D*D<D:=by
 have c:=Nat.div_mul_le_self N D;have d:=Nat.lt_div_mul_add (a:=N) b;omega
theorem sa {b N D u1 u0:Nat}(d:0<D)(r a:Nat)(l:r=N*b+u1-(N*b+u1)/D*D)(h:a=(r*b+u0)/D) :
 (N*b+u1)/D*b+a=((N*b+u1)*b+u0)/D∧r*b+u0-a*D=((N*b+u1)*b+u0)%D:=by
 have i:=bE (N:=N*b+u1) d
 generalize N*b+u1=M at *
 have e:M=M/D*D+r:=by omega
 have c:M*b+u0=(M/D*b)*D+(r*b+u0):=by
  have:M*b=(M/D*D+r)*b:=by rw[←e]
  rw[this,qb,yK,kN]
 have f:(M*b+u0)/D=M/D*b+(r*b+u0)/D:=by
  rw[c,wC,Nat.add_mul_div_right _ _ d,wC]
 have g:(M*b+u0)%D=(r*b+u0)%D:=by
  rw[c,wC,wR]
 rw[f,g,h]
 refine⟨rfl,?_⟩
 have j:=jj (r*b+u0) D
 have k:(r*b+u0)/D*D=D*((r*b+u0)/D):=zp _ _
 omega
theorem tG {y k:Nat}(d:y≠0)(h:Lib.bitLen y=k)(b:y<18446744073709551616):1≤k∧k≤64∧2 ^(k-1)≤y∧y<2^k:=by
 have a:=Lib.bitLenAux_bounds 64 y b d;have c:=Lib.bitLen_le y 64 (zG _) b;subst h;exact⟨a.1,c,a.2⟩
theorem nM {y:Nat}(d:y≠0)(c:y<18446744073709551616):∃ s,s<64∧Lib.bitLen y=64-s∧9223372036854775808≤y*2^s∧y*2^s<18446744073709551616:=by
 obtain⟨e,f,a,b⟩:=tG d rfl c;refine⟨64-Lib.bitLen y,by omega,by omega,?_,?_⟩
 · have:2 ^(Lib.bitLen y-1)*2 ^(64-Lib.bitLen y)≤y*2 ^(64-Lib.bitLen y):=qr _ a;rw[←qQ,show Lib.bitLen y-1+(64-Lib.bitLen y)=63 by omega]at this;simpa using this
 · have:y*2 ^(64-Lib.bitLen y)<2^Lib.bitLen y*2 ^(64-Lib.bitLen y):=Nat.mul_lt_mul_of_pos_right b (qS (by omega));rw[←qQ,show Lib.bitLen y+(64-Lib.bitLen y)=64 by omega]at this;simpa using this
theorem moved {a lo y s:Nat}(i:s<64)(g:lo<18446744073709551616)(h:a<y)(j:y*2^s<18446744073709551616) :
 a*2^s+lo/2 ^(64-s)<y*2^s∧lo/2 ^(64-s)<2^s∧(a*2^s+lo/2 ^(64-s))*18446744073709551616+lo*2^s%18446744073709551616=(a*18446744073709551616+lo)*2^s∧a*2^s<18446744073709551616:=by
 have b:(18446744073709551616:Nat)=2^s*2 ^(64-s):=by rw[←qQ,show s+(64-s)=64 by omega]
 have c:lo/2 ^(64-s)<2^s:=by
  apply jN;rw[zp,←b];exact g
 have d:(a+1)*2^s≤y*2^s:=qr _ h
 rw[qb,kH]at d
 refine⟨by omega,c,?_,by have:=qS (n:=s) (show 0<2 by omega);omega⟩
 have e:lo*2^s/18446744073709551616=lo/2 ^(64-s):=by
  rw[b,zp lo,Nat.mul_div_mul_left _ _ (qS (by omega))]
 have f:=jj (lo*2^s) 18446744073709551616
 rw[e]at f
 rw[qb,qb,yK a]
 omega
end Go.Proofs.YtaemogcomplhiaaGreatDoor
namespace Go.Proofs.YtaemogcomplhiaaGreatDoor
open Go.RowKit
theorem bw (i a b:Nat)(h:b<2^i):a*2^i ||| b=a*2^i+b:=by
 rw[zp,Nat.two_pow_add_eq_or_of_lt h]
theorem zEM (x:Nat):x &&& 4294967295=x%4294967296:=by
 have h:=Nat.and_two_pow_sub_one_eq_mod x 32;rwa [show 2^32-1=4294967295 by decide,show 2^32=4294967296 by decide]at h
theorem rB (x:Nat)(a:x<18446744073709551616):bits .and .u64 (x:Int) 4294967295=((x%4294967296:Nat):Int):=by
 have h:=bits_and_u64_nat x 4294967295 a (by omega);rw[zEM]at h;exact h
theorem pT (x:Nat)(f:x<18446744073709551616):∃ a b:Nat,a<4294967296∧b<4294967296∧a*4294967296+b=x∧(x:Int)/4294967296=(a:Int)∧bits .and .u64 (x:Int) 4294967295=(b:Int):=by
 have h:=jj x 4294967296;have c:=qP x (show 0<4294967296 by omega);have d:=rB x f;have e:(x:Int)/4294967296=((x/4294967296:Nat):Int):=by omega
 generalize x/4294967296=a at *;generalize x%4294967296=b at *;exact⟨a,b,by omega,c,by omega,e,d⟩
theorem join4 (a b c d:Nat)(h:b*4294967296+c=d):(a*4294967296+b)*4294967296+c=a*18446744073709551616+d:=by
 rw[←h,qb,zd,kN]
theorem aa (a b r k l:Nat)(h:b+r=a)(c:r<18446744073709551616):IntKind.u64.wrap (((a-18446744073709551616*k:Int))-((b:Int)-18446744073709551616*l))=(r:Int):=by
 simp[IntKind.wrap,IntKind.bits,IntKind.signed];omega
theorem zAY {a b c d:Int}(h:a=b)(e:c=d):Ending.returned (.tuple #[.int .u64 a,.int .u64 c])=.returned (.tuple #[.int .u64 b,.int .u64 d]):=by rw[h,e]
theorem pY (lo y:Nat)(w:World)(c:lo<18446744073709551616)(f:0<y)(g:y<18446744073709551616) :
 Calls Tryz.prog 133 #[.int .u64 0,.int .u64 (lo:Int),.int .u64 (y:Int)] w fun e w'=>e=.returned (.tuple #[.int .u64 ((lo/y:Nat):Int),.int .u64 ((lo%y:Nat):Int)])∧∃ n,w'=w.drewN n:=by
 have a:((y:Int)==0)=false:=eqB (by omega)
 have b:(0:Int)<(y:Int):=by omega
 have d:IntKind.u64.wrap ((lo:Int) /(y:Int))=((lo/y:Nat):Int):=by
  have h:lo/y≤lo:=vD lo y;rw[←um];generalize lo/y=z at *;exact qf _ (by omega)
 go_enter Tryz.func133,Tryz.ntmps133
 go_wp2
 go_quiet (fail)
 go_wp2
 go_ret2
 exact⟨zAY (by simp) (by simp),_,rfl⟩
theorem tW (f lo y:Nat)(w:World)(aK:lo<18446744073709551616)(h0:0<f)(aJ:f<y)(aR:y<18446744073709551616) :
 Calls Tryz.prog 133 #[.int .u64 (f:Int),.int .u64 (lo:Int),.int .u64 (y:Int)] w fun e w'=>e=.returned (.tuple #[.int .u64 (((f*18446744073709551616+lo)/y:Nat):Int),.int .u64 (((f*18446744073709551616+lo)%y:Nat):Int)])∧∃ n,w'=w.drewN n:=by
 have n0:((y:Int)==0)=false:=eqB (by omega)
 have n1:((f:Int)==0)=false:=eqB (by omega)
 have n2:¬(y:Int)≤(f:Int):=by omega
 obtain⟨s,hs,az,aI,ak⟩:=nM (y:=y) (by omega) aR
 have am:=(Tryz.bits_LeadingZeros64 (y:Int) w (by omega) (by omega))
 rw[yx,az,show(64-((64-s:Nat):Int))=(s:Int) by omega]at am
 have aD:=zF am
 clear am az
 obtain⟨m1,m2,P,m4⟩:=moved hs aK aJ ak
 obtain⟨H,X⟩:=eV (f*2^s)
 obtain⟨t,ab⟩:=eV (lo/2 ^(64-s))
 obtain⟨Y,hY⟩:=eV (y*2^s)
 obtain⟨L,Z⟩:=eV (lo*2^s%18446744073709551616)
 have an:H ||| t=H+t:=by rw[←X];exact bw s f t (by rw[←ab];exact m2)
 have f1:IntKind.u64.wrap ((y:Int)*2^s)=(Y:Int):=by
  rw[show((y:Int)*2^s)=(Y:Int) by rw[←hY];simp];exact qf _ (by omega)
 have f4:IntKind.u64.wrap ((f:Int)*2^s)=(H:Int):=by
  rw[show((f:Int)*2^s)=(H:Int) by rw[←X];simp];exact qf _ (by omega)
 have f5:(lo:Int)/2 ^(64-s)=(t:Int):=by rw[←ab];simp
 have f7:IntKind.u64.wrap ((lo:Int)*2^s)=(L:Int):=by
  rw[←Z];simp[IntKind.wrap,IntKind.bits,IntKind.signed]
 have k1:(s:Int)<64:=by omega
 rw[X]at m1 P m4
 rw[ab]at m1 m2 P
 rw[hY]at m1 aI ak
 rw[Z]at P
 have aF:L<18446744073709551616:=by rw[←Z];exact qP _ (by omega)
 obtain⟨U,hU⟩:=eV (H+t)
 rw[hU]at m1 P an
 have f6:bits .or .u64 (H:Int) (t:Int)=(U:Int):=by
  rw[bits_or_u64_nat H t (by omega) (by omega),an]
 obtain⟨y1,y0,aA,ae,af,f2,f3⟩:∃ y1 y0:Nat,y1<4294967296∧y0<4294967296∧y1*4294967296+y0=Y∧(Y:Int)/4294967296=(y1:Int)∧bits .and .u64 (Y:Int) 4294967295=(y0:Int)  := pT Y ak
 obtain⟨u1,u0,aP,aO,aQ,f8,f9⟩:∃ u1 u0:Nat,u1<4294967296∧u0<4294967296∧u1*4294967296+u0=L∧(L:Int)/4294967296=(u1:Int)∧bits .and .u64 (L:Int) 4294967295=(u0:Int)  := pT L aF
 have G:wY 4294967296 U u1 y1 y0:=⟨by omega,by omega,aA,ae,aP,by omega⟩
 obtain⟨a,d,v⟩:=G.start
 obtain⟨q,k⟩:=eV (U/y1)
 rw[k]at a d v
 obtain⟨p,x⟩:=eV (q*y1)
 rw[x]at a d v
 obtain⟨r,K⟩:=eV (U-p)
 rw[K]at a d
 have ap:q≤U:=by rw[←k];exact vD U y1
 have E:IntKind.u64.wrap ((U:Int) /(y1:Int))=(q:Int):=by rw[←um,k];exact qf _ (by omega)
 have ah:IntKind.u64.wrap ((U:Int).tdiv (y1:Int))=(q:Int):=by rw[uT (by omega)];exact E
 have ai:IntKind.u64.wrap ((q:Int)*(y1:Int))=(p:Int):=by rw[←vi,x];exact qf _ (by omega)
 have aj:(U:Int)-(p:Int)=(r:Int):=by omega
 have n3:((y1:Int)==0)=false:=eqB (by omega)
 have n4:¬ y1=0:=by omega
 have HY:=zF hY
 clear X ab hY Z an hU k x K v
 go_enter Tryz.func133,Tryz.ntmps133
 go_wp2_with fail
 refine aD.out.mono ?_
 rintro e w1 ⟨rfl,rfl⟩
 go_upto_block 0 with fail
 go_cut [15,16] (fun s15 s16 wx=>∃ Q r':Nat,s15=.int .u64 (Q:Int)∧s16=.int .u64 (r':Int)∧Hid (Q=(U*4294967296+u1) /(y1*4294967296+y0))∧w1=wx)
 case first =>
  go_wp2_with fail;go_loop [15,16] (fun qv rv=>∃ q r:Nat,qv=.int .u64 (q:Int)∧rv=.int .u64 (r:Int)∧vK 4294967296 U u1 y1 y0 q r∧r<4294967296) (fun qv _=>(intOf qv).toNat);case atStart=>exact⟨q,r,rfl,rfl,a,d⟩
  case round =>
   clear a d;obtain⟨q,r,rfl,rfl,a,d⟩:=hrel;have u:=a.mul_le ae;obtain⟨z,g⟩:=eV (q*y0);rw[g]at u;have aM:=a.2.2;by_cases h1:4294967296≤q∨4294967296*r+u1<q*y0
   · obtain⟨j,aL⟩:=a.step G h1;obtain⟨n,rfl⟩:∃ n,q=n+1:=⟨q-1,by omega⟩
     rw[kG]at j;have g1:IntKind.u64.wrap (((n:Int)+1)*(y0:Int))=(z:Int):=by
      rw[show((n:Int)+1)*(y0:Int)=(z:Int) by rw[←g];simp];exact qf _ (by omega)
     rw[g]at h1;have I:=fun h=>j.out G (by omega) h;have ag:=zF I;clear I a g u;by_cases h3:4294967296≤r+y1
     · have c:=zF (ag.out h3);by_cases h4:4294967296≤n+1
       · have l:(4294967296:Int)≤(n:Int)+1:=by omega
         have A:(4294967296:Int)≤(r:Int)+(y1:Int):=by omega
         clear h1 h3 h4;go_wp2;go_meet;case rel=>exact⟨n,_,by go_num,rfl,c,rfl⟩
       · have M:(4294967296:Int)*(r:Int)+(u1:Int)<(z:Int):=by omega
         have l:¬(4294967296:Int)≤(n:Int)+1:=by omega
         have A:(4294967296:Int)≤(r:Int)+(y1:Int):=by omega
         clear h1 h3 h4;go_wp2;go_meet;case rel=>exact⟨n,_,by go_num,rfl,c,rfl⟩
     · by_cases h4:4294967296≤n+1
       · have l:(4294967296:Int)≤(n:Int)+1:=by omega
         have A:¬(4294967296:Int)≤(r:Int)+(y1:Int):=by omega
         have o:=zF h3;clear h1 h3 h4;go_wp2;go_round;case rel=>exact⟨n,r+y1,by go_num,by go_num,j,by have:=o.out;omega⟩
         case measure=>simp[intOf]
       · have M:(4294967296:Int)*(r:Int)+(u1:Int)<(z:Int):=by omega
         have l:¬(4294967296:Int)≤(n:Int)+1:=by omega
         have A:¬(4294967296:Int)≤(r:Int)+(y1:Int):=by omega
         have o:=zF h3;clear h1 h3 h4;go_wp2;go_round;case rel=>exact⟨n,r+y1,by go_num,by go_num,j,by have:=o.out;omega⟩
         case measure=>simp[intOf]
   · have c:=zF (a.le G (by omega));have g1:IntKind.u64.wrap ((q:Int)*(y0:Int))=(z:Int):=by
      rw[show(q:Int)*(y0:Int)=(z:Int) by rw[←g];simp];exact qf _ (by omega)
     have l:¬(4294967296:Int)≤(q:Int):=by omega
     have M:¬(4294967296:Int)*(r:Int)+(u1:Int)<(z:Int):=by omega
     clear h1 a g u;go_wp2;go_meet;case rel=>exact⟨q,_,rfl,rfl,c,rfl⟩
 case rest =>
  clear a d ap E ah ai aj;obtain⟨Q,r',rfl,rfl,HQ,rfl⟩:=hcut;have c:=HQ.out;rw[af]at c;have aH:=G.quo_lt;rw[af,←c]at aH;have al:0<Y:=by omega
  have ad:=bE (N:=U*4294967296+u1) al;rw[←c]at ad;obtain⟨p3,J⟩:=eV (Q*Y);rw[J]at ad;obtain⟨R,hR⟩:=eV (U*4294967296+u1-p3);rw[hR]at ad;obtain⟨aN,a2⟩:=ad;obtain⟨i,aS,aV,aW,av⟩:∃ i k1:Nat,IntKind.u64.wrap ((U:Int)*4294967296)=(i:Int)∧(i:Int)≤18446744069414584320∧(i:Int)=(U:Int)*4294967296-18446744073709551616*k1:=by
   refine⟨U*4294967296%18446744073709551616,U/4294967296,?_,by omega,by omega⟩;simp[IntKind.wrap,IntKind.bits,IntKind.signed]
  obtain⟨a3,O,aX,aw⟩:∃ a3 O:Nat,IntKind.u64.wrap ((Q:Int)*(Y:Int))=(a3:Int)∧(a3:Int)=(p3:Int)-18446744073709551616*O:=by
   rw[show(Q:Int)*(Y:Int)=(p3:Int) by rw[←J];simp];exact⟨p3%18446744073709551616,p3/18446744073709551616,by simp[IntKind.wrap,IntKind.bits,IntKind.signed],by omega⟩
  have hd:IntKind.u64.wrap ((i:Int)+(u1:Int)-(a3:Int))=(R:Int):=by
   have:=aa (U*4294967296+u1) p3 R aS O (by omega) (by omega);rw[aw,av,←this];congr 1;simp;omega
  have D:wY 4294967296 R u0 y1 y0:=⟨by omega,by omega,aA,ae,aO,by omega⟩
  obtain⟨a,d,v⟩:=D.start;obtain⟨C,k⟩:=eV (R/y1);rw[k]at a d v;obtain⟨pp,x⟩:=eV (C*y1);rw[x]at a d v;obtain⟨rr,K⟩:=eV (R-pp);rw[K]at a d;have ap:C≤R:=by rw[←k];exact vD R y1
  have E:IntKind.u64.wrap ((R:Int) /(y1:Int))=(C:Int):=by rw[←um,k];exact qf _ (by omega)
  have ah:IntKind.u64.wrap ((R:Int).tdiv (y1:Int))=(C:Int):=by rw[uT (by omega)];exact E
  have ai:IntKind.u64.wrap ((C:Int)*(y1:Int))=(pp:Int):=by rw[←vi,x];exact qf _ (by omega)
  have aj:(R:Int)-(pp:Int)=(rr:Int):=by omega
  have ar:=sa (b:=4294967296) (N:=U) (u1:=u1) (u0:=u0) al R _ (by rw[←c,J];exact hR.symm) rfl;rw[←c]at ar;have aE:=zF ar;have aT:=zF J;have HR:=zF hR;clear ar c J hR av aw k x K v aN;go_upto_block 2 with fail;go_cut [18,16] (fun s18 s16 wx=>∃ Q r':Nat,s18=.int .u64 (Q:Int)∧s16=.int .u64 (r':Int)∧Hid (Q=(R*4294967296+u0) /(y1*4294967296+y0))∧w1=wx);case first =>
   go_wp2_with fail;go_loop [18,16] (fun qv rv=>∃ q r:Nat,qv=.int .u64 (q:Int)∧rv=.int .u64 (r:Int)∧vK 4294967296 R u0 y1 y0 q r∧r<4294967296) (fun qv _=>(intOf qv).toNat);case atStart=>exact⟨C,rr,rfl,rfl,a,d⟩
   case round =>
    clear a d;obtain⟨q,r,rfl,rfl,a,d⟩:=hrel;have u:=a.mul_le ae;obtain⟨z,g⟩:=eV (q*y0);rw[g]at u;have aM:=a.2.2;by_cases h1:4294967296≤q∨4294967296*r+u0<q*y0
    · obtain⟨j,aL⟩:=a.step D h1;obtain⟨n,rfl⟩:∃ n,q=n+1:=⟨q-1,by omega⟩
      rw[kG]at j;have g1:IntKind.u64.wrap (((n:Int)+1)*(y0:Int))=(z:Int):=by
       rw[show((n:Int)+1)*(y0:Int)=(z:Int) by rw[←g];simp];exact qf _ (by omega)
      rw[g]at h1;have I:=fun h=>j.out D (by omega) h;have ag:=zF I;clear I a g u;by_cases h3:4294967296≤r+y1
      · have c:=zF (ag.out h3);by_cases h4:4294967296≤n+1
        · have l:(4294967296:Int)≤(n:Int)+1:=by omega
          have A:(4294967296:Int)≤(r:Int)+(y1:Int):=by omega
          clear h1 h3 h4;go_wp2;go_meet;case rel=>exact⟨n,_,by go_num,rfl,c,rfl⟩
        · have M:(4294967296:Int)*(r:Int)+(u0:Int)<(z:Int):=by omega
          have l:¬(4294967296:Int)≤(n:Int)+1:=by omega
          have A:(4294967296:Int)≤(r:Int)+(y1:Int):=by omega
          clear h1 h3 h4;go_wp2;go_meet;case rel=>exact⟨n,_,by go_num,rfl,c,rfl⟩
      · by_cases h4:4294967296≤n+1
        · have l:(4294967296:Int)≤(n:Int)+1:=by omega
          have A:¬(4294967296:Int)≤(r:Int)+(y1:Int):=by omega
          have o:=zF h3;clear h1 h3 h4;go_wp2;go_round;case rel=>exact⟨n,r+y1,by go_num,by go_num,j,by have:=o.out;omega⟩
          case measure=>simp[intOf]
        · have M:(4294967296:Int)*(r:Int)+(u0:Int)<(z:Int):=by omega
          have l:¬(4294967296:Int)≤(n:Int)+1:=by omega
          have A:¬(4294967296:Int)≤(r:Int)+(y1:Int):=by omega
          have o:=zF h3;clear h1 h3 h4;go_wp2;go_round;case rel=>exact⟨n,r+y1,by go_num,by go_num,j,by have:=o.out;omega⟩
          case measure=>simp[intOf]
    · have c:=zF (a.le D (by omega));have g1:IntKind.u64.wrap ((q:Int)*(y0:Int))=(z:Int):=by
       rw[show(q:Int)*(y0:Int)=(z:Int) by rw[←g];simp];exact qf _ (by omega)
      have l:¬(4294967296:Int)≤(q:Int):=by omega
      have M:¬(4294967296:Int)*(r:Int)+(u0:Int)<(z:Int):=by omega
      clear h1 a g u;go_wp2;go_meet;case rel=>exact⟨q,_,rfl,rfl,c,rfl⟩
  case rest =>
   clear a d ap E ah ai aj;obtain⟨Q0,r2,rfl,rfl,aB,rfl⟩:=hcut;have F:=aB.out;rw[af]at F;have aG:=D.quo_lt;rw[af,←F]at aG;obtain⟨B,m⟩:=aE.out;rw[←F]at B m;have aq:=bE (N:=R*4294967296+u0) al;rw[←F]at aq;have au:(U*4294967296+u1)*4294967296+u0=U*18446744073709551616+L:=join4 U u1 u0 L aQ;have hM:=au.trans P;rw[hM]at B m;have ac:=HY.out;rw[←ac,Nat.mul_div_mul_right _ _ (qS (by omega))]at B;rw[←ac,Nat.mul_mod_mul_right]at m;rw[ac]at m;obtain⟨W,ao⟩:=eV (Q0*Y);rw[ao]at aq m;obtain⟨T,hT⟩:=eV ((f*18446744073709551616+lo)%y);obtain⟨V,hV⟩:=eV ((f*18446744073709551616+lo)/y);rw[hT]at m;rw[hV]at B;obtain⟨S,hS⟩:=eV (T*2^s);rw[hS]at m;have aU:(S:Int)/2^s=(T:Int):=by
    rw[←hS];have:T*2^s/2^s=T:=Nat.mul_div_cancel _ (qS (by omega));rw[show((2:Int)^s)=((2^s:Nat):Int) by simp,←um,this]
   obtain⟨b1,k5,aY,aZ,ax⟩:∃ i k1:Nat,IntKind.u64.wrap ((R:Int)*4294967296)=(i:Int)∧(i:Int)≤18446744069414584320∧(i:Int)=(R:Int)*4294967296-18446744073709551616*k1:=by
    refine⟨R*4294967296%18446744073709551616,R/4294967296,?_,by omega,by omega⟩;simp[IntKind.wrap,IntKind.bits,IntKind.signed]
   obtain⟨b3,k6,a0,ay⟩:∃ a3 O:Nat,IntKind.u64.wrap ((Q0:Int)*(Y:Int))=(a3:Int)∧(a3:Int)=(W:Int)-18446744073709551616*O:=by
    rw[show(Q0:Int)*(Y:Int)=(W:Int) by rw[←ao];simp];exact⟨W%18446744073709551616,W/18446744073709551616,by simp[IntKind.wrap,IntKind.bits,IntKind.signed],by omega⟩
   have a1:IntKind.u64.wrap ((b1:Int)+(u0:Int)-(b3:Int))=(S:Int):=by
    have:=aa (R*4294967296+u0) W S k5 k6 (by omega) (by omega);rw[ay,ax,←this];congr 1;simp;omega
   have aC:=zF B;have HT:=zF hT;have HV:=zF hV;clear B m F ao hS hT hV ax ay aq hM au ac;go_wp2;go_ret2;exact⟨zAY (by rw[HV.out,←aC.out];simp) (by rw[HT.out]),0,rfl⟩
theorem mC (a lo y:Nat)(w:World)(f:lo<18446744073709551616)(k:a<y)(i:y<18446744073709551616)(q r:Nat)(g:r<y)(d:a*18446744073709551616+lo=y*q+r) :
 Calls Tryz.prog 133 #[.int .u64 (a:Int),.int .u64 (lo:Int),.int .u64 (y:Int)] w fun e w'=>e=.returned (.tuple #[.int .u64 (q:Int),.int .u64 (r:Int)])∧∃ n,w'=w.drewN n:=by
 have b:(a*18446744073709551616+lo)/y=q:=by rw[d,Nat.mul_add_div (by omega),ql g];omega
 have c:(a*18446744073709551616+lo)%y=r:=by rw[d,Nat.mul_add_mod,qF g]
 rcases za a with rfl|j
 · rw[Nat.zero_mul,jL]at b c;have h:=pY lo y w f (by omega) i;rw[b,c]at h;exact h
 · have h:=tW a lo y w f j k i;rw[b,c]at h;exact h
def wB (k:Nat) (i:Int):Prop:=(k=0∧i=-1)∨∃ j:Nat,k=j+1∧i=(j:Int)
theorem wB.start (n:Nat):wB n ((n:Int)-1):=by
 rcases n with _|n
 · exact .inl ⟨rfl,by simp⟩
 · exact .inr ⟨n,rfl,by omega⟩
def xQ (B:Nat) (l o:List Nat) (d k r:Nat):Prop:=o.length=l.length∧val B (l.drop k)=d*val B (o.drop k)+r
theorem xQ.start {B:Nat}{l o:List Nat}(d:Nat)(h:o.length=l.length):xQ B l o d l.length 0:=by
 refine⟨h,?_⟩;rw[List.drop_length,←h,List.drop_length];simp
theorem sC {l:List Nat}{k:Nat}(h:k<l.length):l.drop k=dg l k::l.drop (k+1):=by
 rw[qX h,dg,ja h]
theorem drop_set {l:List Nat}{k x:Nat}(h:k<l.length):(l.set k x).drop k=x::l.drop (k+1):=by
 rw[List.drop_set,qo (Nat.lt_irrefl _),sC h,uk,vQ]
theorem xQ.step {B:Nat}{l o:List Nat}{d k r q r':Nat}(h:xQ B l o d (k+1) r)(c:k<l.length)(f:r*B+dg l k=d*q+r'):xQ B l (o.set k q) d k r':=by
 obtain⟨a,b⟩:=h;refine⟨by simpa using a,?_⟩;rw[sC c,drop_set (by omega),kB,kB,b];have e:B*(d*val B (o.drop (k+1))+r)=d*(B*val B (o.drop (k+1)))+r*B:=by
  rw[zl,jY,zp B r]
 rw[e,zl];omega
theorem xQ.fin {B:Nat}{l o:List Nat}{d r:Nat}(h:xQ B l o d 0 r)(a:r<d):val B o=val B l/d∧r=val B l%d:=by
 have:=h.2;simp only[List.drop_zero]at this;rw[this];refine⟨?_,?_⟩
 · rw[Nat.mul_add_div (by omega),ql a,jF]
 · rw[Nat.mul_add_mod,qF a]
theorem sg (P:Nat→Prop)(A:Option Addr)(c:Nat)(l:List Nat)(d:Nat)(w:World)(h:RN w P A c l)(K:∀ b,P b→b<w.heap.size)(hl:l.length<100000)(N:0<d)(O:d<18446744073709551616) :
 Calls Tryz.prog 120 #[.slice A l.length c,.int .u64 (d:Int)] w fun e w'=>∃ y c1,e=.returned (.tuple #[.slice y (digs 18446744073709551616 (val 18446744073709551616 l/d)).length c1,.int .u64 ((val 18446744073709551616 l%d:Nat):Int)]) ∧
  OB w' w.heap.size y c1 (digs 18446744073709551616 (val 18446744073709551616 l/d))∧Below w.heap.size w w':=by
 obtain⟨W,X,Y⟩:=h.cap
 have aa:=qt (P:=Tryz.prog) 24 65 (.int .u64 0) 8 Tryz.underlying24 kU rfl .i64 .i64 l.length (by omega) (by omega)
 have F:=zF (wB.start l.length)
 go_enter Tryz.func120,Tryz.ntmps120
 go_wp2
 go_loopw [7,8] (fun rv iv wr=>∃(k r:Nat) (z:Int) (o:List Nat),iv=.int .i64 z∧wB k z∧rv=.int .u64 (r:Int)∧k≤l.length∧r<d∧xQ 18446744073709551616 l o d k r∧Lim o∧Blk wr w.heap.size o∧Below w.heap.size w wr) (fun _ iv _=>(intOf iv+1).toNat)
 case atStart=>exact⟨l.length,0,_,List.replicate l.length 0,rfl,F.out,rfl,by omega,by omega,xQ.start d (by simp),⟨by simp,by simp;omega⟩,wD w _,(zo _ w).alloc (zG _) _⟩
 case round =>
  obtain⟨k,r,z,o,rfl,U,rfl,hk,u,a,m,f,g⟩:=hrel;rcases U with⟨rfl,rfl⟩|⟨j,rfl,rfl⟩
  · obtain⟨x,D⟩:=a.fin u;have s:OB wr w.heap.size (some ⟨w.heap.size,0,none⟩) l.length o:=kq f (zG _) m (by have:=a.1;omega) (by unfold maxLen;omega);have v:=jZ _ _ _ _ _ s.rn;have B:=s.trim;rw[x,a.1]at v;rw[x]at B;have H:=zF v;have E:=zF D;clear f m v x D s a;go_wp2_with fail;refine H.out.mono ?_;rintro e V ⟨rfl,rfl⟩;go_wp2;go_ret2;exact⟨_,_,by rw[E.out];rfl,B,g⟩
  · obtain⟨ad,rfl,Z,q1⟩:=(h.below g K).at_ (i:=j) (by omega);have S:=a.1;have R:=h.2.dgLt j;have q3:=f.cell (i:=j) (by omega);have q4:=f.free j;obtain⟨q,r',C,t,T⟩:∃ q r':Nat,r'<d∧r*18446744073709551616+dg l j=d*q+r'∧q<18446744073709551616:=by
     refine⟨(r*18446744073709551616+dg l j)/d,(r*18446744073709551616+dg l j)%d,qP _ N,(jj _ d).symm,?_⟩;apply jN;have:(r+1)*18446744073709551616≤d*18446744073709551616:=qr _ u;omega
    have Q:=zF (fun w=>mC r (dg l j) d w R u O q r' C t);have L:=a.step (by omega) t;have M:=f.set j q;have J:=m.set j q T;have I:=g.setCell (p:=⟨w.heap.size,j,none⟩) (zG _) (.int .u64 (q:Int));have k1:(j:Int)<(l.length:Int):=by omega
    have G:=zF (wB.start j);clear t a f m g S;go_wp2_with fail;refine(Q.out _).mono ?_;rintro e V ⟨rfl,n,rfl⟩;go_wp2;go_roundw;case rel=>exact⟨j,r',_,o.set j q,rfl,G.out,rfl,by omega,C,L,J,M,qp I _⟩
    case measure=>simp[intOf]
theorem cj {d:Nat}(a:0<d)(h:d<18446744073709551616):digs 18446744073709551616 d=[d]:=by
 rw[jq (by omega) a,qF h,ql h,qW]
theorem quo_lt (P P':Nat→Prop)(A A':Option Addr)(c c':Nat)(a b:List Nat)(w:World)(h:RN w P A c a)(g:RN w P' A' c' b)(o:val 18446744073709551616 a<val 18446744073709551616 b) :
 Calls Tryz.prog 95 #[.slice A a.length c,.slice A' b.length c'] w fun e w'=>∃ f c1,e=.returned (.tuple #[.slice none 0 0,.slice f (digs 18446744073709551616 (val 18446744073709551616 a)).length c1,.bool true]) ∧
  OB w' w.heap.size f c1 (digs 18446744073709551616 (val 18446744073709551616 a))∧Below w.heap.size w w':=by
 have s:=zF (jZ P A c a w h)
 have t:=zF (jZ P' A' c' b w g)
 have i:=xO P P' A A' c c' _ _ w h.trim g.trim
 have j:=fun n=>dC P A c _ (World.drewN w n) (h.trim.drewN n)
 rw[zi (by omega),zi (by omega),xt o]at i
 rw[zi (by omega)]at j
 have p:=zF i
 have Tm:=zF j
 have r:0<(digs 18446744073709551616 (val 18446744073709551616 b)).length:=by
  rw[jq (by omega) (by omega)];simp
 clear i j h g o
 generalize digs 18446744073709551616 (val 18446744073709551616 a)=l at *
 generalize digs 18446744073709551616 (val 18446744073709551616 b)=m at *
 have u:((m.length:Int)==0)=false:=eqB (by omega)
 clear r
 go_enter Tryz.func95,Tryz.ntmps95
 go_wp2_with fail
 refine s.out.mono ?_
 rintro e k ⟨rfl,rfl⟩
 go_wp2_with fail
 refine t.out.mono ?_
 rintro e k ⟨rfl,rfl⟩
 go_wp2_with fail
 refine p.out.mono ?_
 rintro e k ⟨rfl,n,rfl⟩
 go_wp2_with fail
 refine(Tm.out n).mono ?_
 rintro e k ⟨f,c1,rfl,q,d⟩
 go_wp2
 go_ret3
 exact⟨f,c1,rfl,q,⟨d.os,d.tape,d.output,d.size,d.block⟩⟩
theorem zCI (P P':Nat→Prop)(A A':Option Addr)(c c':Nat)(a b:List Nat)(w:World)(h:RN w P A c a)(d:RN w P' A' c' b)(t:∀ b,P b→b<w.heap.size)(L:a.length<100000)(K:val 18446744073709551616 b≤val 18446744073709551616 a)
 (o:0<val 18446744073709551616 b) (p:val 18446744073709551616 b<18446744073709551616) :
 Calls Tryz.prog 95 #[.slice A a.length c,.slice A' b.length c'] w fun e w'=>∃ j c1 k m,e=.returned (.tuple #[.slice j (digs 18446744073709551616 (val 18446744073709551616 a/val 18446744073709551616 b)).length c1,.slice k (digs 18446744073709551616 (val 18446744073709551616 a%val 18446744073709551616 b)).length m,.bool true]) ∧
  OB w' w.heap.size j c1 (digs 18446744073709551616 (val 18446744073709551616 a/val 18446744073709551616 b))∧OB w' w.heap.size k m (digs 18446744073709551616 (val 18446744073709551616 a%val 18446744073709551616 b))∧Below w.heap.size w w':=by
 have O:=zF (jZ P A c a w h)
 have z:=zF (jZ P' A' c' b w d)
 have g:=xO P P' A A' c c' _ _ w h.trim d.trim
 have la:=jD (B:=18446744073709551616) (by omega) h.2.1
 have ts:=fun n=>sg P A c _ (val 18446744073709551616 b) (World.drewN w n) (h.trim.drewN n) t (by omega) o p
 rw[zi (by omega),zi (by omega)]at g
 rw[zi (by omega)]at ts
 replace h:=h.trim
 replace d:=d.trim
 generalize val 18446744073709551616 a=x at *
 generalize val 18446744073709551616 b=y at *
 have J:0≤wK x y:=by rcases wA x y with h|h|h<;>omega
 generalize wK x y=v at g J
 have M:=zF (fun w=>fP (x%y) w (by have:=qP x o;omega))
 have u:=cj o p
 rw[u]at z g d
 have C:=zF g
 have D:=zF ts
 obtain⟨E,rfl,Q,q⟩:=d.at_ (i:=0) (by simp)
 rw[yV]at q
 clear g ts u K la L
 obtain⟨g1,F,G⟩:=h.cap
 generalize digs 18446744073709551616 x=l at *
 clear h d o p
 have N:Hid (w.cell? E=some (.int .u64 (y:Int))):=zF (by simpa[Addr.add]using q)
 clear q
 go_enter Tryz.func95,Tryz.ntmps95
 go_wp2_with fail
 refine O.out.mono ?_
 rintro e r ⟨rfl,rfl⟩
 go_wp2_with fail
 refine z.out.mono ?_
 rintro e r ⟨rfl,rfl⟩
 go_wp2_with fail
 refine C.out.mono ?_
 rintro e r ⟨rfl,n,rfl⟩
 have R:=N.out
 clear t g1 F G
 go_wp2_with fail
 refine(D.out n).mono ?_
 rintro e r ⟨j,c1,rfl,H,f⟩
 go_wp2_with fail
 refine(M.out _).mono ?_
 rintro e w2 ⟨k,m,rfl,I,s⟩
 go_wp2
 go_ret3
 exact⟨j,c1,k,m,rfl,H.below s (zG _),I.mono f.size,jJ ⟨f.os,f.tape,f.output,f.size,f.block⟩ (s.mono f.size)⟩
end Go.Proofs.YtaemogcomplhiaaGreatDoor
namespace Go.Proofs.YtaemogcomplhiaaGreatDoor
theorem xW:type_of% @wB.start:=@wB.start
def xu (B:Nat) (a y:List Nat) (q f:Nat) (L:List Nat) (j c b:Nat):Prop :=
 L.length=a.length∧val B L+B^f*(q*val B (y.take j))=val B a+B ^(f+j)*(c+b)∧∀ i,f+j≤i→dg L i=dg a i
theorem xu.zero (B:Nat)(L y:List Nat)(q f:Nat):xu B L y q f L 0 0 0:=by simp[xu]
theorem xu.step {B:Nat}{a y L:List Nat}{q f j c b lo c' x b':Nat}(h:xu B a y q f L j c b)(o:f+j<L.length)(m:lo+B*c'=q*dg y j+c)(n:x+lo+b=dg L (f+j)+B*b') :
 xu B a y q f (L.set (f+j) x) (j+1) c' b':=by
 obtain⟨g1,k,l⟩:=h
 refine⟨by simpa using g1,?_,fun i p=>by rw[getD_set_ne (by omega)];exact l i (by omega)⟩
 have r:=xE B o x
 rw[qG,zl,zl,←kN f j 1,zx]
 have d:B^f*(q*(B^j*dg y j))=B ^(f+j)*(q*dg y j):=by
  rw[qQ,jY q,←zd]
 have e:B ^(f+j)*(lo+B*c')=B ^(f+j)*(q*dg y j+c):=by rw[m]
 have g:B ^(f+j)*(x+lo+b)=B ^(f+j)*(dg L (f+j)+B*b'):=by rw[n]
 rw[d,zd,zl]
 rw[zl]at k
 simp only[zl]at e g ⊢
 generalize B ^(f+j)*(B*c')=p1 at *
 generalize B ^(f+j)*(B*b')=p2 at *
 generalize B ^(f+j)*lo=p3 at *
 generalize B ^(f+j)*(q*dg y j)=v at *
 generalize B ^(f+j)*c=w at *
 generalize B ^(f+j)*b=z at *
 generalize B ^(f+j)*x=A at *
 generalize B ^(f+j)*dg L (f+j)=C at *
 generalize B^f*(q*val B (y.take j))=D at *
 generalize val B (L.set (f+j) x)=s at *
 generalize val B L=t at *
 generalize val B a=u at *
 omega
theorem xu.fin {B:Nat}{a y L:List Nat}{q f n c b x b':Nat}(h:xu B a y q f L n c b)(m:y.length=n)(k:f+n<L.length)(j:x+c+b=dg L (f+n)+B*b') :
 (L.set (f+n) x).length=a.length∧val B (L.set (f+n) x)+B^f*(q*val B y)=val B a+B ^(f+n+1)*b'∧∀ i,f+n+1≤i→dg (L.set (f+n) x) i=dg a i:=by
 obtain⟨g1,d,g⟩:=h
 refine⟨by simpa using g1,?_,fun i l=>by rw[getD_set_ne (by omega)];exact g i (by omega)⟩
 rw[zu (by omega)]at d
 have o:=xE B k x
 have e:B ^(f+n)*(x+c+b)=B ^(f+n)*(dg L (f+n)+B*b'):=by rw[j]
 rw[zx,zd]
 simp only[zl]at e d
 generalize B ^(f+n)*(B*b')=p2 at *
 generalize B ^(f+n)*c=t at *
 generalize B ^(f+n)*b=u at *
 generalize B ^(f+n)*x=v at *
 generalize B ^(f+n)*dg L (f+n)=w at *
 generalize B^f*(q*val B y)=z at *
 generalize val B (L.set (f+n) x)=p at *
 generalize val B L=r at *
 generalize val B a=s at *
 omega
def xv (B:Nat) (a y:List Nat) (f:Nat) (L:List Nat) (j c:Nat):Prop :=
 L.length=a.length∧val B L+B ^(f+j)*c=val B a+B^f*val B (y.take j)∧∀ i,f+j≤i→dg L i=dg a i
theorem xv.zero (B:Nat)(L y:List Nat)(f:Nat):xv B L y f L 0 0:=by simp[xv]
theorem xv.step {B:Nat}{a y L:List Nat}{f j c x c':Nat}(h:xv B a y f L j c)(g:f+j<L.length)(e:x+B*c'=dg L (f+j)+dg y j+c):xv B a y f (L.set (f+j) x) (j+1) c':=by
 obtain⟨g1,k,d⟩:=h;refine⟨by simpa using g1,?_,fun i l=>by rw[getD_set_ne (by omega)];exact d i (by omega)⟩;have m:=xE B g x;rw[qG,zl,←zd,←qQ,←kN f j 1,zx,zd];have b:B ^(f+j)*(x+B*c')=B ^(f+j)*(dg L (f+j)+dg y j+c):=by rw[e]
 simp only[zl]at b ⊢;generalize B ^(f+j)*(B*c')=p1 at *;generalize B ^(f+j)*dg y j=q at *;generalize B ^(f+j)*c=r at *;generalize B ^(f+j)*x=s at *;generalize B ^(f+j)*dg L (f+j)=t at *;generalize B^f*val B (y.take j)=u at *;generalize val B (L.set (f+j) x)=n at *;generalize val B L=o at *;generalize val B a=p at *;omega
theorem xv.fin {B:Nat}{a y L:List Nat}{f n c x c':Nat}(h:xv B a y f L n c)(l:y.length=n)(j:f+n<L.length)(g:x+B*c'=dg L (f+n)+c) :
 (L.set (f+n) x).length=a.length∧val B (L.set (f+n) x)+B ^(f+n+1)*c'=val B a+B^f*val B y∧∀ i,f+n+1≤i→dg (L.set (f+n) x) i=dg a i:=by
 obtain⟨g1,d,e⟩:=h
 refine⟨by simpa using g1,?_,fun i k=>by rw[getD_set_ne (by omega)];exact e i (by omega)⟩
 rw[zu (by omega)]at d
 have m:=xE B j x
 have b:B ^(f+n)*(x+B*c')=B ^(f+n)*(dg L (f+n)+c):=by rw[g]
 rw[zx,zd]
 simp only[zl]at b
 generalize B ^(f+n)*(B*c')=p2 at *
 generalize B ^(f+n)*c=r at *
 generalize B ^(f+n)*x=s at *
 generalize B ^(f+n)*dg L (f+n)=t at *
 generalize B^f*val B y=u at *
 generalize val B (L.set (f+n) x)=o at *
 generalize val B L=p at *
 generalize val B a=q at *
 omega
theorem vq {B:Nat}(c:0<B){L:List Nat}(h:∀ x∈L,x<B){m:Nat}(g:∀ i,m≤i→dg L i=0):val B L<B^m:=by
 rcases qH L.length m with a|a
 · exact zH (kF h) (qE c (by omega))
 · have e:=jI B L a;have d:val B (L.drop m)=0:=by
    apply wH;intro x b;obtain⟨i,f,rfl⟩:=List.getElem_of_mem b;rw[List.getElem_drop];have:=g (m+i) (by omega);rwa [dg,ja (by simp at f;omega)]at this
   rw[d,je,jF]at e;rw[e];have:=kF (B:=B) (l:=L.take m) fun x b=>h x (qN b);rwa [zh,qU a]at this
theorem tY {B:Nat}{L:List Nat}(h:∀ x∈L,x<B)(i:Nat)(a:i<L.length):dg L i=val B L/B^i%B:=by
 have c:0<B:=jh (xB _) (h _ (wL a));have e:=jI B L (kA a);have b:=kF (B:=B) (l:=L.take i) fun x d=>h x (qN d);rw[zh,qU (by omega)]at b;rw[qX a,kB]at e;rw[e,ka _ _ (qS c),ql b,jL,qw,dg,ja a,qF (h _ (wL a))]
theorem yk {B:Nat}{L:List Nat}(h:∀ x∈L,x<B){m:Nat}(d:val B L<B^m){i:Nat}(c:m≤i):dg L i=0:=by
 rcases qH i L.length with a|a
 · have b:0<B:=jh (xB _) (h _ (wL a));rw[tY h i a,ql (zH d (qE b c)),kS]
 · rw[dg,zy,jH a];rfl
end Go.Proofs.YtaemogcomplhiaaGreatDoor
namespace Go.Proofs.YtaemogcomplhiaaGreatDoor
open Go.RowKit
def gH (u u1 y1 y0 G:Nat):Prop:=G<18446744073709551616∧∀ q,q<18446744073709551616→q*(y1*18446744073709551616+y0)≤u*18446744073709551616+u1→q≤G
theorem gH.top (u u1 y1 y0:Nat):gH u u1 y1 y0 18446744073709551615:=⟨by omega,fun q a _=>by omega⟩
theorem gH.of_eq {u u1 y1 y0 G:Nat}(h:wY 18446744073709551616 u u1 y1 y0)(a:G=(u*18446744073709551616+u1) /(y1*18446744073709551616+y0)):gH u u1 y1 y0 G:=by
 refine⟨by rw[a];exact h.quo_lt,fun q _ b=>?_⟩;rw[a];refine(Nat.le_div_iff_mul_le ?_).2 b;have:=h.hy;omega
theorem zDd {b lo r x p:Nat}(h:lo+18446744073709551616*b=p)(c:lo<18446744073709551616)(d:x<18446744073709551616):(b<r∨b=r∧lo≤x)↔p≤18446744073709551616*r+x:=by
 subst h;rcases Nat.lt_trichotomy b r with a|a|a
 · refine⟨fun _=>?_,fun _=>.inl a⟩;omega
 · subst a;exact⟨fun h=>by omega,fun h=>by omega⟩
 · exact⟨fun h=>by omega,fun h=>by omega⟩
theorem zBv {B x2 x1 y1:Nat}(a:x1<B)(h:x2<y1):(x2*B+x1)/y1<B:=by
 apply jN;have:(x2+1)*B≤y1*B:=qr _ h;rw[qb,kH]at this;omega
theorem zDK {a b:Int}(h:a=b):Ending.returned (.int .u64 a)=.returned (.int .u64 b):=by rw[h]
def gE (x2 x1 x0 y1 y0:Nat):Nat:=if y1≤x2 then 18446744073709551615 else((x2*18446744073709551616+x1)*18446744073709551616+x0) /(y1*18446744073709551616+y0)
theorem tM {x2 x1 x0 y1 y0:Nat}(c:x1<18446744073709551616)(a:x0<18446744073709551616)(g1:y1<18446744073709551616)(g0:y0<18446744073709551616)(gt:18446744073709551616≤2*y1) :
 gH (x2*18446744073709551616+x1) x0 y1 y0 (gE x2 x1 x0 y1 y0):=by
 unfold gE
 split
 · exact gH.top _ _ _ _
 · have b:x2*18446744073709551616+x1<y1*18446744073709551616+y0:=by omega
   exact gH.of_eq ⟨by omega,gt,g1,g0,a,b⟩ rfl
theorem tL (x2 x1 x0 y1 y0:Nat)(w:World)(B:x1<18446744073709551616)(A:x0<18446744073709551616)(g1:y1<18446744073709551616)(g0:y0<18446744073709551616)(gt:18446744073709551616≤2*y1) :
 Calls Tryz.prog 123 #[.int .u64 (x2:Int),.int .u64 (x1:Int),.int .u64 (x0:Int),.int .u64 (y1:Int),.int .u64 (y0:Int)] w fun e w'=>e=.returned (.int .u64 (gE x2 x1 x0 y1 y0:Int))∧∃ n,w'=w.drewN n:=by
 by_cases hge:y1≤x2
 · have k1:y1≤x2:=hge;have Y:gE x2 x1 x0 y1 y0=18446744073709551615:=qg hge;have Ht:=zF Y;clear B A g1 g0 gt hge Y;go_enter Tryz.func123,Tryz.ntmps123;go_wp2;go_step3;go_wp2;try rw[uU]
   go_ret;exact⟨by rw[Ht.out];rfl,0,rfl⟩
 · have k1:¬ y1≤x2:=hge;have K:x2<y1:=by omega
   have O:x2*18446744073709551616+x1<y1*18446744073709551616+y0:=by omega
   have d:=zBv B K;have I:=fun q r (c:r<y1) (J:_=y1*q+r)=>mC x2 x1 y1 w B K g1 q r c J;have H:gE x2 x1 x0 y1 y0=((x2*18446744073709551616+x1)*18446744073709551616+x0) /(y1*18446744073709551616+y0):=qo hge;obtain⟨u,Z⟩:=eV (x2*18446744073709551616+x1);rw[Z]at O d I H;have G:=(⟨by omega,gt,g1,g0,A,O⟩:wY 18446744073709551616 u x0 y1 y0)
   obtain⟨b,c,M⟩:=G.start;have y:u-u/y1*y1<y1:=(bE (by omega)).2;have Q:Hid (∀ g,g=(u*18446744073709551616+x0) /(y1*18446744073709551616+y0)→g=gE x2 x1 x0 y1 y0):=zF fun g J=>J.trans H.symm;clear H;clear O Z;obtain⟨q,U⟩:=eV (u/y1);rw[U]at b c M y d;obtain⟨p,N⟩:=eV (q*y1);rw[N]at b c M y;obtain⟨r,W⟩:=eV (u-p);rw[W]at b c y;have aa:=zF (I q r y (by rw[zp,N];omega));have F:=zF G;clear I U N W M y hge K B G gt;go_enter Tryz.func123,Tryz.ntmps123;go_wp2;go_step3;go_wp2_with fail;refine aa.out.mono ?_;rintro e k ⟨rfl,n,rfl⟩;go_wp2;go_step3;go_wp2;go_loop [11,12] (fun qv rv=>∃ q r:Nat,qv=.int .u64 (q:Int)∧rv=.int .u64 (r:Int)∧vK 18446744073709551616 u x0 y1 y0 q r∧r<18446744073709551616∧q<18446744073709551616) (fun qv _=>(intOf qv).toNat);case atStart=>exact⟨q,r,rfl,rfl,b,c,d⟩
   case round =>
    clear b c d;obtain⟨q,r,rfl,rfl,b,c,d⟩:=hrel;obtain⟨a,lo,l,o⟩:∃ a lo:Nat,lo<18446744073709551616∧lo+18446744073709551616*a=q*y0:=⟨q*y0/18446744073709551616,q*y0%18446744073709551616,by omega,by omega⟩
    have j:=zF (fun w=>yp q y0 a lo d g0 l o w);have x:=zDd (r:=r) o l A;by_cases hc:q*y0≤18446744073709551616*r+x0
    · have t:=zF (Q.out _ (b.le F.out hc));have v:=x.2 hc;clear x hc b c d l o g0 g1 A;rcases v with v|⟨rfl,v⟩
      · have z:a<r:=by omega
        clear v;go_wp2_with fail;refine(j.out _).mono ?_;rintro e k ⟨rfl,rfl⟩;go_wp2;try rw[uU]
        go_ret;exact⟨by rw[←t.out];rfl,_,rfl⟩
      · have z:¬ a<a:=by omega
        have D:lo≤x0:=by omega
        clear v;go_wp2_with fail;refine(j.out _).mono ?_;rintro e k ⟨rfl,rfl⟩;go_wp2;try rw[uU]
        go_ret;exact⟨by rw[←t.out];rfl,_,rfl⟩
    · obtain⟨i,V⟩:=b.step F.out (.inr (by omega));obtain⟨m,rfl⟩:∃ m,q=m+1:=⟨q-1,by omega⟩
      rw[kG]at i;have L:m<18446744073709551616:=by omega
      obtain⟨s,f,E,s2,P⟩:∃ s f:Nat,s<18446744073709551616∧f≤1∧s+18446744073709551616*f=r+y1+0:=⟨(r+y1)%18446744073709551616,(r+y1)/18446744073709551616,by omega,by omega,by omega⟩
      have T:=fun w=>kR r y1 0 s f (by omega) E P w;simp only[qO]at T;have C:¬(a<r∨a=r∧lo≤x0):=fun h=>hc (x.1 h);have ac:(m:Int)<18446744073709551616:=by omega
      rcases za f with rfl|ab
      · have X:s=r+y1:=by omega
        rw[←X]at i;have S:=zF E;have R:=zF L;clear E s2 P X b x hc l o d c V L;by_cases hi:a=r
        · subst hi;have z:¬ a<a:=by omega
          have D:¬ lo≤x0:=by omega
          clear C;go_wp2_with fail;refine(j.out _).mono ?_;rintro e k ⟨rfl,rfl⟩;go_wp2;go_round;case rel=>exact⟨m,s,by go_num,rfl,i,S.out,R.out⟩
          case measure=>simp[intOf]
        · have z:¬ a<r:=by omega
          have D:((a:Int)==(r:Int))=false:=eqB (by omega);clear C hi;go_wp2_with fail;refine(j.out _).mono ?_;rintro e k ⟨rfl,rfl⟩;go_wp2;go_round;case rel=>exact⟨m,s,by go_num,rfl,i,S.out,R.out⟩
          case measure=>simp[intOf]
      · obtain rfl:f=1:=by omega
        have t:=zF (Q.out _ (i.out F.out (by omega) (by omega)));clear E s2 P b i x hc l o d c V L;simp only[qO]at T;by_cases hi:a=r
        · subst hi;have z:¬ a<a:=by omega
          have D:¬ lo≤x0:=by omega
          clear C;go_wp2_with fail;refine(j.out _).mono ?_;rintro e k ⟨rfl,rfl⟩;go_wp2;try rw[uU]
          go_ret;exact⟨by rw[←t.out];exact zDK (by simp),_,rfl⟩
        · have z:¬ a<r:=by omega
          have D:((a:Int)==(r:Int))=false:=eqB (by omega);clear C hi;go_wp2_with fail;refine(j.out _).mono ?_;rintro e k ⟨rfl,rfl⟩;go_wp2;try rw[uU]
          go_ret;exact⟨by rw[←t.out];exact zDK (by simp),_,rfl⟩
def Row (w:World) (g:Nat) (l:List Nat):Prop:=∃ a,w.heap[g]?=some (.cells a 65 (0,0))∧∀(j:Nat) u,(nts l)[j]?=some u→a[j]?=some u
section
variable {w w' w'':World} {g f:Nat} {l:List Nat} {p:Addr}
theorem dP (g f j:Nat):(⟨g,f,none⟩:Addr).add j=⟨g,f+j,none⟩:=by
 rcases za j with h|h
 · subst h;rfl
 · simp[Addr.add,Nat.pos_iff_ne_zero.1 h]
theorem Row.cell (h:Row w g l)(d:p=⟨g,f,none⟩){j:Nat}(c:f+j<l.length):w.cell? (p.add j)=some (.int .u64 (dg l (f+j):Int)):=by
 obtain⟨e,a,b⟩:=h;rw[d,dP,zP a,b _ _ (gA c)]
theorem Row.free (h:Row w g l)(b:p=⟨g,f,none⟩)(j:Nat):w.frozen? (p.add j)=false:=by
 obtain⟨c,a,d⟩:=h;rw[b,dP,qz a]
theorem Row.set (h:Row w g l)(k:p=⟨g,f,none⟩)(j x:Nat):Row (w.setCell (p.add j) (.int .u64 (x:Int))) g (l.set (f+j) x):=by
 obtain⟨c,d,b⟩:=h;rw[k,dP];refine⟨c.setIfInBounds (f+j) (.int .u64 (x:Int)),by simp[World.setCell,vI,d],fun i u a=>?_⟩;rw[nts,List.map_set,List.getElem?_set]at a;rw[Array.getElem?_setIfInBounds];by_cases e:f+j=i
 · rw[qg e]at a ⊢;split at a
   · rename_i hl;have:=b i _ (gA (by rw[←e];simpa using hl));have m:=(Array.getElem?_eq_some_iff.1 this).1;rw[qg (by omega)];exact a
   · cases a
 · rw[qo e]at a ⊢;exact b i u a
theorem Row.lt (h:Row w g l):g<w.heap.size:=by obtain⟨b,a,c⟩:=h;exact qd a
theorem Row.drewN (h:Row w g l)(n:Nat):Row (w.drewN n) g l:=h
theorem Row.of_heap (h:Row w g l)(d:w'.heap[g]?=w.heap[g]?):Row w' g l:=by
 obtain⟨a,b,c⟩:=h;exact⟨a,d.trans b,c⟩
theorem Row.below {B:Nat}(h:Row w g l)(a:Below B w w')(b:g<B):Row w' g l:=h.of_heap (a.block g b)
theorem Row.ob (h:Row w g l){base c:Nat}(i:base≤g)(j:Lim l)(e:l.length≤c)(f:c≤maxLen):OB w base (some ⟨g,0,none⟩) c l:=by
 obtain⟨a,b,d⟩:=h;exact⟨j,e,f,fun _=>⟨g,a,rfl,i,b,d⟩⟩
theorem OB.row {base c:Nat}{A:Option Addr}(h:OB w base A c l)(b:0<l.length):∃ g,A=some ⟨g,0,none⟩∧base≤g∧Row w g l:=by
 obtain⟨k,m,n,d⟩:=h;obtain⟨g,a,e,j,f,i⟩:=d b;exact⟨g,e,j,a,f,i⟩
theorem Row.blk (h:Blk w g l):Row w g l:=⟨_,h,fun j u a=>by rw[zQ];exact a⟩
structure wQ (g:Nat) (w w':World):Prop where
 os:w'.os=w.os
 tape:w'.tape=w.tape
 output:w'.output=w.output
 size:w'.heap.size=w.heap.size
 block:∀ k,k≠g→w'.heap[k]?=w.heap[k]?
theorem wQ.refl (g:Nat)(w:World):wQ g w w:=⟨rfl,rfl,rfl,rfl,fun _ _=>rfl⟩
theorem wQ.trans (h:wQ g w w')(k:wQ g w' w''):wQ g w w'':=⟨k.os.trans h.os,k.tape.trans h.tape,k.output.trans h.output,k.size.trans h.size,fun i a=>(k.block i a).trans (h.block i a)⟩
theorem wQ.setCell (h:wQ g w w')(b:p=⟨g,f,none⟩)(j:Nat)(v:Value):wQ g w (w'.setCell (p.add j) v):=by
 have e:(p.add j).block=g:=by rw[b,dP]
 refine⟨h.os,h.tape,h.output,?_,fun k a=>(ji _ _ _ _ (by rw[e];exact a)).trans (h.block k a)⟩;have:(w'.setCell (p.add j) v).heap.size=w'.heap.size:=by unfold World.setCell;split<;>simp
 exact this.trans h.size
theorem wQ.drewN (h:wQ g w w')(n:Nat):wQ g w (w'.drewN n):=⟨h.os,h.tape,h.output,h.size,h.block⟩
theorem wQ.below {B:Nat}(h:wQ g w w')(a:B≤g):Below B w w':=⟨h.os,h.tape,h.output,Nat.le_of_eq h.size.symm,fun k b=>h.block k (by omega)⟩
theorem RN.only {P:Nat→Prop}{A:Option Addr}{c:Nat}(h:RN w P A c l)(d:wQ g w w')(a:∀ b,P b→b≠g):RN w' P A c l:=h.keep fun q e=>qB (w:=w) (d.block q.block (a _ e))
theorem Row.only {a:Nat}(h:Row w a l)(c:wQ g w w')(b:a≠g):Row w' a l:=h.of_heap (c.block a b)
end
theorem nK (q v c x b:Nat)(f:q<18446744073709551616)(g:v<18446744073709551616)(e:c<18446744073709551616)(h:x<18446744073709551616)(d:b≤1) :
   ∃ a lo s c1 t b' : Nat, lo < 18446744073709551616 ∧ lo + 18446744073709551616 * a = q * v ∧ s < 18446744073709551616 ∧ s + 18446744073709551616 * c1 = lo + c + 0 ∧ a + c1 < 18446744073709551616 ∧ s + 18446744073709551616 * (a + c1) = q * v + c ∧
     t<18446744073709551616∧b'≤1∧t+s+b=x+18446744073709551616*b':=by
 have l:=yh f g e (show 0<18446744073709551616 by omega);refine⟨q*v/18446744073709551616,q*v%18446744073709551616,(q*v%18446744073709551616+c)%18446744073709551616,(q*v%18446744073709551616+c)/18446744073709551616,?_⟩;obtain⟨t,b',i,j,k⟩:=ug x ((q*v%18446744073709551616+c)%18446744073709551616) b h (qP _ (by omega)) d;refine⟨t,b',?_⟩;generalize q*v=p at *;omega
theorem se (g f:Nat)(p:Addr)(Q:p=⟨g,f,none⟩)(P:Nat→Prop)(A:Option Addr)(c cx n q:Nat)(L y:List Nat)(w:World)(hr:Row w g L)(V:Lim L)(h:RN w P A c y)(W:∀ b,P b→b≠g)(Z:y.length=n)(hf:f+n<L.length)(C:q<18446744073709551616) :
 Calls Tryz.prog 124 #[.slice (some p) (n+1) cx,.slice A n c,.int .u64 (q:Int)] w fun e w'=>∃(L':List Nat) (b:Nat),e=.returned (.bool (decide (0<b)))∧Row w' g L'∧Lim L'∧wQ g w w' ∧
  L'.length=L.length∧val 18446744073709551616 L'+18446744073709551616^f*(q*val 18446744073709551616 y)=val 18446744073709551616 L+18446744073709551616 ^(f+n+1)*b∧∀ i,f+n+1≤i→dg L' i=dg L i:=by
 obtain⟨S,T,U⟩:=h.cap
 have ab:n≤1000000:=by omega
 have ac:n≤c:=by omega
 have a:=zF Q
 clear Q S T U
 go_enter Tryz.func124,Tryz.ntmps124
 go_wp2
 go_loopw [7,8,16] (fun cv bv iv wr=>∃(j d b:Nat) (l:List Nat),iv=.int .i64 (j:Int)∧cv=.int .u64 (d:Int)∧bv=.int .u64 (b:Int)∧j≤n∧d<18446744073709551616∧b≤1∧xu 18446744073709551616 L y q f l j d b∧Lim l∧Row wr g l∧wQ g w wr) (fun _ _ iv _=>n-(intOf iv).toNat)
 case atStart=>exact⟨0,0,0,L,rfl,rfl,rfl,by omega,by omega,by omega,xu.zero _ _ _ _ _,V,hr,wQ.refl _ _⟩
 case round =>
  obtain⟨j,d,b,l,rfl,rfl,rfl,hj,v,B,u,k,m,x⟩:=hrel;have O:=u.1;by_cases hlt:j<n
  · obtain⟨ad,rfl,_,q1⟩:=(h.only x W).at_ (i:=j) (by omega);obtain⟨N,lo,s,c1,t,b',I,J,D,K,R,M,o,z,r⟩:=nK q (dg y j) d (dg l (f+j)) b C (h.2.dgLt j) v (k.dgLt _) B;have Y:=zF (fun w=>yp q (dg y j) N lo C (h.2.dgLt j) I J w);have X:=fun w=>kR lo d 0 s c1 (by omega) D K w;simp only[qO]at X;have aa:=fun w=>uX (dg l (f+j)) s b t b' B (k.dgLt _) D o r z w;have q3:=m.cell a.out (j:=j) (by omega);have q4:=m.free a.out j;have E:=u.step (by omega) M r;have H:=m.set a.out j t;have F:=k.set (f+j) t o;have G:=x.setCell a.out j (.int .u64 (t:Int));have k1:(j:Int)<(n:Int)+1:=by omega
    clear u k m x I J D K M o r O C v;go_wp2_with fail;refine(Y.out _).mono ?_;rintro e w1 ⟨rfl,rfl⟩;go_wp2;go_roundw;case rel=>exact⟨j+1,N+c1,b',l.set (f+j) t,by go_num,by go_num,rfl,by omega,R,z,E,F,H,G⟩
    case measure=>simp[intOf];omega
  · obtain rfl:j=n:=by omega
    obtain⟨t,b',o,z,r⟩:=ug (dg l (f+j)) d b (k.dgLt _) v B;have aa:=fun w=>uX (dg l (f+j)) d b t b' B (k.dgLt _) v o r z w;have q3:=m.cell a.out (j:=j) (by omega);have q4:=m.free a.out j;have E:=zF (u.fin Z (by omega) r);have H:=m.set a.out j t;have F:=k.set (f+j) t o;have G:=x.setCell a.out j (.int .u64 (t:Int));have k1:(j:Int)<(j:Int)+1:=by omega
    clear u k m x o r O C v;go_wp2;go_ret;exact⟨l.set (f+j) t,b',by simp,H,F,G,E.out⟩
theorem tO (g f:Nat)(p:Addr)(G:p=⟨g,f,none⟩)(P:Nat→Prop)(A:Option Addr)(c cx n:Nat)(L y:List Nat)(w:World)(O:Row w g L)(K:Lim L)(h:RN w P A c y)(M:∀ b,P b→b≠g)(N:y.length=n)(V:f+n<L.length) :
 Calls Tryz.prog 125 #[.slice (some p) (n+1) cx,.slice A n c] w fun e w'=>∃(L':List Nat) (b:Nat),e=.returned (.tuple #[])∧Row w' g L'∧Lim L'∧wQ g w w' ∧
  L'.length=L.length∧val 18446744073709551616 L'+18446744073709551616 ^(f+n+1)*b=val 18446744073709551616 L+18446744073709551616^f*val 18446744073709551616 y∧∀ i,f+n+1≤i→dg L' i=dg L i:=by
 obtain⟨H,I,J⟩:=h.cap
 have X:n≤1000000:=by omega
 have Y:n≤c:=by omega
 have d:=zF G
 clear G H I J
 go_enter Tryz.func125,Tryz.ntmps125
 go_wp2
 go_loopw [4,9] (fun cv iv wr=>∃(j a:Nat) (l:List Nat),iv=.int .i64 (j:Int)∧cv=.int .u64 (a:Int)∧j≤n∧a≤1∧xv 18446744073709551616 L y f l j a∧Lim l∧Row wr g l∧wQ g w wr) (fun _ iv _=>n-(intOf iv).toNat)
 case atStart=>exact⟨0,0,L,rfl,rfl,by omega,by omega,xv.zero _ _ _ _,K,O,wQ.refl _ _⟩
 case round =>
  obtain⟨j,a,l,rfl,rfl,W,u,r,o,k,v⟩:=hrel;have F:=r.1;by_cases hlt:j<n
  · obtain⟨ad,rfl,_,Z⟩:=(h.only v M).at_ (i:=j) (by omega);obtain⟨s,c',m,E,q⟩:=yr (dg l (f+j)) (dg y j) a (o.dgLt _) (h.2.dgLt j) u;have T:=fun w=>kR (dg l (f+j)) (dg y j) a s c' u m q w;have R:=k.cell d.out (j:=j) (by omega);have S:=k.free d.out j;have z:=r.step (by omega) q;have D:=k.set d.out j s;have B:=o.set (f+j) s m;have C:=v.setCell d.out j (.int .u64 (s:Int));have Q:(j:Int)<(n:Int)+1:=by omega
    clear r o k v m q F u;go_wp2;go_roundw;case rel=>exact⟨j+1,c',l.set (f+j) s,by go_num,rfl,by omega,E,z,B,D,C⟩
    case measure=>simp[intOf];omega
  · obtain rfl:j=n:=by omega
    obtain⟨t,b',m,E,q⟩:=yr (dg l (f+j)) 0 a (o.dgLt _) (by omega) u;have U:IntKind.u64.wrap ((dg l (f+j):Int)+(a:Int))=(t:Int):=by
     have:(dg l (f+j):Int)+(a:Int)=(t:Int)+18446744073709551616*(b':Int):=by omega
     rw[this];simp[IntKind.wrap,IntKind.bits,IntKind.signed];omega
    have R:=k.cell d.out (j:=j) (by omega);have S:=k.free d.out j;have z:=zF (r.fin N (by omega) (x:=t) (c':=b') (by omega));have D:=k.set d.out j t;have B:=o.set (f+j) t m;have C:=v.setCell d.out j (.int .u64 (t:Int));have Q:(j:Int)<(j:Int)+1:=by omega
    clear r o k v m q F u;go_wp2;go_end0;exact⟨l.set (f+j) t,b',rfl,D,B,C,z.out⟩
end Go.Proofs.YtaemogcomplhiaaGreatDoor
namespace Go.Proofs.YtaemogcomplhiaaGreatDoor
theorem sY {B:Nat}{L:List Nat}{t:Nat}(h:∀ x∈L,x<B)(g:t+3≤L.length)(k:∀ j,t+3≤j→dg L j=0) :
 ∃ r,r<B^t∧val B L=r+B^t*((dg L (t+2)*B+dg L (t+1))*B+dg L t):=by
 refine⟨val B (L.take t),?_,?_⟩
 · have:=kF (B:=B) (l:=L.take t) fun x a=>h x (qN a);rwa [zh,qU (by omega)]at this
 · have e:=jI B L g;have d:val B (L.drop (t+3))=0:=by
    apply wH;intro x a;obtain⟨i,f,rfl⟩:=List.getElem_of_mem a;rw[List.getElem_drop];have:=k (t+3+i) (by omega);rwa [dg,ja (by simp at f;omega)]at this
   rw[d,je,jF]at e;rw[e,qG,qG,qG,show B ^(t+2)=B^t*B*B from by simp only[zx],zx];have b:B^t*B*B*dg L (t+2)=B^t*(dg L (t+2)*B*B):=by simp only[zd];rw[zp B (dg L (t+2)),←zd B,zp B (dg L (t+2)),zd]
   have c:B^t*B*dg L (t+1)=B^t*(dg L (t+1)*B):=by rw[zd,zp B]
   rw[b,c,qb,zl,zl];omega
theorem zBq {B:Nat}{L:List Nat}{t:Nat}(b:t+2=L.length) :
 ∃ r,val B L=r+B^t*(dg L (t+1)*B+dg L t):=by
 refine⟨val B (L.take t),?_⟩
 have e:val B L=val B (L.take (t+2)):=by rw[b,jB]
 rw[e,qG,qG,zx]
 have a:B^t*B*dg L (t+1)=B^t*(dg L (t+1)*B):=by rw[zd,zp B]
 rw[a,zl]
 omega
theorem aj {B q DB V t a T rd rv:Nat}(g:q*DB≤V)(e:DB=rd+B^t*a)(f:V=rv+B^t*T)(h:rv<B^t):q*a≤T:=by
 have c:q*(B^t*a)≤q*DB:=qI _ (by omega);have d:q*(B^t*a)=B^t*(q*a):=by rw[jY]
 have b:B^t*(q*a)<B^t*(T+1):=by rw[zl,jM];omega
 exact Nat.le_of_lt_succ (Nat.lt_of_mul_lt_mul_left b)
def gJ (B V i n D:Nat) (L:List Nat) (g:Nat) (a:Bool):Prop :=
 V /(B^i*D)≤g∧g<B∧(∀ j,i+n+1≤j→dg L j=0)∧val B L+B^i*(g*D)=V+if a then B ^(i+n+1)else 0
section
variable {B V i n D g:Nat} {L L':List Nat}
theorem gJ.start {b:Nat}(l:V /(B^i*D)≤g)(c:g<B)(m:∀ j,i+n+1≤j→dg L' j=dg L j)(o:∀ j,i+n+1≤j→dg L j=0)(k:val B L'+B^i*(g*D)=V+B ^(i+n+1)*b)(h:∀ x∈L',x<B)(s:2≤B)(f:D<B^n) :
 gJ B V i n D L' g (decide (0<b)):=by
 have e:∀ j,i+n+1≤j→dg L' j=0:=fun j d=>(m j d).trans (o j d)
 refine⟨l,c,e,?_⟩
 have p:=vq (by omega) h e
 rw[k]
 have q:B^i*(g*D)<B ^(i+n+1):=by
  rw[kN,qQ,zx,zp (B^n)];refine kt ?_ (qS (by omega));exact jh (qI g (kA f)) (Nat.mul_lt_mul_of_pos_right c (qS (by omega)))
 rcases qH b 2 with a|a
 · have:b=0∨b=1:=by omega
   rcases this with rfl|rfl<;>simp
 · exfalso;have r:B ^(i+n+1)*2≤B ^(i+n+1)*b:=qI _ a;omega
theorem gJ.pos (h:gJ B V i n D L g true)(c:∀ x∈L,x<B)(j:2≤B):V /(B^i*D)<g:=by
 obtain⟨d,e,a,b⟩:=h;have f:=vq (by omega) c a;apply jN;simp only[if_true]at b;rw[zd,zp D];omega
theorem gJ.step {c:Nat}(h:gJ B V i n D L (g+1) true)(q:∀ x∈L,x<B)(b:∀ x∈L',x<B)(o:2≤B)(t:0<D)(p:D<B^n)
 (r:val B L'+B ^(i+n+1)*c=val B L+B^i*D) (A:∀ j,i+n+1≤j→dg L' j=dg L j):gJ B V i n D L' g (decide (dg L' (i+n)≠0)):=by
 have P:=h.pos q o
 obtain⟨E,F,k,l⟩:=h
 have e:∀ j,i+n+1≤j→dg L' j=0:=fun j d=>(A j d).trans (k j d)
 have G:=vq (by omega) q k
 have H:=vq (by omega) b e
 have K:B^i*D<B ^(i+n):=by rw[qQ];exact kt p (qS (by omega))
 have I:B ^(i+n+1)=B ^(i+n)*B:=zx _ _
 have J:B ^(i+n)*2≤B ^(i+n)*B:=qI _ o
 have u:V<B^i*D*(g+1):=by
  have:=Nat.lt_mul_div_succ V (show 0<B^i*D from Nat.mul_pos (qS (by omega)) t);exact zH this (qI _ (by omega))
 simp only[if_true]at l
 have f:B^i*((g+1)*D)=B^i*(g*D)+B^i*D:=by rw[qb,kH,zl]
 have s:B^i*D*(g+1)=B^i*(g*D)+B^i*D:=by rw[←f,zd,zp D]
 have O:B^i*(g*D)+B ^(i+n)*2≤B ^(i+n+1)+B ^(i+n):=by
  obtain⟨m,w⟩:∃ m,B=m+2:=⟨B-2,by omega⟩
  have C:g*D≤m*B^n:=xn (by omega) (kA p);have Q:B^i*(g*D)≤B^i*(m*B^n):=qI _ C;have R:B^i*(m*B^n)=B ^(i+n)*m:=by rw[zp m,←zd,←qQ]
  have S:B ^(i+n)*B=B ^(i+n)*m+B ^(i+n)*2:=by rw[←zl,←w]
  omega
 rw[f]at l
 rw[s]at u
 refine⟨by omega,by omega,e,?_⟩
 rcases za c with rfl|N
 · rw[je,jF]at r;have M:B ^(i+n)≤val B L':=by omega
   have y:dg L' (i+n)≠0:=fun a=>by
    have:=vq (B:=B) (m:=i+n) (by omega) b fun j d=>by
     rcases qH (i+n) j with h|h
     · exact e j (by omega)
     · obtain rfl:j=i+n:=by omega
       exact a
    omega
   rw[qm y,qg rfl];omega
 · have v:c=1:=by
    rcases qH c 2 with h|h
    · omega
    · have:B ^(i+n+1)*2≤B ^(i+n+1)*c:=qI _ h;omega
   subst v;rw[jM]at r;have z:val B L'<B ^(i+n):=by omega
   have a:=yk b z (zG _);rw[jT (by simp[a]),qo (by simp)];omega
theorem gJ.fin (h:gJ B V i n D L g false)(l:2≤B)(b:0<D):val B L+B^i*(g*D)=V∧val B L<B^i*D:=by
 obtain⟨c,d,f,a⟩:=h;simp only[yO,ya,jF]at a;refine⟨a,?_⟩;have j:=Nat.lt_mul_div_succ V (show 0<B^i*D from Nat.mul_pos (qS (by omega)) b);have k:B^i*D*(V /(B^i*D)+1)≤B^i*D*(g+1):=qI _ (by omega);have e:B^i*D*(g+1)=B^i*(g*D)+B^i*D:=by rw[zl,jM,zd,zp D]
 omega
end
def gm (B X D:Nat) (L qs:List Nat) (k:Nat):Prop:=val B L+D*(B^k*val B (qs.drop k))=X∧val B L<B^k*D
theorem gm.start {B D m:Nat}{L qs:List Nat}(a:qs.length=m)(h:val B L<B^m*D):gm B (val B L) D L qs m:=by
 refine⟨?_,h⟩;rw[←a,List.drop_length];simp
theorem gm.step {B X D k g:Nat}{L L' qs:List Nat}(h:gm B X D L qs (k+1))(d:k<qs.length)(b:val B L'+B^k*(g*D)=val B L)(c:val B L'<B^k*D):gm B X D L' (qs.set k g) k:=by
 obtain⟨g1,f⟩:=h;refine⟨?_,c⟩;have e:(qs.set k g).drop k=g::qs.drop (k+1):=by
  rw[List.drop_set,qo (Nat.lt_irrefl _),qX d,uk,vQ]
 rw[e,kB,zl,zl,←g1,←b,zx];have a:D*(B^k*g)=B^k*(g*D):=by rw[jY,zp D]
 rw[a,zd (B^k)];omega
theorem gm.fin {B X D:Nat}{L qs:List Nat}(h:gm B X D L qs 0):val B qs=X/D∧val B L=X%D:=by
 obtain⟨g1,a⟩:=h;simp only[Nat.pow_zero,kH,List.drop_zero]at g1 a;rw[←g1];refine⟨?_,?_⟩
 · rw[wC,Nat.mul_add_div (by omega),ql a,jF]
 · rw[wC,Nat.mul_add_mod,qF a]
theorem zEB {B p u y top n:Nat}(a:2≤B)(C:B%2=0)(i:B=u*p)(k:(digs B y).length=n+1)(o:dg (digs B y) n=top)(j:B≤2*(top*p))(f:top*p<B) :
 (digs B (y*p)).length=n+1∧B≤2*dg (digs B (y*p)) n∧B ^(n+1)≤2*(y*p):=by
 have w:0<B^n:=qS (by omega)
 have F:y=val B ((digs B y).take n)+B^n*top:=by
  rw[←o,←qG,←k,jB,zi a]
 have D:val B ((digs B y).take n)<B^n:=by
  have:=kF (B:=B) (l:=(digs B y).take n) fun x d=>kL a y x (qN d);rwa [zh,qU (by omega)]at this
 generalize val B ((digs B y).take n)=r at *
 have q:(top+1)*p≤B:=by
  have:top<u:=by
   rw[i]at f;exact Nat.lt_of_mul_lt_mul_right f
  rw[i];exact qr _ this
 have s:y*p<B ^(n+1):=by
  have b:y+1≤B^n*(top+1):=by rw[zl,jM];omega
  have m:0<p:=by
   rcases za p with h|h
   · subst h;omega
   · exact h
  have e:y*p<(y+1)*p:=Nat.mul_lt_mul_of_pos_right (by omega) m;have t:(y+1)*p≤B^n*(top+1)*p:=qr _ b;have G:B^n*(top+1)*p≤B^n*B:=by rw[zd];exact qI _ q
  rw[zx];omega
 have c:B ^(n+1)≤2*(y*p):=by
  have b:B^n*top*p≤y*p:=qr _ (by omega);have e:B^n*B≤B^n*(2*(top*p)):=qI _ j;have t:B^n*(2*(top*p))=2*(B^n*top*p):=by rw[jY,zd]
  rw[zx];omega
 have v:B^n*2≤B^n*B:=qI _ a
 have g:(digs B (y*p)).length=n+1:=by
  refine Nat.le_antisymm (qR a s) ?_;rcases qH n (digs B (y*p)).length with h|h
  · exact h
  · have b:=jR a (y*p);have e:B ^(digs B (y*p)).length≤B^n:=qE (by omega) h;rw[zx]at c;omega
 refine⟨g,?_,c⟩
 have A:y*p=val B ((digs B (y*p)).take n)+B^n*dg (digs B (y*p)) n:=by
  rw[←qG,←g,jB,zi a]
 have E:val B ((digs B (y*p)).take n)<B^n:=by
  have:=kF (B:=B) (l:=(digs B (y*p)).take n) fun x d=>kL a (y*p) x (qN d);rwa [zh,qU (by omega)]at this
 generalize dg (digs B (y*p)) n=z at *
 have b:B^n*B<B^n*(2*(z+1)):=by
  rw[zx]at c;have:B^n*(2*(z+1))=2*(B^n*z+B^n):=by rw[jY,zl,jM]
  omega
 have e:=Nat.lt_of_mul_lt_mul_left b
 omega
theorem zEA {B x D n:Nat}(a:2≤B)(f:n≤(digs B x).length+1)(c:B^n≤2*D):x<B ^((digs B x).length+1-n)*D:=by
 have d:=jR a x;generalize(digs B x).length=k at *;have b:B ^(k+1-n)*B^n≤B ^(k+1-n)*(2*D):=qI _ c;rw[←qQ,show k+1-n+n=k+1 by omega,zx,jY]at b;have e:B^k*2≤B^k*B:=qI _ a;omega
theorem zCu (u:List Nat)(k i:Nat):dg (u.drop k) i=dg u (k+i):=by
 simp[dg,List.getElem?_drop]
def yv (B:Nat) (u v W:List Nat) (k g i c b:Nat):Prop:=W.length=v.length+1∧val B (W.take i)+g*val B (v.take i)=val B ((u.drop k).take i)+B^i*(c+b)
section
variable {B k g i c b:Nat} {u v W:List Nat}
theorem yv.zero (h:W.length=v.length+1):yv B u v W k g 0 0 0:=⟨h,by simp⟩
theorem yv.step {lo c' x b':Nat}(h:yv B u v W k g i c b)(m:i<W.length)(j:lo+B*c'=c+g*dg v i)(l:x+(lo+b)=dg u (k+i)+B*b'):yv B u v (W.set i x) k g (i+1) c' b':=by
 obtain⟨g1,f⟩:=h;refine⟨by simpa using g1,?_⟩;rw[jf B m,qG,qG,zCu,zx];have a:g*(B^i*dg v i)=B^i*(g*dg v i):=jY _ _ _;have d:B^i*(lo+B*c')=B^i*(c+g*dg v i):=by rw[j]
 have e:B^i*(x+(lo+b))=B^i*(dg u (k+i)+B*b'):=by rw[l]
 rw[zl g,a,zd,zl B,zl (B^i) (B*c')];simp only[zl]at d e f ⊢;generalize B^i*(B*c')=p1 at *;generalize B^i*(B*b')=p2 at *;generalize B^i*lo=p3 at *;generalize B^i*(g*dg v i)=n at *;generalize B^i*c=o at *;generalize B^i*b=p at *;generalize B^i*x=q at *;generalize B^i*dg u (k+i)=r at *;omega
def uZ (u W:List Nat) (k:Nat):List Nat:=u.take k++W++u.drop (k+W.length)
theorem mT (h:k+W.length≤u.length):(uZ u W k).length=u.length:=by simp[uZ];omega
theorem sZ (B:Nat)(h:k+W.length≤u.length):∃ r t:Nat,val B u=r+B^k*(val B ((u.drop k).take W.length)+B^W.length*t)∧val B (uZ u W k)=r+B^k*(val B W+B^W.length*t):=by
 refine⟨val B (u.take k),val B (u.drop (k+W.length)),?_,?_⟩
 · rw[jI B u (n:=k) (by omega),jI B (u.drop k) (n:=W.length) (by simp;omega),List.drop_drop]
 · unfold uZ;rw[kg,kg,zf,zh,qU (by omega),qQ,zd,kN,←zl]
theorem yv.yes (h:yv B u v W k g W.length 0 0)(d:k+W.length≤u.length):val B (uZ u W k)+B^k*(g*val B v)=val B u:=by
 obtain⟨g1,a⟩:=h;obtain⟨r,t,b,c⟩:=sZ B (u:=u) (W:=W) d;rw[jB,zu (by omega:v.length≤W.length)]at a;simp only[jF,je]at a;rw[b,c,←a,zl,zl,zl];omega
theorem yv.no (h:yv B u v W k g W.length 0 1)(o:∀ x∈W,x<B)(q:∀ x∈u,x<B)(r:∀ j,k+W.length≤j→dg u j=0)(w:k+W.length≤u.length):val B u /(B^k*val B v)<g:=by
 obtain⟨g1,c⟩:=h;rw[jB,zu (by omega:v.length≤W.length)]at c;simp only[jL,jM]at c;have s:=kF o;have d:=jI B u (n:=k) (by omega);have b:=jI B (u.drop k) (n:=W.length) (by simp;omega);have e:val B ((u.drop k).drop W.length)=0:=by
  apply wH;intro x a;rw[List.drop_drop]at a;obtain⟨i,p,rfl⟩:=List.getElem_of_mem a;rw[List.getElem_drop];have:=r (k+W.length+i) (by omega);rwa [dg,ja (by simp at p;omega)]at this
 rw[e,je,jF]at b;have t:val B (u.take k)<B^k:=by
  have:=kF (B:=B) (l:=u.take k) fun x a=>q x (qN a);rwa [zh,qU (by omega)]at this
 apply jN;rw[d,b];have f:val B ((u.drop k).take W.length)+1≤g*val B v:=by omega
 have m:B^k*(val B ((u.drop k).take W.length)+1)≤B^k*(g*val B v):=qI _ f;rw[zl,jM]at m;rw[zd,zp (val B v)];omega
theorem tN {n n1:Nat}(q:n1+1=n)(c:∀ x∈u,x<B)(s:∀ x∈v,x<B)(h:v.length=n)(w:k+n<u.length)(r:0<dg v n1)(a:val B u<B ^(k+1)*val B v) :
 (∀ i,k+n+1≤i→dg u i=0)∧val B u /(B^k*val B v)<B∧val B u /(B^k*val B v)≤(dg u (k+n)*B+dg u (k+n1))/dg v n1:=by
 subst q
 have o:0<B:=jh (xB _) (c _ (wL (by omega:k<u.length)))
 have f:=kF s
 rw[h]at f
 have j:∀ i,k+(n1+1)+1≤i→dg u i=0:=fun i b=>yk c (m:=k+(n1+1)+1) (Nat.lt_trans a (by
  rw[show k+(n1+1)+1=(k+1)+(n1+1) by omega,qQ _ (k+1)]
  exact kt f (qS o))) b
 refine⟨j,?_,?_⟩
 · apply jN;rw[zx,yK]at a;exact a
 · rw[Nat.le_div_iff_mul_le r];have e:=jI B u (n:=k+n1+2) (by omega);have p:val B (u.drop (k+n1+2))=0:=by
    apply wH;intro x d;obtain⟨i,b,rfl⟩:=List.getElem_of_mem d;rw[List.getElem_drop];have:=j (k+n1+2+i) (by omega);rwa [dg,ja (by simp at b;omega)]at this
   rw[p,je,jF,qG,qG,zx]at e;have g:=kF (B:=B) (l:=u.take (k+n1)) fun x d=>c x (qN d);rw[zh,qU (by omega)]at g;have ev:val B v=val B (v.take n1)+B^n1*dg v n1:=by rw[←qG,←h,jB]
   refine aj (B:=B) (t:=k+n1) (DB:=B^k*val B v) (rd:=B^k*val B (v.take n1)) (V:=val B u) (rv:=val B (u.take (k+n1))) (Nat.div_mul_le_self _ _) ?_ ?_ g
   · rw[ev,zl,←zd,←qQ]
   · rw[e,zd,zp B,zl,show k+(n1+1)=k+n1+1 by omega];omega
def fD (B:Nat) (a o:List Nat) (m i c:Nat):Prop:=o.length=a.length+1∧val B (o.take i)+B^i*c=m*val B (a.take i)
theorem fD.step {a o:List Nat}{m x c':Nat}(h:fD B a o m i c)(g:i<o.length)(f:x+B*c'=c+dg a i*m):fD B a (o.set i x) m (i+1) c':=by
 obtain⟨g1,e⟩:=h;refine⟨by simpa using g1,?_⟩;rw[jf B g,qG,zl,←e,zx,zd];have b:m*(B^i*dg a i)=B^i*(dg a i*m):=by rw[jY,zp m]
 have d:B^i*(x+B*c')=B^i*(c+dg a i*m):=by rw[f]
 rw[b];simp only[zl]at d;omega
theorem fD.fin {a o:List Nat}{m:Nat}(h:fD B a o m a.length c):val B (o.set a.length c)=m*val B a:=by
 obtain⟨g1,d⟩:=h;have e:(o.set a.length c).length=a.length+1:=by simpa using g1
 have b:val B (o.set a.length c)=val B ((o.set a.length c).take (a.length+1)):=by rw[←e,jB]
 rw[b,jf B (by omega),d,jB]
end
end Go.Proofs.YtaemogcomplhiaaGreatDoor
namespace Go.Proofs.YtaemogcomplhiaaGreatDoor
open Go.RowKit
theorem fj (P:Nat→Prop)(A:Option Addr)(c:Nat)(l:List Nat)(d:Nat)(w:World)(h:RN w P A c l)(H:∀ b,P b→b<w.heap.size)(G:Dig l)(Y:l.length<100000)(K:d<4294967296) :
 Calls Tryz.prog 111 #[.slice A l.length c,.int .u64 (d:Int)] w fun e w'=>∃ o,e=.returned (.slice (some ⟨w.heap.size,0,none⟩) (l.length+1) (l.length+1))∧Blk w' w.heap.size o∧o.length=l.length+1∧Dig o∧val 4294967296 o=d*val 4294967296 l∧Below w.heap.size w w':=by
 obtain⟨T,U,V⟩:=h.cap
 have L:=qt (P:=Tryz.prog) 28 65 (.int .u64 0) 8 Tryz.underlying28 kU rfl .i64 .i64 (l.length+1) (by omega) (by omega)
 simp only[vj,qO]at L
 go_enter Tryz.func111,Tryz.ntmps111
 go_wp2
 go_loopw [6,7] (fun cv iv wr=>∃(i a:Nat) (o:List Nat),iv=.int .i64 (i:Int)∧cv=.int .u64 (a:Int)∧i≤l.length∧a<4294967296∧fD 4294967296 l o d i a∧Dig o∧Blk wr w.heap.size o∧Below w.heap.size w wr) (fun _ iv _=>l.length-(intOf iv).toNat)
 case atStart=>exact⟨0,0,List.replicate (l.length+1) 0,rfl,rfl,by omega,by omega,⟨by simp,by simp⟩,by intro x N;simp at N;omega,wD w _,(zo _ w).alloc (zG _) _⟩
 case round =>
  obtain⟨i,a,o,rfl,rfl,X,y,j,m,f,g⟩:=hrel;have t:=j.1;by_cases hlt:i<l.length
  · obtain⟨ad,rfl,W,q1⟩:=(h.below g H).at_ hlt;have v:=yh (G.dgLt i) K y (show 0<4294967296 by omega);obtain⟨pr,k⟩:=eV (dg l i*d);have E:=zF (show(dg l i:Int)*(d:Int)=(pr:Int) by rw[←k,vi]);rw[k]at v;obtain⟨s,u,M,J,z⟩:∃ s c':Nat,s<4294967296∧c'<4294967296∧s+4294967296*c'=a+pr:=⟨(a+pr)%4294967296,(a+pr)/4294967296,by omega,by omega,by omega⟩
    have S:((a:Int)+(pr:Int))%4294967296=(s:Int):=by omega
    have F:((a:Int)+(pr:Int))/4294967296=(u:Int):=by omega
    have Q:=f.cell (i:=i) (by omega);have R:=f.free i;have I:=j.step (by omega) (by rw[k];exact z);have r:=f.set i s;have q:=m.set i s M;have n:=g.setCell (p:=⟨w.heap.size,i,none⟩) (zG _) (.int .u64 (s:Int));have O:(i:Int)<(l.length:Int)+1:=by omega
    have Z:(pr:Int)<18446744073709551616:=by omega
    have k4:(a:Int)+(pr:Int)<18446744073709551616:=by omega
    clear z j f m g v k t;have k:=E.out;go_wp2;go_roundw;case rel=>exact⟨i+1,u,o.set i s,by go_num,(by first|rfl|exact congrArg (Value.int .u64) F),by omega,J,I,q,r,n⟩
    case measure=>simp[intOf];omega
  · obtain rfl:i=l.length:=by omega
    have Q:=f.cell (i:=l.length) (by omega);have R:=f.free l.length;have B:=j.fin;have r:=f.set l.length a;have q:=m.set l.length a y;have n:=g.setCell (p:=⟨w.heap.size,l.length,none⟩) (zG _) (.int .u64 (a:Int));have O:(l.length:Int)<(l.length:Int)+1:=by omega
    have C:=zF B;have D:=zF (show(o.set l.length a).length=l.length+1 by simpa using t);clear j f m g B t;go_wp2;go_ret;exact⟨o.set l.length a,rfl,r,D.out,q,C.out,n⟩
theorem fm (P:Nat→Prop)(A:Option Addr)(c:Nat)(l:List Nat)(d:Nat)(w:World)(h:RN w P A c l)(Q:∀ b,P b→b<w.heap.size)(O:Dig l)(hl:l.length<100000)(F:0<d)(ab:d<4294967297) :
 Calls Tryz.prog 110 #[.slice A l.length c,.int .u64 (d:Int)] w fun e w'=>∃ C c1,e=.returned (.tuple #[.slice C (digs 4294967296 (val 4294967296 l/d)).length c1,.int .u64 ((val 4294967296 l%d:Nat):Int)]) ∧
  OB w' w.heap.size C c1 (digs 4294967296 (val 4294967296 l/d))∧Below w.heap.size w w':=by
 obtain⟨Z,h2,h3⟩:=h.cap
 have ae:=qt (P:=Tryz.prog) 28 65 (.int .u64 0) 8 Tryz.underlying28 kU rfl .i64 .i64 l.length (by omega) (by omega)
 have J:=zF (xW l.length)
 have n0:((d:Int)==0)=false:=eqB (by omega)
 have n1:¬ d=0:=by omega
 go_enter Tryz.func110,Tryz.ntmps110
 go_wp2
 go_loopw [7,8] (fun rv iv wr=>∃(k r:Nat) (z:Int) (o:List Nat),iv=.int .i64 z∧wB k z∧rv=.int .u64 (r:Int)∧k≤l.length∧r<d∧xQ 4294967296 l o d k r∧Dig o∧Blk wr w.heap.size o∧Below w.heap.size w wr) (fun _ iv _=>(intOf iv+1).toNat)
 case atStart=>exact⟨l.length,0,_,List.replicate l.length 0,rfl,J.out,rfl,by omega,by omega,xQ.start d (by simp),by intro x B;simp at B;omega,wD w _,(zo _ w).alloc (zG _) _⟩
 case round =>
  obtain⟨k,r,z,o,rfl,V,rfl,hk,G,a,f,g,n⟩:=hrel;rcases V with⟨rfl,rfl⟩|⟨j,rfl,rfl⟩
  · obtain⟨y,H⟩:=a.fin G;have D:Lim o:=⟨fun x B=>by have:=f x B;omega,by have:=a.1;omega⟩
    have u:OB wr w.heap.size (some ⟨w.heap.size,0,none⟩) l.length o:=kq g (zG _) D (by have:=a.1;omega) (by unfold maxLen;omega);have m:=kW _ _ _ _ _ u.rn f;have E:=u.trim32 f;rw[y,a.1]at m;rw[y]at E;have L:=zF m;have I:=zF H;clear g D m y H u a f;go_wp2_with fail;refine L.out.mono ?_;rintro e w1 ⟨rfl,rfl⟩;go_wp2;go_ret2;exact⟨_,_,by rw[I.out];rfl,E,n⟩
  · obtain⟨ad,rfl,aa,q1⟩:=(h.below n Q).at_ (i:=j) (by omega);have T:=a.1;have ac:=O.dgLt j;have q3:=g.cell (i:=j) (by omega);have q4:=g.free j;obtain⟨t,m⟩:=eV (r*4294967296+dg l j);obtain⟨q,r',v,s,U⟩:∃ q r':Nat,r'<d∧t=d*q+r'∧q<4294967296:=by
     refine⟨t/d,t%d,qP _ F,(jj _ d).symm,?_⟩;apply jN;have:(r+1)*4294967296≤d*4294967296:=qr _ G;omega
    have af:(t:Int)<18446744073709551616:=by omega
    have W:(r:Int)*4294967296+(dg l j:Int)=(t:Int):=by omega
    have f1:(t:Int) /(d:Int)=(q:Int):=by
     rw[←um,s,Nat.mul_add_div F,ql v,jF]
    have f2:(t:Int)%(d:Int)=(r':Int):=by
     rw[←Int.natCast_emod,s,Nat.mul_add_mod,qF v]
    have X:(t:Int).tdiv (d:Int)=(q:Int):=by rw[uT (by omega)];exact f1
    have Y:(t:Int).tmod (d:Int)=(r':Int):=by rw[Int.tmod_eq_emod_of_nonneg (by omega)];exact f2
    have R:=a.step (by omega) (by rw[m];exact s);have S:=g.set j q;have N:=f.set j q U;have M:=n.setCell (p:=⟨w.heap.size,j,none⟩) (zG _) (.int .u64 (q:Int));have k1:(j:Int)<(l.length:Int):=by omega
    have k2:(r:Int)*4294967296<18446744073709551616:=by omega
    have k3:(q:Int)<18446744073709551616:=by omega
    have k4:(r':Int)<18446744073709551616:=by omega
    have K:=zF (xW j);clear s a g f n T m;go_wp2;go_roundw;case rel=>exact⟨j,r',_,o.set j q,rfl,K.out,by go_num,by omega,v,R,N,S,M⟩
    case measure=>simp[intOf]
theorem gD:(Tryz.prog.info? 65).map (·.size)=some 1:=by kernel_rfl
theorem sw {u W:List Nat}{k:Nat}(a:Dig u)(b:Dig W):Dig (uZ u W k):=by
 intro x c;rcases List.mem_append.1 c with h|h
 · rcases List.mem_append.1 h with h|h
   · exact a x (qN h)
   · exact b x h
 · exact a x (List.mem_of_mem_drop h)
theorem zCW (u W:List Nat)(k:Nat):(((nts u).toArray.toList.take k++nts W++(nts u).toArray.toList.drop (k+(nts W).length)).toArray)=(nts (uZ u W k)).toArray:=by
 simp[nts,uZ,List.map_take,List.map_drop]
theorem zBX (w:World)(g a k n m c:Nat)(u W:List Nat)(ty:TypeId)(e:Blk w g u)(f:Blk w a W)(b:W.length=n)(i:k+n≤u.length)(l:u.length-k=m) :
 (Builtin.copy_ #[28,28] ty #[.slice (some ⟨g,k,none⟩) m m,.slice (some ⟨a,0,none⟩) n c]).run Tryz.prog w=.ok (goInt n) (w.setRow g (nts (uZ u W k)).toArray):=by
 have h:=run_copy_row (P:=Tryz.prog) w 28 28 ty 65 g k m m ⟨a,0,none⟩ n c (nts u).toArray 65 (nts W) Tryz.underlying28 gD e
  (by rw[qk,b];exact(qU (by omega)).symm) (fun j v d=>by rw[yW,zP f j,zQ];exact d) (by rw[qk,b];simp[nts];omega) (vB W)
 rw[zCW,qk,b]at h
 exact h
theorem Blk.put {w:World}{g:Nat}{u:List Nat}(h:Blk w g u)(v:List Nat):Blk (w.setRow g (nts v).toArray) g v:=setRow_heap w g _ _ _ _ h
theorem wQ.put {w w':World}{g:Nat}(h:wQ g w w')(v:Array Value):wQ g w (w'.setRow g v) :=
 ⟨h.os, h.tape, h.output, by have : (w'.setRow g v).heap.size = w'.heap.size := by simp [World.setRow]
                             exact this.trans h.size,fun k a=>by
   have:(w'.setRow g v).heap[k]?=w'.heap[k]?:=by simp[World.setRow,vI,xa a]
   exact this.trans (h.block k a)⟩
structure Two (g g':Nat) (w w':World):Prop where
 os:w'.os=w.os
 tape:w'.tape=w.tape
 output:w'.output=w.output
 size:w'.heap.size=w.heap.size
 block:∀ k,k≠g→k≠g'→w'.heap[k]?=w.heap[k]?
theorem Two.below {g a B:Nat}{w w':World}(h:Two g a w w')(b:B≤g)(c:B≤a):Below B w w':=⟨h.os,h.tape,h.output,Nat.le_of_eq h.size.symm,fun k d=>h.block k (by omega) (by omega)⟩
theorem wQ.two {g a:Nat}{w w' w'':World}(h:wQ a w w')(k:wQ g w' w''):Two g a w w'':=⟨k.os.trans h.os,k.tape.trans h.tape,k.output.trans h.output,k.size.trans h.size,fun i b c=>(k.block i b).trans (h.block i c)⟩
theorem RN.two {g a:Nat}{w w':World}{P:Nat→Prop}{A:Option Addr}{c:Nat}{l:List Nat}(h:RN w P A c l)(f:Two g a w w')(d:∀ b,P b→b≠g∧b≠a):RN w' P A c l:=h.keep fun q e=>qB (w:=w) (f.block q.block (d _ e).1 (d _ e).2)
theorem pO (g v c b x:Nat)(f:g<4294967296)(j:v<4294967296)(e:c<4294967296)(k:b≤1)(l:x<4294967296) :
 ∃ pr lo c' d y b':Nat,g*v=pr∧pr<18446744073709551616∧c+pr<18446744073709551616∧lo+4294967296*c'=c+pr∧(c+pr)%4294967296=lo∧(c+pr)/4294967296=c'∧c'<4294967296∧d=lo+b∧d≤4294967296∧y<4294967296∧b'≤1∧y+(lo+b)=x+4294967296*b'∧(b'=0↔¬ x<d):=by
 have i:=yh f j e (show 0<4294967296 by omega)
 obtain⟨pr,a⟩:=eV (g*v)
 rw[a]at i
 by_cases h:x<(c+pr)%4294967296+b
 · exact⟨pr,(c+pr)%4294967296,(c+pr)/4294967296,(c+pr)%4294967296+b,x+4294967296-((c+pr)%4294967296+b),1,a,by omega,by omega,by omega,rfl,rfl,by omega,rfl,by omega,by omega,by omega,by omega,by simp[h]⟩
 · exact⟨pr,(c+pr)%4294967296,(c+pr)/4294967296,(c+pr)%4294967296+b,x-((c+pr)%4294967296+b),0,a,by omega,by omega,by omega,rfl,rfl,by omega,rfl,by omega,by omega,by omega,by omega,by simp[h]⟩
theorem zA4 (g a k n m G:Nat)(P:Nat→Prop)(A:Option Addr)(c:Nat)(U V W:List Nat)(w:World)(hU:Blk w g U)(hW:Blk w a W)(h:RN w P A c V)(ao:g≠a)(hP:∀ b,P b→b≠a)(ab:Dig U)(aq:Dig V)(am:U.length=m)(an:V.length=n)(ar:W.length=n+1)(hk:k+n+1≤m)(hm:m≤100000)(hG:G<4294967296)(hz:∀ j,k+n+1≤j→dg U j=0) :
 Calls Tryz.prog 112 #[.slice (some ⟨g,0,none⟩) m m,.slice A n c,.slice (some ⟨a,0,none⟩) (n+1) (n+1),.int .i64 (k:Int),.int .u64 (G:Int)] w fun e w'=>∃ H W',Blk w' g H∧Dig H∧H.length=m∧Blk w' a W'∧W'.length=n+1∧Two g a w w' ∧
  ((e=.returned (.bool true)∧val 4294967296 H+4294967296^k*(G*val 4294967296 V)=val 4294967296 U)∨(e=.returned (.bool false)∧H=U∧val 4294967296 U /(4294967296^k*val 4294967296 V)<G)):=by
 obtain⟨h1,h2,h3⟩:=h.cap
 have aG:n≤c:=by omega
 have Hz:=zF hz
 have F:=zF an
 have E:=zF am
 have ak:=zF ao
 have HG:=zF hG
 have aF:n≤100000:=by omega
 clear h1 h2 h3 hz an am ao hG
 go_enter Tryz.func112,Tryz.ntmps112
 go_wp2
 go_loopw [12,13,14] (fun cv bv iv wr=>∃(i d b:Nat) (o:List Nat),iv=.int .i64 (i:Int)∧cv=.int .u64 (d:Int)∧bv=.int .u64 (b:Int)∧i≤n+1∧d<4294967296∧b≤1∧(n<i→d=0)∧yv 4294967296 U V o k G i d b∧Dig (o.take i)∧Blk wr a o∧wQ a w wr) (fun _ _ iv _=>n+1-(intOf iv).toNat)
 case atStart=>exact⟨0,0,0,W,rfl,rfl,rfl,by omega,by omega,by omega,by omega,yv.zero (by rw[F.out];exact ar),by intro x hx;simp at hx,hW,wQ.refl _ _⟩
 case round =>
  obtain⟨i,d,b,o,rfl,rfl,rfl,hi,O,hb,N,l,C,t,v⟩:=hrel;have q:=l.1;rw[F.out]at q;have D:Blk _ g U:=(v.block g ak.out).trans hU;by_cases hle:i≤n
  · have S:=ab.dgLt (k+i);have q1:=D.cell (i:=k+i) (by rw[E.out];omega);have q3:=t.cell (i:=i) (by omega);have q4:=t.free i;have k0:(k:Int)+(i:Int)<(m:Int):=by omega
    have k1:(i:Int)<(n:Int)+1:=by omega
    obtain⟨pr,lo,c',u,y,b',z,Y,Z,K,b5,b6,L,b8,b9,I,aA,J,B⟩:=pO G (dg V i) d b (dg U (k+i)) HG.out (aq.dgLt i) O hb S;have ac:=l.step (x:=y) (c':=c') (b':=b') (lo:=lo) (by omega) (by rw[z];exact K) J;have ae:=t.set i y;have aa:Dig ((o.set i y).take (i+1)):=by
     rw[yT (by simpa using(by omega:i<o.length)),vz (by omega),List.take_set_of_le (by omega)];intro x hx;rcases List.mem_append.1 hx with h|h
     · exact C x h
     · rw[List.mem_singleton.1 h];exact I
    have R:=v.setCell (p:=⟨a,0,none⟩) (f:=0) rfl i (.int .u64 (y:Int));rw[yW]at R;have e3:(lo:Int)+(b:Int)=(u:Int):=by omega
    have kx:(dg U (k+i):Int)<4294967296:=by omega
    have kp:(pr:Int)<18446744073709551616:=by omega
    have kc:(d:Int)+(pr:Int)<18446744073709551616:=by omega
    have ko:(u:Int)≤4294967296:=by omega
    have M:n<i+1→c'=0:=by
     intro aH;have af:i=n:=by omega
     have:dg V i=0:=vJ (by rw[F.out];omega);rw[this,je]at z;omega
    have e1:((d:Int)+(pr:Int))%4294967296=(lo:Int):=by omega
    have e2:((d:Int)+(pr:Int))/4294967296=(c':Int):=by omega
    have T:=zF L;have X:=zF M;by_cases hlt:i<n
    · obtain⟨ad,rfl,_,q2⟩:=(h.only v hP).at_ (i:=i) (by rw[F.out];exact hlt);have aI:(dg V i:Int)*(G:Int)=(pr:Int):=by rw[←vi,zp,z]
      rcases za b' with s|s
      · have aj:=B.1 s;have e4:(dg U (k+i):Int)-(u:Int)=(y:Int):=by omega
        subst s;clear z Y Z K b5 b6 L b8 b9 I J B l C t v q D S O M N;go_wp2;go_roundw;case rel=>exact⟨i+1,c',0,o.set i y,by go_num,by go_num,rfl,by omega,T.out,by omega,X.out,ac,aa,ae,R⟩
        case measure=>simp[intOf];omega
      · have ah:b'=1:=by omega
        have aj:dg U (k+i)<u:=by
         rcases qH (dg U (k+i)) u with h|h
         · exact h
         · have:=B.2 (by omega);omega
        have e4:(dg U (k+i):Int)+4294967296-(u:Int)=(y:Int):=by omega
        subst ah;clear z Y Z K b5 b6 L b8 b9 I J B l C t v q D S O M N;go_wp2;go_roundw;case rel=>exact⟨i+1,c',1,o.set i y,by go_num,by go_num,rfl,by omega,T.out,by omega,X.out,ac,aa,ae,R⟩
        case measure=>simp[intOf];omega
    · have af:i=n:=by omega
      have ai:dg V i=0:=vJ (by rw[F.out];omega);rw[ai,je]at z;have aB:(d:Int)%4294967296=(lo:Int):=by omega
      have aC:(d:Int)/4294967296=(c':Int):=by omega
      subst af;rcases za b' with s|s
      · have aj:=B.1 s;have e4:(dg U (k+i):Int)-(u:Int)=(y:Int):=by omega
        subst s;clear z Y Z K b5 b6 L b8 b9 I J B l C t v q D S O M N ai e1 e2;go_wp2;go_roundw;case rel=>exact⟨i+1,c',0,o.set i y,by go_num,by go_num,rfl,by omega,T.out,by omega,X.out,ac,aa,ae,R⟩
        case measure=>simp[intOf]
      · have ah:b'=1:=by omega
        have aj:dg U (k+i)<u:=by
         rcases qH (dg U (k+i)) u with h|h
         · exact h
         · have:=B.2 (by omega);omega
        have e4:(dg U (k+i):Int)+4294967296-(u:Int)=(y:Int):=by omega
        subst ah;clear z Y Z K b5 b6 L b8 b9 I J B l C t v q D S O M N ai e1 e2;go_wp2;go_roundw;case rel=>exact⟨i+1,c',1,o.set i y,by go_num,by go_num,rfl,by omega,T.out,by omega,X.out,ac,aa,ae,R⟩
        case measure=>simp[intOf]
  · have af:i=n+1:=by omega
    have ax:=N (by omega);subst af ax;have al:Dig o:=by rwa [zu (by omega)]at C
    rw[←q]at l;have Q:k+o.length≤U.length:=by rw[E.out];omega
    have aE:¬(n:Int)+1≤(n:Int):=by omega
    rcases za b with s|s
    · subst s;have hy:=zF (l.yes Q);have aD:=zBX _ g a k (n+1) (m-k) (n+1) U o 3 D t q (by rw[E.out];omega) (by rw[E.out]);have ag:=zF q;have ap:=zF Q;clear q Q l C;have av:=D.put (uZ U o k);have aw:Blk (World.setRow _ g (nts (uZ U o k)).toArray) a o:=((wQ.refl g _).put _|>.block a (xa ak.out)).trans t;have az:=v.two ((wQ.refl g _).put (nts (uZ U o k)).toArray);go_wp2;go_ret;exact⟨uZ U o k,av,sw ab al,(mT ap.out).trans E.out,o,aw,ag.out,az,.inl ⟨rfl,hy.out⟩⟩
    · have au:b=1:=by omega
      subst au;have ay:=zF (l.no al ab (fun j hj=>Hz.out j (by omega)) Q);have ag:=zF q;clear l C q Q;go_wp2;go_ret;exact⟨U,D,ab,E.out,o,t,ag.out,(wQ.refl g _|>fun r=>v.two r),.inr ⟨rfl,rfl,ay.out⟩⟩
structure jE (g:Nat) (w w':World):Prop where
 os:w'.os=w.os
 tape:w'.tape=w.tape
 output:w'.output=w.output
 size:w.heap.size≤w'.heap.size
 block:∀ b,b<w.heap.size→b≠g→w'.heap[b]?=w.heap[b]?
theorem jE.refl (g:Nat)(w:World):jE g w w:=⟨rfl,rfl,rfl,zG _,fun _ _ _=>rfl⟩
theorem jE.trans {g:Nat}{a b c:World}(h:jE g a b)(k:jE g b c):jE g a c :=
 ⟨k.os.trans h.os,k.tape.trans h.tape,k.output.trans h.output,zK h.size k.size,fun i d e=>(k.block i (zH d h.size) e).trans (h.block i d e)⟩
theorem jE.set {g:Nat}{a b:World}(h:jE g a b)(i:Nat)(v:Value):jE g a (b.setCell ⟨g,i,none⟩ v) :=
 ⟨h.os,h.tape,h.output,by simpa[World.setCell]using h.size,fun j d c=>(ji _ _ _ _ (by exact c)).trans (h.block j d c)⟩
theorem jE.drewN {g:Nat}{a b:World}(h:jE g a b)(n:Nat):jE g a (b.drewN n):=⟨h.os,h.tape,h.output,h.size,h.block⟩
theorem jE.cell {g:Nat}{w w':World}(h:jE g w w'){p:Addr}(b:p.block<w.heap.size)(a:p.block≠g):w'.cell? p=w.cell? p:=qB (h.block _ b a)
theorem jE.of_below {g B:Nat}{w w':World}(h:Below B w w')(a:w.heap.size≤B):jE g w w':=⟨h.os,h.tape,h.output,h.size,fun b c _=>h.block b (zH c a)⟩
theorem jE.below {g B:Nat}{w w':World}(h:jE g w w')(d:B≤g)(c:B≤w.heap.size):Below B w w':=⟨h.os,h.tape,h.output,h.size,fun b a=>h.block b (zH a c) (by omega)⟩
theorem RN.just {w w':World}{g:Nat}{P:Nat→Prop}{A:Option Addr}{c:Nat}{l:List Nat}(h:RN w P A c l)(e:jE g w w')(a:∀ b,P b→b<w.heap.size∧b≠g):RN w' P A c l :=
 h.keep fun _ d=>e.cell (a _ d).1 (a _ d).2
theorem fa {B g:Nat}{w w':World}(h:Below B w w')(b:B≤g)(v:Array Value):Below B w (w'.setRow g v) :=
 ⟨h.os, h.tape, h.output, by have : (w'.setRow g v).heap.size = w'.heap.size := by simp [World.setRow]
                             rw[this];exact h.size,fun k a=>by
   have:(w'.setRow g v).heap[k]?=w'.heap[k]?:=by simp[World.setRow,vI,show ¬ g=k by omega]
   exact this.trans (h.block k a)⟩
def de (v M:Nat):Nat:=if v<M then v else v-M
structure aR (B M:Nat) (a b t:List Nat) (i n:Nat):Prop where
 len:t.length=n+2
 top:dg t (n+1)=0
 bound:val B t<M+val B b
 cong:∃ k,val B t*B^i=val B (a.take i)*val B b+k*M
theorem aR.zero {B M:Nat}(a b:List Nat)(n:Nat)(c:0<M):aR B M a b (List.replicate (n+2) 0) 0 n :=
 ⟨by simp,by rw[dg,zy,List.getElem?_replicate];split<;>rfl,by rw[kV];omega,0,by simp[kV]⟩
theorem cR {B:Nat}{t:List Nat}(a:∀ x∈t,x<B)(_hB:0<B):val B t%B=dg t 0:=by
 cases t with
 | nil=>simp[dg]
 | cons x l=>rw[kB,qw,qF (a x (by simp))];rfl
/-! What a round does to the numbers. -/
theorem oE {B M inv d q v:Nat}(b:(inv*M+1)%B=0)(e:v%B=d)(c:q=d*inv%B):(v+q*M)%B=0:=by
 have a:(v+q*M)%B=(d*(inv*M+1))%B:=by
  subst c e;rw[zl,jM,wG,ye,←zd,wC (v%B*inv*M),Nat.add_mod_mod]
 rw[a,vC,b];simp
theorem ri {M d c b q e a A A' k:Nat}(f:e=d+c*b+q*M)(h:d*a=A*b+k*M)(g:A'=A+a*c):e*a=A'*b+(k+q*a)*M:=by
 subst f g;rw[qb,qb,h,qb,qb];have i:c*b*a=a*c*b:=by rw[zp a c,zd,zd,zp b a]
 have j:q*M*a=q*a*M:=by rw[zd,zd,zp M a]
 omega
theorem aC {B M d a b q e t4:Nat}(c:0<B)(l:e=d+a*b+q*M)(n:d<M+b)(m:a<B)(o:q<B)(g:e=B*t4):t4<M+b:=by
 have h:a*b≤(B-1)*b:=qr _ (by omega);have i:q*M≤(B-1)*M:=qr _ (by omega);have j:(B-1)*b+b=B*b:=by rw[←Nat.succ_mul,Nat.succ_eq_add_one,Nat.sub_add_cancel c]
 have k:(B-1)*M+M=B*M:=by rw[←Nat.succ_mul,Nat.succ_eq_add_one,Nat.sub_add_cancel c]
 have f:B*t4<B*(M+b):=by rw[zl,←g];omega
 exact Nat.lt_of_mul_lt_mul_left f
theorem aR.step {B M inv n i q:Nat}{a b t c:List Nat}(y:2≤B)(h:aR B M a b t i n)(p:dg a i<B)(r:(inv*M+1)%B=0)(j:c.length=n+2)(u:∀ x∈c,x<B)
 (o:q=(val B t+dg a i*val B b)%B*inv%B) (d:val B c=val B t+dg a i*val B b+q*M):aR B M a b (c.drop 1++[0]) (i+1) n:=by
 have g:val B c%B=0:=by rw[d];exact oE r rfl o
 have v:q<B:=by rw[o];exact qP _ (by omega)
 obtain⟨x,l,rfl⟩:∃ x l,c=x::l:=by
  cases c with
  | nil=>simp at j
  | cons x l=>exact⟨x,l,rfl⟩
 rw[cR u (by omega)]at g
 have w:x=0:=g
 subst w
 have m:l.length=n+1:=by simpa using j
 have e:val B (0::l)=B*val B l:=by rw[kB];omega
 have f:val B ((0::l).drop 1++[0])=val B l:=by simp[kg]
 obtain⟨k,s⟩:=h.cong
 refine⟨by simp[m],?_,?_,k+q*B^i,?_⟩
 · simp[dg,m]
 · rw[f];exact aC (by omega) d h.bound p v e
 · rw[f,zx,show val B l*(B^i*B)=(B*val B l)*B^i by rw[zp (B^i),←zd,zp (val B l)],←e];exact ri d s (qG B a i)
theorem rU {v M:Nat}(h:v<2*M):de v M<M:=by rw[de];split<;>omega
theorem zAo {v M R x k:Nat}(h:v*R=x+k*M):de v M*R%M=x%M:=by
 have a:v*R%M=x%M:=by rw[h,wR]
 rw[de];split
 · exact a
 · rename_i hge;rw[←a];have:v*R=(v-M)*R+R*M:=by rw[zp R M,←qb,Nat.sub_add_cancel (by omega)]
   rw[this,wR]
theorem t8 (x y:Nat):IntKind.u64.wrap ((x:Int)*(y:Int))=((x*y%18446744073709551616:Nat):Int):=by
 rw[ww,←vi];omega
theorem bK {B M inv n a b:Nat}(g:(inv*M+1)%B=0)(h:a*B^n%M=b*B^n%M):a%M=b%M:=by
 obtain⟨u,f⟩:∃ u,inv*M+1=B*u:=⟨(inv*M+1)/B,by have:=jj (inv*M+1) B;omega⟩
 have d:∀ x,x*(B*u)%M=x%M:=fun x=>by rw[←f,zl,jM,←zd,wC,wR]
 have c:∀ k x,x*B^k*u^k%M=x%M:=by
   intro k;induction k with
   | zero=>intro x;simp
   | succ k ih =>
     intro x;have e:x*B ^(k+1)*u ^(k+1)=(x*(B*u))*B^k*u^k:=by
       rw[zx,zx];simp only[zd,zp,jY]
     rw[e,ih,d]
 rw[←c n a,←c n b,vC,h,←vC]
theorem zEC {m y a t z:Int}{k j:Nat}(f:m*y=1+2^k*t)(d:a=y*(2-m*y)+18446744073709551616*z)(e:k+k+j=64):∃ s,m*a=1+2 ^(k+k)*s:=by
 refine⟨-(t*t)+m*2^j*z,?_⟩;have b:m*a=m*y*(2-m*y)+m*18446744073709551616*z:=by rw[d,Int.mul_add,←Int.mul_assoc,←Int.mul_assoc]
 have c:(18446744073709551616:Int)=2 ^(k+k)*2^j:=by rw[←Int.pow_add,e];rfl
 rw[b,f,c,Int.pow_add];generalize(2:Int)^k=p;generalize(2:Int)^j=r;grind
theorem oB {m y:Int} : ∃ z,(y*((2-m*y%18446744073709551616)%18446744073709551616))%18446744073709551616=y*(2-m*y)+18446744073709551616*z:=by
 have b:=Int.mul_ediv_add_emod (m*y) 18446744073709551616;have c:=Int.mul_ediv_add_emod (2-m*y%18446744073709551616) 18446744073709551616;have d:=Int.mul_ediv_add_emod (y*((2-m*y%18446744073709551616)%18446744073709551616)) 18446744073709551616;generalize(2-m*y%18446744073709551616)/18446744073709551616=d2 at *;generalize(y*((2-m*y%18446744073709551616)%18446744073709551616))/18446744073709551616=a at *;generalize(y*((2-m*y%18446744073709551616)%18446744073709551616))%18446744073709551616=g at *;generalize(2-m*y%18446744073709551616)%18446744073709551616=f at *;generalize(m*y)/18446744073709551616=d1 at *;generalize(m*y)%18446744073709551616=e at *;refine⟨y*d1-y*d2-a,?_⟩;grind
theorem zCb {a M:Nat}{y:Int}{t:Int}(i:M%18446744073709551616=a)(h:(a:Int)*y=1+18446744073709551616*t):((((-y)%18446744073709551616).toNat)*M+1)%18446744073709551616=0:=by
 have b:=Int.mul_ediv_add_emod (-y) 18446744073709551616;have c:0≤(-y)%18446744073709551616:=Int.emod_nonneg _ (by decide);obtain⟨v,f⟩:∃ v:Nat,(-y)%18446744073709551616=(v:Int):=⟨_,(Int.toNat_of_nonneg c).symm⟩
 rw[f]at b ⊢;rw[yx];obtain⟨q,e⟩:∃ q,M=a+18446744073709551616*q:=⟨M/18446744073709551616,by omega⟩
 have g:((v*M+1:Nat):Int)=18446744073709551616*((v:Int)*q-t-(a:Int)*((-y)/18446744073709551616)):=by
  rw[e];simp only[vj,vi,qO];generalize(-y)/18446744073709551616=d at *;grind
 omega
def nl (M:Nat):Nat:=(digs 18446744073709551616 M).length
theorem bA (B:Nat)(a:List Nat)(k:Nat):val B (a++List.replicate k 0)=val B a:=by rw[kg,kV,je,jF]
theorem jA {w:World}{g:Nat}{t:TypeId}{cs:Array Value}(h:w.heap[g]?=some (.cells cs t (0,0)))(i:Nat)(u:Value):(w.setCell ⟨g,i,none⟩ u).heap[g]?=some (.cells (cs.setIfInBounds i u) t (0,0)):=by
 simp[World.setCell,vI,h]
end Go.Proofs.YtaemogcomplhiaaGreatDoor
namespace Go.Proofs.YtaemogcomplhiaaGreatDoor
theorem q9:type_of% @jE.refl:=@jE.refl
end Go.Proofs.YtaemogcomplhiaaGreatDoor
namespace Go.Proofs.YtaemogcomplhiaaGreatDoor
open Go.RowKit
theorem Ext.drewN (w:World)(n:Nat):Ext w (w.drewN n):=qp (zo _ w) n
theorem jX {c:Oper}{a:Act}{X:World}{K:Act→World→Prop}{Q:Exit→Act→World→Prop}(ty:TypeId)(x y:Operand)(j:c.op=.store ty x y)(g:c.dst=none){b:Nat}{cs cs':Array Value}{t:TypeId}
 (m:a.eval x=.pointer (some ⟨b,0,none⟩)) (n:a.eval y=.agg cs') (d:X.heap[b]?=some (.cells cs t (0,0))) (h:(Tryz.prog.info? ty).map (·.size)=some cs'.size) (l:cs.size=cs'.size) (e:cs'.all (·.oneCell')=true)
 (f:∀ Y,Y.heap[b]?=some (.cells cs' t (0,0))→jE b X Y→Y.heap.size=X.heap.size→K a Y):c.wp Tryz.prog a X K Q:=by
 refine wp_store_row ty x y j b cs' m n t cs d h l e ?_
 rw[g]
 exact f _ (Go.setRow_heap X b cs cs' t _ d) ⟨rfl,rfl,rfl,by simp[World.setRow],fun k _ i=>Go.setRow_other X b k cs' i⟩ (by simp[World.setRow])
theorem vp {c:Oper}{a:Act}{X:World}{K:Act→World→Prop}{Q:Exit→Act→World→Prop}(ty:TypeId)(x:Operand)(i:c.op=.load ty x){b:Nat}{cs:Array Value}{t:TypeId}{d:TypeDesc}(l:a.eval x=.pointer (some ⟨b,0,none⟩))(g:X.heap[b]?=some (.cells cs t (0,0)))
 (j:Tryz.prog.underlying ty=some d) (f:d.isRow=true) (h:(Tryz.prog.info? ty).map (·.size)=some cs.size) {v:Value} (k:v=.agg cs) (e:K (a.put c.dst v) X):c.wp Tryz.prog a X K Q :=
 wp_load_row ty x i b l t cs (0,0) d g j (by cases d<;>first|rfl|exact f) h (by rw[←k];exact e)
theorem jE.ext {b:Nat}{w X Y:World}(h:jE b X Y)(a:Ext w X)(c:w.heap.size≤b):Ext w Y:=jJ a (h.below c a.bsize)
theorem jE.at_ {b c:Nat}{X Y:World}{o:Obj}(h:jE b X Y)(d:c≠b)(a:X.heap[c]?=some o):Y.heap[c]?=some o:=(h.block c (qd a) d).trans a
section
variable {Q:Exit→Act→World→Prop} {ol:List Oper} {m:Nat} {L AL:List Nat} {R:Nat→(Nat→Value)→World→Prop} {a:Act} {w:World} {F:List Oper→Prop} {k n:Nat} {o:Oper} {l:List Oper} {u:Value}
theorem cG {X:World}{b:Nat}{cs:Array Value}{t ty:TypeId}(e:X.heap[b]?=some (.cells cs t (0,0)))(a:(Tryz.prog.underlying ty).any (·.isRow)=true)(f:(Tryz.prog.info? ty).map (·.size)=some cs.size):(Instr.loadAt ty (.pointer (some ⟨b,0,none⟩))).run Tryz.prog X=.ok (.agg cs) X:=by
 obtain⟨d,g,c⟩:∃ d,Tryz.prog.underlying ty=some d∧d.isRow=true:=by
  cases h:Tryz.prog.underlying ty with
  | none=>rw[h]at a;cases a
  | some d=>rw[h]at a;exact⟨d,rfl,a⟩
 unfold Instr.loadAt;simp only[km];rw[show(Instr.sureAddr (.pointer (some ⟨b,0,none⟩))).run Tryz.prog X=.ok ⟨b,0,none⟩ X from rfl,jC];exact run_loadVar_row X b t ty cs (0,0) d e g (by cases d<;>first|rfl|exact c) f
theorem lV0 (c d:Nat){b:Nat}{cs:Array Value}{t ty:TypeId}{x:Operand}(p:w.heap[b]?=some (.cells cs t (0,0)))(q:(Tryz.prog.info? ty).map (·.size)=some cs.size)(v:Par.qT (Par.jV Tryz.prog ol Q Ext m L AL R a w) F c d l)(hR:∀ f X,f k=.agg cs→R k (Par.qh (fun i=>L.getD i 0) k f) X:=by exact fun _ _ h=>h)(r:k+1=c:=by rfl)(s:d+1=n:=by rfl)(g:AL.contains k=false:=by kernel_rfl)
 (y:∀ f,Region.wanted o (yielded ol.toArray (Par.put ol.toArray (Par.nd (fun i=>L.getD i 0) k) f (List.range m) a).tmps)=true:=by intro _;kernel_rfl)
 (u:o.op=.load ty x:=by rfl) (z:∀ f,(Par.put ol.toArray (Par.nd (fun i=>L.getD i 0) k) f (List.range m) a).eval x=.pointer (some ⟨b,0,none⟩):=by intro _;kernel_rfl) (j:(Tryz.prog.underlying ty).any (·.isRow)=true:=by kernel_rfl):Par.qT (Par.jV Tryz.prog ol Q Ext m L AL R a w) F k n (o::l) :=
 Par.vx (fun f=>f) v (fun _ _ _=>rfl) hR r s g y (fun f X e=>by
  unfold execOp
  simp only[u,km,z,cG (e.at_ p) j q,jC]
  rfl)
theorem lV1 (c d j:Nat){b:Nat}{cs:Array Value}{t ty:TypeId}{x:Operand}(q:w.heap[b]?=some (.cells cs t (0,0)))(r:(Tryz.prog.info? ty).map (·.size)=some cs.size)(B:Par.qT (Par.jV Tryz.prog ol Q Ext m L AL R a w) F c d l)(A:∀ f X,R j (Par.qh (fun i=>L.getD i 0) j f) X→f j=u:=by exact fun _ _ h=>h)(hR:∀ f X,f k=.agg cs→R k (Par.qh (fun i=>L.getD i 0) k f) X:=by exact fun _ _ h=>h)(v:k+1=c:=by rfl)(y:d+1=n:=by rfl)(g:AL.contains k=false:=by kernel_rfl)
 (s:(L.getD k 0).testBit j=true:=by kernel_rfl)
 (C:∀ f,Region.wanted o (yielded ol.toArray (Par.put ol.toArray (Par.nd (fun i=>L.getD i 0) k) (Par.upd f j u) (List.range m) a).tmps)=true:=by intro _;kernel_rfl)
 (z:o.op=.load ty x:=by rfl) (D:∀ f,(Par.put ol.toArray (Par.nd (fun i=>L.getD i 0) k) (Par.upd f j u) (List.range m) a).eval x=.pointer (some ⟨b,0,none⟩):=by intro _;kernel_rfl) (p:(Tryz.prog.underlying ty).any (·.isRow)=true:=by kernel_rfl):Par.qT (Par.jV Tryz.prog ol Q Ext m L AL R a w) F k n (o::l) :=
 Par.vx (fun f=>Par.upd f j u) B (fun f X h=>Par.xz (A f X (h j s))) hR v y g C (fun f X e=>by
  unfold execOp
  simp only[z,km,D,cG (e.at_ q) p r,jC]
  rfl)
end
end Go.Proofs.YtaemogcomplhiaaGreatDoor
namespace Go.Proofs.YtaemogcomplhiaaGreatDoor
theorem kE:type_of% @Ext.drewN:=@Ext.drewN
end Go.Proofs.YtaemogcomplhiaaGreatDoor
namespace Go.Proofs.YtaemogcomplhiaaGreatDoor
open Go.RowKit
def EV (l:List Nat):Value:=.agg (nts l).toArray
theorem six {l:List Nat}(h:l.length=6):∃ a b c d e f,l=[a,b,c,d,e,f]:=by
 match l,h with
 | [a,b,c,d,e,f],_=>exact⟨a,b,c,d,e,f,rfl⟩
theorem zBK (a b c d e f:Nat)(w:World):(Op.equalIn 10000 109 (.agg #[.int .u64 (a:Int),.int .u64 (b:Int),.int .u64 (c:Int),.int .u64 (d:Int),.int .u64 (e:Int),.int .u64 (f:Int)]) (.agg #[.int .u64 0,.int .u64 0,.int .u64 0,.int .u64 0,.int .u64 0,.int .u64 0])).run Tryz.prog w =
 .ok (decide ([a,b,c,d,e,f]=[0,0,0,0,0,0])) w:=by
 obtain⟨A,o,v,u,z⟩:=yz kU
 have q:Tryz.prog.cellsOf 65=1:=by kernel_rfl
 rw[show(10000:Nat)=9999+1 by rfl,run_equalIn_array _ _ _ _ Tryz.underlying109 o,q]
 rw[show List.range 6=[0,1,2,3,4,5] by rfl]
 have s:∀ x y:Int,(Op.equalIn 9999 65 (.int .u64 x) (.int .u64 y)).run Tryz.prog w=.ok (x==y) w:=fun x y=>run_equalIn_int w 9998 _ .u64 .u64 x y Tryz.underlying65
 have p:∀(g:Array Value) (j:Nat) (x:Value),g[j]?=some x→(part 65 g j).run Tryz.prog w=.ok x w:=fun g j x h=>by
  simp[part,h,go_sem]
 have i:∀(g k:Array Value) (j:Nat) (x y:Int) (n:List Nat),g[j]?=some (.int .u64 x)→k[j]?=some (.int .u64 y) →
  (Op.eqItems 9999 65 1 g k (j::n)).run Tryz.prog w=if x=y then(Op.eqItems 9999 65 1 g k n).run Tryz.prog w else .ok false w:=by
  intro g k j x y n l m
  have p1:=p g j _ l
  have p2:=p k j _ m
  simp only[Op.eqItems,km,jM,p1,p2,s,jC]
  by_cases hxy:x=y
  · simp[hxy]
  · simp[hxy]
 rw[i _ _ 0 a 0 _ rfl rfl,i _ _ 1 b 0 _ rfl rfl,i _ _ 2 c 0 _ rfl rfl,i _ _ 3 d 0 _ rfl rfl,i _ _ 4 e 0 _ rfl rfl,i _ _ 5 f 0 _ rfl rfl]
 have t:(Op.eqItems 9999 65 1 #[.int .u64 (a:Int),.int .u64 (b:Int),.int .u64 (c:Int),.int .u64 (d:Int),.int .u64 (e:Int),.int .u64 (f:Int)] #[.int .u64 0,.int .u64 0,.int .u64 0,.int .u64 0,.int .u64 0,.int .u64 0] []).run Tryz.prog w=.ok true w:=by simp[Op.eqItems]
 rw[t]
 have r:decide ([a,b,c,d,e,f]=[0,0,0,0,0,0])=decide ((a:Int)=0∧(b:Int)=0∧(c:Int)=0∧(d:Int)=0∧(e:Int)=0∧(f:Int)=0):=by
  rw[decide_eq_decide];simp
 rw[r]
 by_cases l:(a:Int)=0<;>by_cases m:(b:Int)=0<;>by_cases h3:(c:Int)=0<;>by_cases h4:(d:Int)=0<;>by_cases h5:(e:Int)=0<;>by_cases h6:(f:Int)=0<;>simp only[l,m,h3,h4,h5,h6,if_true,ya,and_self,and_true,and_false,decide_true,decide_false]
theorem vL (l:List Nat)(w:World)(g:l.length=6):Calls Tryz.prog 104 #[EV l] w fun e w'=>e=.returned (.bool (decide (l=[0,0,0,0,0,0])))∧Below w.heap.size w w':=by
 obtain⟨a,b,c,d,e,f,rfl⟩:=six g;simp only[EV,nts,List.map_cons,List.map_nil];have h:=zBK a b c d e f;generalize decide ([a,b,c,d,e,f]=[0,0,0,0,0,0])=r at *;go_enter Tryz.func104,Tryz.ntmps104;go_wp2;go_ret;exact⟨rfl,(zo _ w).alloc (zG _) _⟩
end Go.Proofs.YtaemogcomplhiaaGreatDoor
namespace Go.Proofs.YtaemogcomplhiaaGreatDoor
def cU (B M:Nat) (a b:List Nat) (T i:Nat):Prop:=T<M+val B b∧∃ k,T*B^i=val B (a.take i)*val B b+k*M
theorem cU.zero {B M:Nat}(a b:List Nat)(c:0<M):cU B M a b 0 0:=⟨by omega,0,by simp⟩
theorem cU.step {B M inv i q T c T4:Nat}{a b:List Nat}(n:2≤B)(h:cU B M a b T i)(f:dg a i<B)(l:q=(T+dg a i*val B b)%B*inv%B)(d:c=T+dg a i*val B b+q*M)(e:c=B*T4):cU B M a b T4 (i+1):=by
 have m:q<B:=by rw[l];exact qP _ (by omega)
 obtain⟨g,k,j⟩:=h;refine⟨aC (by omega) d g f m e,k+q*B^i,?_⟩;rw[zx,show T4*(B^i*B)=(B*T4)*B^i by rw[zp (B^i),←zd,zp T4],←e];exact ri d j (qG B a i)
def yY (B:Nat) (t b o:List Nat) (f j c:Nat):Prop:=o.length=t.length∧(∀ p,j≤p→dg o p=dg t p)∧val B (o.take j)+B^j*c=val B (t.take j)+f*val B (b.take j)
theorem yY.zero (B:Nat)(t b:List Nat)(f:Nat):yY B t b t f 0 0:=⟨rfl,fun _ _=>rfl,by simp⟩
theorem yY.step {B f j c s c':Nat}{t b o:List Nat}(h:yY B t b o f j c)(l:j<t.length)(g:s+B*c'=dg o j+f*dg b j+c):yY B t b (o.set j s) f (j+1) c':=by
 obtain⟨d,a,k⟩:=h;refine⟨by simpa using d,fun p m=>by rw[getD_set_ne (by omega)];exact a p (by omega),?_⟩;rw[jf B (by omega),qG,qG,zx,zd];have e:=congrArg (fun z=>B^j*z) g;simp only[zl]at e;rw[a j (zG _)]at e;have i:B^j*(f*dg b j)=f*(B^j*dg b j):=jY _ _ _;rw[zl f];omega
theorem yY.fin {B f n c s c':Nat}{t b o:List Nat}(h:yY B t b o f n c)(hn:n+2≤t.length)(hb:b.take n=b∨val B (b.take n)=val B b)(he:s+B*c'=dg o n+c) :
   ((o.set n s).set (n+1) c').length=t.length∧val B (((o.set n s).set (n+1) c').take (n+2))=val B (t.take (n+1))+f*val B b:=by
 obtain⟨h1,h2,h3⟩:=h
 have hb' : val B (b.take n) = val B b := by rcases hb with h | h; · rw [h]
                                             · exact h
 refine⟨by simpa using h1,?_⟩;rw[jf B (by simp;omega),jf B (by omega),qG B t n,zx];have e:=congrArg (fun z=>B^n*z) he;simp only[zl]at e;rw[h2 n (zG _),←zd]at e;rw[hb']at h3;omega
def yX (B:Nat) (t m o:List Nat) (u k c:Nat):Prop:=o.length=t.length∧(∀ p,k≤p→dg o p=dg t p)∧B*val B (o.take k)+B ^(k+1)*c=val B (t.take (k+1))+u*val B (m.take (k+1))
theorem yX.zero {B u c:Nat}{t m:List Nat}(a:B*c=dg t 0+u*dg m 0):yX B t m t u 0 c:=by
 refine⟨rfl,fun _ _=>rfl,?_⟩;rw[qG,qG];simp;exact a
theorem yX.step {B u k c s c':Nat}{t m o:List Nat}(h:yX B t m o u k c)(l:k<t.length)(f:s+B*c'=dg o (k+1)+u*dg m (k+1)+c):yX B t m (o.set k s) u (k+1) c':=by
 obtain⟨d,a,j⟩:=h;refine⟨by simpa using d,fun p n=>by rw[getD_set_ne (by omega)];exact a p (by omega),?_⟩;rw[jf B (by omega),qG B t (k+1),qG B m (k+1)];have e:=congrArg (fun z=>B ^(k+1)*z) f;simp only[zl]at e;rw[a (k+1) (by omega)]at e;have g:B ^(k+1)*(u*dg m (k+1))=u*(B ^(k+1)*dg m (k+1)):=jY _ _ _;have i:B ^(k+1)*(B*c')=B ^(k+1+1)*c':=by rw[←zd,←zx]
 have b:B*(B^k*s)=B ^(k+1)*s:=by rw[←zd,zp B,←zx]
 rw[zl B,zl u,b];omega
theorem yX.fin {B u k c s c':Nat}{t m o:List Nat}(h:yX B t m o u k c)(n:k+3≤t.length)(j:val B (m.take (k+1))=val B m)(i:s+B*c'=dg o (k+1)+c) :
 ((o.set k s).set (k+1) (dg o (k+2)+c')).length=t.length∧B*val B (((o.set k s).set (k+1) (dg o (k+2)+c')).take (k+2))=val B (t.take (k+3))+u*val B m:=by
 obtain⟨f,a,g⟩:=h
 refine⟨by simpa using f,?_⟩
 rw[jf B (by simp;omega),jf B (by omega),qG B t (k+2),qG B t (k+1),a (k+2) (by omega)]
 have e:=congrArg (fun z=>B ^(k+1)*z) i
 simp only[zl]at e
 rw[a (k+1) (by omega)]at e
 rw[j]at g
 have l:B ^(k+1)*(B*c')=B ^(k+2)*c':=by rw[←zd,←zx]
 have b:B*(B^k*s)=B ^(k+1)*s:=by rw[←zd,zp B,←zx]
 have d:B*(B ^(k+1)*(dg t (k+2)+c'))=B ^(k+2)*dg t (k+2)+B ^(k+2)*c':=by rw[←zd,zp B,←zx,zl]
 rw[zl B,zl B,b,d]
 omega
end Go.Proofs.YtaemogcomplhiaaGreatDoor
namespace Go.Proofs.YtaemogcomplhiaaGreatDoor
open Go.RowKit
def kj (n inv:Nat) (ml ol rl:List Nat):List Value:=.int .i64 (n:Int)::(nts ml++.int .u64 (inv:Int)::(nts ol++nts rl))
structure Fld (w:World) (g n inv:Nat) (ml ol rl:List Nat):Prop where
 blk:w.heap[g]?=some (.cells (kj n inv ml ol rl).toArray 165 (0,0))
 m6:ml.length=6
 o6:ol.length=6
 r6:rl.length=6
variable {w w':World} {g n inv:Nat} {ml ol rl:List Nat}
theorem Fld.below {B:Nat}(h:Fld w g n inv ml ol rl)(a:Below B w w')(b:g<B):Fld w' g n inv ml ol rl:=⟨(a.block g b).trans h.blk,h.m6,h.o6,h.r6⟩
theorem Fld.lt (h:Fld w g n inv ml ol rl):g<w.heap.size:=qd h.blk
theorem Fld.n0 (h:Fld w g n inv ml ol rl):w.cell? ⟨g,0,none⟩=some (.int .i64 (n:Int)):=by
 rw[zP h.blk 0];rfl
theorem Fld.inv_ (h:Fld w g n inv ml ol rl):w.cell? ⟨g,7,none⟩=some (.int .u64 (inv:Int)):=by
 rw[zP h.blk 7];obtain⟨a,b,c,d,e,f,rfl⟩:=six h.m6;rfl
theorem Fld.m_ (h:Fld w g n inv ml ol rl){j:Nat}(i:j<6):w.cell? ⟨g,1+j,none⟩=some (.int .u64 (dg ml j:Int)):=by
 rw[zP h.blk (1+j)];obtain⟨a,b,c,d,e,f,rfl⟩:=six h.m6;match j,i with
 | 0,_|1,_|2,_|3,_|4,_|5,_=>rfl
def vm (w:World) (g:Nat) (ty:TypeId) (l:List Nat):Prop:=w.heap[g]?=some (.cells (nts l).toArray ty (0,0))
theorem vm.cell {ty:TypeId}{l:List Nat}(h:vm w g ty l){i:Nat}(a:i<l.length):w.cell? ⟨g,i,none⟩=some (.int .u64 (dg l i:Int)):=by
 rw[zP h i,zQ,gA a]
theorem vm.free {ty:TypeId}{l:List Nat}(h:vm w g ty l)(i:Nat):w.frozen? ⟨g,i,none⟩=false:=qz h i
theorem vm.set {ty:TypeId}{l:List Nat}(h:vm w g ty l)(i x:Nat):vm (w.setCell ⟨g,i,none⟩ (.int .u64 (x:Int))) g ty (l.set i x):=by
 have:=jA h i (.int .u64 (x:Int));rw[vm,this];simp[nts,List.map_set]
theorem vm.below {ty:TypeId}{l:List Nat}{B:Nat}(h:vm w g ty l)(a:Below B w w')(b:g<B):vm w' g ty l:=(a.block g b).trans h
theorem vm.lt {ty:TypeId}{l:List Nat}(h:vm w g ty l):g<w.heap.size:=qd h
theorem yJ {w:World}{g:Nat}{ty:TypeId}{a b c d e f:Value}(h:w.heap[g]?=some (.cells #[a,b,c,d,e,f] ty (0,0))) :
 w.cell? ⟨g,0,none⟩=some a∧w.cell? ⟨g,1,none⟩=some b∧w.cell? ⟨g,2,none⟩=some c∧w.cell? ⟨g,3,none⟩=some d∧w.cell? ⟨g,4,none⟩=some e∧w.cell? ⟨g,5,none⟩=some f :=
 ⟨zP h 0,zP h 1,zP h 2,zP h 3,zP h 4,zP h 5⟩
theorem un {w:World}{g:Nat}{ty:TypeId}{x0 x1 x2 x3 x4 x5:Value}(h:w.heap[g]?=some (.cells #[x0,x1,x2,x3,x4,x5] ty (0,0)))(a b c d e f:Value) :
 ((((((w.setCell ⟨g,0,none⟩ a).setCell ⟨g,1,none⟩ b).setCell ⟨g,2,none⟩ c).setCell ⟨g,3,none⟩ d).setCell ⟨g,4,none⟩ e).setCell ⟨g,5,none⟩ f).heap[g]?=some (.cells #[a,b,c,d,e,f] ty (0,0)):=by
 have i:=jA (jA (jA (jA (jA (jA h 0 a) 1 b) 2 c) 3 d) 4 e) 5 f
 rw[i]
 rfl
theorem xf {B g:Nat}{j w:World}(h:Below B j w)(i:B≤g)(a b c d e f:Value):Below B j ((((((w.setCell ⟨g,0,none⟩ a).setCell ⟨g,1,none⟩ b).setCell ⟨g,2,none⟩ c).setCell ⟨g,3,none⟩ d).setCell ⟨g,4,none⟩ e).setCell ⟨g,5,none⟩ f) :=
 (((((h.setCell (p:=⟨g,0,none⟩) i a).setCell (p:=⟨g,1,none⟩) i b).setCell (p:=⟨g,2,none⟩) i c).setCell (p:=⟨g,3,none⟩) i d).setCell (p:=⟨g,4,none⟩) i e).setCell (p:=⟨g,5,none⟩) i f
theorem pW {fn:Func}{R:Ending→World→Prop}{a:Act}{W:World}{p:Tmp}{g:Nat}{ty:TypeId}{fr:Nat×Nat}{x0 x1 x2 x3 x4 x5:Value}(e:fn.results=#[.cell p 109])(d:a.tmps.getD p undef=.pointer (some ⟨g,0,none⟩))(b:a.defers=[])
 (c:W.heap[g]?=some (.cells #[x0,x1,x2,x3,x4,x5] ty fr)) (hR:R (.returned (.agg #[x0,x1,x2,x3,x4,x5])) W):bodyPost Tryz.prog fn R .ret a W :=
 vg (wu e a.tmps W g _ _ _ (.array 6 65) d c Tryz.underlying109 rfl (by kernel_rfl)) b hR
theorem td (w:World)(g gt n c c':Nat)(ty k:TypeId)(u a:List Nat)(i:vm w g ty u)(f:vm w gt k a)(l:n≤a.length)(m:n≤u.length)(_o:0<n) :
 (Builtin.copy_ #[23,23] 3 #[.slice (some ⟨g,0,none⟩) n c,.slice (some ⟨gt,0,none⟩) n c']).run Tryz.prog w=.ok (goInt n) (w.setRow g (nts (a.take n++u.drop n)).toArray):=by
 have d:(nts (a.take n)).length=n:=by rw[qk,zh];omega
 have h:=run_copy_row (P:=Tryz.prog) w 23 23 3 65 g 0 n c ⟨gt,0,none⟩ n c' (nts u).toArray ty (nts (a.take n)) Tryz.underlying23 gD i
  (by rw [d]; simp) (fun j v b => by
   have e:j<n:=by have:=(List.getElem?_eq_some_iff.1 b).1;omega
   rw[yW,zP f j,zQ]
   rw[nts,yw,List.getElem?_take,qg e]at b
   rw[nts,yw]
   exact b) (by rw[d];simp[nts];omega) (vB _)
 rw[d]at h
 rw[h]
 simp[nts,List.map_drop]
theorem wy {B:Nat}{l:List Nat}(h:∀ x∈l,x<B)(k:Nat)(b:0<B:=by omega):val B (l.take k)<B^k:=by
 have a:=kF (B:=B) (l:=l.take k) fun x c=>h x (qN c);exact zH a (qE b (by rw[zh];omega))
theorem ke {B k:Nat}{l:List Nat}(h:∀ p,k≤p→dg l p=0):val B (l.take k)=val B l:=by
 rcases qH k l.length with a|a
 · rw[jI B l (n:=k) (by omega),wH (l:=l.drop k) ?_,je,jF];intro x d;obtain⟨j,c,rfl⟩:=List.mem_iff_getElem.1 d;have b:=h (k+j) (by omega);rw[qa]at c;rw[List.getElem_drop];rwa [dg,ja (by omega)]at b
 · rw[zu a]
theorem bO (gt over:Nat)(t:List Nat)(w:World)(L:Fld w g n inv ml ol rl)(ah:∀ x∈ml,x<18446744073709551616)(hT:vm w gt 175 t)(_aG:gt≠g)(al:t.length=8)(ht:∀ x∈t,x<18446744073709551616)(hn:n≤6)(aC:0<n)
 (ai:val 18446744073709551616 (ml.take n)=val 18446744073709551616 ml) (ho:over<18446744073709551616) (v:val 18446744073709551616 (t.take n)+18446744073709551616^n*over<2*val 18446744073709551616 ml) :
 Calls Tryz.prog 130 #[.pointer (some ⟨g,0,none⟩),.pointer (some ⟨gt,0,none⟩),.int .u64 (over:Int)] w fun e w'=>∃ o,e=.returned (EV o)∧o.length=6∧(∀ x∈o,x<18446744073709551616) ∧
  val 18446744073709551616 o=de (val 18446744073709551616 (t.take n)+18446744073709551616^n*over) (val 18446744073709551616 ml)∧Below w.heap.size w w':=by
 have h0:=L.n0
 have hg:=L.lt
 have af:=hT.lt
 have ac:Below w.heap.size w ((w.alloc (.cells #[.int .u64 0,.int .u64 0,.int .u64 0,.int .u64 0,.int .u64 0,.int .u64 0] 109)).alloc (.cells #[.int .u64 0,.int .u64 0,.int .u64 0,.int .u64 0,.int .u64 0,.int .u64 0] 109)):=((zo _ w).alloc (zG _) _).alloc (by simp) _
 have aj:vm ((w.alloc (.cells #[.int .u64 0,.int .u64 0,.int .u64 0,.int .u64 0,.int .u64 0,.int .u64 0] 109)).alloc (.cells #[.int .u64 0,.int .u64 0,.int .u64 0,.int .u64 0,.int .u64 0,.int .u64 0] 109)) (w.heap.size+1) 109 [0,0,0,0,0,0]:=by
  have:=zS (w.alloc (.cells #[.int .u64 0,.int .u64 0,.int .u64 0,.int .u64 0,.int .u64 0,.int .u64 0] 109)) (.cells #[.int .u64 0,.int .u64 0,.int .u64 0,.int .u64 0,.int .u64 0,.int .u64 0] 109);rw[zz]at this;exact this
 have ak:((w.alloc (.cells #[.int .u64 0,.int .u64 0,.int .u64 0,.int .u64 0,.int .u64 0,.int .u64 0] 109)).alloc (.cells #[.int .u64 0,.int .u64 0,.int .u64 0,.int .u64 0,.int .u64 0,.int .u64 0] 109)).heap[w.heap.size]?=some (.cells #[.int .u64 0,.int .u64 0,.int .u64 0,.int .u64 0,.int .u64 0,.int .u64 0] 109 (0,0)):=(kJ _ _ _ (by simp)).trans (zS w _)
 go_enter Tryz.func130,Tryz.ntmps130
 go_wp2_with fail
 generalize(w.alloc (.cells #[.int .u64 0,.int .u64 0,.int .u64 0,.int .u64 0,.int .u64 0,.int .u64 0] 109)).alloc (.cells #[.int .u64 0,.int .u64 0,.int .u64 0,.int .u64 0,.int .u64 0,.int .u64 0] 109)=W0 at *
 have aE:w.heap.size+2≤W0.heap.size:=by have:=aj.lt;omega
 have Hv:=zF v
 have aa:=zF ai
 have Z:=zF ah
 have P:=zF ht
 have Q:=zF al
 have aH:=zF L.m6
 clear v ai ah ht al
 go_loopw [8,14] (fun cv iv wr=>∃(k m:Nat) (o:List Nat),iv=.int .i64 (k:Int)∧cv=.int .u64 (m:Int)∧k≤n∧m≤1∧xZ 18446744073709551616 t ml o k m∧Hid (o.length=6)∧Hid (∀ x∈o,x<18446744073709551616)∧Hid (∀ p,k≤p→dg o p=0)∧vm wr (w.heap.size+1) 109 o∧Below (w.heap.size+1) W0 wr) (fun _ iv _=>n-(intOf iv).toNat)
 case atStart=>exact⟨0,0,_,rfl,rfl,by omega,by omega,xZ.zero _ _ _ _,zF rfl,zF (by simp),zF (fun p _=>by match p with|0|1|2|3|4|5=>rfl|p+6=>rfl),aj,zo _ _⟩
 case round =>
  obtain⟨k,m,o,rfl,rfl,hk,ae,B,y,H,I,r,C⟩:=hrel;have K:Below w.heap.size w wr:=ac.trans (C.mono (by omega));have D:=L.below K hg;have E:=hT.below K af;have c0:=D.n0;by_cases hlt:k<n
  · have q1:=E.cell (i:=k) (by have:=Q.out;omega);have q2:=D.m_ (j:=k) (by omega);have dt:dg t k<18446744073709551616:=jW (by omega) P.out k;have dm:dg ml k<18446744073709551616:=jW (by omega) Z.out k;obtain⟨s,ab,hs,M,T⟩:=ug (dg t k) (dg ml k) m dt dm ae;have W:k<o.length:=by have:=y.out;omega
    have q3:=r.cell W;have q4:=r.free k;have ay:=B.step W T;have aB:=r.set k s;have az:=C.setCell (p:=⟨w.heap.size+1,k,none⟩) (zG _) (.int .u64 (s:Int));have av:Hid ((o.set k s).length=6):=zF (by rw[jr];exact y.out);have au:Hid (∀ x∈o.set k s,x<18446744073709551616):=zF (xF H.out hs);have ax:Hid (∀ p,k+1≤p→dg (o.set k s) p=0):=zF fun p hp=>by rw[getD_set_ne (by omega)];exact I.out p (by omega)
    have aI:=fun w=>uX (dg t k) (dg ml k) m s ab ae dt dm hs T M w;have ki:(k:Int)<8:=by omega
    have aJ:(k:Int)<6:=by omega
    clear T B r C W K D E;go_wp2_with fail;have U:∀ q:Addr,q.block<w.heap.size→(wr.setCell ⟨w.heap.size+1,k,none⟩ (.int .u64 (s:Int))).drew.cell? q=wr.cell? q:=fun q hq=>qB (ji _ _ _ _ (by show q.block≠w.heap.size+1;omega));have f1:=(U ⟨gt,k,none⟩ af).trans q1;have f2:=(U ⟨g,1+k,none⟩ hg).trans q2;clear U;go_region_held3 (fun w'=>w'.cell? ⟨gt,k,none⟩=some (.int .u64 (dg t k:Int))∧w'.cell? ⟨g,1+k,none⟩=some (.int .u64 (dg ml k:Int))) (first|exact⟨q1,q2⟩|exact⟨f1,f2⟩|go_keep) (fail);go_wp2;go_roundw;case rel=>exact⟨k+1,ab,o.set k s,by go_num,rfl,by omega,M,ay,av,au,ax,aB,az.drew⟩
    case measure=>simp[intOf];omega
  · obtain rfl:k=n:=by omega
    have N:val 18446744073709551616 o+val 18446744073709551616 ml=val 18446744073709551616 (t.take k)+18446744073709551616^k*m:=by
     have h1:val 18446744073709551616 (o.take k)+val 18446744073709551616 (ml.take k)=val 18446744073709551616 (t.take k)+18446744073709551616^k*m:=B;rw[aa.out]at h1;have J:val 18446744073709551616 (o.take k)=val 18446744073709551616 o:=ke I.out;omega
    have an:val 18446744073709551616 o<18446744073709551616^k:=by
     rw[←ke I.out];exact wy H.out k
    have am:val 18446744073709551616 ml<18446744073709551616^k:=by rw[←aa.out];exact wy Z.out k
    have ao:=wy P.out k;have v:=Hv.out;by_cases hcase:over<m
    · obtain rfl:m=1:=by omega
      obtain rfl:over=0:=by omega
      rw[je,jF]at v;have G:de (val 18446744073709551616 (t.take k)+18446744073709551616^k*0) (val 18446744073709551616 ml)=val 18446744073709551616 (t.take k):=by rw[je,jF,de,qg (by omega)]
      have aF:=td wr.drew (w.heap.size+1) gt k 6 8 109 175 o t r E (by have:=Q.out;omega) (by have:=y.out;omega) aC;have ap:val 18446744073709551616 (t.take k++o.drop k)=val 18446744073709551616 (t.take k):=by
       rw[kg,wH (l:=o.drop k) ?_,je,jF];intro x Y;obtain⟨j,hj,rfl⟩:=List.mem_iff_getElem.1 Y;have J:=I.out (k+j) (by omega);rw[qa]at hj;rw[List.getElem_drop];rwa [dg,ja (by omega)]at J
      have V:(t.take k++o.drop k).length=6:=by rw[zf,zh,qa,y.out,Q.out];omega
      have ag:∀ x∈t.take k++o.drop k,x<18446744073709551616:=fun x Y=>by
       rcases List.mem_append.1 Y with h|h
       · exact P.out x (qN h)
       · exact H.out x (List.mem_of_mem_drop h)
      generalize t.take k++o.drop k=o2 at *;have ad:vm (wr.drew.setRow (w.heap.size+1) (nts o2).toArray) (w.heap.size+1) 109 o2:=setRow_heap wr.drew _ _ _ _ _ r;have S:=fa C.drew (zG (w.heap.size+1)) (nts o2).toArray;obtain⟨a,b,c,d,e,f,A⟩:=six V;have F:((wr.drew.setRow (w.heap.size+1) (nts o2).toArray).heap[w.heap.size+1]?=some (.cells #[.int .u64 (a:Int),.int .u64 (b:Int),.int .u64 (c:Int),.int .u64 (d:Int),.int .u64 (e:Int),.int .u64 (f:Int)] 109 (0,0))):=by
       have h:=ad;rw[vm]at h;rw[h,A];rfl
      have u:(wr.drew.setRow (w.heap.size+1) (nts o2).toArray).heap[w.heap.size]?=some (.cells #[.int .u64 0,.int .u64 0,.int .u64 0,.int .u64 0,.int .u64 0,.int .u64 0] 109 (0,0)):=(S.block w.heap.size (by omega)).trans ak;obtain⟨e0,e1,e2,e3,e4,e5⟩:=yJ F;obtain⟨r0,r1,r2,r3,r4,r5⟩:=yJ u;have z:=fun i=>qz u i;have z0:=z 0;have z1:=z 1;have z2:=z 2;have z3:=z 3;have z4:=z 4;have z5:=z 5;have X:=u;have aA:Below w.heap.size w (wr.drew.setRow (w.heap.size+1) (nts o2).toArray):=ac.trans (S.mono (by omega));have O:=zF (ap.trans G.symm);have aw:=zF A;have aq:=zF V;have ar:=zF ag;have k6:(k:Int)≤6:=by omega
      have k8:(k:Int)≤8:=by omega
      clear an v N am ao G B r D E z F u ap A V ag ad S;go_wp2_with fail;go_region;generalize wr.drew.setRow (w.heap.size+1) (nts o2).toArray=W9 at *;go_wp2_with fail;refine pW rfl rfl rfl (un X _ _ _ _ _ _) ?_;exact⟨o2,by rw[aw.out];rfl,aq.out,ar.out,O.out,xf aA (zG _) _ _ _ _ _ _⟩
    · have G:val 18446744073709551616 o=de (val 18446744073709551616 (t.take k)+18446744073709551616^k*over) (val 18446744073709551616 ml):=by
       have M:m=0∨m=1:=by omega
       generalize 18446744073709551616^k=R at *;rcases za over with rfl|aD
       · obtain rfl:m=0:=by omega
         rw[je,jF]at N v ⊢;rw[de,qo (by omega)];omega
       · have h1:R*1≤R*over:=qI _ aD;have J:over=1:=by
          rcases qH over 2 with h|h
          · omega
          · have:R*2≤R*over:=qI _ h;omega
         subst J;rw[de,qo (by omega)];rcases M with rfl|rfl
         · rw[je,jF]at N;omega
         · omega
      have O:=zF G;obtain⟨a,b,c,d,e,f,A⟩:=six y.out;have F:(wr.heap[w.heap.size+1]?=some (.cells #[.int .u64 (a:Int),.int .u64 (b:Int),.int .u64 (c:Int),.int .u64 (d:Int),.int .u64 (e:Int),.int .u64 (f:Int)] 109 (0,0))):=by
       rw[A]at r;exact r
      have u:wr.heap[w.heap.size]?=some (.cells #[.int .u64 0,.int .u64 0,.int .u64 0,.int .u64 0,.int .u64 0,.int .u64 0] 109 (0,0)):=(C.block w.heap.size (by omega)).trans ak;obtain⟨e0,e1,e2,e3,e4,e5⟩:=yJ F;obtain⟨r0,r1,r2,r3,r4,r5⟩:=yJ u;have z:=fun i=>qz u i;have z0:=z 0;have z1:=z 1;have z2:=z 2;have z3:=z 3;have z4:=z 4;have z5:=z 5;have X:=u;clear an v N am ao G B r D E z F u;go_wp2_with fail;refine pW rfl rfl rfl (un X _ _ _ _ _ _) ?_;exact⟨o,by rw[A];rfl,y.out,H.out,O.out,xf K (zG _) _ _ _ _ _ _⟩
end Go.Proofs.YtaemogcomplhiaaGreatDoor
namespace Go.Proofs.YtaemogcomplhiaaGreatDoor
open Go.RowKit
structure FF (w:World) (g n inv M:Nat) (ml ol rl:List Nat):Prop where
 fld:Fld w g n inv ml ol rl
 mlt:∀ x∈ml,x<18446744073709551616
 mval:val 18446744073709551616 ml=M
 mtake:val 18446744073709551616 (ml.take n)=M
 npos:0<n
 nle:n≤6
 big:1<M
 invLt:inv<18446744073709551616
 invV:(inv*M+1)%18446744073709551616=0
theorem FF.below {w w':World}{g n inv M B:Nat}{ml ol rl:List Nat}(h:FF w g n inv M ml ol rl)(a:Below B w w')(b:g<B):FF w' g n inv M ml ol rl :=
 ⟨h.fld.below a b,h.mlt,h.mval,h.mtake,h.npos,h.nle,h.big,h.invLt,h.invV⟩
theorem FF.room {w:World}{g n inv M:Nat}{ml ol rl:List Nat}(h:FF w g n inv M ml ol rl):M<18446744073709551616^n:=by rw[←h.mtake];exact wy h.mlt n
structure Elt (M:Nat) (l:List Nat):Prop where
 six:l.length=6
 lim:∀ x∈l,x<18446744073709551616
 lt:val 18446744073709551616 l<M
theorem Elt.take {w:World}{g n inv M:Nat}{ml ol rl l:List Nat}(h:FF w g n inv M ml ol rl)(b:Elt M l):val 18446744073709551616 (l.take n)=val 18446744073709551616 l:=by
 have c:=jI 18446744073709551616 l (n:=n) (by rw[b.six];exact h.nle);have d:=h.room;rcases za (val 18446744073709551616 (l.drop n))with a|a
 · rw[a]at c;omega
 · have e:18446744073709551616^n*1≤18446744073709551616^n*val 18446744073709551616 (l.drop n):=qI _ a;have f:=b.lt;omega
theorem zEP (w:World)(a o2 o3 b:Obj):((((w.alloc a).alloc o2).alloc o3).alloc b).heap[w.heap.size]?=some a∧((((w.alloc a).alloc o2).alloc o3).alloc b).heap[w.heap.size+1]?=some o2∧((((w.alloc a).alloc o2).alloc o3).alloc b).heap[w.heap.size+1+1]?=some o3∧((((w.alloc a).alloc o2).alloc o3).alloc b).heap[w.heap.size+1+1+1]?=some b ∧
 ((((w.alloc a).alloc o2).alloc o3).alloc b).heap.size=w.heap.size+4∧Below w.heap.size w ((((w.alloc a).alloc o2).alloc o3).alloc b):=by
 have f:=zS w a
 have c:=zS (w.alloc a) o2
 have d:=zS ((w.alloc a).alloc o2) o3
 have e:=zS (((w.alloc a).alloc o2).alloc o3) b
 simp only[zz]at c d e
 refine⟨?_,?_,?_,e,by simp,(((((zo _ w).alloc (zG _) _).alloc (by simp) _).alloc (by simp;omega) _).alloc (by simp;omega) _)⟩
 · exact(kJ _ _ _ (by simp<;>omega)).trans ((kJ _ _ _ (by simp<;>omega)).trans ((kJ _ _ _ (by simp)).trans f))
 · exact(kJ _ _ _ (by simp<;>omega)).trans ((kJ _ _ _ (by simp)).trans c)
 · exact(kJ _ _ _ (by simp)).trans d
theorem t6 {g n inv M:Nat}{ml ol rl:List Nat}(a b:List Nat)(w:World)(h:FF w g n inv M ml ol rl)(u:Elt M a)(y:Elt M b) :
 Calls Tryz.prog 101 #[.pointer (some ⟨g,0,none⟩),EV a,EV b] w fun e w'=>∃ o,e=.returned (EV o)∧Elt M o∧val 18446744073709551616 o=de (val 18446744073709551616 a+val 18446744073709551616 b) M∧Below w.heap.size w w':=by
 have hg:=h.fld.lt
 have h0:=h.fld.n0
 have hn:=h.nle
 have ar:=h.npos
 have ta:=u.take h
 have tb:=y.take h
 obtain⟨D,E,F,a3,a4,a5,v⟩:=six u.six
 obtain⟨G,H,I,J,K,L,A⟩:=six y.six
 obtain⟨l1,l2,l3,l4,hz,aa⟩:=zEP w (.cells #[.int .u64 (D:Int),.int .u64 (E:Int),.int .u64 (F:Int),.int .u64 (a3:Int),.int .u64 (a4:Int),.int .u64 (a5:Int)] 109)
  (.cells #[.int .u64 (G:Int),.int .u64 (H:Int),.int .u64 (I:Int),.int .u64 (J:Int),.int .u64 (K:Int),.int .u64 (L:Int)] 109) (.cells #[.int .u64 0,.int .u64 0,.int .u64 0,.int .u64 0,.int .u64 0,.int .u64 0] 109)
  (.cells #[.int .u64 0,.int .u64 0,.int .u64 0,.int .u64 0,.int .u64 0,.int .u64 0,.int .u64 0,.int .u64 0] 175)
 have ae:EV a=.agg #[.int .u64 (D:Int),.int .u64 (E:Int),.int .u64 (F:Int),.int .u64 (a3:Int),.int .u64 (a4:Int),.int .u64 (a5:Int)]:=by rw[v];rfl
 have af:EV b=.agg #[.int .u64 (G:Int),.int .u64 (H:Int),.int .u64 (I:Int),.int .u64 (J:Int),.int .u64 (K:Int),.int .u64 (L:Int)]:=by rw[A];rfl
 rw[ae,af]
 have ax:=(aa.cell (p:=⟨g,0,none⟩) hg).trans h0
 go_enter Tryz.func101,Tryz.ntmps101
 go_wp2_with fail
 generalize(((w.alloc (.cells #[.int .u64 (D:Int),.int .u64 (E:Int),.int .u64 (F:Int),.int .u64 (a3:Int),.int .u64 (a4:Int),.int .u64 (a5:Int)] 109)).alloc
  (.cells #[.int .u64 (G:Int),.int .u64 (H:Int),.int .u64 (I:Int),.int .u64 (J:Int),.int .u64 (K:Int),.int .u64 (L:Int)] 109)).alloc (.cells #[.int .u64 0,.int .u64 0,.int .u64 0,.int .u64 0,.int .u64 0,.int .u64 0] 109)).alloc
  (.cells #[.int .u64 0,.int .u64 0,.int .u64 0,.int .u64 0,.int .u64 0,.int .u64 0,.int .u64 0,.int .u64 0] 175)=W0 at *
 have A0:vm W0 w.heap.size 109 a:=by rw[v];exact l1
 have B0:vm W0 (w.heap.size+1) 109 b:=by rw[A];exact l2
 have T0:vm W0 (w.heap.size+1+1+1) 175 [0,0,0,0,0,0,0,0]:=l4
 have ay:w.heap.size+4≤W0.heap.size:=by omega
 have l:=zF u
 have m:=zF y
 have av:=zF v
 have aw:=zF A
 have HF:=zF h
 clear l1 l2 l4 hz u y v A ae af h
 go_loopw [8,14] (fun cv iv wr=>∃(k c:Nat) (o:List Nat),iv=.int .i64 (k:Int)∧cv=.int .u64 (c:Int)∧k≤n∧c≤1∧wz 18446744073709551616 a b o k c∧Hid (o.length=8)∧Hid (∀ x∈o,x<18446744073709551616)∧vm wr (w.heap.size+1+1+1) 175 o∧Below (w.heap.size+1+1+1) W0 wr) (fun _ iv _=>n-(intOf iv).toNat)
 case atStart=>exact⟨0,0,_,rfl,rfl,by omega,by omega,wz.zero _ _ _ _,zF rfl,zF (by simp),T0,zo _ _⟩
 case round =>
  obtain⟨k,c,o,rfl,rfl,hk,ab,r,C,X,j,f⟩:=hrel;have t:Below w.heap.size w wr:=aa.trans (f.mono (by omega));have d:=HF.out.below t hg;have c0:=d.fld.n0;have N:=A0.below f (by omega);have P:=B0.below f (by omega);by_cases hlt:k<n
  · have q1:=N.cell (i:=k) (by rw[l.out.six];omega);have q2:=P.cell (i:=k) (by rw[m.out.six];omega);have dt:dg a k<18446744073709551616:=jW (by omega) l.out.lim k;have dm:dg b k<18446744073709551616:=jW (by omega) m.out.lim k;obtain⟨s,Z,hs,aq,he⟩:=yr (dg a k) (dg b k) c dt dm ab;have U:k<o.length:=by have:=C.out;omega
    have q3:=j.cell U;have q4:=j.free k;have am:=r.step U (by omega);have ap:=j.set k s;have an:=f.setCell (p:=⟨w.heap.size+1+1+1,k,none⟩) (zG _) (.int .u64 (s:Int));have aj:Hid ((o.set k s).length=8):=zF (by rw[jr];exact C.out);have ai:Hid (∀ x∈o.set k s,x<18446744073709551616):=zF (xF X.out hs);have az:=fun w=>kR (dg a k) (dg b k) c s Z ab hs (by omega) w;have ki:(k:Int)<8:=by omega
    have aA:(k:Int)<6:=by omega
    clear he r j f U t d N P;go_wp2_with fail;have R:∀ q:Addr,q.block<w.heap.size+1+1+1→(wr.setCell ⟨w.heap.size+1+1+1,k,none⟩ (.int .u64 (s:Int))).drew.cell? q=wr.cell? q:=fun q hq=>qB (ji _ _ _ _ (by show q.block≠w.heap.size+1+1+1;omega));have f1:=(R ⟨w.heap.size,k,none⟩ (by show w.heap.size<_;omega)).trans q1;have f2:=(R ⟨w.heap.size+1,k,none⟩ (by show w.heap.size+1<_;omega)).trans q2;clear R;go_region_held3 (fun w'=>w'.cell? ⟨w.heap.size,k,none⟩=some (.int .u64 (dg a k:Int))∧w'.cell? ⟨w.heap.size+1,k,none⟩=some (.int .u64 (dg b k:Int))) (first|exact⟨q1,q2⟩|exact⟨f1,f2⟩|go_keep) (fail);go_wp2;go_roundw;case rel=>exact⟨k+1,Z,o.set k s,by go_num,rfl,by omega,aq,am,aj,ai,ap,an.drew⟩
    case measure=>simp[intOf];omega
  · obtain rfl:k=n:=by omega
    have V:val 18446744073709551616 (o.take k)+18446744073709551616^k*c=val 18446744073709551616 a+val 18446744073709551616 b:=by
     have h1:val 18446744073709551616 (o.take k)+18446744073709551616^k*c=val 18446744073709551616 (a.take k)+val 18446744073709551616 (b.take k):=by have:=r;unfold wz at this;omega
     rw[ta,tb]at h1;exact h1
    have Q:=bO (w.heap.size+1+1+1) c o wr d.fld d.mlt j (by omega) C.out X.out hn ar (by rw[d.mtake,d.mval]) (by omega) (by rw[V,d.mval];have:=l.out.lt;have:=m.out.lt;omega);rw[V,d.mval]at Q;have W:=zF Q;clear Q r j d N P V;go_wp2_with fail;refine W.out.mono ?_;rintro e w2 ⟨o2,rfl,S,ac,ad,O⟩;obtain⟨x0,x1,x2,x3,x4,x5,T⟩:=six S;have B:=(O.block (w.heap.size+1+1) (by have:=f.size;omega)).trans ((f.block (w.heap.size+1+1) (by omega)).trans l3);obtain⟨r0,r1,r2,r3,r4,r5⟩:=yJ B;have z:=fun i=>qz B i;have z0:=z 0;have z1:=z 1;have z2:=z 2;have z3:=z 3;have z4:=z 4;have z5:=z 5;have au:=B;have ao:Below w.heap.size w w2:=t.trans (O.mono t.size);have Y:=zF ad;have ak:=zF S;have ah:=zF ac;have al:=zF T;have ag:EV o2=.agg #[.int .u64 (x0:Int),.int .u64 (x1:Int),.int .u64 (x2:Int),.int .u64 (x3:Int),.int .u64 (x4:Int),.int .u64 (x5:Int)]:=by rw[T];rfl
    rw[ag];clear ag T ad S ac z B O f W;go_wp2_with fail;refine pW rfl rfl rfl (un au _ _ _ _ _ _) ?_;exact⟨o2,by rw[al.out];rfl,⟨ak.out,ah.out,by rw[Y.out];exact rU (by have:=l.out.lt;have:=m.out.lt;omega)⟩,Y.out,xf ao (by omega) _ _ _ _ _ _⟩
def aS (x y M:Nat):Nat:=if y≤x then x-y else x+M-y
theorem rL {x y M:Nat}(a:x<M)(b:y<M):aS x y M<M:=by unfold aS;split<;>omega
theorem zAI {x y M:Nat}(a:x<M)(b:y<M):aS x y M=(x+M-y)%M:=by
 unfold aS;split
 · rw[show x+M-y=x-y+M by omega,Nat.add_mod_right,qF (by omega)]
 · rw[qF (by omega)]
theorem tn {g n inv M:Nat}{ml ol rl:List Nat}(a b:List Nat)(w:World)(t:FF w g n inv M ml ol rl)(T:Elt M a)(V:Elt M b) :
 Calls Tryz.prog 103 #[.pointer (some ⟨g,0,none⟩),EV a,EV b] w fun e w'=>∃ o,e=.returned (EV o)∧Elt M o∧val 18446744073709551616 o=aS (val 18446744073709551616 a) (val 18446744073709551616 b) M∧Below w.heap.size w w':=by
 have hg:=t.fld.lt
 have h0:=t.fld.n0
 have hn:=t.nle
 have aM:=t.npos
 have ta:=T.take t
 have tb:=V.take t
 obtain⟨a0,a1,a2,a3,a4,a5,U⟩:=six T.six
 obtain⟨b0,b1,b2,b3,b4,b5,W⟩:=six V.six
 obtain⟨l1,l2,l3,l4,hz,ah⟩:=zEP w (.cells #[.int .u64 (a0:Int),.int .u64 (a1:Int),.int .u64 (a2:Int),.int .u64 (a3:Int),.int .u64 (a4:Int),.int .u64 (a5:Int)] 109)
  (.cells #[.int .u64 (b0:Int),.int .u64 (b1:Int),.int .u64 (b2:Int),.int .u64 (b3:Int),.int .u64 (b4:Int),.int .u64 (b5:Int)] 109) (.cells #[.int .u64 0,.int .u64 0,.int .u64 0,.int .u64 0,.int .u64 0,.int .u64 0] 109)
  (.cells #[.int .u64 0,.int .u64 0,.int .u64 0,.int .u64 0,.int .u64 0,.int .u64 0] 109)
 have az:EV a=.agg #[.int .u64 (a0:Int),.int .u64 (a1:Int),.int .u64 (a2:Int),.int .u64 (a3:Int),.int .u64 (a4:Int),.int .u64 (a5:Int)]:=by rw[U];rfl
 have aA:EV b=.agg #[.int .u64 (b0:Int),.int .u64 (b1:Int),.int .u64 (b2:Int),.int .u64 (b3:Int),.int .u64 (b4:Int),.int .u64 (b5:Int)]:=by rw[W];rfl
 rw[az,aA]
 have aJ:=(ah.cell (p:=⟨g,0,none⟩) hg).trans h0
 go_enter Tryz.func103,Tryz.ntmps103
 go_wp2_with fail
 generalize(((w.alloc (.cells #[.int .u64 (a0:Int),.int .u64 (a1:Int),.int .u64 (a2:Int),.int .u64 (a3:Int),.int .u64 (a4:Int),.int .u64 (a5:Int)] 109)).alloc
  (.cells #[.int .u64 (b0:Int),.int .u64 (b1:Int),.int .u64 (b2:Int),.int .u64 (b3:Int),.int .u64 (b4:Int),.int .u64 (b5:Int)] 109)).alloc (.cells #[.int .u64 0,.int .u64 0,.int .u64 0,.int .u64 0,.int .u64 0,.int .u64 0] 109)).alloc
  (.cells #[.int .u64 0,.int .u64 0,.int .u64 0,.int .u64 0,.int .u64 0,.int .u64 0] 109)=W0 at *
 have A0:vm W0 w.heap.size 109 a:=by rw[U];exact l1
 have B0:vm W0 (w.heap.size+1) 109 b:=by rw[W];exact l2
 have T0:vm W0 (w.heap.size+1+1+1) 109 [0,0,0,0,0,0]:=l4
 have aK:w.heap.size+4≤W0.heap.size:=by omega
 have v:=zF T
 have y:=zF V
 have aH:=zF U
 have aI:=zF W
 have HF:=zF t
 clear l1 l2 l4 hz T V U W az aA t
 go_loopw [8,16] (fun cv iv wr=>∃(k c:Nat) (o:List Nat),iv=.int .i64 (k:Int)∧cv=.int .u64 (c:Int)∧k≤n∧c≤1∧xZ 18446744073709551616 a b o k c∧Hid (o.length=6)∧Hid (∀ x∈o,x<18446744073709551616)∧Hid (∀ p,k≤p→dg o p=0)∧vm wr (w.heap.size+1+1+1) 109 o∧Below (w.heap.size+1+1+1) W0 wr) (fun _ iv _=>n-(intOf iv).toNat)
 case atStart=>exact⟨0,0,_,rfl,rfl,by omega,by omega,xZ.zero _ _ _ _,zF rfl,zF (by simp),zF (fun p _=>by match p with|0|1|2|3|4|5=>rfl|p+6=>rfl),T0,zo _ _⟩
 case round =>
  obtain⟨k,c,o,rfl,rfl,hk,aw,l,A,C,F,d,f⟩:=hrel;have r:Below w.heap.size w wr:=ah.trans (f.mono (by omega));have h:=HF.out.below r hg;have c0:=h.fld.n0;have Q:=A0.below f (by omega);have S:=B0.below f (by omega);by_cases hlt:k<n
  · have Y:=Q.cell (i:=k) (by rw[v.out.six];omega);have q2:=S.cell (i:=k) (by rw[y.out.six];omega);have P:dg a k<18446744073709551616:=jW (by omega) v.out.lim k;have O:dg b k<18446744073709551616:=jW (by omega) y.out.lim k;obtain⟨s,G,L,X,K⟩:=ug (dg a k) (dg b k) c P O aw;have B:k<o.length:=by have:=A.out;omega
    have q3:=d.cell B;have q4:=d.free k;have af:=l.step B K;have ai:=d.set k s;have ag:=f.setCell (p:=⟨w.heap.size+1+1+1,k,none⟩) (zG _) (.int .u64 (s:Int));have ab:Hid ((o.set k s).length=6):=zF (by rw[jr];exact A.out);have Z:Hid (∀ x∈o.set k s,x<18446744073709551616):=zF (xF C.out L);have ad:Hid (∀ p,k+1≤p→dg (o.set k s) p=0):=zF fun p hp=>by rw[getD_set_ne (by omega)];exact F.out p (by omega)
    have aN:=fun w=>uX (dg a k) (dg b k) c s G aw P O L K X w;have aF:(k:Int)<6:=by omega
    clear K l d f B r h Q S;go_wp2_with fail;have aj:∀ q:Addr,q.block<w.heap.size+1+1+1→(wr.setCell ⟨w.heap.size+1+1+1,k,none⟩ (.int .u64 (s:Int))).drew.cell? q=wr.cell? q:=fun q hq=>qB (ji _ _ _ _ (by show q.block≠w.heap.size+1+1+1;omega));have f1:=(aj ⟨w.heap.size,k,none⟩ (by show w.heap.size<_;omega)).trans Y;have f2:=(aj ⟨w.heap.size+1,k,none⟩ (by show w.heap.size+1<_;omega)).trans q2;clear aj;go_region_held3 (fun w'=>w'.cell? ⟨w.heap.size,k,none⟩=some (.int .u64 (dg a k:Int))∧w'.cell? ⟨w.heap.size+1,k,none⟩=some (.int .u64 (dg b k:Int))) (first|exact⟨Y,q2⟩|exact⟨f1,f2⟩|go_keep) (fail);go_wp2;go_roundw;case rel=>exact⟨k+1,G,o.set k s,by go_num,rfl,by omega,X,af,ab,Z,ad,ai,ag.drew⟩
    case measure=>simp[intOf];omega
  · obtain rfl:k=n:=by omega
    have J:val 18446744073709551616 o+val 18446744073709551616 b=val 18446744073709551616 a+18446744073709551616^k*c:=by
     have H:val 18446744073709551616 (o.take k)+val 18446744073709551616 (b.take k)=val 18446744073709551616 (a.take k)+18446744073709551616^k*c:=l;rw[ta,tb,ke F.out]at H;exact H
    have am:val 18446744073709551616 o<18446744073709551616^k:=by rw[←ke F.out];exact wy C.out k
    have al:=h.room;have ar:=v.out.lt;have au:=y.out.lt;have m:=(f.block (w.heap.size+1+1) (by omega)).trans l3;rcases za c with ao|ao
    · subst ao;have N:val 18446744073709551616 o=aS (val 18446744073709551616 a) (val 18446744073709551616 b) M:=by
       rw[je,jF]at J;rw[aS,qg (by omega)];omega
      obtain⟨x0,x1,x2,x3,x4,x5,u⟩:=six A.out;have I:wr.heap[w.heap.size+1+1+1]?=some (.cells #[.int .u64 (x0:Int),.int .u64 (x1:Int),.int .u64 (x2:Int),.int .u64 (x3:Int),.int .u64 (x4:Int),.int .u64 (x5:Int)] 109 (0,0)):=by
       rw[u]at d;exact d
      obtain⟨e0,e1,e2,e3,e4,e5⟩:=yJ I;obtain⟨r0,r1,r2,r3,r4,r5⟩:=yJ m;have z:=fun i=>qz m i;have z0:=z 0;have z1:=z 1;have z2:=z 2;have z3:=z 3;have z4:=z 4;have z5:=z 5;have ak:=m;have E:=zF N;have ac:=zF u;clear N u I m z J am al ar au l d h Q S f;go_wp2_with fail;refine pW rfl rfl rfl (un ak _ _ _ _ _ _) ?_;exact⟨o,by rw[ac.out];rfl,⟨A.out,C.out,by rw[E.out];exact rL v.out.lt y.out.lt⟩,E.out,xf r (by omega) _ _ _ _ _ _⟩
    · obtain rfl:c=1:=by omega
      rw[jM]at J;have aB:=zF J;have aE:=zF am;have aC:=zF al;have aq:=f;have av:=d;have ap:=wz.zero 18446744073709551616 o ml o;have aG:=zF r;clear l J am al ar au h Q S m f d r;go_wp2_with fail;have HT:=zF (⟨A.out,C.out,F.out⟩:o.length=6∧(∀ x∈o,x<18446744073709551616)∧∀ p,k≤p→dg o p=0);go_loopw [10,40] (fun cv iv wx=>∃(j c:Nat) (o2:List Nat),iv=.int .i64 (j:Int)∧cv=.int .u64 (c:Int)∧j≤k∧c≤1∧wz 18446744073709551616 o ml o2 j c∧Hid (∀ p,j≤p→dg o2 p=dg o p)∧Hid (o2.length=6)∧Hid (∀ x∈o2,x<18446744073709551616)∧Hid (∀ p,k≤p→dg o2 p=0)∧vm wx (w.heap.size+1+1+1) 109 o2∧Below (w.heap.size+1+1+1) W0 wx) (fun _ iv _=>k-(intOf iv).toNat);case atStart=>exact⟨0,0,o,rfl,rfl,by omega,by omega,ap,zF fun _ _=>rfl,A,C,F,av,aq⟩
      case round =>
       clear ap av aq;obtain⟨j,c,o2,rfl,rfl,hj,ax,l,an,D,aa,ae,d,f⟩:=hrel;have r:Below w.heap.size w wr:=ah.trans (f.mono (by omega));have h:=HF.out.below r hg;have c0:=h.fld.n0;by_cases hlt2:j<k
       · have Y:=d.cell (i:=j) (by have:=D.out;omega);rw[an.out j (zG _)]at Y;have q2:=h.fld.m_ (j:=j) (by omega);have P:dg o j<18446744073709551616:=jW (by omega) HT.out.2.1 j;have O:dg ml j<18446744073709551616:=jW (by omega) h.mlt j;obtain⟨s,G,L,X,K⟩:=yr (dg o j) (dg ml j) c P O ax;have B:j<o2.length:=by have:=D.out;omega
         have q4:=d.free j;have af:=l.step B (by omega);have ai:=d.set j s;have ag:=f.setCell (p:=⟨w.heap.size+1+1+1,j,none⟩) (zG _) (.int .u64 (s:Int));have ab:Hid ((o2.set j s).length=6):=zF (by rw[jr];exact D.out);have Z:Hid (∀ x∈o2.set j s,x<18446744073709551616):=zF (xF aa.out L);have ad:Hid (∀ p,k≤p→dg (o2.set j s) p=0):=zF fun p hp=>by rw[getD_set_ne (by omega)];exact ae.out p hp
         have aD:Hid (∀ p,j+1≤p→dg (o2.set j s) p=dg o p):=zF fun p hp=>by rw[getD_set_ne (by omega)];exact an.out p (by omega)
         have aL:=fun w=>kR (dg o j) (dg ml j) c s G ax L (by omega) w;have aF:(j:Int)<6:=by omega
         clear K l d f B r h;go_wp2_with fail;go_region_with (fail)
         all_goals
          go_wp2;go_roundw;case rel =>
           refine⟨_,_,_,_,_,_,_,_,_,_,_,_,_,_,_,_,_,_,_,_,_,_,?_,rfl⟩;exact⟨j+1,G,o2.set j s,by go_num,rfl,by omega,X,af,aD,ab,Z,ad,ai,ag.drew⟩
          case measure=>simp[intOf];omega
       · obtain rfl:j=k:=by omega
         have ay:val 18446744073709551616 o2+18446744073709551616^j*c=val 18446744073709551616 o+M:=by
          have H:val 18446744073709551616 (o2.take j)+18446744073709551616^j*c=val 18446744073709551616 (o.take j)+val 18446744073709551616 (ml.take j):=l;rwa [ke ae.out,ke HT.out.2.2,h.mtake]at H
         have N:val 18446744073709551616 o2=aS (val 18446744073709551616 a) (val 18446744073709551616 b) M:=by
          have H:=aB.out;have h2:=aC.out;have h3:=v.out.lt;have h4:=y.out.lt;have h5:val 18446744073709551616 o2<18446744073709551616^j:=by rw[←ke ae.out];exact wy aa.out j
          have h6:=aE.out;generalize 18446744073709551616^j=R at *;have h7:c=0∨c=1:=by omega
          rw[aS,qo (by omega)];rcases h7 with rfl|rfl
          · rw[je]at ay;omega
          · omega
         have m:=(f.block (w.heap.size+1+1) (by omega)).trans l3;obtain⟨x0,x1,x2,x3,x4,x5,u⟩:=six D.out;have I:wr.heap[w.heap.size+1+1+1]?=some (.cells #[.int .u64 (x0:Int),.int .u64 (x1:Int),.int .u64 (x2:Int),.int .u64 (x3:Int),.int .u64 (x4:Int),.int .u64 (x5:Int)] 109 (0,0)):=by
          rw[u]at d;exact d
         obtain⟨e0,e1,e2,e3,e4,e5⟩:=yJ I;obtain⟨r0,r1,r2,r3,r4,r5⟩:=yJ m;have z:=fun i=>qz m i;have z0:=z 0;have z1:=z 1;have z2:=z 2;have z3:=z 3;have z4:=z 4;have z5:=z 5;have ak:=m;have E:=zF N;have ac:=zF u;clear N u I m z ay l d h f;go_wp2_with fail;refine pW rfl rfl rfl (un ak _ _ _ _ _ _) ?_;exact⟨o2,by rw[ac.out];rfl,⟨D.out,aa.out,by rw[E.out];exact rL v.out.lt y.out.lt⟩,E.out,xf r (by omega) _ _ _ _ _ _⟩
theorem fW {B:Nat}{l:List Nat}(h:∀ x∈l,x<B)(_a:0<B)(k:Nat):val B (l.take (k+1))%B=dg l 0:=by
 cases l with
 | nil=>simp[dg]
 | cons x m=>rw[List.take_succ_cons,kB,qw,qF (h x (by simp))];rfl
theorem zA3 {B M inv V u a c:Nat}(_h:0<B)(e:(inv*M+1)%B=0)(b:V%B=a)(f:M%B=c)(g:u=a*inv%B):(a+u*c)%B=0:=by
 have d:=oE (v:=V) e b g;rw[←b,←f,wG,wF,Nat.mul_mod_mod,←wG];exact d
theorem tF {u a b:Nat}(g:u<18446744073709551616)(e:a<18446744073709551616)(f:b<18446744073709551616)(i:(b+u*a)%18446744073709551616=0) :
 ∃ d lo c:Nat,lo<18446744073709551616∧lo+18446744073709551616*d=u*a∧c≤1∧0+18446744073709551616*c=lo+b+0∧d+c<18446744073709551616∧18446744073709551616*(d+c)=b+u*a:=by
 have h:=yh g e f (show 0<18446744073709551616 by omega)
 refine⟨u*a/18446744073709551616,u*a%18446744073709551616,(u*a%18446744073709551616+b)/18446744073709551616,qP _ (by omega),Nat.mod_add_div _ _,?_,?_,?_,?_⟩
 all_goals
  generalize u*a=p at *;omega
theorem sd {M a T x R top:Nat}(b:T=x+R*top)(d:T<M+a)(e:M≤R)(f:a<M):top≤1:=by
 rcases qH top 2 with h|h
 · omega
 · have c:R*2≤R*top:=qI _ h;omega
end Go.Proofs.YtaemogcomplhiaaGreatDoor
