/- Laws that the proof rests on. -/
import Derived.Test.YtaemogcomplhiaaGreatDoorQb3fbd9d92375
set_option maxRecDepth 100000
set_option maxHeartbeats 16000000
namespace Go.Proofs.YtaemogcomplhiaaGreatDoor
open Go.RowKit
theorem cT (P P':Nat→Prop)(A A':Option Addr)(c c':Nat)(x y:Nat)(w:World)(h:RN w P A c (digs 4294967296 x))(h':RN w P' A' c' (digs 4294967296 y))(hP:∀ b,P b→b<w.heap.size)(hP':∀ b,P' b→b<w.heap.size)
 (hl:(digs 4294967296 x).length<100000) (hle:y≤x) :
 Calls Tryz.prog 81 #[.slice A (digs 4294967296 x).length c,.slice A' (digs 4294967296 y).length c'] w fun e w'=>∃ A1 c1,e=.returned (.slice A1 (digs 4294967296 (x-y)).length c1) ∧
  OB w' w.heap.size A1 c1 (digs 4294967296 (x-y))∧Below w.heap.size w w':=by
 have hx:=zd (B:=4294967296) (by omega) x
 have hy:=zd (B:=4294967296) (by omega) y
 have hml:=jK (B:=4294967296) (by omega) hle
 have dx:=wJ x
 have dy:=wJ y
 generalize digs 4294967296 x=l at *
 generalize digs 4294967296 y=m at *
 have Hx:=zF hx
 have Hy:=zF hy
 clear hx hy
 obtain⟨h1,h2,h3⟩:=h.cap
 obtain⟨g1,g2,g3⟩:=h'.cap
 have hmk:=jD (P:=Tryz.prog) 28 65 (.int .u64 0) 8 Tryz.underlying28 kS rfl .i64 .i64 l.length (by omega) (by omega)
 go_enter Tryz.func81,Tryz.ntmps81
 go_wp2
 go_loopw [6,7] (fun cv iv wr=>∃(k cr:Nat) (o:List Nat),iv=.int .i64 (k:Int)∧cv=.int .u64 (cr:Int)∧k≤l.length∧cr≤1∧xN 4294967296 l m o k cr∧Hid (o.length=l.length)∧Dig o∧Blk wr w.heap.size o∧Below w.heap.size w wr) (fun _ iv _=>l.length-(intOf iv).toNat)
 case atStart=>exact⟨0,0,List.replicate l.length 0,rfl,rfl,by omega,by omega,xN.zero _ _ _ _,zF (by simp),by intro x hx;simp at hx;omega,wK w _,(zl _ w).alloc (zG _) _⟩
 case round =>
  obtain⟨k,cr,o,rfl,rfl,hk,hcr,hA,Ho,hD,hblk,hB⟩:=hrel;by_cases hlt:k<l.length
  · have hok:k<o.length:=by have:=Ho.out;omega
    have q3:=hblk.cell hok;have q4:=hblk.free k;have b1:=dx.dgLt k;have b2:=dy.dgLt k;obtain⟨ad,rfl,had,q1⟩:=(h.below hB hP).at_ hlt;by_cases hm2:k<m.length
    · obtain⟨ae,rfl,hae,q2⟩:=(h'.below hB hP').at_ hm2;by_cases hb:dg l k<cr+dg m k
      · obtain⟨s,hs,e1⟩:∃ s:Nat,s<4294967296∧(dg l k:Int)+4294967296-((cr:Int)+(dg m k:Int))=(s:Int):=⟨dg l k+4294967296-(cr+dg m k),by omega,by omega⟩
        have hA':=hA.step (s:=s) (c':=1) hok (by omega);have hblk':=hblk.set k s;have hD':=hD.set k s hs;have hB':=hB.setCell (p:=⟨w.heap.size,k,none⟩) (zG _) (.int .u64 (s:Int));have Ho':Hid ((o.set k s).length=l.length):=zF (by rw[jw];exact Ho.out);have t1:(dg l k:Int)<(cr:Int)+(dg m k:Int):=by omega
        clear hA hblk hD hB hok hb;go_wp2;go_roundw;case rel=>exact⟨k+1,1,o.set k s,by go_num,by go_num,by omega,by omega,hA',Ho',hD',hblk',hB'⟩
        case measure=>simp[intOf];omega
      · obtain⟨s,hs,e1⟩:∃ s:Nat,s<4294967296∧(dg l k:Int)-((cr:Int)+(dg m k:Int))=(s:Int):=⟨dg l k-(cr+dg m k),by omega,by omega⟩
        have hA':=hA.step (s:=s) (c':=0) hok (by omega);have hblk':=hblk.set k s;have hD':=hD.set k s hs;have hB':=hB.setCell (p:=⟨w.heap.size,k,none⟩) (zG _) (.int .u64 (s:Int));have Ho':Hid ((o.set k s).length=l.length):=zF (by rw[jw];exact Ho.out);have t1:¬(dg l k:Int)<(cr:Int)+(dg m k:Int):=by omega
        clear hA hblk hD hB hok hb;go_wp2;go_roundw;case rel=>exact⟨k+1,0,o.set k s,by go_num,by go_num,by omega,by omega,hA',Ho',hD',hblk',hB'⟩
        case measure=>simp[intOf];omega
    · have e0:dg m k=0:=km (by omega);by_cases hb:dg l k<cr
      · obtain⟨s,hs,e1⟩:∃ s:Nat,s<4294967296∧(dg l k:Int)+4294967296-(cr:Int)=(s:Int):=⟨dg l k+4294967296-cr,by omega,by omega⟩
        have hA':=hA.step (s:=s) (c':=1) hok (by omega);have hblk':=hblk.set k s;have hD':=hD.set k s hs;have hB':=hB.setCell (p:=⟨w.heap.size,k,none⟩) (zG _) (.int .u64 (s:Int));have Ho':Hid ((o.set k s).length=l.length):=zF (by rw[jw];exact Ho.out);clear hA hblk hD hB hok e0;go_wp2;go_roundw;case rel=>exact⟨k+1,1,o.set k s,by go_num,by go_num,by omega,by omega,hA',Ho',hD',hblk',hB'⟩
        case measure=>simp[intOf];omega
      · obtain⟨s,hs,e1⟩:∃ s:Nat,s<4294967296∧(dg l k:Int)-(cr:Int)=(s:Int):=⟨dg l k-cr,by omega,by omega⟩
        have hA':=hA.step (s:=s) (c':=0) hok (by omega);have hblk':=hblk.set k s;have hD':=hD.set k s hs;have hB':=hB.setCell (p:=⟨w.heap.size,k,none⟩) (zG _) (.int .u64 (s:Int));have Ho':Hid ((o.set k s).length=l.length):=zF (by rw[jw];exact Ho.out);clear hA hblk hD hB hok e0;go_wp2;go_roundw;case rel=>exact⟨k+1,0,o.set k s,by go_num,by go_num,by omega,by omega,hA',Ho',hD',hblk',hB'⟩
        case measure=>simp[intOf];omega
  · obtain rfl:k=l.length:=by omega
    have hfin:=hA.fin Ho.out hD rfl hml (by rw[Hx.out,Hy.out];exact hle);rw[Hx.out,Hy.out]at hfin;have hLo:Lim o:=⟨fun z hz=>by have:=hD z hz;omega,by rw[Ho.out];omega⟩
    have hOB:OB wr w.heap.size (some ⟨w.heap.size,0,none⟩) l.length o:=kq hblk (zG _) hLo (by have:=Ho.out;omega) (by unfold maxLen;omega);have ht:=kh _ _ _ _ _ hOB.rn hD;have hOB':=hOB.trim32 hD;rw[hfin,Ho.out]at ht;rw[hfin]at hOB';have Ht:=zF ht;clear hblk hLo ht hfin hOB hA;go_wp2_with fail;refine Ht.out.mono ?_;rintro e w1 ⟨rfl,rfl⟩;go_wp2;go_ret;exact⟨_,_,rfl,hOB',hB⟩
theorem cW (P P':Nat→Prop)(A A':Option Addr)(c c':Nat)(x y:Nat)(w:World)(h:RN w P A c (digs 4294967296 x))(h':RN w P' A' c' (digs 4294967296 y))(hP:∀ b,P b→b<w.heap.size)(hP':∀ b,P' b→b<w.heap.size)
 (hl:(digs 4294967296 x).length<100000) (hl':(digs 4294967296 y).length<100000) :
 Calls Tryz.prog 80 #[.slice A (digs 4294967296 x).length c,.slice A' (digs 4294967296 y).length c'] w fun e w'=>∃ A1 c1,e=.returned (.slice A1 (digs 4294967296 (x*y)).length c1) ∧
  OB w' w.heap.size A1 c1 (digs 4294967296 (x*y))∧Below w.heap.size w w':=by
 have hx:=zd (B:=4294967296) (by omega) x
 have hy:=zd (B:=4294967296) (by omega) y
 have dx:=wJ x
 have dy:=wJ y
 generalize digs 4294967296 x=l at *
 generalize digs 4294967296 y=m at *
 have Hx:=zF hx
 have Hy:=zF hy
 clear hx hy
 obtain⟨h1,h2,h3⟩:=h.cap
 obtain⟨g1,g2,g3⟩:=h'.cap
 have hmk:=jD (P:=Tryz.prog) 28 65 (.int .u64 0) 8 Tryz.underlying28 kS rfl .i64 .i64 (l.length+m.length) (by omega) (by omega)
 simp only[vX]at hmk
 go_enter Tryz.func80,Tryz.ntmps80
 go_wp2
 go_loopw [6] (fun iv wr=>∃(i:Nat) (o:List Nat),iv=.int .i64 (i:Int)∧i≤l.length∧gP 4294967296 l m o i∧Dig o∧Blk wr w.heap.size o∧Below w.heap.size w wr) (fun iv _=>l.length-(intOf iv).toNat)
 case atStart=>exact⟨0,List.replicate (l.length+m.length) 0,rfl,by omega,gP.zero _ _ _,by intro x hx;simp at hx;omega,wK w _,(zl _ w).alloc (zG _) _⟩
 case round =>
  obtain⟨i,o0,rfl,hi,hR,hD,hblk,hB⟩:=hrel;obtain⟨wo,rfl⟩:=eW wr;by_cases hlt:i<l.length
  · obtain⟨ad,rfl,had,q1⟩:=(h.below hB hP).at_ hlt;have hxi:=dx.dgLt i;go_wp2;go_loopw [7,9] (fun cv jv wr=>∃(j cr:Nat) (o:List Nat),jv=.int .i64 (j:Int)∧cv=.int .u64 (cr:Int)∧j≤m.length∧cr<4294967296∧uQ 4294967296 o0 m (dg l i) i o j cr∧Dig o∧Blk wr w.heap.size o∧Below w.heap.size w wr) (fun _ jv _=>m.length-(intOf jv).toNat);case atStart=>exact⟨0,0,o0,rfl,rfl,by omega,by omega,uQ.zero _ _ _ _ _,hD,hblk,hB⟩
    case round =>
     clear q1 hB hblk hD;obtain⟨j,cr,o,rfl,rfl,hj,hcr,hM,hD,hblk,hB⟩:=hrel;have hol:o.length=l.length+m.length:=hM.1.trans hR.1;by_cases hjt:j<m.length
     · obtain⟨ae,rfl,hae,q2⟩:=(h'.below hB hP').at_ hjt;have hok:i+j<o.length:=by omega
       have q3:=hblk.cell hok;have q4:=hblk.free (i+j);have b2:=dy.dgLt j;have b3:=hD.dgLt (i+j);have hb:=yQ hxi b2 b3 hcr;obtain⟨pr,hpr⟩:=eV (dg l i*dg m j);have Hpr:=zF (show(dg l i:Int)*(dg m j:Int)=(pr:Int) by rw[←hpr,vW]);rw[hpr]at hb
       obtain⟨s,cr',hs,hcr',he⟩:∃ s c':Nat,s<4294967296∧c'<4294967296∧s+4294967296*c'=pr+dg o (i+j)+cr :=
        ⟨(pr+dg o (i+j)+cr)%4294967296,(pr+dg o (i+j)+cr)/4294967296,by omega,by omega,by omega⟩
       have e1:((cr:Int)+((dg o (i+j):Int)+(pr:Int)))%4294967296=(s:Int):=by omega
       have e2:((cr:Int)+((dg o (i+j):Int)+(pr:Int)))/4294967296=(cr':Int):=by omega
       have hM':=hM.step hok (by rw[hpr];exact he);have hblk':=hblk.set (i+j) s;have hD':=hD.set (i+j) s hs;have hB':=hB.setCell (p:=⟨w.heap.size,i+j,none⟩) (zG _) (.int .u64 (s:Int));have k1:(i:Int)+(j:Int)<(l.length:Int)+(m.length:Int):=by omega
       have k3:(pr:Int)<18446744073709551616:=by omega
       have k4:(cr:Int)+((dg o (i+j):Int)+(pr:Int))<18446744073709551616:=by omega
       clear he hM hblk hD hB hok hol hb hpr;have hpr:=Hpr.out;go_wp2;go_quiet (fail);go_wp2;go_roundw;case rel=>exact⟨j+1,cr',o.set (i+j) s,by go_num,(by first|rfl|exact congrArg (Value.int .u64) e2),by omega,hcr',hM',hD',hblk',jC hB' _⟩
       case measure=>simp[intOf];omega
     · obtain rfl:j=m.length:=by omega
       have hR':=hR.step hlt hM;have q3:=hblk.cell (i:=i+m.length) (by omega);have q4:=hblk.free (i+m.length);have hblk':=hblk.set (i+m.length) cr;have hD':=hD.set (i+m.length) cr hcr;have hB':=hB.setCell (p:=⟨w.heap.size,i+m.length,none⟩) (zG _) (.int .u64 (cr:Int));have k1:(i:Int)+(m.length:Int)<(l.length:Int)+(m.length:Int):=by omega
       clear hM hblk hD hB hol;go_wp2;go_roundw;case rel=>exact⟨i+1,o.set (i+m.length) cr,by go_num,by omega,hR',hD',hblk',hB'⟩
       case measure=>simp[intOf];omega
  · obtain rfl:i=l.length:=by omega
    have hfin:=hR.fin;rw[Hx.out,Hy.out]at hfin;have hol:=hR.1;have hLo:Lim o0:=⟨fun z hz=>by have:=hD z hz;omega,by omega⟩
    have hOB:OB wo w.heap.size (some ⟨w.heap.size,0,none⟩) (l.length+m.length) o0:=kq hblk (zG _) hLo (by omega) (by unfold maxLen;omega);have ht:=kh _ _ _ _ _ hOB.rn hD;have hOB':=hOB.trim32 hD;rw[hfin,hol]at ht;rw[hfin]at hOB';have Ht:=zF ht;clear hblk hLo ht hfin hOB hR hol;go_wp2_with fail;refine Ht.out.mono ?_;rintro e w1 ⟨rfl,rfl⟩;go_wp2;go_ret;exact⟨_,_,rfl,hOB',hB⟩
end Go.Proofs.YtaemogcomplhiaaGreatDoor
namespace Go.Proofs.YtaemogcomplhiaaGreatDoor
def vE (b u u1 y1 y0 q r:Nat):Prop:=q*y1+r=u∧(u*b+u1) /(y1*b+y0)≤q∧q≤b+1
structure wP (b u u1 y1 y0:Nat):Prop where
 hb:2≤b
 hy:b≤2*y1
 hy1:y1<b
 hy0:y0<b
 hu1:u1<b
 hu:u<y1*b+y0
section
variable {b u u1 y1 y0 q r:Nat}
theorem wP.start (h:wP b u u1 y1 y0):vE b u u1 y1 y0 (u/y1) (u-u/y1*y1)∧u-u/y1*y1<b∧u/y1*y1≤u:=by
 obtain⟨hb,hy,hy1,hy0,hu1,hu⟩:=h;have h1:u/y1*y1≤u:=Nat.div_mul_le_self u y1;have h2:u<u/y1*y1+y1:=Nat.lt_div_mul_add (by omega);generalize hG:u/y1=G at *;have h3:G≤b+1:=by
  rcases qF (b+1) G with h|h
  · have h6:(b+2)*y1≤G*y1:=qk _ h;rw[qY,zj b]at h6;omega
  · exact h
 have h4:(u*b+u1) /(y1*b+y0)≤G:=by
  apply Nat.le_of_lt_succ;apply jI;have h5:(y1*b+y0)*(G+1)=(G*y1+y1)*b+y0*(G+1):=by
   rw[zf,qY,jO,zf,jO,qY,xu,zj y1 G];omega
  have h7:(u+1)*b≤(G*y1+y1)*b:=qk _ h2;rw[qY,kN]at h7;show _<_*(G+1);rw[h5];omega
 unfold vE;generalize G*y1=p at *;exact⟨⟨by omega,h4,h3⟩,by omega,h1⟩
theorem wP.quo_lt (h:wP b u u1 y1 y0):(u*b+u1) /(y1*b+y0)<b:=by
 obtain⟨hb,hy,hy1,hy0,hu1,hu⟩:=h;apply jI;have h1:(u+1)*b≤(y1*b+y0)*b:=qk _ hu;rw[qY,kN]at h1;omega
theorem vE.le (h:wP b u u1 y1 y0)(hg:vE b u u1 y1 y0 q r)(hd:q*y0≤b*r+u1):q=(u*b+u1) /(y1*b+y0):=by
 obtain⟨h1,h2,h3⟩:=hg;have hD:0<y1*b+y0:=by have:=Nat.mul_pos (show 0<y1 by have:=h.hy;have:=h.hb;omega) (show 0<b by have:=h.hb;omega);omega
 refine Nat.le_antisymm ((Nat.le_div_iff_mul_le hD).2 ?_) h2;have e:q*(y1*b+y0)=q*y1*b+q*y0:=by rw[zf,za]
 have e2:u*b=q*y1*b+b*r:=by rw[←h1,qY,zj r]
 omega
theorem vE.gt (h:wP b u u1 y1 y0)(hg:vE b u u1 y1 y0 q r)(hd:b≤q∨b*r+u1<q*y0):(u*b+u1) /(y1*b+y0)<q:=by
 obtain⟨h1,h2,h3⟩:=hg;rcases hd with hd|hd
 · have:=h.quo_lt;omega
 · apply jI;have e:(y1*b+y0)*q=q*y1*b+q*y0:=by rw[zj,zf,za]
   have e2:u*b=q*y1*b+b*r:=by rw[←h1,qY,zj r]
   omega
theorem vE.step (h:wP b u u1 y1 y0)(hg:vE b u u1 y1 y0 q r)(hd:b≤q∨b*r+u1<q*y0):vE b u u1 y1 y0 (q-1) (r+y1)∧1≤q:=by
 have h4:=hg.gt h hd;obtain⟨h1,h2,h3⟩:=hg;obtain⟨n,rfl⟩:∃ n,q=n+1:=⟨q-1,by have:=vr ((u*b+u1) /(y1*b+y0));omega⟩
 refine⟨⟨?_,by rw[ju];exact Nat.le_of_lt_succ h4,by omega⟩,by omega⟩;rw[qY]at h1;rw[ju];omega
theorem vE.out (h:wP b u u1 y1 y0)(hg:vE b u u1 y1 y0 q r)(hq:q≤b)(hr:b≤r):q=(u*b+u1) /(y1*b+y0):=by
 refine hg.le h ?_;have h1:q*y0≤b*b:=xZ hq (by have:=h.hy0;omega);have h2:b*b≤b*r:=qD _ hr;omega
theorem vE.mul_le (hg:vE b u u1 y1 y0 q r)(hy0:y0<b):q*y0<b*b:=by
 obtain⟨_,_,h3⟩:=hg;obtain⟨n,rfl⟩:∃ n,b=n+1:=⟨b-1,by omega⟩
 have h1:q*y0≤(n+2)*n:=xZ (by omega) (by omega);have h2:(n+2)*n=n*n+2*n:=by rw[qY]
 have h3:(n+1)*(n+1)=n*n+2*n+1:=by simp only[qY,zf];omega
 omega
end
theorem dv {N D:Nat}(hD:0<D):N/D*D≤N∧N-N/D*D<D:=by
 have h1:=Nat.div_mul_le_self N D;have h2:=Nat.lt_div_mul_add (a:=N) hD;omega
theorem sW {b N D u1 u0:Nat}(hD:0<D)(r q0:Nat)(hr:r=N*b+u1-(N*b+u1)/D*D)(hq:q0=(r*b+u0)/D) :
 (N*b+u1)/D*b+q0=((N*b+u1)*b+u0)/D∧r*b+u0-q0*D=((N*b+u1)*b+u0)%D:=by
 have h1:=dv (N:=N*b+u1) hD
 generalize N*b+u1=M at *
 have e:M=M/D*D+r:=by omega
 have e2:M*b+u0=(M/D*b)*D+(r*b+u0):=by
  have:M*b=(M/D*D+r)*b:=by rw[←e]
  rw[this,qY,xu,kH]
 have hd:(M*b+u0)/D=M/D*b+(r*b+u0)/D:=by
  rw[e2,vp,Nat.add_mul_div_right _ _ hD,vp]
 have hm:(M*b+u0)%D=(r*b+u0)%D:=by
  rw[e2,vp,wF]
 rw[hd,hm,hq]
 refine⟨rfl,?_⟩
 have h5:=jY (r*b+u0) D
 have h6:(r*b+u0)/D*D=D*((r*b+u0)/D):=zj _ _
 omega
theorem tB {y k:Nat}(hy:y≠0)(h:Lib.bitLen y=k)(hlt:y<18446744073709551616):1≤k∧k≤64∧2 ^(k-1)≤y∧y<2^k:=by
 have h1:=Lib.bitLenAux_bounds 64 y hlt hy;have h2:=Lib.bitLen_le y 64 (zG _) hlt;subst h;exact⟨h1.1,h2,h1.2⟩
theorem m8 {y:Nat}(hy:y≠0)(hlt:y<18446744073709551616):∃ s,s<64∧Lib.bitLen y=64-s∧9223372036854775808≤y*2^s∧y*2^s<18446744073709551616:=by
 obtain⟨h1,h2,h3,h4⟩:=tB hy rfl hlt;refine⟨64-Lib.bitLen y,by omega,by omega,?_,?_⟩
 · have:2 ^(Lib.bitLen y-1)*2 ^(64-Lib.bitLen y)≤y*2 ^(64-Lib.bitLen y):=qk _ h3;rw[←qP,show Lib.bitLen y-1+(64-Lib.bitLen y)=63 by omega]at this;simpa using this
 · have:y*2 ^(64-Lib.bitLen y)<2^Lib.bitLen y*2 ^(64-Lib.bitLen y):=Nat.mul_lt_mul_of_pos_right h4 (qS (by omega));rw[←qP,show Lib.bitLen y+(64-Lib.bitLen y)=64 by omega]at this;simpa using this
theorem moved {hi lo y s:Nat}(hs:s<64)(hlo:lo<18446744073709551616)(h:hi<y)(hy:y*2^s<18446744073709551616) :
 hi*2^s+lo/2 ^(64-s)<y*2^s∧lo/2 ^(64-s)<2^s∧(hi*2^s+lo/2 ^(64-s))*18446744073709551616+lo*2^s%18446744073709551616=(hi*18446744073709551616+lo)*2^s∧hi*2^s<18446744073709551616:=by
 have e64:(18446744073709551616:Nat)=2^s*2 ^(64-s):=by rw[←qP,show s+(64-s)=64 by omega]
 have h1:lo/2 ^(64-s)<2^s:=by
  apply jI;rw[zj,←e64];exact hlo
 have h2:(hi+1)*2^s≤y*2^s:=qk _ h
 rw[qY,kN]at h2
 refine⟨by omega,h1,?_,by have:=qS (n:=s) (show 0<2 by omega);omega⟩
 have h3:lo*2^s/18446744073709551616=lo/2 ^(64-s):=by
  rw[e64,zj lo,Nat.mul_div_mul_left _ _ (qS (by omega))]
 have h4:=jY (lo*2^s) 18446744073709551616
 rw[h3]at h4
 rw[qY,qY,xu hi]
 omega
end Go.Proofs.YtaemogcomplhiaaGreatDoor
namespace Go.Proofs.YtaemogcomplhiaaGreatDoor
open Go.RowKit
theorem bE (i a b:Nat)(h:b<2^i):a*2^i ||| b=a*2^i+b:=by
 rw[zj,Nat.two_pow_add_eq_or_of_lt h]
theorem zDv (x:Nat):x &&& 4294967295=x%4294967296:=by
 have h:=Nat.and_two_pow_sub_one_eq_mod x 32;rwa [show 2^32-1=4294967295 by decide,show 2^32=4294967296 by decide]at h
theorem pu (x:Nat)(hx:x<18446744073709551616):bits .and .u64 (x:Int) 4294967295=((x%4294967296:Nat):Int):=by
 have h:=bits_and_u64_nat x 4294967295 hx (by omega);rw[zDv]at h;exact h
theorem pR (x:Nat)(hx:x<18446744073709551616):∃ a b:Nat,a<4294967296∧b<4294967296∧a*4294967296+b=x∧(x:Int)/4294967296=(a:Int)∧bits .and .u64 (x:Int) 4294967295=(b:Int):=by
 have h:=jY x 4294967296;have h2:=qL x (show 0<4294967296 by omega);have h3:=pu x hx;have h4:(x:Int)/4294967296=((x/4294967296:Nat):Int):=by omega
 generalize x/4294967296=a at *;generalize x%4294967296=b at *;exact⟨a,b,by omega,h2,by omega,h4,h3⟩
theorem join4 (a b c d:Nat)(h:b*4294967296+c=d):(a*4294967296+b)*4294967296+c=a*18446744073709551616+d:=by
 rw[←h,qY,za,kH]
theorem aB (a b r k l:Nat)(h:b+r=a)(hr:r<18446744073709551616):IntKind.u64.wrap (((a-18446744073709551616*k:Int))-((b:Int)-18446744073709551616*l))=(r:Int):=by
 simp[IntKind.wrap,IntKind.bits,IntKind.signed];omega
theorem zAO {a b c d:Int}(h:a=b)(h':c=d):Ending.returned (.tuple #[.int .u64 a,.int .u64 c])=.returned (.tuple #[.int .u64 b,.int .u64 d]):=by rw[h,h']
theorem pW (lo y:Nat)(w:World)(hlo:lo<18446744073709551616)(hy:0<y)(hy':y<18446744073709551616) :
 Calls Tryz.prog 133 #[.int .u64 0,.int .u64 (lo:Int),.int .u64 (y:Int)] w fun e w'=>e=.returned (.tuple #[.int .u64 ((lo/y:Nat):Int),.int .u64 ((lo%y:Nat):Int)])∧∃ n,w'=w.drewN n:=by
 have h0:((y:Int)==0)=false:=eqB (by omega)
 have h1:(0:Int)<(y:Int):=by omega
 have hq:IntKind.u64.wrap ((lo:Int) /(y:Int))=((lo/y:Nat):Int):=by
  have h:lo/y≤lo:=vV lo y;rw[←uT];generalize lo/y=z at *;exact qt _ (by omega)
 go_enter Tryz.func133,Tryz.ntmps133
 go_wp2
 go_quiet (fail)
 go_wp2
 go_ret2
 exact⟨zAO (by simp) (by simp),_,rfl⟩
theorem tO (hi lo y:Nat)(w:World)(hlo:lo<18446744073709551616)(h0:0<hi)(hhi:hi<y)(hy':y<18446744073709551616) :
 Calls Tryz.prog 133 #[.int .u64 (hi:Int),.int .u64 (lo:Int),.int .u64 (y:Int)] w fun e w'=>e=.returned (.tuple #[.int .u64 (((hi*18446744073709551616+lo)/y:Nat):Int),.int .u64 (((hi*18446744073709551616+lo)%y:Nat):Int)])∧∃ n,w'=w.drewN n:=by
 have n0:((y:Int)==0)=false:=eqB (by omega)
 have n1:((hi:Int)==0)=false:=eqB (by omega)
 have n2:¬(y:Int)≤(hi:Int):=by omega
 obtain⟨s,hs,hbl,hY1,hY2⟩:=m8 (y:=y) (by omega) hy'
 have hlz:=(Tryz.bits_LeadingZeros64 (y:Int) w (by omega) (by omega))
 rw[yj,hbl,show(64-((64-s:Nat):Int))=(s:Int) by omega]at hlz
 have Hlz:=zF hlz
 clear hlz hbl
 obtain⟨m1,m2,m3,m4⟩:=moved hs hlo hhi hY2
 obtain⟨H,hH⟩:=eV (hi*2^s)
 obtain⟨L1,hL1⟩:=eV (lo/2 ^(64-s))
 obtain⟨Y,hY⟩:=eV (y*2^s)
 obtain⟨L,hL⟩:=eV (lo*2^s%18446744073709551616)
 have hor:H ||| L1=H+L1:=by rw[←hH];exact bE s hi L1 (by rw[←hL1];exact m2)
 have f1:IntKind.u64.wrap ((y:Int)*2^s)=(Y:Int):=by
  rw[show((y:Int)*2^s)=(Y:Int) by rw[←hY];simp];exact qt _ (by omega)
 have f4:IntKind.u64.wrap ((hi:Int)*2^s)=(H:Int):=by
  rw[show((hi:Int)*2^s)=(H:Int) by rw[←hH];simp];exact qt _ (by omega)
 have f5:(lo:Int)/2 ^(64-s)=(L1:Int):=by rw[←hL1];simp
 have f7:IntKind.u64.wrap ((lo:Int)*2^s)=(L:Int):=by
  rw[←hL];simp[IntKind.wrap,IntKind.bits,IntKind.signed]
 have k1:(s:Int)<64:=by omega
 rw[hH]at m1 m3 m4
 rw[hL1]at m1 m2 m3
 rw[hY]at m1 hY1 hY2
 rw[hL]at m3
 have hLlt:L<18446744073709551616:=by rw[←hL];exact qL _ (by omega)
 obtain⟨U,hU⟩:=eV (H+L1)
 rw[hU]at m1 m3 hor
 have f6:bits .or .u64 (H:Int) (L1:Int)=(U:Int):=by
  rw[bits_or_u64_nat H L1 (by omega) (by omega),hor]
 obtain⟨y1,y0,hy1,hy0,hyy,f2,f3⟩:∃ y1 y0:Nat,y1<4294967296∧y0<4294967296∧y1*4294967296+y0=Y∧(Y:Int)/4294967296=(y1:Int)∧bits .and .u64 (Y:Int) 4294967295=(y0:Int)  := pR Y hY2
 obtain⟨u1,u0,hu1,hu0,huu,f8,f9⟩:∃ u1 u0:Nat,u1<4294967296∧u0<4294967296∧u1*4294967296+u0=L∧(L:Int)/4294967296=(u1:Int)∧bits .and .u64 (L:Int) 4294967295=(u0:Int)  := pR L hLlt
 have G:wP 4294967296 U u1 y1 y0:=⟨by omega,by omega,hy1,hy0,hu1,by omega⟩
 obtain⟨hg,hr,hp⟩:=G.start
 obtain⟨q,hq⟩:=eV (U/y1)
 rw[hq]at hg hr hp
 obtain⟨p,hp'⟩:=eV (q*y1)
 rw[hp']at hg hr hp
 obtain⟨r,hr'⟩:=eV (U-p)
 rw[hr']at hg hr
 have hqU:q≤U:=by rw[←hq];exact vV U y1
 have f10:IntKind.u64.wrap ((U:Int) /(y1:Int))=(q:Int):=by rw[←uT,hq];exact qt _ (by omega)
 have f10':IntKind.u64.wrap ((U:Int).tdiv (y1:Int))=(q:Int):=by rw[uG (by omega)];exact f10
 have f11:IntKind.u64.wrap ((q:Int)*(y1:Int))=(p:Int):=by rw[←vW,hp'];exact qt _ (by omega)
 have f12:(U:Int)-(p:Int)=(r:Int):=by omega
 have n3:((y1:Int)==0)=false:=eqB (by omega)
 have n4:¬ y1=0:=by omega
 have HY:=zF hY
 clear hH hL1 hY hL hor hU hq hp' hr' hp
 go_enter Tryz.func133,Tryz.ntmps133
 go_wp2_with fail
 refine Hlz.out.mono ?_
 rintro e w1 ⟨rfl,rfl⟩
 go_upto_block 0 with fail
 go_cut [15,16] (fun s15 s16 wx=>∃ Q r':Nat,s15=.int .u64 (Q:Int)∧s16=.int .u64 (r':Int)∧Hid (Q=(U*4294967296+u1) /(y1*4294967296+y0))∧w1=wx)
 case first =>
  go_wp2_with fail;go_loop [15,16] (fun qv rv=>∃ q r:Nat,qv=.int .u64 (q:Int)∧rv=.int .u64 (r:Int)∧vE 4294967296 U u1 y1 y0 q r∧r<4294967296) (fun qv _=>(intOf qv).toNat);case atStart=>exact⟨q,r,rfl,rfl,hg,hr⟩
  case round =>
   clear hg hr;obtain⟨q,r,rfl,rfl,hg,hr⟩:=hrel;have hml:=hg.mul_le hy0;obtain⟨z,hz⟩:=eV (q*y0);rw[hz]at hml;have hqb:=hg.2.2;by_cases h1:4294967296≤q∨4294967296*r+u1<q*y0
   · obtain⟨hg',hq1⟩:=hg.step G h1;obtain⟨n,rfl⟩:∃ n,q=n+1:=⟨q-1,by omega⟩
     rw[ju]at hg';have g1:IntKind.u64.wrap (((n:Int)+1)*(y0:Int))=(z:Int):=by
      rw[show((n:Int)+1)*(y0:Int)=(z:Int) by rw[←hz];simp];exact qt _ (by omega)
     rw[hz]at h1;have hout:=fun h=>hg'.out G (by omega) h;have Hout:=zF hout;clear hout hg hz hml;by_cases h3:4294967296≤r+y1
     · have hQ:=zF (Hout.out h3);by_cases h4:4294967296≤n+1
       · have i4:(4294967296:Int)≤(n:Int)+1:=by omega
         have i3:(4294967296:Int)≤(r:Int)+(y1:Int):=by omega
         clear h1 h3 h4;go_wp2;go_meet;case rel=>exact⟨n,_,by go_num,rfl,hQ,rfl⟩
       · have i5:(4294967296:Int)*(r:Int)+(u1:Int)<(z:Int):=by omega
         have i4:¬(4294967296:Int)≤(n:Int)+1:=by omega
         have i3:(4294967296:Int)≤(r:Int)+(y1:Int):=by omega
         clear h1 h3 h4;go_wp2;go_meet;case rel=>exact⟨n,_,by go_num,rfl,hQ,rfl⟩
     · by_cases h4:4294967296≤n+1
       · have i4:(4294967296:Int)≤(n:Int)+1:=by omega
         have i3:¬(4294967296:Int)≤(r:Int)+(y1:Int):=by omega
         have H3:=zF h3;clear h1 h3 h4;go_wp2;go_round;case rel=>exact⟨n,r+y1,by go_num,by go_num,hg',by have:=H3.out;omega⟩
         case measure=>simp[intOf]
       · have i5:(4294967296:Int)*(r:Int)+(u1:Int)<(z:Int):=by omega
         have i4:¬(4294967296:Int)≤(n:Int)+1:=by omega
         have i3:¬(4294967296:Int)≤(r:Int)+(y1:Int):=by omega
         have H3:=zF h3;clear h1 h3 h4;go_wp2;go_round;case rel=>exact⟨n,r+y1,by go_num,by go_num,hg',by have:=H3.out;omega⟩
         case measure=>simp[intOf]
   · have hQ:=zF (hg.le G (by omega));have g1:IntKind.u64.wrap ((q:Int)*(y0:Int))=(z:Int):=by
      rw[show(q:Int)*(y0:Int)=(z:Int) by rw[←hz];simp];exact qt _ (by omega)
     have i4:¬(4294967296:Int)≤(q:Int):=by omega
     have i5:¬(4294967296:Int)*(r:Int)+(u1:Int)<(z:Int):=by omega
     clear h1 hg hz hml;go_wp2;go_meet;case rel=>exact⟨q,_,rfl,rfl,hQ,rfl⟩
 case rest =>
  clear hg hr hqU f10 f10' f11 f12;obtain⟨Q,r',rfl,rfl,HQ,rfl⟩:=hcut;have hQ:=HQ.out;rw[hyy]at hQ;have hQb:=G.quo_lt;rw[hyy,←hQ]at hQb;have hYpos:0<Y:=by omega
  have hrest:=dv (N:=U*4294967296+u1) hYpos;rw[←hQ]at hrest;obtain⟨p3,hp3⟩:=eV (Q*Y);rw[hp3]at hrest;obtain⟨R,hR⟩:=eV (U*4294967296+u1-p3);rw[hR]at hrest;obtain⟨hr1,hr2⟩:=hrest;obtain⟨a1,k1',ha1,ha1b,ha1e⟩:∃ a1 k1:Nat,IntKind.u64.wrap ((U:Int)*4294967296)=(a1:Int)∧(a1:Int)≤18446744069414584320∧(a1:Int)=(U:Int)*4294967296-18446744073709551616*k1:=by
   refine⟨U*4294967296%18446744073709551616,U/4294967296,?_,by omega,by omega⟩;simp[IntKind.wrap,IntKind.bits,IntKind.signed]
  obtain⟨a3,k3,ha3,ha3e⟩:∃ a3 k3:Nat,IntKind.u64.wrap ((Q:Int)*(Y:Int))=(a3:Int)∧(a3:Int)=(p3:Int)-18446744073709551616*k3:=by
   rw[show(Q:Int)*(Y:Int)=(p3:Int) by rw[←hp3];simp];exact⟨p3%18446744073709551616,p3/18446744073709551616,by simp[IntKind.wrap,IntKind.bits,IntKind.signed],by omega⟩
  have hd:IntKind.u64.wrap ((a1:Int)+(u1:Int)-(a3:Int))=(R:Int):=by
   have:=aB (U*4294967296+u1) p3 R k1' k3 (by omega) (by omega);rw[ha3e,ha1e,←this];congr 1;simp;omega
  have G2:wP 4294967296 R u0 y1 y0:=⟨by omega,by omega,hy1,hy0,hu0,by omega⟩
  obtain⟨hg,hr,hp⟩:=G2.start;obtain⟨qq,hq⟩:=eV (R/y1);rw[hq]at hg hr hp;obtain⟨pp,hp'⟩:=eV (qq*y1);rw[hp']at hg hr hp;obtain⟨rr,hr'⟩:=eV (R-pp);rw[hr']at hg hr;have hqU:qq≤R:=by rw[←hq];exact vV R y1
  have f10:IntKind.u64.wrap ((R:Int) /(y1:Int))=(qq:Int):=by rw[←uT,hq];exact qt _ (by omega)
  have f10':IntKind.u64.wrap ((R:Int).tdiv (y1:Int))=(qq:Int):=by rw[uG (by omega)];exact f10
  have f11:IntKind.u64.wrap ((qq:Int)*(y1:Int))=(pp:Int):=by rw[←vW,hp'];exact qt _ (by omega)
  have f12:(R:Int)-(pp:Int)=(rr:Int):=by omega
  have hts:=sW (b:=4294967296) (N:=U) (u1:=u1) (u0:=u0) hYpos R _ (by rw[←hQ,hp3];exact hR.symm) rfl;rw[←hQ]at hts;have Hts:=zF hts;have Hp3:=zF hp3;have HR:=zF hR;clear hts hQ hp3 hR ha1e ha3e hq hp' hr' hp hr1;go_upto_block 2 with fail;go_cut [18,16] (fun s18 s16 wx=>∃ Q r':Nat,s18=.int .u64 (Q:Int)∧s16=.int .u64 (r':Int)∧Hid (Q=(R*4294967296+u0) /(y1*4294967296+y0))∧w1=wx);case first =>
   go_wp2_with fail;go_loop [18,16] (fun qv rv=>∃ q r:Nat,qv=.int .u64 (q:Int)∧rv=.int .u64 (r:Int)∧vE 4294967296 R u0 y1 y0 q r∧r<4294967296) (fun qv _=>(intOf qv).toNat);case atStart=>exact⟨qq,rr,rfl,rfl,hg,hr⟩
   case round =>
    clear hg hr;obtain⟨q,r,rfl,rfl,hg,hr⟩:=hrel;have hml:=hg.mul_le hy0;obtain⟨z,hz⟩:=eV (q*y0);rw[hz]at hml;have hqb:=hg.2.2;by_cases h1:4294967296≤q∨4294967296*r+u0<q*y0
    · obtain⟨hg',hq1⟩:=hg.step G2 h1;obtain⟨n,rfl⟩:∃ n,q=n+1:=⟨q-1,by omega⟩
      rw[ju]at hg';have g1:IntKind.u64.wrap (((n:Int)+1)*(y0:Int))=(z:Int):=by
       rw[show((n:Int)+1)*(y0:Int)=(z:Int) by rw[←hz];simp];exact qt _ (by omega)
      rw[hz]at h1;have hout:=fun h=>hg'.out G2 (by omega) h;have Hout:=zF hout;clear hout hg hz hml;by_cases h3:4294967296≤r+y1
      · have hQ:=zF (Hout.out h3);by_cases h4:4294967296≤n+1
        · have i4:(4294967296:Int)≤(n:Int)+1:=by omega
          have i3:(4294967296:Int)≤(r:Int)+(y1:Int):=by omega
          clear h1 h3 h4;go_wp2;go_meet;case rel=>exact⟨n,_,by go_num,rfl,hQ,rfl⟩
        · have i5:(4294967296:Int)*(r:Int)+(u0:Int)<(z:Int):=by omega
          have i4:¬(4294967296:Int)≤(n:Int)+1:=by omega
          have i3:(4294967296:Int)≤(r:Int)+(y1:Int):=by omega
          clear h1 h3 h4;go_wp2;go_meet;case rel=>exact⟨n,_,by go_num,rfl,hQ,rfl⟩
      · by_cases h4:4294967296≤n+1
        · have i4:(4294967296:Int)≤(n:Int)+1:=by omega
          have i3:¬(4294967296:Int)≤(r:Int)+(y1:Int):=by omega
          have H3:=zF h3;clear h1 h3 h4;go_wp2;go_round;case rel=>exact⟨n,r+y1,by go_num,by go_num,hg',by have:=H3.out;omega⟩
          case measure=>simp[intOf]
        · have i5:(4294967296:Int)*(r:Int)+(u0:Int)<(z:Int):=by omega
          have i4:¬(4294967296:Int)≤(n:Int)+1:=by omega
          have i3:¬(4294967296:Int)≤(r:Int)+(y1:Int):=by omega
          have H3:=zF h3;clear h1 h3 h4;go_wp2;go_round;case rel=>exact⟨n,r+y1,by go_num,by go_num,hg',by have:=H3.out;omega⟩
          case measure=>simp[intOf]
    · have hQ:=zF (hg.le G2 (by omega));have g1:IntKind.u64.wrap ((q:Int)*(y0:Int))=(z:Int):=by
       rw[show(q:Int)*(y0:Int)=(z:Int) by rw[←hz];simp];exact qt _ (by omega)
      have i4:¬(4294967296:Int)≤(q:Int):=by omega
      have i5:¬(4294967296:Int)*(r:Int)+(u0:Int)<(z:Int):=by omega
      clear h1 hg hz hml;go_wp2;go_meet;case rel=>exact⟨q,_,rfl,rfl,hQ,rfl⟩
  case rest =>
   clear hg hr hqU f10 f10' f11 f12;obtain⟨Q0,r2,rfl,rfl,HQ0,rfl⟩:=hcut;have hQ0:=HQ0.out;rw[hyy]at hQ0;have hQ0b:=G2.quo_lt;rw[hyy,←hQ0]at hQ0b;obtain⟨e1,e2⟩:=Hts.out;rw[←hQ0]at e1 e2;have hrest2:=dv (N:=R*4294967296+u0) hYpos;rw[←hQ0]at hrest2;have hM0:(U*4294967296+u1)*4294967296+u0=U*18446744073709551616+L:=join4 U u1 u0 L huu;have hM:=hM0.trans m3;rw[hM]at e1 e2;have hYs:=HY.out;rw[←hYs,Nat.mul_div_mul_right _ _ (qS (by omega))]at e1;rw[←hYs,Nat.mul_mod_mul_right]at e2;rw[hYs]at e2;obtain⟨p4,hp4⟩:=eV (Q0*Y);rw[hp4]at hrest2 e2;obtain⟨T,hT⟩:=eV ((hi*18446744073709551616+lo)%y);obtain⟨V,hV⟩:=eV ((hi*18446744073709551616+lo)/y);rw[hT]at e2;rw[hV]at e1;obtain⟨S,hS⟩:=eV (T*2^s);rw[hS]at e2;have hS2:(S:Int)/2^s=(T:Int):=by
    rw[←hS];have:T*2^s/2^s=T:=Nat.mul_div_cancel _ (qS (by omega));rw[show((2:Int)^s)=((2^s:Nat):Int) by simp,←uT,this]
   obtain⟨b1,k5,hb1,hb1b,hb1e⟩:∃ a1 k1:Nat,IntKind.u64.wrap ((R:Int)*4294967296)=(a1:Int)∧(a1:Int)≤18446744069414584320∧(a1:Int)=(R:Int)*4294967296-18446744073709551616*k1:=by
    refine⟨R*4294967296%18446744073709551616,R/4294967296,?_,by omega,by omega⟩;simp[IntKind.wrap,IntKind.bits,IntKind.signed]
   obtain⟨b3,k6,hb3,hb3e⟩:∃ a3 k3:Nat,IntKind.u64.wrap ((Q0:Int)*(Y:Int))=(a3:Int)∧(a3:Int)=(p4:Int)-18446744073709551616*k3:=by
    rw[show(Q0:Int)*(Y:Int)=(p4:Int) by rw[←hp4];simp];exact⟨p4%18446744073709551616,p4/18446744073709551616,by simp[IntKind.wrap,IntKind.bits,IntKind.signed],by omega⟩
   have hd2:IntKind.u64.wrap ((b1:Int)+(u0:Int)-(b3:Int))=(S:Int):=by
    have:=aB (R*4294967296+u0) p4 S k5 k6 (by omega) (by omega);rw[hb3e,hb1e,←this];congr 1;simp;omega
   have He1:=zF e1;have HT:=zF hT;have HV:=zF hV;clear e1 e2 hQ0 hp4 hS hT hV hb1e hb3e hrest2 hM hM0 hYs;go_wp2;go_ret2;exact⟨zAO (by rw[HV.out,←He1.out];simp) (by rw[HT.out]),0,rfl⟩
theorem aZ (hi lo y:Nat)(w:World)(hlo:lo<18446744073709551616)(hhi:hi<y)(hy':y<18446744073709551616)(q r:Nat)(hr:r<y)(he:hi*18446744073709551616+lo=y*q+r) :
 Calls Tryz.prog 133 #[.int .u64 (hi:Int),.int .u64 (lo:Int),.int .u64 (y:Int)] w fun e w'=>e=.returned (.tuple #[.int .u64 (q:Int),.int .u64 (r:Int)])∧∃ n,w'=w.drewN n:=by
 have e1:(hi*18446744073709551616+lo)/y=q:=by rw[he,Nat.mul_add_div (by omega),qh hr];omega
 have e2:(hi*18446744073709551616+lo)%y=r:=by rw[he,Nat.mul_add_mod,zy hr]
 rcases zT hi with rfl|h0
 · rw[Nat.zero_mul,jH]at e1 e2;have h:=pW lo y w hlo (by omega) hy';rw[e1,e2]at h;exact h
 · have h:=tO hi lo y w hlo h0 hhi hy';rw[e1,e2]at h;exact h
def vn (k:Nat) (i:Int):Prop:=(k=0∧i=-1)∨∃ j:Nat,k=j+1∧i=(j:Int)
theorem vn.start (n:Nat):vn n ((n:Int)-1):=by
 rcases n with _|n
 · exact .inl ⟨rfl,by simp⟩
 · exact .inr ⟨n,rfl,by omega⟩
def xI (B:Nat) (l o:List Nat) (d k r:Nat):Prop:=o.length=l.length∧val B (l.drop k)=d*val B (o.drop k)+r
theorem xI.start {B:Nat}{l o:List Nat}(d:Nat)(h:o.length=l.length):xI B l o d l.length 0:=by
 refine⟨h,?_⟩;rw[List.drop_length,←h,List.drop_length];simp
theorem sC {l:List Nat}{k:Nat}(h:k<l.length):l.drop k=dg l k::l.drop (k+1):=by
 rw[qa h,dg,jU h]
theorem drop_set {l:List Nat}{k x:Nat}(h:k<l.length):(l.set k x).drop k=x::l.drop (k+1):=by
 rw[List.drop_set,ql (Nat.lt_irrefl _),sC h,Nat.sub_self,xw]
theorem xI.step {B:Nat}{l o:List Nat}{d k r q r':Nat}(h:xI B l o d (k+1) r)(hk:k<l.length)(he:r*B+dg l k=d*q+r'):xI B l (o.set k q) d k r':=by
 obtain⟨h1,h2⟩:=h;refine⟨by simpa using h1,?_⟩;rw[sC hk,drop_set (by omega),jr,jr,h2];have e:B*(d*val B (o.drop (k+1))+r)=d*(B*val B (o.drop (k+1)))+r*B:=by
  rw[zf,jR,zj B r]
 rw[e,zf];omega
theorem xI.fin {B:Nat}{l o:List Nat}{d r:Nat}(h:xI B l o d 0 r)(hr:r<d):val B o=val B l/d∧r=val B l%d:=by
 have:=h.2;simp only[List.drop_zero]at this;rw[this];refine⟨?_,?_⟩
 · rw[Nat.mul_add_div (by omega),qh hr,q9]
 · rw[Nat.mul_add_mod,zy hr]
theorem sa (P:Nat→Prop)(A:Option Addr)(c:Nat)(l:List Nat)(d:Nat)(w:World)(h:RN w P A c l)(hP:∀ b,P b→b<w.heap.size)(hl:l.length<100000)(hd:0<d)(hd':d<18446744073709551616) :
 Calls Tryz.prog 120 #[.slice A l.length c,.int .u64 (d:Int)] w fun e w'=>∃ A1 c1,e=.returned (.tuple #[.slice A1 (digs 18446744073709551616 (val 18446744073709551616 l/d)).length c1,.int .u64 ((val 18446744073709551616 l%d:Nat):Int)]) ∧
  OB w' w.heap.size A1 c1 (digs 18446744073709551616 (val 18446744073709551616 l/d))∧Below w.heap.size w w':=by
 obtain⟨h1,h2,h3⟩:=h.cap
 have hmk:=jD (P:=Tryz.prog) 24 65 (.int .u64 0) 8 Tryz.underlying24 kS rfl .i64 .i64 l.length (by omega) (by omega)
 have Hs:=zF (vn.start l.length)
 go_enter Tryz.func120,Tryz.ntmps120
 go_wp2
 go_loopw [7,8] (fun rv iv wr=>∃(k r:Nat) (z:Int) (o:List Nat),iv=.int .i64 z∧vn k z∧rv=.int .u64 (r:Int)∧k≤l.length∧r<d∧xI 18446744073709551616 l o d k r∧Lim o∧Blk wr w.heap.size o∧Below w.heap.size w wr) (fun _ iv _=>(intOf iv+1).toNat)
 case atStart=>exact⟨l.length,0,_,List.replicate l.length 0,rfl,Hs.out,rfl,by omega,by omega,xI.start d (by simp),⟨by simp,by simp;omega⟩,wK w _,(zl _ w).alloc (zG _) _⟩
 case round =>
  obtain⟨k,r,z,o,rfl,hz,rfl,hk,hr,hS,hLo,hblk,hB⟩:=hrel;rcases hz with⟨rfl,rfl⟩|⟨j,rfl,rfl⟩
  · obtain⟨hv,hrem⟩:=hS.fin hr;have hOB:OB wr w.heap.size (some ⟨w.heap.size,0,none⟩) l.length o:=kq hblk (zG _) hLo (by have:=hS.1;omega) (by unfold maxLen;omega);have ht:=jT _ _ _ _ _ hOB.rn;have hOB':=hOB.trim;rw[hv,hS.1]at ht;rw[hv]at hOB';have Ht:=zF ht;have Hrem:=zF hrem;clear hblk hLo ht hv hrem hOB hS;go_wp2_with fail;refine Ht.out.mono ?_;rintro e w1 ⟨rfl,rfl⟩;go_wp2;go_ret2;exact⟨_,_,by rw[Hrem.out];rfl,hOB',hB⟩
  · obtain⟨ad,rfl,had,q1⟩:=(h.below hB hP).at_ (i:=j) (by omega);have hol:=hS.1;have hlj:=h.2.dgLt j;have q3:=hblk.cell (i:=j) (by omega);have q4:=hblk.free j;obtain⟨q,r',hr',he,hq⟩:∃ q r':Nat,r'<d∧r*18446744073709551616+dg l j=d*q+r'∧q<18446744073709551616:=by
     refine⟨(r*18446744073709551616+dg l j)/d,(r*18446744073709551616+dg l j)%d,qL _ hd,(jY _ d).symm,?_⟩;apply jI;have:(r+1)*18446744073709551616≤d*18446744073709551616:=qk _ hr;omega
    have hdv:=zF (fun w=>aZ r (dg l j) d w hlj hr hd' q r' hr' he);have hS':=hS.step (by omega) he;have hblk':=hblk.set j q;have hLo':=hLo.set j q hq;have hB':=hB.setCell (p:=⟨w.heap.size,j,none⟩) (zG _) (.int .u64 (q:Int));have k1:(j:Int)<(l.length:Int):=by omega
    have Hs':=zF (vn.start j);clear he hS hblk hLo hB hol;go_wp2_with fail;refine(hdv.out _).mono ?_;rintro e w1 ⟨rfl,n,rfl⟩;go_wp2;go_roundw;case rel=>exact⟨j,r',_,o.set j q,rfl,Hs'.out,rfl,by omega,hr',hS',hLo',hblk',jC hB' _⟩
    case measure=>simp[intOf]
theorem dh {d:Nat}(h0:0<d)(h:d<18446744073709551616):digs 18446744073709551616 d=[d]:=by
 rw[jj (by omega) h0,zy h,qh h,qV]
theorem quo_lt (P P':Nat→Prop)(A A':Option Addr)(c c':Nat)(a b:List Nat)(w:World)(h:RN w P A c a)(h':RN w P' A' c' b)(hlt:val 18446744073709551616 a<val 18446744073709551616 b) :
 Calls Tryz.prog 95 #[.slice A a.length c,.slice A' b.length c'] w fun e w'=>∃ A1 c1,e=.returned (.tuple #[.slice none 0 0,.slice A1 (digs 18446744073709551616 (val 18446744073709551616 a)).length c1,.bool true]) ∧
  OB w' w.heap.size A1 c1 (digs 18446744073709551616 (val 18446744073709551616 a))∧Below w.heap.size w w':=by
 have ta:=zF (jT P A c a w h)
 have tb:=zF (jT P' A' c' b w h')
 have tc:=xH P P' A A' c c' _ _ w h.trim h'.trim
 have tm:=fun n=>fU P A c _ (World.drewN w n) (h.trim.drewN n)
 rw[zd (by omega),zd (by omega),wO hlt]at tc
 rw[zd (by omega)]at tm
 have Tc:=zF tc
 have Tm:=zF tm
 have hne:0<(digs 18446744073709551616 (val 18446744073709551616 b)).length:=by
  rw[jj (by omega) (by omega)];simp
 clear tc tm h h' hlt
 generalize digs 18446744073709551616 (val 18446744073709551616 a)=l at *
 generalize digs 18446744073709551616 (val 18446744073709551616 b)=m at *
 have hne':((m.length:Int)==0)=false:=eqB (by omega)
 clear hne
 go_enter Tryz.func95,Tryz.ntmps95
 go_wp2_with fail
 refine ta.out.mono ?_
 rintro e w1 ⟨rfl,rfl⟩
 go_wp2_with fail
 refine tb.out.mono ?_
 rintro e w1 ⟨rfl,rfl⟩
 go_wp2_with fail
 refine Tc.out.mono ?_
 rintro e w1 ⟨rfl,n,rfl⟩
 go_wp2_with fail
 refine(Tm.out n).mono ?_
 rintro e w1 ⟨A1,c1,rfl,hO,hB⟩
 go_wp2
 go_ret3
 exact⟨A1,c1,rfl,hO,⟨hB.os,hB.tape,hB.output,hB.size,hB.block⟩⟩
theorem zBx (P P':Nat→Prop)(A A':Option Addr)(c c':Nat)(a b:List Nat)(w:World)(h:RN w P A c a)(h':RN w P' A' c' b)(hP:∀ b,P b→b<w.heap.size)(hl:a.length<100000)(hge:val 18446744073709551616 b≤val 18446744073709551616 a)
 (h0:0<val 18446744073709551616 b) (h1:val 18446744073709551616 b<18446744073709551616) :
 Calls Tryz.prog 95 #[.slice A a.length c,.slice A' b.length c'] w fun e w'=>∃ A1 c1 A2 c2,e=.returned (.tuple #[.slice A1 (digs 18446744073709551616 (val 18446744073709551616 a/val 18446744073709551616 b)).length c1,.slice A2 (digs 18446744073709551616 (val 18446744073709551616 a%val 18446744073709551616 b)).length c2,.bool true]) ∧
  OB w' w.heap.size A1 c1 (digs 18446744073709551616 (val 18446744073709551616 a/val 18446744073709551616 b))∧OB w' w.heap.size A2 c2 (digs 18446744073709551616 (val 18446744073709551616 a%val 18446744073709551616 b))∧Below w.heap.size w w':=by
 have ta:=zF (jT P A c a w h)
 have tb:=zF (jT P' A' c' b w h')
 have tc:=xH P P' A A' c c' _ _ w h.trim h'.trim
 have la:=qz (B:=18446744073709551616) (by omega) h.2.1
 have ts:=fun n=>sa P A c _ (val 18446744073709551616 b) (World.drewN w n) (h.trim.drewN n) hP (by omega) h0 h1
 rw[zd (by omega),zd (by omega)]at tc
 rw[zd (by omega)]at ts
 replace h:=h.trim
 replace h':=h'.trim
 generalize val 18446744073709551616 a=x at *
 generalize val 18446744073709551616 b=y at *
 have hcv:0≤vJ x y:=by rcases ku x y with h|h|h<;>omega
 generalize vJ x y=v at tc hcv
 have hof:=zF (fun w=>gq (x%y) w (by have:=qL x h0;omega))
 have hm1:=dh h0 h1
 rw[hm1]at tb tc h'
 have Tc:=zF tc
 have Ts:=zF ts
 obtain⟨ae,rfl,hae,q1⟩:=h'.at_ (i:=0) (by simp)
 rw[yH]at q1
 clear tc ts hm1 hge la hl
 obtain⟨g1,g2,g3⟩:=h.cap
 generalize digs 18446744073709551616 x=l at *
 clear h h' h0 h1
 have q2:Hid (w.cell? ae=some (.int .u64 (y:Int))):=zF (by simpa[Addr.add]using q1)
 clear q1
 go_enter Tryz.func95,Tryz.ntmps95
 go_wp2_with fail
 refine ta.out.mono ?_
 rintro e w1 ⟨rfl,rfl⟩
 go_wp2_with fail
 refine tb.out.mono ?_
 rintro e w1 ⟨rfl,rfl⟩
 go_wp2_with fail
 refine Tc.out.mono ?_
 rintro e w1 ⟨rfl,n,rfl⟩
 have q3:=q2.out
 clear hP g1 g2 g3
 go_wp2_with fail
 refine(Ts.out n).mono ?_
 rintro e w1 ⟨A1,c1,rfl,hO,hB⟩
 go_wp2_with fail
 refine(hof.out _).mono ?_
 rintro e w2 ⟨A2,c2,rfl,hO2,hB2⟩
 go_wp2
 go_ret3
 exact⟨A1,c1,A2,c2,rfl,hO.below hB2 (zG _),hO2.mono hB.size,kG ⟨hB.os,hB.tape,hB.output,hB.size,hB.block⟩ (hB2.mono hB.size)⟩
end Go.Proofs.YtaemogcomplhiaaGreatDoor
namespace Go.Proofs.YtaemogcomplhiaaGreatDoor
theorem xL:type_of% @vn.start:=@vn.start
def xg (B:Nat) (L0 y:List Nat) (q f:Nat) (L:List Nat) (j c b:Nat):Prop :=
 L.length=L0.length∧val B L+B^f*(q*val B (y.take j))=val B L0+B ^(f+j)*(c+b)∧∀ i,f+j≤i→dg L i=dg L0 i
theorem xg.zero (B:Nat)(L y:List Nat)(q f:Nat):xg B L y q f L 0 0 0:=by simp[xg]
theorem xg.step {B:Nat}{L0 y L:List Nat}{q f j c b lo c' x b':Nat}(h:xg B L0 y q f L j c b)(hL:f+j<L.length)(h1:lo+B*c'=q*dg y j+c)(h2:x+lo+b=dg L (f+j)+B*b') :
 xg B L0 y q f (L.set (f+j) x) (j+1) c' b':=by
 obtain⟨g1,g2,g3⟩:=h
 refine⟨by simpa using g1,?_,fun i hi=>by rw[getD_set_ne (by omega)];exact g3 i (by omega)⟩
 have hs:=ww B hL x
 rw[qC,zf,zf,←kH f j 1,zp]
 have e1:B^f*(q*(B^j*dg y j))=B ^(f+j)*(q*dg y j):=by
  rw[qP,jR q,←za]
 have e2:B ^(f+j)*(lo+B*c')=B ^(f+j)*(q*dg y j+c):=by rw[h1]
 have e3:B ^(f+j)*(x+lo+b)=B ^(f+j)*(dg L (f+j)+B*b'):=by rw[h2]
 rw[e1,za,zf]
 rw[zf]at g2
 simp only[zf]at e2 e3 ⊢
 generalize B ^(f+j)*(B*c')=p1 at *
 generalize B ^(f+j)*(B*b')=p2 at *
 generalize B ^(f+j)*lo=p3 at *
 generalize B ^(f+j)*(q*dg y j)=p4 at *
 generalize B ^(f+j)*c=p5 at *
 generalize B ^(f+j)*b=p6 at *
 generalize B ^(f+j)*x=p7 at *
 generalize B ^(f+j)*dg L (f+j)=p8 at *
 generalize B^f*(q*val B (y.take j))=p9 at *
 generalize val B (L.set (f+j) x)=p10 at *
 generalize val B L=p11 at *
 generalize val B L0=p12 at *
 omega
theorem xg.fin {B:Nat}{L0 y L:List Nat}{q f n c b x b':Nat}(h:xg B L0 y q f L n c b)(hn:y.length=n)(hL:f+n<L.length)(h2:x+c+b=dg L (f+n)+B*b') :
 (L.set (f+n) x).length=L0.length∧val B (L.set (f+n) x)+B^f*(q*val B y)=val B L0+B ^(f+n+1)*b'∧∀ i,f+n+1≤i→dg (L.set (f+n) x) i=dg L0 i:=by
 obtain⟨g1,g2,g3⟩:=h
 refine⟨by simpa using g1,?_,fun i hi=>by rw[getD_set_ne (by omega)];exact g3 i (by omega)⟩
 rw[zx (by omega)]at g2
 have hs:=ww B hL x
 have e3:B ^(f+n)*(x+c+b)=B ^(f+n)*(dg L (f+n)+B*b'):=by rw[h2]
 rw[zp,za]
 simp only[zf]at e3 g2
 generalize B ^(f+n)*(B*b')=p2 at *
 generalize B ^(f+n)*c=p5 at *
 generalize B ^(f+n)*b=p6 at *
 generalize B ^(f+n)*x=p7 at *
 generalize B ^(f+n)*dg L (f+n)=p8 at *
 generalize B^f*(q*val B y)=p9 at *
 generalize val B (L.set (f+n) x)=p10 at *
 generalize val B L=p11 at *
 generalize val B L0=p12 at *
 omega
def xh (B:Nat) (L0 y:List Nat) (f:Nat) (L:List Nat) (j c:Nat):Prop :=
 L.length=L0.length∧val B L+B ^(f+j)*c=val B L0+B^f*val B (y.take j)∧∀ i,f+j≤i→dg L i=dg L0 i
theorem xh.zero (B:Nat)(L y:List Nat)(f:Nat):xh B L y f L 0 0:=by simp[xh]
theorem xh.step {B:Nat}{L0 y L:List Nat}{f j c x c':Nat}(h:xh B L0 y f L j c)(hL:f+j<L.length)(h1:x+B*c'=dg L (f+j)+dg y j+c):xh B L0 y f (L.set (f+j) x) (j+1) c':=by
 obtain⟨g1,g2,g3⟩:=h;refine⟨by simpa using g1,?_,fun i hi=>by rw[getD_set_ne (by omega)];exact g3 i (by omega)⟩;have hs:=ww B hL x;rw[qC,zf,←za,←qP,←kH f j 1,zp,za];have e2:B ^(f+j)*(x+B*c')=B ^(f+j)*(dg L (f+j)+dg y j+c):=by rw[h1]
 simp only[zf]at e2 ⊢;generalize B ^(f+j)*(B*c')=p1 at *;generalize B ^(f+j)*dg y j=p4 at *;generalize B ^(f+j)*c=p5 at *;generalize B ^(f+j)*x=p7 at *;generalize B ^(f+j)*dg L (f+j)=p8 at *;generalize B^f*val B (y.take j)=p9 at *;generalize val B (L.set (f+j) x)=p10 at *;generalize val B L=p11 at *;generalize val B L0=p12 at *;omega
theorem xh.fin {B:Nat}{L0 y L:List Nat}{f n c x c':Nat}(h:xh B L0 y f L n c)(hn:y.length=n)(hL:f+n<L.length)(h1:x+B*c'=dg L (f+n)+c) :
 (L.set (f+n) x).length=L0.length∧val B (L.set (f+n) x)+B ^(f+n+1)*c'=val B L0+B^f*val B y∧∀ i,f+n+1≤i→dg (L.set (f+n) x) i=dg L0 i:=by
 obtain⟨g1,g2,g3⟩:=h
 refine⟨by simpa using g1,?_,fun i hi=>by rw[getD_set_ne (by omega)];exact g3 i (by omega)⟩
 rw[zx (by omega)]at g2
 have hs:=ww B hL x
 have e3:B ^(f+n)*(x+B*c')=B ^(f+n)*(dg L (f+n)+c):=by rw[h1]
 rw[zp,za]
 simp only[zf]at e3
 generalize B ^(f+n)*(B*c')=p2 at *
 generalize B ^(f+n)*c=p5 at *
 generalize B ^(f+n)*x=p7 at *
 generalize B ^(f+n)*dg L (f+n)=p8 at *
 generalize B^f*val B y=p9 at *
 generalize val B (L.set (f+n) x)=p10 at *
 generalize val B L=p11 at *
 generalize val B L0=p12 at *
 omega
theorem vi {B:Nat}(hB:0<B){L:List Nat}(h:∀ x∈L,x<B){m:Nat}(hz:∀ i,m≤i→dg L i=0):val B L<B^m:=by
 rcases qF L.length m with h1|h1
 · exact zI (jt h) (zv hB (by omega))
 · have e:=jA B L h1;have hd:val B (L.drop m)=0:=by
    apply vw;intro x hx;obtain⟨i,hi,rfl⟩:=List.getElem_of_mem hx;rw[List.getElem_drop];have:=hz (m+i) (by omega);rwa [dg,jU (by simp at hi;omega)]at this
   rw[hd,ja,q9]at e;rw[e];have:=jt (B:=B) (l:=L.take m) fun x hx=>h x (qM hx);rwa [zo,qU h1]at this
theorem tQ {B:Nat}{L:List Nat}(h:∀ x∈L,x<B)(i:Nat)(hi:i<L.length):dg L i=val B L/B^i%B:=by
 have hB:0<B:=jl (vr _) (h _ (xa hi));have e:=jA B L (jV hi);have h2:=jt (B:=B) (l:=L.take i) fun x hx=>h x (qM hx);rw[zo,qU (by omega)]at h2;rw[qa hi,jr]at e;rw[e,kO _ _ (qS hB),qh h2,jH,qm,dg,jU hi,zy (h _ (xa hi))]
theorem yS {B:Nat}{L:List Nat}(h:∀ x∈L,x<B){m:Nat}(hm:val B L<B^m){i:Nat}(hi:m≤i):dg L i=0:=by
 rcases qF i L.length with h1|h1
 · have hB:0<B:=jl (vr _) (h _ (xa h1));rw[tQ h i h1,qh (zI hm (zv hB hi)),kL]
 · rw[dg,qA,jL h1];rfl
end Go.Proofs.YtaemogcomplhiaaGreatDoor
namespace Go.Proofs.YtaemogcomplhiaaGreatDoor
open Go.RowKit
def uj (u u1 y1 y0 G:Nat):Prop:=G<18446744073709551616∧∀ q,q<18446744073709551616→q*(y1*18446744073709551616+y0)≤u*18446744073709551616+u1→q≤G
theorem uj.top (u u1 y1 y0:Nat):uj u u1 y1 y0 18446744073709551615:=⟨by omega,fun q hq _=>by omega⟩
theorem uj.of_eq {u u1 y1 y0 G:Nat}(h:wP 18446744073709551616 u u1 y1 y0)(he:G=(u*18446744073709551616+u1) /(y1*18446744073709551616+y0)):uj u u1 y1 y0 G:=by
 refine⟨by rw[he];exact h.quo_lt,fun q _ hle=>?_⟩;rw[he];refine(Nat.le_div_iff_mul_le ?_).2 hle;have:=h.hy;omega
theorem zDI {hi lo r x p:Nat}(h:lo+18446744073709551616*hi=p)(hlo:lo<18446744073709551616)(hx:x<18446744073709551616):(hi<r∨hi=r∧lo≤x)↔p≤18446744073709551616*r+x:=by
 subst h;rcases Nat.lt_trichotomy hi r with h1|h1|h1
 · refine⟨fun _=>?_,fun _=>.inl h1⟩;omega
 · subst h1;exact⟨fun h=>by omega,fun h=>by omega⟩
 · exact⟨fun h=>by omega,fun h=>by omega⟩
theorem zBm {B x2 x1 y1:Nat}(h1:x1<B)(h:x2<y1):(x2*B+x1)/y1<B:=by
 apply jI;have:(x2+1)*B≤y1*B:=qk _ h;rw[qY,kN]at this;omega
theorem zCx {a b:Int}(h:a=b):Ending.returned (.int .u64 a)=.returned (.int .u64 b):=by rw[h]
def ug (x2 x1 x0 y1 y0:Nat):Nat:=if y1≤x2 then 18446744073709551615 else((x2*18446744073709551616+x1)*18446744073709551616+x0) /(y1*18446744073709551616+y0)
theorem tG {x2 x1 x0 y1 y0:Nat}(h1:x1<18446744073709551616)(h0:x0<18446744073709551616)(g1:y1<18446744073709551616)(g0:y0<18446744073709551616)(gt:18446744073709551616≤2*y1) :
 uj (x2*18446744073709551616+x1) x0 y1 y0 (ug x2 x1 x0 y1 y0):=by
 unfold ug
 split
 · exact uj.top _ _ _ _
 · have hu:x2*18446744073709551616+x1<y1*18446744073709551616+y0:=by omega
   exact uj.of_eq ⟨by omega,gt,g1,g0,h0,hu⟩ rfl
theorem tF (x2 x1 x0 y1 y0:Nat)(w:World)(h1:x1<18446744073709551616)(h0:x0<18446744073709551616)(g1:y1<18446744073709551616)(g0:y0<18446744073709551616)(gt:18446744073709551616≤2*y1) :
 Calls Tryz.prog 123 #[.int .u64 (x2:Int),.int .u64 (x1:Int),.int .u64 (x0:Int),.int .u64 (y1:Int),.int .u64 (y0:Int)] w fun e w'=>e=.returned (.int .u64 (ug x2 x1 x0 y1 y0:Int))∧∃ n,w'=w.drewN n:=by
 by_cases hge:y1≤x2
 · have k1:y1≤x2:=hge;have ht:ug x2 x1 x0 y1 y0=18446744073709551615:=qg hge;have Ht:=zF ht;clear h1 h0 g1 g0 gt hge ht;go_enter Tryz.func123,Tryz.ntmps123;go_wp2;go_step3;go_wp2;try rw[Exit.noGoto_ret]
   go_ret;exact⟨by rw[Ht.out];rfl,0,rfl⟩
 · have k1:¬ y1≤x2:=hge;have hlt:x2<y1:=by omega
   have hu:x2*18446744073709551616+x1<y1*18446744073709551616+y0:=by omega
   have hq:=zBm h1 hlt;have hdv:=fun q r (hr:r<y1) (he:_=y1*q+r)=>aZ x2 x1 y1 w h1 hlt g1 q r hr he;have hF:ug x2 x1 x0 y1 y0=((x2*18446744073709551616+x1)*18446744073709551616+x0) /(y1*18446744073709551616+y0):=ql hge;obtain⟨u,hu'⟩:=eV (x2*18446744073709551616+x1);rw[hu']at hu hq hdv hF;have G:=(⟨by omega,gt,g1,g0,h0,hu⟩:wP 18446744073709551616 u x0 y1 y0)
   obtain⟨hg,hr,hp⟩:=G.start;have hrr:u-u/y1*y1<y1:=(dv (by omega)).2;have HG:Hid (∀ g,g=(u*18446744073709551616+x0) /(y1*18446744073709551616+y0)→g=ug x2 x1 x0 y1 y0):=zF fun g he=>he.trans hF.symm;clear hF;clear hu hu';obtain⟨q,hq'⟩:=eV (u/y1);rw[hq']at hg hr hp hrr hq;obtain⟨p,hp'⟩:=eV (q*y1);rw[hp']at hg hr hp hrr;obtain⟨r,hr'⟩:=eV (u-p);rw[hr']at hg hr hrr;have Hdv:=zF (hdv q r hrr (by rw[zj,hp'];omega));have HGk:=zF G;clear hdv hq' hp' hr' hp hrr hge hlt h1 G gt;go_enter Tryz.func123,Tryz.ntmps123;go_wp2;go_step3;go_wp2_with fail;refine Hdv.out.mono ?_;rintro e w1 ⟨rfl,n,rfl⟩;go_wp2;go_step3;go_wp2;go_loop [11,12] (fun qv rv=>∃ q r:Nat,qv=.int .u64 (q:Int)∧rv=.int .u64 (r:Int)∧vE 18446744073709551616 u x0 y1 y0 q r∧r<18446744073709551616∧q<18446744073709551616) (fun qv _=>(intOf qv).toNat);case atStart=>exact⟨q,r,rfl,rfl,hg,hr,hq⟩
   case round =>
    clear hg hr hq;obtain⟨q,r,rfl,rfl,hg,hr,hq⟩:=hrel;obtain⟨hi',lo,b1,b2⟩:∃ hi' lo:Nat,lo<18446744073709551616∧lo+18446744073709551616*hi'=q*y0:=⟨q*y0/18446744073709551616,q*y0%18446744073709551616,by omega,by omega⟩
    have hmul:=zF (fun w=>ya q y0 hi' lo hq g0 b1 b2 w);have hle:=zDI (r:=r) b2 b1 h0;by_cases hc:q*y0≤18446744073709551616*r+x0
    · have hQ:=zF (HG.out _ (hg.le HGk.out hc));have hc':=hle.2 hc;clear hle hc hg hr hq b1 b2 g0 g1 h0;rcases hc' with hc'|⟨rfl,hc'⟩
      · have i1:hi'<r:=by omega
        clear hc';go_wp2_with fail;refine(hmul.out _).mono ?_;rintro e w1 ⟨rfl,rfl⟩;go_wp2;try rw[Exit.noGoto_ret]
        go_ret;exact⟨by rw[←hQ.out];rfl,_,rfl⟩
      · have i1:¬ hi'<hi':=by omega
        have i2:lo≤x0:=by omega
        clear hc';go_wp2_with fail;refine(hmul.out _).mono ?_;rintro e w1 ⟨rfl,rfl⟩;go_wp2;try rw[Exit.noGoto_ret]
        go_ret;exact⟨by rw[←hQ.out];rfl,_,rfl⟩
    · obtain⟨hg',hq1⟩:=hg.step HGk.out (.inr (by omega));obtain⟨m,rfl⟩:∃ m,q=m+1:=⟨q-1,by omega⟩
      rw[ju]at hg';have hmB:m<18446744073709551616:=by omega
      obtain⟨s,cc,s1,s2,s3⟩:∃ s cc:Nat,s<18446744073709551616∧cc≤1∧s+18446744073709551616*cc=r+y1+0:=⟨(r+y1)%18446744073709551616,(r+y1)/18446744073709551616,by omega,by omega,by omega⟩
      have hadd:=fun w=>kJ r y1 0 s cc (by omega) s1 s3 w;simp only[qW]at hadd;have hn:¬(hi'<r∨hi'=r∧lo≤x0):=fun h=>hc (hle.1 h);have hmi:(m:Int)<18446744073709551616:=by omega
      rcases zT cc with rfl|hcc
      · have hs:s=r+y1:=by omega
        rw[←hs]at hg';have Hs1:=zF s1;have Hmb:=zF hmB;clear s1 s2 s3 hs hg hle hc b1 b2 hq hr hq1 hmB;by_cases hi:hi'=r
        · subst hi;have i1:¬ hi'<hi':=by omega
          have i2:¬ lo≤x0:=by omega
          clear hn;go_wp2_with fail;refine(hmul.out _).mono ?_;rintro e w1 ⟨rfl,rfl⟩;go_wp2;go_round;case rel=>exact⟨m,s,by go_num,rfl,hg',Hs1.out,Hmb.out⟩
          case measure=>simp[intOf]
        · have i1:¬ hi'<r:=by omega
          have i2:((hi':Int)==(r:Int))=false:=eqB (by omega);clear hn hi;go_wp2_with fail;refine(hmul.out _).mono ?_;rintro e w1 ⟨rfl,rfl⟩;go_wp2;go_round;case rel=>exact⟨m,s,by go_num,rfl,hg',Hs1.out,Hmb.out⟩
          case measure=>simp[intOf]
      · obtain rfl:cc=1:=by omega
        have hQ:=zF (HG.out _ (hg'.out HGk.out (by omega) (by omega)));clear s1 s2 s3 hg hg' hle hc b1 b2 hq hr hq1 hmB;simp only[qW]at hadd;by_cases hi:hi'=r
        · subst hi;have i1:¬ hi'<hi':=by omega
          have i2:¬ lo≤x0:=by omega
          clear hn;go_wp2_with fail;refine(hmul.out _).mono ?_;rintro e w1 ⟨rfl,rfl⟩;go_wp2;try rw[Exit.noGoto_ret]
          go_ret;exact⟨by rw[←hQ.out];exact zCx (by simp),_,rfl⟩
        · have i1:¬ hi'<r:=by omega
          have i2:((hi':Int)==(r:Int))=false:=eqB (by omega);clear hn hi;go_wp2_with fail;refine(hmul.out _).mono ?_;rintro e w1 ⟨rfl,rfl⟩;go_wp2;try rw[Exit.noGoto_ret]
          go_ret;exact⟨by rw[←hQ.out];exact zCx (by simp),_,rfl⟩
def Row (w:World) (g:Nat) (l:List Nat):Prop:=∃ cur,w.heap[g]?=some (.cells cur 65 (0,0))∧∀(j:Nat) u,(nts l)[j]?=some u→cur[j]?=some u
section
variable {w w' w'':World} {g f:Nat} {l:List Nat} {p:Addr}
theorem fo (g f j:Nat):(⟨g,f,none⟩:Addr).add j=⟨g,f+j,none⟩:=by
 rcases zT j with h|h
 · subst h;rfl
 · simp[Addr.add,Nat.pos_iff_ne_zero.1 h]
theorem Row.cell (h:Row w g l)(hp:p=⟨g,f,none⟩){j:Nat}(hj:f+j<l.length):w.cell? (p.add j)=some (.int .u64 (dg l (f+j):Int)):=by
 obtain⟨cur,h1,h2⟩:=h;rw[hp,fo,zQ h1,h2 _ _ (ub hj)]
theorem Row.free (h:Row w g l)(hp:p=⟨g,f,none⟩)(j:Nat):w.frozen? (p.add j)=false:=by
 obtain⟨cur,h1,h2⟩:=h;rw[hp,fo,qu h1]
theorem Row.set (h:Row w g l)(hp:p=⟨g,f,none⟩)(j x:Nat):Row (w.setCell (p.add j) (.int .u64 (x:Int))) g (l.set (f+j) x):=by
 obtain⟨cur,h1,h2⟩:=h;rw[hp,fo];refine⟨cur.setIfInBounds (f+j) (.int .u64 (x:Int)),by simp[World.setCell,vD,h1],fun i u hu=>?_⟩;rw[nts,List.map_set,List.getElem?_set]at hu;rw[Array.getElem?_setIfInBounds];by_cases e:f+j=i
 · rw[qg e]at hu ⊢;split at hu
   · rename_i hl;have:=h2 i _ (ub (by rw[←e];simpa using hl));have hi:=(Array.getElem?_eq_some_iff.1 this).1;rw[qg (by omega)];exact hu
   · cases hu
 · rw[ql e]at hu ⊢;exact h2 i u hu
theorem Row.lt (h:Row w g l):g<w.heap.size:=by obtain⟨cur,h1,h2⟩:=h;exact qr h1
theorem Row.drewN (h:Row w g l)(n:Nat):Row (w.drewN n) g l:=h
theorem Row.of_heap (h:Row w g l)(he:w'.heap[g]?=w.heap[g]?):Row w' g l:=by
 obtain⟨cur,h1,h2⟩:=h;exact⟨cur,he.trans h1,h2⟩
theorem Row.below {B:Nat}(h:Row w g l)(hb:Below B w w')(hg:g<B):Row w' g l:=h.of_heap (hb.block g hg)
theorem Row.ob (h:Row w g l){base c:Nat}(hg:base≤g)(hl:Lim l)(hc:l.length≤c)(hc':c≤maxLen):OB w base (some ⟨g,0,none⟩) c l:=by
 obtain⟨cur,h1,h2⟩:=h;exact⟨hl,hc,hc',fun _=>⟨g,cur,rfl,hg,h1,h2⟩⟩
theorem OB.row {base c:Nat}{A:Option Addr}(h:OB w base A c l)(h0:0<l.length):∃ g,A=some ⟨g,0,none⟩∧base≤g∧Row w g l:=by
 obtain⟨h1,h2,h3,h4⟩:=h;obtain⟨g,cur,e,hg,h5,h6⟩:=h4 h0;exact⟨g,e,hg,cur,h5,h6⟩
theorem Row.blk (h:Blk w g l):Row w g l:=⟨_,h,fun j u hu=>by rw[zR];exact hu⟩
structure wE (g:Nat) (w w':World):Prop where
 os:w'.os=w.os
 tape:w'.tape=w.tape
 output:w'.output=w.output
 size:w'.heap.size=w.heap.size
 block:∀ k,k≠g→w'.heap[k]?=w.heap[k]?
theorem wE.refl (g:Nat)(w:World):wE g w w:=⟨rfl,rfl,rfl,rfl,fun _ _=>rfl⟩
theorem wE.trans (h:wE g w w')(k:wE g w' w''):wE g w w'':=⟨k.os.trans h.os,k.tape.trans h.tape,k.output.trans h.output,k.size.trans h.size,fun i hi=>(k.block i hi).trans (h.block i hi)⟩
theorem wE.setCell (h:wE g w w')(hp:p=⟨g,f,none⟩)(j:Nat)(v:Value):wE g w (w'.setCell (p.add j) v):=by
 have e:(p.add j).block=g:=by rw[hp,fo]
 refine⟨h.os,h.tape,h.output,?_,fun k hk=>(je _ _ _ _ (by rw[e];exact hk)).trans (h.block k hk)⟩;have:(w'.setCell (p.add j) v).heap.size=w'.heap.size:=by unfold World.setCell;split<;>simp
 exact this.trans h.size
theorem wE.drewN (h:wE g w w')(n:Nat):wE g w (w'.drewN n):=⟨h.os,h.tape,h.output,h.size,h.block⟩
theorem wE.below {B:Nat}(h:wE g w w')(hB:B≤g):Below B w w':=⟨h.os,h.tape,h.output,Nat.le_of_eq h.size.symm,fun k hk=>h.block k (by omega)⟩
theorem RN.only {P:Nat→Prop}{A:Option Addr}{c:Nat}(h:RN w P A c l)(ho:wE g w w')(hP:∀ b,P b→b≠g):RN w' P A c l:=h.keep fun q hq=>qH (w:=w) (ho.block q.block (hP _ hq))
theorem Row.only {g':Nat}(h:Row w g' l)(ho:wE g w w')(hg:g'≠g):Row w' g' l:=h.of_heap (ho.block g' hg)
end
theorem mw (q v c x b:Nat)(hq:q<18446744073709551616)(hv:v<18446744073709551616)(hc:c<18446744073709551616)(hx:x<18446744073709551616)(hb:b≤1) :
   ∃ hi lo s c1 t b' : Nat, lo < 18446744073709551616 ∧ lo + 18446744073709551616 * hi = q * v ∧ s < 18446744073709551616 ∧ s + 18446744073709551616 * c1 = lo + c + 0 ∧ hi + c1 < 18446744073709551616 ∧ s + 18446744073709551616 * (hi + c1) = q * v + c ∧
     t<18446744073709551616∧b'≤1∧t+s+b=x+18446744073709551616*b':=by
 have hm:=yQ hq hv hc (show 0<18446744073709551616 by omega);refine⟨q*v/18446744073709551616,q*v%18446744073709551616,(q*v%18446744073709551616+c)%18446744073709551616,(q*v%18446744073709551616+c)/18446744073709551616,?_⟩;obtain⟨t,b',h1,h2,h3⟩:=uP x ((q*v%18446744073709551616+c)%18446744073709551616) b hx (qL _ (by omega)) hb;refine⟨t,b',?_⟩;generalize q*v=p at *;omega
theorem sY (g f:Nat)(p:Addr)(hp:p=⟨g,f,none⟩)(P:Nat→Prop)(A:Option Addr)(c cx n q:Nat)(L y:List Nat)(w:World)(hr:Row w g L)(hL:Lim L)(h:RN w P A c y)(hP:∀ b,P b→b≠g)(hn:y.length=n)(hf:f+n<L.length)(hq:q<18446744073709551616) :
 Calls Tryz.prog 124 #[.slice (some p) (n+1) cx,.slice A n c,.int .u64 (q:Int)] w fun e w'=>∃(L':List Nat) (b:Nat),e=.returned (.bool (decide (0<b)))∧Row w' g L'∧Lim L'∧wE g w w' ∧
  L'.length=L.length∧val 18446744073709551616 L'+18446744073709551616^f*(q*val 18446744073709551616 y)=val 18446744073709551616 L+18446744073709551616 ^(f+n+1)*b∧∀ i,f+n+1≤i→dg L' i=dg L i:=by
 obtain⟨h1,h2,h3⟩:=h.cap
 have hn1:n≤1000000:=by omega
 have hnc:n≤c:=by omega
 have Hp:=zF hp
 clear hp h1 h2 h3
 go_enter Tryz.func124,Tryz.ntmps124
 go_wp2
 go_loopw [7,8,16] (fun cv bv iv wr=>∃(j cr b:Nat) (l:List Nat),iv=.int .i64 (j:Int)∧cv=.int .u64 (cr:Int)∧bv=.int .u64 (b:Int)∧j≤n∧cr<18446744073709551616∧b≤1∧xg 18446744073709551616 L y q f l j cr b∧Lim l∧Row wr g l∧wE g w wr) (fun _ _ iv _=>n-(intOf iv).toNat)
 case atStart=>exact⟨0,0,0,L,rfl,rfl,rfl,by omega,by omega,by omega,xg.zero _ _ _ _ _,hL,hr,wE.refl _ _⟩
 case round =>
  obtain⟨j,cr,b,l,rfl,rfl,rfl,hj,hcr,hb,hT,hl,hw,ho⟩:=hrel;have hll:=hT.1;by_cases hlt:j<n
  · obtain⟨ad,rfl,_,q1⟩:=(h.only ho hP).at_ (i:=j) (by omega);obtain⟨hi',lo,s,c1,t,b',b1,b2,b3,b4,b5,b6,b7,b8,b9⟩:=mw q (dg y j) cr (dg l (f+j)) b hq (h.2.dgLt j) hcr (hl.dgLt _) hb;have hmul:=zF (fun w=>ya q (dg y j) hi' lo hq (h.2.dgLt j) b1 b2 w);have hadd:=fun w=>kJ lo cr 0 s c1 (by omega) b3 b4 w;simp only[qW]at hadd;have hsub:=fun w=>uJ (dg l (f+j)) s b t b' hb (hl.dgLt _) b3 b7 b9 b8 w;have q3:=hw.cell Hp.out (j:=j) (by omega);have q4:=hw.free Hp.out j;have hT':=hT.step (by omega) b6 b9;have hw':=hw.set Hp.out j t;have hl':=hl.set (f+j) t b7;have ho':=ho.setCell Hp.out j (.int .u64 (t:Int));have k1:(j:Int)<(n:Int)+1:=by omega
    clear hT hl hw ho b1 b2 b3 b4 b6 b7 b9 hll hq hcr;go_wp2_with fail;refine(hmul.out _).mono ?_;rintro e w1 ⟨rfl,rfl⟩;go_wp2;go_roundw;case rel=>exact⟨j+1,hi'+c1,b',l.set (f+j) t,by go_num,by go_num,rfl,by omega,b5,b8,hT',hl',hw',ho'⟩
    case measure=>simp[intOf];omega
  · obtain rfl:j=n:=by omega
    obtain⟨t,b',b7,b8,b9⟩:=uP (dg l (f+j)) cr b (hl.dgLt _) hcr hb;have hsub:=fun w=>uJ (dg l (f+j)) cr b t b' hb (hl.dgLt _) hcr b7 b9 b8 w;have q3:=hw.cell Hp.out (j:=j) (by omega);have q4:=hw.free Hp.out j;have hT':=zF (hT.fin hn (by omega) b9);have hw':=hw.set Hp.out j t;have hl':=hl.set (f+j) t b7;have ho':=ho.setCell Hp.out j (.int .u64 (t:Int));have k1:(j:Int)<(j:Int)+1:=by omega
    clear hT hl hw ho b7 b9 hll hq hcr;go_wp2;go_ret;exact⟨l.set (f+j) t,b',by simp,hw',hl',ho',hT'.out⟩
theorem tI (g f:Nat)(p:Addr)(hp:p=⟨g,f,none⟩)(P:Nat→Prop)(A:Option Addr)(c cx n:Nat)(L y:List Nat)(w:World)(hr:Row w g L)(hL:Lim L)(h:RN w P A c y)(hP:∀ b,P b→b≠g)(hn:y.length=n)(hf:f+n<L.length) :
 Calls Tryz.prog 125 #[.slice (some p) (n+1) cx,.slice A n c] w fun e w'=>∃(L':List Nat) (b:Nat),e=.returned (.tuple #[])∧Row w' g L'∧Lim L'∧wE g w w' ∧
  L'.length=L.length∧val 18446744073709551616 L'+18446744073709551616 ^(f+n+1)*b=val 18446744073709551616 L+18446744073709551616^f*val 18446744073709551616 y∧∀ i,f+n+1≤i→dg L' i=dg L i:=by
 obtain⟨h1,h2,h3⟩:=h.cap
 have hn1:n≤1000000:=by omega
 have hnc:n≤c:=by omega
 have Hp:=zF hp
 clear hp h1 h2 h3
 go_enter Tryz.func125,Tryz.ntmps125
 go_wp2
 go_loopw [4,9] (fun cv iv wr=>∃(j cr:Nat) (l:List Nat),iv=.int .i64 (j:Int)∧cv=.int .u64 (cr:Int)∧j≤n∧cr≤1∧xh 18446744073709551616 L y f l j cr∧Lim l∧Row wr g l∧wE g w wr) (fun _ iv _=>n-(intOf iv).toNat)
 case atStart=>exact⟨0,0,L,rfl,rfl,by omega,by omega,xh.zero _ _ _ _,hL,hr,wE.refl _ _⟩
 case round =>
  obtain⟨j,cr,l,rfl,rfl,hj,hcr,hT,hl,hw,ho⟩:=hrel;have hll:=hT.1;by_cases hlt:j<n
  · obtain⟨ad,rfl,_,q1⟩:=(h.only ho hP).at_ (i:=j) (by omega);obtain⟨s,c',b7,b8,b9⟩:=ye (dg l (f+j)) (dg y j) cr (hl.dgLt _) (h.2.dgLt j) hcr;have hadd:=fun w=>kJ (dg l (f+j)) (dg y j) cr s c' hcr b7 b9 w;have q3:=hw.cell Hp.out (j:=j) (by omega);have q4:=hw.free Hp.out j;have hT':=hT.step (by omega) b9;have hw':=hw.set Hp.out j s;have hl':=hl.set (f+j) s b7;have ho':=ho.setCell Hp.out j (.int .u64 (s:Int));have k1:(j:Int)<(n:Int)+1:=by omega
    clear hT hl hw ho b7 b9 hll hcr;go_wp2;go_roundw;case rel=>exact⟨j+1,c',l.set (f+j) s,by go_num,rfl,by omega,b8,hT',hl',hw',ho'⟩
    case measure=>simp[intOf];omega
  · obtain rfl:j=n:=by omega
    obtain⟨t,b',b7,b8,b9⟩:=ye (dg l (f+j)) 0 cr (hl.dgLt _) (by omega) hcr;have he:IntKind.u64.wrap ((dg l (f+j):Int)+(cr:Int))=(t:Int):=by
     have:(dg l (f+j):Int)+(cr:Int)=(t:Int)+18446744073709551616*(b':Int):=by omega
     rw[this];simp[IntKind.wrap,IntKind.bits,IntKind.signed];omega
    have q3:=hw.cell Hp.out (j:=j) (by omega);have q4:=hw.free Hp.out j;have hT':=zF (hT.fin hn (by omega) (x:=t) (c':=b') (by omega));have hw':=hw.set Hp.out j t;have hl':=hl.set (f+j) t b7;have ho':=ho.setCell Hp.out j (.int .u64 (t:Int));have k1:(j:Int)<(j:Int)+1:=by omega
    clear hT hl hw ho b7 b9 hll hcr;go_wp2;go_end0;exact⟨l.set (f+j) t,b',rfl,hw',hl',ho',hT'.out⟩
end Go.Proofs.YtaemogcomplhiaaGreatDoor
namespace Go.Proofs.YtaemogcomplhiaaGreatDoor
theorem sU {B:Nat}{L:List Nat}{t:Nat}(h:∀ x∈L,x<B)(ht:t+3≤L.length)(hz:∀ j,t+3≤j→dg L j=0) :
 ∃ r,r<B^t∧val B L=r+B^t*((dg L (t+2)*B+dg L (t+1))*B+dg L t):=by
 refine⟨val B (L.take t),?_,?_⟩
 · have:=jt (B:=B) (l:=L.take t) fun x hx=>h x (qM hx);rwa [zo,qU (by omega)]at this
 · have e:=jA B L ht;have hd:val B (L.drop (t+3))=0:=by
    apply vw;intro x hx;obtain⟨i,hi,rfl⟩:=List.getElem_of_mem hx;rw[List.getElem_drop];have:=hz (t+3+i) (by omega);rwa [dg,jU (by simp at hi;omega)]at this
   rw[hd,ja,q9]at e;rw[e,qC,qC,qC,show B ^(t+2)=B^t*B*B from by simp only[zp],zp];have e1:B^t*B*B*dg L (t+2)=B^t*(dg L (t+2)*B*B):=by simp only[za];rw[zj B (dg L (t+2)),←za B,zj B (dg L (t+2)),za]
   have e2:B^t*B*dg L (t+1)=B^t*(dg L (t+1)*B):=by rw[za,zj B]
   rw[e1,e2,qY,zf,zf];omega
theorem zBh {B:Nat}{L:List Nat}{t:Nat}(ht:t+2=L.length) :
 ∃ r,val B L=r+B^t*(dg L (t+1)*B+dg L t):=by
 refine⟨val B (L.take t),?_⟩
 have e:val B L=val B (L.take (t+2)):=by rw[ht,jE]
 rw[e,qC,qC,zp]
 have e2:B^t*B*dg L (t+1)=B^t*(dg L (t+1)*B):=by rw[za,zj B]
 rw[e2,zf]
 omega
theorem aH {B q DB V t D2 T rd rv:Nat}(hq:q*DB≤V)(hD:DB=rd+B^t*D2)(hV:V=rv+B^t*T)(hr:rv<B^t):q*D2≤T:=by
 have h1:q*(B^t*D2)≤q*DB:=qD _ (by omega);have h2:q*(B^t*D2)=B^t*(q*D2):=by rw[jR]
 have h3:B^t*(q*D2)<B^t*(T+1):=by rw[zf,jO];omega
 exact Nat.le_of_lt_succ (Nat.lt_of_mul_lt_mul_left h3)
def un (B V i n D:Nat) (L:List Nat) (g:Nat) (too:Bool):Prop :=
 V /(B^i*D)≤g∧g<B∧(∀ j,i+n+1≤j→dg L j=0)∧val B L+B^i*(g*D)=V+if too then B ^(i+n+1)else 0
section
variable {B V i n D g:Nat} {L L':List Nat}
theorem un.start {b:Nat}(hq:V /(B^i*D)≤g)(hg:g<B)(hz:∀ j,i+n+1≤j→dg L' j=dg L j)(hz0:∀ j,i+n+1≤j→dg L j=0)(he:val B L'+B^i*(g*D)=V+B ^(i+n+1)*b)(hL':∀ x∈L',x<B)(hB:2≤B)(hD:D<B^n) :
 un B V i n D L' g (decide (0<b)):=by
 have hz':∀ j,i+n+1≤j→dg L' j=0:=fun j hj=>(hz j hj).trans (hz0 j hj)
 refine⟨hq,hg,hz',?_⟩
 have h1:=vi (by omega) hL' hz'
 rw[he]
 have h2:B^i*(g*D)<B ^(i+n+1):=by
  rw[kH,qP,zp,zj (B^n)];refine kZ ?_ (qS (by omega));exact jl (qD g (jV hD)) (Nat.mul_lt_mul_of_pos_right hg (qS (by omega)))
 rcases qF b 2 with hb|hb
 · have:b=0∨b=1:=by omega
   rcases this with rfl|rfl<;>simp
 · exfalso;have h3:B ^(i+n+1)*2≤B ^(i+n+1)*b:=qD _ hb;omega
theorem un.pos (h:un B V i n D L g true)(hL:∀ x∈L,x<B)(hB:2≤B):V /(B^i*D)<g:=by
 obtain⟨h1,h2,h3,h4⟩:=h;have h5:=vi (by omega) hL h3;apply jI;simp only[if_true]at h4;rw[za,zj D];omega
theorem un.step {c:Nat}(h:un B V i n D L (g+1) true)(hL:∀ x∈L,x<B)(hL':∀ x∈L',x<B)(hB:2≤B)(hD:0<D)(hDn:D<B^n)
 (he:val B L'+B ^(i+n+1)*c=val B L+B^i*D) (hz:∀ j,i+n+1≤j→dg L' j=dg L j):un B V i n D L' g (decide (dg L' (i+n)≠0)):=by
 have hp:=h.pos hL hB
 obtain⟨h1,h2,h3,h4⟩:=h
 have hz':∀ j,i+n+1≤j→dg L' j=0:=fun j hj=>(hz j hj).trans (h3 j hj)
 have h5:=vi (by omega) hL h3
 have h6:=vi (by omega) hL' hz'
 have hDi:B^i*D<B ^(i+n):=by rw[qP];exact kZ hDn (qS (by omega))
 have hBB:B ^(i+n+1)=B ^(i+n)*B:=zp _ _
 have hBB2:B ^(i+n)*2≤B ^(i+n)*B:=qD _ hB
 have hV:V<B^i*D*(g+1):=by
  have:=Nat.lt_mul_div_succ V (show 0<B^i*D from Nat.mul_pos (qS (by omega)) hD);exact zI this (qD _ (by omega))
 simp only[if_true]at h4
 have e1:B^i*((g+1)*D)=B^i*(g*D)+B^i*D:=by rw[qY,kN,zf]
 have e2:B^i*D*(g+1)=B^i*(g*D)+B^i*D:=by rw[←e1,za,zj D]
 have hgD:B^i*(g*D)+B ^(i+n)*2≤B ^(i+n+1)+B ^(i+n):=by
  obtain⟨m,hm⟩:∃ m,B=m+2:=⟨B-2,by omega⟩
  have k1:g*D≤m*B^n:=xZ (by omega) (jV hDn);have k2:B^i*(g*D)≤B^i*(m*B^n):=qD _ k1;have k3:B^i*(m*B^n)=B ^(i+n)*m:=by rw[zj m,←za,←qP]
  have k4:B ^(i+n)*B=B ^(i+n)*m+B ^(i+n)*2:=by rw[←zf,←hm]
  omega
 rw[e1]at h4
 rw[e2]at hV
 refine⟨by omega,by omega,hz',?_⟩
 rcases zT c with rfl|hc
 · rw[ja,q9]at he;have hbig:B ^(i+n)≤val B L':=by omega
   have hne:dg L' (i+n)≠0:=fun h0=>by
    have:=vi (B:=B) (m:=i+n) (by omega) hL' fun j hj=>by
     rcases qF (i+n) j with h|h
     · exact hz' j (by omega)
     · obtain rfl:j=i+n:=by omega
       exact h0
    omega
   rw[qZ hne,qg rfl];omega
 · have hc1:c=1:=by
    rcases qF c 2 with h|h
    · omega
    · have:B ^(i+n+1)*2≤B ^(i+n+1)*c:=qD _ h;omega
   subst hc1;rw[jO]at he;have hsmall:val B L'<B ^(i+n):=by omega
   have h0:=yS hL' hsmall (zG _);rw[jF (by simp[h0]),ql (by simp)];omega
theorem un.fin (h:un B V i n D L g false)(hB:2≤B)(hD:0<D):val B L+B^i*(g*D)=V∧val B L<B^i*D:=by
 obtain⟨h1,h2,h3,h4⟩:=h;simp only[xz,yL,q9]at h4;refine⟨h4,?_⟩;have h5:=Nat.lt_mul_div_succ V (show 0<B^i*D from Nat.mul_pos (qS (by omega)) hD);have h6:B^i*D*(V /(B^i*D)+1)≤B^i*D*(g+1):=qD _ (by omega);have e:B^i*D*(g+1)=B^i*(g*D)+B^i*D:=by rw[zf,jO,za,zj D]
 omega
end
def gQ (B X D:Nat) (L qs:List Nat) (k:Nat):Prop:=val B L+D*(B^k*val B (qs.drop k))=X∧val B L<B^k*D
theorem gQ.start {B D m:Nat}{L qs:List Nat}(hq:qs.length=m)(h:val B L<B^m*D):gQ B (val B L) D L qs m:=by
 refine⟨?_,h⟩;rw[←hq,List.drop_length];simp
theorem gQ.step {B X D k g:Nat}{L L' qs:List Nat}(h:gQ B X D L qs (k+1))(hk:k<qs.length)(h1:val B L'+B^k*(g*D)=val B L)(h2:val B L'<B^k*D):gQ B X D L' (qs.set k g) k:=by
 obtain⟨g1,g2⟩:=h;refine⟨?_,h2⟩;have e:(qs.set k g).drop k=g::qs.drop (k+1):=by
  rw[List.drop_set,ql (Nat.lt_irrefl _),qa hk,Nat.sub_self,xw]
 rw[e,jr,zf,zf,←g1,←h1,zp];have e1:D*(B^k*g)=B^k*(g*D):=by rw[jR,zj D]
 rw[e1,za (B^k)];omega
theorem gQ.fin {B X D:Nat}{L qs:List Nat}(h:gQ B X D L qs 0):val B qs=X/D∧val B L=X%D:=by
 obtain⟨g1,g2⟩:=h;simp only[Nat.pow_zero,kN,List.drop_zero]at g1 g2;rw[←g1];refine⟨?_,?_⟩
 · rw[vp,Nat.mul_add_div (by omega),qh g2,q9]
 · rw[vp,Nat.mul_add_mod,zy g2]
theorem zDk {B p u y top n:Nat}(hB:2≤B)(he:B%2=0)(hp:B=u*p)(hn:(digs B y).length=n+1)(ht:dg (digs B y) n=top)(h1:B≤2*(top*p))(h2:top*p<B) :
 (digs B (y*p)).length=n+1∧B≤2*dg (digs B (y*p)) n∧B ^(n+1)≤2*(y*p):=by
 have hBn:0<B^n:=qS (by omega)
 have hy:y=val B ((digs B y).take n)+B^n*top:=by
  rw[←ht,←qC,←hn,jE,zd hB]
 have hr:val B ((digs B y).take n)<B^n:=by
  have:=jt (B:=B) (l:=(digs B y).take n) fun x hx=>kF hB y x (qM hx);rwa [zo,qU (by omega)]at this
 generalize val B ((digs B y).take n)=r at *
 have hu:(top+1)*p≤B:=by
  have:top<u:=by
   rw[hp]at h2;exact Nat.lt_of_mul_lt_mul_right h2
  rw[hp];exact qk _ this
 have hup:y*p<B ^(n+1):=by
  have k1:y+1≤B^n*(top+1):=by rw[zf,jO];omega
  have hp0:0<p:=by
   rcases zT p with h|h
   · subst h;omega
   · exact h
  have k2:y*p<(y+1)*p:=Nat.mul_lt_mul_of_pos_right (by omega) hp0;have k3:(y+1)*p≤B^n*(top+1)*p:=qk _ k1;have k4:B^n*(top+1)*p≤B^n*B:=by rw[za];exact qD _ hu
  rw[zp];omega
 have hlo:B ^(n+1)≤2*(y*p):=by
  have k1:B^n*top*p≤y*p:=qk _ (by omega);have k2:B^n*B≤B^n*(2*(top*p)):=qD _ h1;have k3:B^n*(2*(top*p))=2*(B^n*top*p):=by rw[jR,za]
  rw[zp];omega
 have hBB:B^n*2≤B^n*B:=qD _ hB
 have hlen:(digs B (y*p)).length=n+1:=by
  refine Nat.le_antisymm (qR hB hup) ?_;rcases qF n (digs B (y*p)).length with h|h
  · exact h
  · have k1:=jB hB (y*p);have k2:B ^(digs B (y*p)).length≤B^n:=zv (by omega) h;rw[zp]at hlo;omega
 refine⟨hlen,?_,hlo⟩
 have hD:y*p=val B ((digs B (y*p)).take n)+B^n*dg (digs B (y*p)) n:=by
  rw[←qC,←hlen,jE,zd hB]
 have hr2:val B ((digs B (y*p)).take n)<B^n:=by
  have:=jt (B:=B) (l:=(digs B (y*p)).take n) fun x hx=>kF hB (y*p) x (qM hx);rwa [zo,qU (by omega)]at this
 generalize dg (digs B (y*p)) n=z at *
 have k1:B^n*B<B^n*(2*(z+1)):=by
  rw[zp]at hlo;have:B^n*(2*(z+1))=2*(B^n*z+B^n):=by rw[jR,zf,jO]
  omega
 have k2:=Nat.lt_of_mul_lt_mul_left k1
 omega
theorem zDj {B x D n:Nat}(hB:2≤B)(hn:n≤(digs B x).length+1)(hD:B^n≤2*D):x<B ^((digs B x).length+1-n)*D:=by
 have h1:=jB hB x;generalize(digs B x).length=k at *;have h2:B ^(k+1-n)*B^n≤B ^(k+1-n)*(2*D):=qD _ hD;rw[←qP,show k+1-n+n=k+1 by omega,zp,jR]at h2;have h3:B^k*2≤B^k*B:=qD _ hB;omega
theorem zCX (u:List Nat)(k i:Nat):dg (u.drop k) i=dg u (k+i):=by
 simp[dg,List.getElem?_drop]
def yh (B:Nat) (u v W:List Nat) (k g i c b:Nat):Prop:=W.length=v.length+1∧val B (W.take i)+g*val B (v.take i)=val B ((u.drop k).take i)+B^i*(c+b)
section
variable {B k g i c b:Nat} {u v W:List Nat}
theorem yh.zero (h:W.length=v.length+1):yh B u v W k g 0 0 0:=⟨h,by simp⟩
theorem yh.step {lo c' x b':Nat}(h:yh B u v W k g i c b)(hi:i<W.length)(h1:lo+B*c'=c+g*dg v i)(h2:x+(lo+b)=dg u (k+i)+B*b'):yh B u v (W.set i x) k g (i+1) c' b':=by
 obtain⟨g1,g2⟩:=h;refine⟨by simpa using g1,?_⟩;rw[jc B hi,qC,qC,zCX,zp];have e1:g*(B^i*dg v i)=B^i*(g*dg v i):=jR _ _ _;have e2:B^i*(lo+B*c')=B^i*(c+g*dg v i):=by rw[h1]
 have e3:B^i*(x+(lo+b))=B^i*(dg u (k+i)+B*b'):=by rw[h2]
 rw[zf g,e1,za,zf B,zf (B^i) (B*c')];simp only[zf]at e2 e3 g2 ⊢;generalize B^i*(B*c')=p1 at *;generalize B^i*(B*b')=p2 at *;generalize B^i*lo=p3 at *;generalize B^i*(g*dg v i)=p4 at *;generalize B^i*c=p5 at *;generalize B^i*b=p6 at *;generalize B^i*x=p7 at *;generalize B^i*dg u (k+i)=p8 at *;omega
def uK (u W:List Nat) (k:Nat):List Nat:=u.take k++W++u.drop (k+W.length)
theorem mD (h:k+W.length≤u.length):(uK u W k).length=u.length:=by simp[uK];omega
theorem sV (B:Nat)(h:k+W.length≤u.length):∃ r t:Nat,val B u=r+B^k*(val B ((u.drop k).take W.length)+B^W.length*t)∧val B (uK u W k)=r+B^k*(val B W+B^W.length*t):=by
 refine⟨val B (u.take k),val B (u.drop (k+W.length)),?_,?_⟩
 · rw[jA B u (n:=k) (by omega),jA B (u.drop k) (n:=W.length) (by simp;omega),List.drop_drop]
 · unfold uK;rw[kQ,kQ,zz,zo,qU (by omega),qP,za,kH,←zf]
theorem yh.yes (h:yh B u v W k g W.length 0 0)(hk:k+W.length≤u.length):val B (uK u W k)+B^k*(g*val B v)=val B u:=by
 obtain⟨g1,g2⟩:=h;obtain⟨r,t,e1,e2⟩:=sV B (u:=u) (W:=W) hk;rw[jE,zx (by omega:v.length≤W.length)]at g2;simp only[q9,ja]at g2;rw[e1,e2,←g2,zf,zf,zf];omega
theorem yh.no (h:yh B u v W k g W.length 0 1)(hW:∀ x∈W,x<B)(hu:∀ x∈u,x<B)(hz:∀ j,k+W.length≤j→dg u j=0)(hk:k+W.length≤u.length):val B u /(B^k*val B v)<g:=by
 obtain⟨g1,g2⟩:=h;rw[jE,zx (by omega:v.length≤W.length)]at g2;simp only[jH,jO]at g2;have h1:=jt hW;have e1:=jA B u (n:=k) (by omega);have e2:=jA B (u.drop k) (n:=W.length) (by simp;omega);have h0:val B ((u.drop k).drop W.length)=0:=by
  apply vw;intro x hx;rw[List.drop_drop]at hx;obtain⟨i,hi,rfl⟩:=List.getElem_of_mem hx;rw[List.getElem_drop];have:=hz (k+W.length+i) (by omega);rwa [dg,jU (by simp at hi;omega)]at this
 rw[h0,ja,q9]at e2;have h2:val B (u.take k)<B^k:=by
  have:=jt (B:=B) (l:=u.take k) fun x hx=>hu x (qM hx);rwa [zo,qU (by omega)]at this
 apply jI;rw[e1,e2];have h3:val B ((u.drop k).take W.length)+1≤g*val B v:=by omega
 have h4:B^k*(val B ((u.drop k).take W.length)+1)≤B^k*(g*val B v):=qD _ h3;rw[zf,jO]at h4;rw[za,zj (val B v)];omega
theorem tH {n n1:Nat}(hn:n1+1=n)(hu:∀ x∈u,x<B)(hv:∀ x∈v,x<B)(hvn:v.length=n)(hlen:k+n<u.length)(htop:0<dg v n1)(hV:val B u<B ^(k+1)*val B v) :
 (∀ i,k+n+1≤i→dg u i=0)∧val B u /(B^k*val B v)<B∧val B u /(B^k*val B v)≤(dg u (k+n)*B+dg u (k+n1))/dg v n1:=by
 subst hn
 have hB:0<B:=jl (vr _) (hu _ (xa (by omega:k<u.length)))
 have hdl:=jt hv
 rw[hvn]at hdl
 have hz:∀ i,k+(n1+1)+1≤i→dg u i=0:=fun i hi=>yS hu (m:=k+(n1+1)+1) (Nat.lt_trans hV (by
  rw[show k+(n1+1)+1=(k+1)+(n1+1) by omega,qP _ (k+1)]
  exact kZ hdl (qS hB))) hi
 refine⟨hz,?_,?_⟩
 · apply jI;rw[zp,xu]at hV;exact hV
 · rw[Nat.le_div_iff_mul_le htop];have e:=jA B u (n:=k+n1+2) (by omega);have hd:val B (u.drop (k+n1+2))=0:=by
    apply vw;intro x hx;obtain⟨i,hi,rfl⟩:=List.getElem_of_mem hx;rw[List.getElem_drop];have:=hz (k+n1+2+i) (by omega);rwa [dg,jU (by simp at hi;omega)]at this
   rw[hd,ja,q9,qC,qC,zp]at e;have hr:=jt (B:=B) (l:=u.take (k+n1)) fun x hx=>hu x (qM hx);rw[zo,qU (by omega)]at hr;have ev:val B v=val B (v.take n1)+B^n1*dg v n1:=by rw[←qC,←hvn,jE]
   refine aH (B:=B) (t:=k+n1) (DB:=B^k*val B v) (rd:=B^k*val B (v.take n1)) (V:=val B u) (rv:=val B (u.take (k+n1))) (Nat.div_mul_le_self _ _) ?_ ?_ hr
   · rw[ev,zf,←za,←qP]
   · rw[e,za,zj B,zf,show k+(n1+1)=k+n1+1 by omega];omega
def gZ (B:Nat) (a o:List Nat) (m i c:Nat):Prop:=o.length=a.length+1∧val B (o.take i)+B^i*c=m*val B (a.take i)
theorem gZ.step {a o:List Nat}{m x c':Nat}(h:gZ B a o m i c)(hi:i<o.length)(h1:x+B*c'=c+dg a i*m):gZ B a (o.set i x) m (i+1) c':=by
 obtain⟨g1,g2⟩:=h;refine⟨by simpa using g1,?_⟩;rw[jc B hi,qC,zf,←g2,zp,za];have e1:m*(B^i*dg a i)=B^i*(dg a i*m):=by rw[jR,zj m]
 have e2:B^i*(x+B*c')=B^i*(c+dg a i*m):=by rw[h1]
 rw[e1];simp only[zf]at e2;omega
theorem gZ.fin {a o:List Nat}{m:Nat}(h:gZ B a o m a.length c):val B (o.set a.length c)=m*val B a:=by
 obtain⟨g1,g2⟩:=h;have e:(o.set a.length c).length=a.length+1:=by simpa using g1
 have e2:val B (o.set a.length c)=val B ((o.set a.length c).take (a.length+1)):=by rw[←e,jE]
 rw[e2,jc B (by omega),g2,jE]
end
end Go.Proofs.YtaemogcomplhiaaGreatDoor
namespace Go.Proofs.YtaemogcomplhiaaGreatDoor
open Go.RowKit
theorem fJ (P:Nat→Prop)(A:Option Addr)(c:Nat)(l:List Nat)(d:Nat)(w:World)(h:RN w P A c l)(hP:∀ b,P b→b<w.heap.size)(hD:Dig l)(hl:l.length<100000)(hd':d<4294967296) :
 Calls Tryz.prog 111 #[.slice A l.length c,.int .u64 (d:Int)] w fun e w'=>∃ o,e=.returned (.slice (some ⟨w.heap.size,0,none⟩) (l.length+1) (l.length+1))∧Blk w' w.heap.size o∧o.length=l.length+1∧Dig o∧val 4294967296 o=d*val 4294967296 l∧Below w.heap.size w w':=by
 obtain⟨h1,h2,h3⟩:=h.cap
 have hmk:=jD (P:=Tryz.prog) 28 65 (.int .u64 0) 8 Tryz.underlying28 kS rfl .i64 .i64 (l.length+1) (by omega) (by omega)
 simp only[vX,qW]at hmk
 go_enter Tryz.func111,Tryz.ntmps111
 go_wp2
 go_loopw [6,7] (fun cv iv wr=>∃(i cr:Nat) (o:List Nat),iv=.int .i64 (i:Int)∧cv=.int .u64 (cr:Int)∧i≤l.length∧cr<4294967296∧gZ 4294967296 l o d i cr∧Dig o∧Blk wr w.heap.size o∧Below w.heap.size w wr) (fun _ iv _=>l.length-(intOf iv).toNat)
 case atStart=>exact⟨0,0,List.replicate (l.length+1) 0,rfl,rfl,by omega,by omega,⟨by simp,by simp⟩,by intro x hx;simp at hx;omega,wK w _,(zl _ w).alloc (zG _) _⟩
 case round =>
  obtain⟨i,cr,o,rfl,rfl,hi,hcr,hT,hDo,hblk,hB⟩:=hrel;have hol:=hT.1;by_cases hlt:i<l.length
  · obtain⟨ad,rfl,had,q1⟩:=(h.below hB hP).at_ hlt;have hb:=yQ (hD.dgLt i) hd' hcr (show 0<4294967296 by omega);obtain⟨pr,hpr⟩:=eV (dg l i*d);have Hpr:=zF (show(dg l i:Int)*(d:Int)=(pr:Int) by rw[←hpr,vW]);rw[hpr]at hb;obtain⟨s,cr',hs,hcr',he⟩:∃ s c':Nat,s<4294967296∧c'<4294967296∧s+4294967296*c'=cr+pr:=⟨(cr+pr)%4294967296,(cr+pr)/4294967296,by omega,by omega,by omega⟩
    have e1:((cr:Int)+(pr:Int))%4294967296=(s:Int):=by omega
    have e2:((cr:Int)+(pr:Int))/4294967296=(cr':Int):=by omega
    have q3:=hblk.cell (i:=i) (by omega);have q4:=hblk.free i;have hT':=hT.step (by omega) (by rw[hpr];exact he);have hblk':=hblk.set i s;have hD':=hDo.set i s hs;have hB':=hB.setCell (p:=⟨w.heap.size,i,none⟩) (zG _) (.int .u64 (s:Int));have k1:(i:Int)<(l.length:Int)+1:=by omega
    have k3:(pr:Int)<18446744073709551616:=by omega
    have k4:(cr:Int)+(pr:Int)<18446744073709551616:=by omega
    clear he hT hblk hDo hB hb hpr hol;have hpr:=Hpr.out;go_wp2;go_roundw;case rel=>exact⟨i+1,cr',o.set i s,by go_num,(by first|rfl|exact congrArg (Value.int .u64) e2),by omega,hcr',hT',hD',hblk',hB'⟩
    case measure=>simp[intOf];omega
  · obtain rfl:i=l.length:=by omega
    have q3:=hblk.cell (i:=l.length) (by omega);have q4:=hblk.free l.length;have hfin:=hT.fin;have hblk':=hblk.set l.length cr;have hD':=hDo.set l.length cr hcr;have hB':=hB.setCell (p:=⟨w.heap.size,l.length,none⟩) (zG _) (.int .u64 (cr:Int));have k1:(l.length:Int)<(l.length:Int)+1:=by omega
    have Hf:=zF hfin;have Hol:=zF (show(o.set l.length cr).length=l.length+1 by simpa using hol);clear hT hblk hDo hB hfin hol;go_wp2;go_ret;exact⟨o.set l.length cr,rfl,hblk',Hol.out,hD',Hf.out,hB'⟩
theorem fK (P:Nat→Prop)(A:Option Addr)(c:Nat)(l:List Nat)(d:Nat)(w:World)(h:RN w P A c l)(hP:∀ b,P b→b<w.heap.size)(hDl:Dig l)(hl:l.length<100000)(hd:0<d)(hd':d<4294967297) :
 Calls Tryz.prog 110 #[.slice A l.length c,.int .u64 (d:Int)] w fun e w'=>∃ A1 c1,e=.returned (.tuple #[.slice A1 (digs 4294967296 (val 4294967296 l/d)).length c1,.int .u64 ((val 4294967296 l%d:Nat):Int)]) ∧
  OB w' w.heap.size A1 c1 (digs 4294967296 (val 4294967296 l/d))∧Below w.heap.size w w':=by
 obtain⟨h1,h2,h3⟩:=h.cap
 have hmk:=jD (P:=Tryz.prog) 28 65 (.int .u64 0) 8 Tryz.underlying28 kS rfl .i64 .i64 l.length (by omega) (by omega)
 have Hs:=zF (xL l.length)
 have n0:((d:Int)==0)=false:=eqB (by omega)
 have n1:¬ d=0:=by omega
 go_enter Tryz.func110,Tryz.ntmps110
 go_wp2
 go_loopw [7,8] (fun rv iv wr=>∃(k r:Nat) (z:Int) (o:List Nat),iv=.int .i64 z∧vn k z∧rv=.int .u64 (r:Int)∧k≤l.length∧r<d∧xI 4294967296 l o d k r∧Dig o∧Blk wr w.heap.size o∧Below w.heap.size w wr) (fun _ iv _=>(intOf iv+1).toNat)
 case atStart=>exact⟨l.length,0,_,List.replicate l.length 0,rfl,Hs.out,rfl,by omega,by omega,xI.start d (by simp),by intro x hx;simp at hx;omega,wK w _,(zl _ w).alloc (zG _) _⟩
 case round =>
  obtain⟨k,r,z,o,rfl,hz,rfl,hk,hr,hS,hDo,hblk,hB⟩:=hrel;rcases hz with⟨rfl,rfl⟩|⟨j,rfl,rfl⟩
  · obtain⟨hv,hrem⟩:=hS.fin hr;have hLo:Lim o:=⟨fun x hx=>by have:=hDo x hx;omega,by have:=hS.1;omega⟩
    have hOB:OB wr w.heap.size (some ⟨w.heap.size,0,none⟩) l.length o:=kq hblk (zG _) hLo (by have:=hS.1;omega) (by unfold maxLen;omega);have ht:=kh _ _ _ _ _ hOB.rn hDo;have hOB':=hOB.trim32 hDo;rw[hv,hS.1]at ht;rw[hv]at hOB';have Ht:=zF ht;have Hrem:=zF hrem;clear hblk hLo ht hv hrem hOB hS hDo;go_wp2_with fail;refine Ht.out.mono ?_;rintro e w1 ⟨rfl,rfl⟩;go_wp2;go_ret2;exact⟨_,_,by rw[Hrem.out];rfl,hOB',hB⟩
  · obtain⟨ad,rfl,had,q1⟩:=(h.below hB hP).at_ (i:=j) (by omega);have hol:=hS.1;have hlj:=hDl.dgLt j;have q3:=hblk.cell (i:=j) (by omega);have q4:=hblk.free j;obtain⟨t,ht⟩:=eV (r*4294967296+dg l j);obtain⟨q,r',hr',he,hq⟩:∃ q r':Nat,r'<d∧t=d*q+r'∧q<4294967296:=by
     refine⟨t/d,t%d,qL _ hd,(jY _ d).symm,?_⟩;apply jI;have:(r+1)*4294967296≤d*4294967296:=qk _ hr;omega
    have htb:(t:Int)<18446744073709551616:=by omega
    have f0:(r:Int)*4294967296+(dg l j:Int)=(t:Int):=by omega
    have f1:(t:Int) /(d:Int)=(q:Int):=by
     rw[←uT,he,Nat.mul_add_div hd,qh hr',q9]
    have f2:(t:Int)%(d:Int)=(r':Int):=by
     rw[←Int.natCast_emod,he,Nat.mul_add_mod,zy hr']
    have f1':(t:Int).tdiv (d:Int)=(q:Int):=by rw[uG (by omega)];exact f1
    have f2':(t:Int).tmod (d:Int)=(r':Int):=by rw[Int.tmod_eq_emod_of_nonneg (by omega)];exact f2
    have hS':=hS.step (by omega) (by rw[ht];exact he);have hblk':=hblk.set j q;have hD':=hDo.set j q hq;have hB':=hB.setCell (p:=⟨w.heap.size,j,none⟩) (zG _) (.int .u64 (q:Int));have k1:(j:Int)<(l.length:Int):=by omega
    have k2:(r:Int)*4294967296<18446744073709551616:=by omega
    have k3:(q:Int)<18446744073709551616:=by omega
    have k4:(r':Int)<18446744073709551616:=by omega
    have Hs':=zF (xL j);clear he hS hblk hDo hB hol ht;go_wp2;go_roundw;case rel=>exact⟨j,r',_,o.set j q,rfl,Hs'.out,by go_num,by omega,hr',hS',hD',hblk',hB'⟩
    case measure=>simp[intOf]
theorem uf:(Tryz.prog.info? 65).map (·.size)=some 1:=by kernel_rfl
theorem sj {u W:List Nat}{k:Nat}(hu:Dig u)(hW:Dig W):Dig (uK u W k):=by
 intro x hx;rcases List.mem_append.1 hx with h|h
 · rcases List.mem_append.1 h with h|h
   · exact hu x (qM h)
   · exact hW x h
 · exact hu x (List.mem_of_mem_drop h)
theorem zCB (u W:List Nat)(k:Nat):(((nts u).toArray.toList.take k++nts W++(nts u).toArray.toList.drop (k+(nts W).length)).toArray)=(nts (uK u W k)).toArray:=by
 simp[nts,uK,List.map_take,List.map_drop]
theorem zBN (w:World)(g gw k n m cw:Nat)(u W:List Nat)(ty:TypeId)(hu:Blk w g u)(hw:Blk w gw W)(hn:W.length=n)(hk:k+n≤u.length)(hm:u.length-k=m) :
 (Builtin.copy_ #[28,28] ty #[.slice (some ⟨g,k,none⟩) m m,.slice (some ⟨gw,0,none⟩) n cw]).run Tryz.prog w=.ok (goInt n) (w.setRow g (nts (uK u W k)).toArray):=by
 have h:=run_copy_row (P:=Tryz.prog) w 28 28 ty 65 g k m m ⟨gw,0,none⟩ n cw (nts u).toArray 65 (nts W) Tryz.underlying28 uf hu
  (by rw[qf,hn];exact(qU (by omega)).symm) (fun j v hj=>by rw[yx,zQ hw j,zR];exact hj) (by rw[qf,hn];simp[nts];omega) (kj W)
 rw[zCB,qf,hn]at h
 exact h
theorem Blk.put {w:World}{g:Nat}{u:List Nat}(h:Blk w g u)(v:List Nat):Blk (w.setRow g (nts v).toArray) g v:=setRow_heap w g _ _ _ _ h
theorem wE.put {w w':World}{g:Nat}(h:wE g w w')(v:Array Value):wE g w (w'.setRow g v) :=
 ⟨h.os, h.tape, h.output, by have : (w'.setRow g v).heap.size = w'.heap.size := by simp [World.setRow]
                             exact this.trans h.size,fun k hk=>by
   have:(w'.setRow g v).heap[k]?=w'.heap[k]?:=by simp[World.setRow,vD,xO hk]
   exact this.trans (h.block k hk)⟩
structure Two (g g':Nat) (w w':World):Prop where
 os:w'.os=w.os
 tape:w'.tape=w.tape
 output:w'.output=w.output
 size:w'.heap.size=w.heap.size
 block:∀ k,k≠g→k≠g'→w'.heap[k]?=w.heap[k]?
theorem Two.below {g g' B:Nat}{w w':World}(h:Two g g' w w')(hg:B≤g)(hg':B≤g'):Below B w w':=⟨h.os,h.tape,h.output,Nat.le_of_eq h.size.symm,fun k hk=>h.block k (by omega) (by omega)⟩
theorem wE.two {g g':Nat}{w w' w'':World}(h:wE g' w w')(k:wE g w' w''):Two g g' w w'':=⟨k.os.trans h.os,k.tape.trans h.tape,k.output.trans h.output,k.size.trans h.size,fun i hi hi'=>(k.block i hi).trans (h.block i hi')⟩
theorem RN.two {g g':Nat}{w w':World}{P:Nat→Prop}{A:Option Addr}{c:Nat}{l:List Nat}(h:RN w P A c l)(ho:Two g g' w w')(hP:∀ b,P b→b≠g∧b≠g'):RN w' P A c l:=h.keep fun q hq=>qH (w:=w) (ho.block q.block (hP _ hq).1 (hP _ hq).2)
theorem pM (g v c b x:Nat)(hg:g<4294967296)(hv:v<4294967296)(hc:c<4294967296)(hb:b≤1)(hx:x<4294967296) :
 ∃ pr lo c' off y b':Nat,g*v=pr∧pr<18446744073709551616∧c+pr<18446744073709551616∧lo+4294967296*c'=c+pr∧(c+pr)%4294967296=lo∧(c+pr)/4294967296=c'∧c'<4294967296∧off=lo+b∧off≤4294967296∧y<4294967296∧b'≤1∧y+(lo+b)=x+4294967296*b'∧(b'=0↔¬ x<off):=by
 have hm:=yQ hg hv hc (show 0<4294967296 by omega)
 obtain⟨pr,hpr⟩:=eV (g*v)
 rw[hpr]at hm
 by_cases h:x<(c+pr)%4294967296+b
 · exact⟨pr,(c+pr)%4294967296,(c+pr)/4294967296,(c+pr)%4294967296+b,x+4294967296-((c+pr)%4294967296+b),1,hpr,by omega,by omega,by omega,rfl,rfl,by omega,rfl,by omega,by omega,by omega,by omega,by simp[h]⟩
 · exact⟨pr,(c+pr)%4294967296,(c+pr)/4294967296,(c+pr)%4294967296+b,x-((c+pr)%4294967296+b),0,hpr,by omega,by omega,by omega,rfl,rfl,by omega,rfl,by omega,by omega,by omega,by omega,by simp[h]⟩
theorem zAz (g gw k n m G:Nat)(P:Nat→Prop)(A:Option Addr)(c:Nat)(U V W:List Nat)(w:World)(hU:Blk w g U)(hW:Blk w gw W)(h:RN w P A c V)(hgg:g≠gw)(hP:∀ b,P b→b≠gw)(hDU:Dig U)(hDV:Dig V)(hUm:U.length=m)(hVn:V.length=n)(hWn:W.length=n+1)(hk:k+n+1≤m)(hm:m≤100000)(hG:G<4294967296)(hz:∀ j,k+n+1≤j→dg U j=0) :
 Calls Tryz.prog 112 #[.slice (some ⟨g,0,none⟩) m m,.slice A n c,.slice (some ⟨gw,0,none⟩) (n+1) (n+1),.int .i64 (k:Int),.int .u64 (G:Int)] w fun e w'=>∃ U' W',Blk w' g U'∧Dig U'∧U'.length=m∧Blk w' gw W'∧W'.length=n+1∧Two g gw w w' ∧
  ((e=.returned (.bool true)∧val 4294967296 U'+4294967296^k*(G*val 4294967296 V)=val 4294967296 U)∨(e=.returned (.bool false)∧U'=U∧val 4294967296 U /(4294967296^k*val 4294967296 V)<G)):=by
 obtain⟨h1,h2,h3⟩:=h.cap
 have hnc:n≤c:=by omega
 have Hz:=zF hz
 have HVn:=zF hVn
 have HUm:=zF hUm
 have Hgg:=zF hgg
 have HG:=zF hG
 have hn1:n≤100000:=by omega
 clear h1 h2 h3 hz hVn hUm hgg hG
 go_enter Tryz.func112,Tryz.ntmps112
 go_wp2
 go_loopw [12,13,14] (fun cv bv iv wr=>∃(i cr b:Nat) (o:List Nat),iv=.int .i64 (i:Int)∧cv=.int .u64 (cr:Int)∧bv=.int .u64 (b:Int)∧i≤n+1∧cr<4294967296∧b≤1∧(n<i→cr=0)∧yh 4294967296 U V o k G i cr b∧Dig (o.take i)∧Blk wr gw o∧wE gw w wr) (fun _ _ iv _=>n+1-(intOf iv).toNat)
 case atStart=>exact⟨0,0,0,W,rfl,rfl,rfl,by omega,by omega,by omega,by omega,yh.zero (by rw[HVn.out];exact hWn),by intro x hx;simp at hx,hW,wE.refl _ _⟩
 case round =>
  obtain⟨i,cr,b,o,rfl,rfl,rfl,hi,hcr,hb,hc0,hS,hDo,hbw,ho⟩:=hrel;have hol:=hS.1;rw[HVn.out]at hol;have hbu:Blk _ g U:=(ho.block g Hgg.out).trans hU;by_cases hle:i≤n
  · have hxU:=hDU.dgLt (k+i);have q1:=hbu.cell (i:=k+i) (by rw[HUm.out];omega);have q3:=hbw.cell (i:=i) (by omega);have q4:=hbw.free i;have k0:(k:Int)+(i:Int)<(m:Int):=by omega
    have k1:(i:Int)<(n:Int)+1:=by omega
    obtain⟨pr,lo,c',off,y,b',b1,b2,b3,b4,b5,b6,b7,b8,b9,b10,b11,b12,b13⟩:=pM G (dg V i) cr b (dg U (k+i)) HG.out (hDV.dgLt i) hcr hb hxU;have hS':=hS.step (x:=y) (c':=c') (b':=b') (lo:=lo) (by omega) (by rw[b1];exact b4) b12;have hblk':=hbw.set i y;have hD':Dig ((o.set i y).take (i+1)):=by
     rw[uU (by simpa using(by omega:i<o.length)),vm (by omega),List.take_set_of_le (by omega)];intro x hx;rcases List.mem_append.1 hx with h|h
     · exact hDo x h
     · rw[List.mem_singleton.1 h];exact b10
    have ho':=ho.setCell (p:=⟨gw,0,none⟩) (f:=0) rfl i (.int .u64 (y:Int));rw[yx]at ho';have e3:(lo:Int)+(b:Int)=(off:Int):=by omega
    have kx:(dg U (k+i):Int)<4294967296:=by omega
    have kp:(pr:Int)<18446744073709551616:=by omega
    have kc:(cr:Int)+(pr:Int)<18446744073709551616:=by omega
    have ko:(off:Int)≤4294967296:=by omega
    have hc':n<i+1→c'=0:=by
     intro hni;have hin:i=n:=by omega
     have:dg V i=0:=km (by rw[HVn.out];omega);rw[this,ja]at b1;omega
    have e1:((cr:Int)+(pr:Int))%4294967296=(lo:Int):=by omega
    have e2:((cr:Int)+(pr:Int))/4294967296=(c':Int):=by omega
    have Hb7:=zF b7;have Hhc:=zF hc';by_cases hlt:i<n
    · obtain⟨ad,rfl,_,q2⟩:=(h.only ho hP).at_ (i:=i) (by rw[HVn.out];exact hlt);have hpr:(dg V i:Int)*(G:Int)=(pr:Int):=by rw[←vW,zj,b1]
      rcases zT b' with h0|h0
      · have hxo:=b13.1 h0;have e4:(dg U (k+i):Int)-(off:Int)=(y:Int):=by omega
        subst h0;clear b1 b2 b3 b4 b5 b6 b7 b8 b9 b10 b12 b13 hS hDo hbw ho hol hbu hxU hcr hc' hc0;go_wp2;go_roundw;case rel=>exact⟨i+1,c',0,o.set i y,by go_num,by go_num,rfl,by omega,Hb7.out,by omega,Hhc.out,hS',hD',hblk',ho'⟩
        case measure=>simp[intOf];omega
      · have h01:b'=1:=by omega
        have hxo:dg U (k+i)<off:=by
         rcases qF (dg U (k+i)) off with h|h
         · exact h
         · have:=b13.2 (by omega);omega
        have e4:(dg U (k+i):Int)+4294967296-(off:Int)=(y:Int):=by omega
        subst h01;clear b1 b2 b3 b4 b5 b6 b7 b8 b9 b10 b12 b13 hS hDo hbw ho hol hbu hxU hcr hc' hc0;go_wp2;go_roundw;case rel=>exact⟨i+1,c',1,o.set i y,by go_num,by go_num,rfl,by omega,Hb7.out,by omega,Hhc.out,hS',hD',hblk',ho'⟩
        case measure=>simp[intOf];omega
    · have hin:i=n:=by omega
      have hv0:dg V i=0:=km (by rw[HVn.out];omega);rw[hv0,ja]at b1;have e1':(cr:Int)%4294967296=(lo:Int):=by omega
      have e2':(cr:Int)/4294967296=(c':Int):=by omega
      subst hin;rcases zT b' with h0|h0
      · have hxo:=b13.1 h0;have e4:(dg U (k+i):Int)-(off:Int)=(y:Int):=by omega
        subst h0;clear b1 b2 b3 b4 b5 b6 b7 b8 b9 b10 b12 b13 hS hDo hbw ho hol hbu hxU hcr hc' hc0 hv0 e1 e2;go_wp2;go_roundw;case rel=>exact⟨i+1,c',0,o.set i y,by go_num,by go_num,rfl,by omega,Hb7.out,by omega,Hhc.out,hS',hD',hblk',ho'⟩
        case measure=>simp[intOf]
      · have h01:b'=1:=by omega
        have hxo:dg U (k+i)<off:=by
         rcases qF (dg U (k+i)) off with h|h
         · exact h
         · have:=b13.2 (by omega);omega
        have e4:(dg U (k+i):Int)+4294967296-(off:Int)=(y:Int):=by omega
        subst h01;clear b1 b2 b3 b4 b5 b6 b7 b8 b9 b10 b12 b13 hS hDo hbw ho hol hbu hxU hcr hc' hc0 hv0 e1 e2;go_wp2;go_roundw;case rel=>exact⟨i+1,c',1,o.set i y,by go_num,by go_num,rfl,by omega,Hb7.out,by omega,Hhc.out,hS',hD',hblk',ho'⟩
        case measure=>simp[intOf]
  · have hin:i=n+1:=by omega
    have hcz:=hc0 (by omega);subst hin hcz;have hDo':Dig o:=by rwa [zx (by omega)]at hDo
    rw[←hol]at hS;have hkl:k+o.length≤U.length:=by rw[HUm.out];omega
    have hle':¬(n:Int)+1≤(n:Int):=by omega
    rcases zT b with h0|h0
    · subst h0;have hy:=zF (hS.yes hkl);have hcp:=zBN _ g gw k (n+1) (m-k) (n+1) U o 3 hbu hbw hol (by rw[HUm.out];omega) (by rw[HUm.out]);have Hol:=zF hol;have Hkl:=zF hkl;clear hol hkl hS hDo;have hbu2:=hbu.put (uK U o k);have hbw2:Blk (World.setRow _ g (nts (uK U o k)).toArray) gw o:=((wE.refl g _).put _|>.block gw (xO Hgg.out)).trans hbw;have htwo:=ho.two ((wE.refl g _).put (nts (uK U o k)).toArray);go_wp2;go_ret;exact⟨uK U o k,hbu2,sj hDU hDo',(mD Hkl.out).trans HUm.out,o,hbw2,Hol.out,htwo,.inl ⟨rfl,hy.out⟩⟩
    · have hb1:b=1:=by omega
      subst hb1;have hno:=zF (hS.no hDo' hDU (fun j hj=>Hz.out j (by omega)) hkl);have Hol:=zF hol;clear hS hDo hol hkl;go_wp2;go_ret;exact⟨U,hbu,hDU,HUm.out,o,hbw,Hol.out,(wE.refl g _|>fun r=>ho.two r),.inr ⟨rfl,rfl,hno.out⟩⟩
structure jQ (g:Nat) (w w':World):Prop where
 os:w'.os=w.os
 tape:w'.tape=w.tape
 output:w'.output=w.output
 size:w.heap.size≤w'.heap.size
 block:∀ b,b<w.heap.size→b≠g→w'.heap[b]?=w.heap[b]?
theorem jQ.refl (g:Nat)(w:World):jQ g w w:=⟨rfl,rfl,rfl,zG _,fun _ _ _=>rfl⟩
theorem jQ.trans {g:Nat}{a b c:World}(h:jQ g a b)(k:jQ g b c):jQ g a c :=
 ⟨k.os.trans h.os,k.tape.trans h.tape,k.output.trans h.output,zK h.size k.size,fun i hi hn=>(k.block i (zI hi h.size) hn).trans (h.block i hi hn)⟩
theorem jQ.set {g:Nat}{a b:World}(h:jQ g a b)(i:Nat)(v:Value):jQ g a (b.setCell ⟨g,i,none⟩ v) :=
 ⟨h.os,h.tape,h.output,by simpa[World.setCell]using h.size,fun j hj hn=>(je _ _ _ _ (by exact hn)).trans (h.block j hj hn)⟩
theorem jQ.drewN {g:Nat}{a b:World}(h:jQ g a b)(n:Nat):jQ g a (b.drewN n):=⟨h.os,h.tape,h.output,h.size,h.block⟩
theorem jQ.cell {g:Nat}{w w':World}(h:jQ g w w'){p:Addr}(hp:p.block<w.heap.size)(hn:p.block≠g):w'.cell? p=w.cell? p:=qH (h.block _ hp hn)
theorem jQ.of_below {g B:Nat}{w w':World}(h:Below B w w')(hB:w.heap.size≤B):jQ g w w':=⟨h.os,h.tape,h.output,h.size,fun b hb _=>h.block b (zI hb hB)⟩
theorem jQ.below {g B:Nat}{w w':World}(h:jQ g w w')(hB:B≤g)(hw:B≤w.heap.size):Below B w w':=⟨h.os,h.tape,h.output,h.size,fun b hb=>h.block b (zI hb hw) (by omega)⟩
theorem RN.just {w w':World}{g:Nat}{P:Nat→Prop}{A:Option Addr}{c:Nat}{l:List Nat}(h:RN w P A c l)(hj:jQ g w w')(hP:∀ b,P b→b<w.heap.size∧b≠g):RN w' P A c l :=
 h.keep fun _ hp=>hj.cell (hP _ hp).1 (hP _ hp).2
theorem fD {B g:Nat}{w w':World}(h:Below B w w')(hg:B≤g)(v:Array Value):Below B w (w'.setRow g v) :=
 ⟨h.os, h.tape, h.output, by have : (w'.setRow g v).heap.size = w'.heap.size := by simp [World.setRow]
                             rw[this];exact h.size,fun k hk=>by
   have:(w'.setRow g v).heap[k]?=w'.heap[k]?:=by simp[World.setRow,vD,show ¬ g=k by omega]
   exact this.trans (h.block k hk)⟩
def dE (v M:Nat):Nat:=if v<M then v else v-M
structure ba (B M:Nat) (a b t:List Nat) (i n:Nat):Prop where
 len:t.length=n+2
 top:dg t (n+1)=0
 bound:val B t<M+val B b
 cong:∃ k,val B t*B^i=val B (a.take i)*val B b+k*M
theorem ba.zero {B M:Nat}(a b:List Nat)(n:Nat)(hM:0<M):ba B M a b (List.replicate (n+2) 0) 0 n :=
 ⟨by simp,by rw[dg,qA,List.getElem?_replicate];split<;>rfl,by rw[kt];omega,0,by simp[kt]⟩
theorem dY {B:Nat}{t:List Nat}(ht:∀ x∈t,x<B)(_hB:0<B):val B t%B=dg t 0:=by
 cases t with
 | nil=>simp[dg]
 | cons x l=>rw[jr,qm,zy (ht x (by simp))];rfl
/-! What a round does to the numbers. -/
theorem oB {B M inv d q v:Nat}(hi:(inv*M+1)%B=0)(hv:v%B=d)(hq:q=d*inv%B):(v+q*M)%B=0:=by
 have h1:(v+q*M)%B=(d*(inv*M+1))%B:=by
  subst hq hv;rw[zf,jO,vv,yN,←za,vp (v%B*inv*M),Nat.add_mod_mod]
 rw[h1,ks,hi];simp
theorem rZ {M t0 ai b q t2 Bi A A' k:Nat}(h2:t2=t0+ai*b+q*M)(hk:t0*Bi=A*b+k*M)(hA:A'=A+Bi*ai):t2*Bi=A'*b+(k+q*Bi)*M:=by
 subst h2 hA;rw[qY,qY,hk,qY,qY];have e1:ai*b*Bi=Bi*ai*b:=by rw[zj Bi ai,za,za,zj b Bi]
 have e2:q*M*Bi=q*Bi*M:=by rw[za,za,zj M Bi]
 omega
theorem bH {B M t0 ai b q t2 t4:Nat}(hB:0<B)(h2:t2=t0+ai*b+q*M)(hb:t0<M+b)(ha:ai<B)(hq:q<B)(h4:t2=B*t4):t4<M+b:=by
 have e1:ai*b≤(B-1)*b:=qk _ (by omega);have e2:q*M≤(B-1)*M:=qk _ (by omega);have e3:(B-1)*b+b=B*b:=by rw[←Nat.succ_mul,Nat.succ_eq_add_one,Nat.sub_add_cancel hB]
 have e4:(B-1)*M+M=B*M:=by rw[←Nat.succ_mul,Nat.succ_eq_add_one,Nat.sub_add_cancel hB]
 have e5:B*t4<B*(M+b):=by rw[zf,←h4];omega
 exact Nat.lt_of_mul_lt_mul_left e5
theorem ba.step {B M inv n i q:Nat}{a b t t2:List Nat}(hB:2≤B)(h:ba B M a b t i n)(ha:dg a i<B)(hi:(inv*M+1)%B=0)(hl2:t2.length=n+2)(hlim:∀ x∈t2,x<B)
 (hq:q=(val B t+dg a i*val B b)%B*inv%B) (hv2:val B t2=val B t+dg a i*val B b+q*M):ba B M a b (t2.drop 1++[0]) (i+1) n:=by
 have h0:val B t2%B=0:=by rw[hv2];exact oB hi rfl hq
 have hq':q<B:=by rw[hq];exact qL _ (by omega)
 obtain⟨x,l,rfl⟩:∃ x l,t2=x::l:=by
  cases t2 with
  | nil=>simp at hl2
  | cons x l=>exact⟨x,l,rfl⟩
 rw[dY hlim (by omega)]at h0
 have hx:x=0:=h0
 subst hx
 have hlen:l.length=n+1:=by simpa using hl2
 have e4:val B (0::l)=B*val B l:=by rw[jr];omega
 have e5:val B ((0::l).drop 1++[0])=val B l:=by simp[kQ]
 obtain⟨k,hk⟩:=h.cong
 refine⟨by simp[hlen],?_,?_,k+q*B^i,?_⟩
 · simp[dg,hlen]
 · rw[e5];exact bH (by omega) hv2 h.bound ha hq' e4
 · rw[e5,zp,show val B l*(B^i*B)=(B*val B l)*B^i by rw[zj (B^i),←za,zj (val B l)],←e4];exact rZ hv2 hk (qC B a i)
theorem rS {v M:Nat}(h:v<2*M):dE v M<M:=by rw[dE];split<;>omega
theorem zAh {v M R x k:Nat}(h:v*R=x+k*M):dE v M*R%M=x%M:=by
 have h1:v*R%M=x%M:=by rw[h,wF]
 rw[dE];split
 · exact h1
 · rename_i hge;rw[←h1];have:v*R=(v-M)*R+R*M:=by rw[zj R M,←qY,Nat.sub_add_cancel (by omega)]
   rw[this,wF]
theorem ti (x y:Nat):IntKind.u64.wrap ((x:Int)*(y:Int))=((x*y%18446744073709551616:Nat):Int):=by
 rw[wi,←vW];omega
theorem cG {B M inv n a b:Nat}(hi:(inv*M+1)%B=0)(h:a*B^n%M=b*B^n%M):a%M=b%M:=by
 obtain⟨u,hu⟩:∃ u,inv*M+1=B*u:=⟨(inv*M+1)/B,by have:=jY (inv*M+1) B;omega⟩
 have h1:∀ x,x*(B*u)%M=x%M:=fun x=>by rw[←hu,zf,jO,←za,vp,wF]
 have h2:∀ k x,x*B^k*u^k%M=x%M:=by
   intro k;induction k with
   | zero=>intro x;simp
   | succ k ih =>
     intro x;have e:x*B ^(k+1)*u ^(k+1)=(x*(B*u))*B^k*u^k:=by
       rw[zp,zp];simp only[za,zj,jR]
     rw[e,ih,h1]
 rw[←h2 n a,←h2 n b,ks,h,←ks]
theorem zDm {m y y' t z:Int}{k j:Nat}(hy:m*y=1+2^k*t)(h':y'=y*(2-m*y)+18446744073709551616*z)(hj:k+k+j=64):∃ s,m*y'=1+2 ^(k+k)*s:=by
 refine⟨-(t*t)+m*2^j*z,?_⟩;have e1:m*y'=m*y*(2-m*y)+m*18446744073709551616*z:=by rw[h',Int.mul_add,←Int.mul_assoc,←Int.mul_assoc]
 have e2:(18446744073709551616:Int)=2 ^(k+k)*2^j:=by rw[←Int.pow_add,hj];rfl
 rw[e1,hy,e2,Int.pow_add];generalize(2:Int)^k=p;generalize(2:Int)^j=r;grind
theorem n7 {m y:Int} : ∃ z,(y*((2-m*y%18446744073709551616)%18446744073709551616))%18446744073709551616=y*(2-m*y)+18446744073709551616*z:=by
 have e1:=Int.mul_ediv_add_emod (m*y) 18446744073709551616;have e2:=Int.mul_ediv_add_emod (2-m*y%18446744073709551616) 18446744073709551616;have e3:=Int.mul_ediv_add_emod (y*((2-m*y%18446744073709551616)%18446744073709551616)) 18446744073709551616;generalize(2-m*y%18446744073709551616)/18446744073709551616=d2 at *;generalize(y*((2-m*y%18446744073709551616)%18446744073709551616))/18446744073709551616=d3 at *;generalize(y*((2-m*y%18446744073709551616)%18446744073709551616))%18446744073709551616=r3 at *;generalize(2-m*y%18446744073709551616)%18446744073709551616=r2 at *;generalize(m*y)/18446744073709551616=d1 at *;generalize(m*y)%18446744073709551616=r1 at *;refine⟨y*d1-y*d2-d3,?_⟩;grind
theorem zCG {m0 M:Nat}{y:Int}{t:Int}(hm:M%18446744073709551616=m0)(h:(m0:Int)*y=1+18446744073709551616*t):((((-y)%18446744073709551616).toNat)*M+1)%18446744073709551616=0:=by
 have e1:=Int.mul_ediv_add_emod (-y) 18446744073709551616;have h0:0≤(-y)%18446744073709551616:=Int.emod_nonneg _ (by decide);obtain⟨v,hv⟩:∃ v:Nat,(-y)%18446744073709551616=(v:Int):=⟨_,(Int.toNat_of_nonneg h0).symm⟩
 rw[hv]at e1 ⊢;rw[yj];obtain⟨q,hq⟩:∃ q,M=m0+18446744073709551616*q:=⟨M/18446744073709551616,by omega⟩
 have e2:((v*M+1:Nat):Int)=18446744073709551616*((v:Int)*q-t-(m0:Int)*((-y)/18446744073709551616)):=by
  rw[hq];simp only[vX,vW,qW];generalize(-y)/18446744073709551616=d at *;grind
 omega
def nl (M:Nat):Nat:=(digs 18446744073709551616 M).length
theorem dj (B:Nat)(a:List Nat)(k:Nat):val B (a++List.replicate k 0)=val B a:=by rw[kQ,kt,ja,q9]
theorem jM {w:World}{g:Nat}{t:TypeId}{cs:Array Value}(h:w.heap[g]?=some (.cells cs t (0,0)))(i:Nat)(u:Value):(w.setCell ⟨g,i,none⟩ u).heap[g]?=some (.cells (cs.setIfInBounds i u) t (0,0)):=by
 simp[World.setCell,vD,h]
end Go.Proofs.YtaemogcomplhiaaGreatDoor
namespace Go.Proofs.YtaemogcomplhiaaGreatDoor
theorem jk:type_of% @jQ.refl:=@jQ.refl
end Go.Proofs.YtaemogcomplhiaaGreatDoor
namespace Go.Proofs.YtaemogcomplhiaaGreatDoor
open Go.RowKit
theorem Ext.drewN (w:World)(n:Nat):Ext w (w.drewN n):=jC (zl _ w) n
theorem jJ {op:Oper}{a:Act}{X:World}{K:Act→World→Prop}{Q:Exit→Act→World→Prop}(ty:TypeId)(x y:Operand)(ho:op.op=.store ty x y)(hd:op.dst=none){b:Nat}{cs cs':Array Value}{t:TypeId}
 (hx:a.eval x=.pointer (some ⟨b,0,none⟩)) (hy:a.eval y=.agg cs') (hg:X.heap[b]?=some (.cells cs t (0,0))) (hi:(Tryz.prog.info? ty).map (·.size)=some cs'.size) (hold:cs.size=cs'.size) (h1:cs'.all (·.oneCell')=true)
 (hK:∀ Y,Y.heap[b]?=some (.cells cs' t (0,0))→jQ b X Y→Y.heap.size=X.heap.size→K a Y):op.wp Tryz.prog a X K Q:=by
 refine wp_store_row ty x y ho b cs' hx hy t cs hg hi hold h1 ?_
 rw[hd]
 exact hK _ (Go.setRow_heap X b cs cs' t _ hg) ⟨rfl,rfl,rfl,by simp[World.setRow],fun k _ hk=>Go.setRow_other X b k cs' hk⟩ (by simp[World.setRow])
theorem kB {op:Oper}{a:Act}{X:World}{K:Act→World→Prop}{Q:Exit→Act→World→Prop}(ty:TypeId)(x:Operand)(ho:op.op=.load ty x){b:Nat}{cs:Array Value}{t:TypeId}{d:TypeDesc}(hx:a.eval x=.pointer (some ⟨b,0,none⟩))(hg:X.heap[b]?=some (.cells cs t (0,0)))
 (hu:Tryz.prog.underlying ty=some d) (hd:d.isRow=true) (hi:(Tryz.prog.info? ty).map (·.size)=some cs.size) {v:Value} (hv:v=.agg cs) (hK:K (a.put op.dst v) X):op.wp Tryz.prog a X K Q :=
 wp_load_row ty x ho b hx t cs (0,0) d hg hu (by cases d<;>first|rfl|exact hd) hi (by rw[←hv];exact hK)
theorem jQ.ext {b:Nat}{w X Y:World}(h:jQ b X Y)(hE:Ext w X)(hb:w.heap.size≤b):Ext w Y:=kG hE (h.below hb hE.bsize)
theorem jQ.at_ {b c:Nat}{X Y:World}{o:Obj}(h:jQ b X Y)(hc:c≠b)(hx:X.heap[c]?=some o):Y.heap[c]?=some o:=(h.block c (qr hx) hc).trans hx
section
variable {Q:Exit→Act→World→Prop} {ol:List Oper} {m:Nat} {L AL:List Nat} {R:Nat→(Nat→Value)→World→Prop} {a:Act} {w:World} {F:List Oper→Prop} {k n:Nat} {o:Oper} {l:List Oper} {u:Value}
theorem dS {X:World}{b:Nat}{cs:Array Value}{t ty:TypeId}(hg:X.heap[b]?=some (.cells cs t (0,0)))(hd:(Tryz.prog.underlying ty).any (·.isRow)=true)(hi:(Tryz.prog.info? ty).map (·.size)=some cs.size):(Instr.loadAt ty (.pointer (some ⟨b,0,none⟩))).run Tryz.prog X=.ok (.agg cs) X:=by
 obtain⟨d,hu,h2⟩:∃ d,Tryz.prog.underlying ty=some d∧d.isRow=true:=by
  cases h:Tryz.prog.underlying ty with
  | none=>rw[h]at hd;cases hd
  | some d=>rw[h]at hd;exact⟨d,rfl,hd⟩
 unfold Instr.loadAt;simp only[vC];rw[show(Instr.sureAddr (.pointer (some ⟨b,0,none⟩))).run Tryz.prog X=.ok ⟨b,0,none⟩ X from rfl,qw];exact run_loadVar_row X b t ty cs (0,0) d hg hu (by cases d<;>first|rfl|exact h2) hi
theorem lV0 (k' n':Nat){b:Nat}{cs:Array Value}{t ty:TypeId}{x:Operand}(hg:w.heap[b]?=some (.cells cs t (0,0)))(hi:(Tryz.prog.info? ty).map (·.size)=some cs.size)(hs:Par.qT (Par.jP Tryz.prog ol Q Ext m L AL R a w) F k' n' l)(hR:∀ f X,f k=.agg cs→R k (Par.qj (fun i=>L.getD i 0) k f) X:=by exact fun _ _ h=>h)(hk:k+1=k':=by rfl)(hn:n'+1=n:=by rfl)(ha:AL.contains k=false:=by kernel_rfl)
 (hw:∀ f,Region.wanted o (yielded ol.toArray (Par.put ol.toArray (Par.nd (fun i=>L.getD i 0) k) f (List.range m) a).tmps)=true:=by intro _;kernel_rfl)
 (ho:o.op=.load ty x:=by rfl) (hx:∀ f,(Par.put ol.toArray (Par.nd (fun i=>L.getD i 0) k) f (List.range m) a).eval x=.pointer (some ⟨b,0,none⟩):=by intro _;kernel_rfl) (hd:(Tryz.prog.underlying ty).any (·.isRow)=true:=by kernel_rfl):Par.qT (Par.jP Tryz.prog ol Q Ext m L AL R a w) F k n (o::l) :=
 Par.vx (fun f=>f) hs (fun _ _ _=>rfl) hR hk hn ha hw (fun f X hX=>by
  unfold execOp
  simp only[ho,vC,hx,dS (hX.at_ hg) hd hi,qw]
  rfl)
theorem lV1 (k' n' j:Nat){b:Nat}{cs:Array Value}{t ty:TypeId}{x:Operand}(hg:w.heap[b]?=some (.cells cs t (0,0)))(hi:(Tryz.prog.info? ty).map (·.size)=some cs.size)(hs:Par.qT (Par.jP Tryz.prog ol Q Ext m L AL R a w) F k' n' l)(hr:∀ f X,R j (Par.qj (fun i=>L.getD i 0) j f) X→f j=u:=by exact fun _ _ h=>h)(hR:∀ f X,f k=.agg cs→R k (Par.qj (fun i=>L.getD i 0) k f) X:=by exact fun _ _ h=>h)(hk:k+1=k':=by rfl)(hn:n'+1=n:=by rfl)(ha:AL.contains k=false:=by kernel_rfl)
 (hj:(L.getD k 0).testBit j=true:=by kernel_rfl)
 (hw:∀ f,Region.wanted o (yielded ol.toArray (Par.put ol.toArray (Par.nd (fun i=>L.getD i 0) k) (Par.upd f j u) (List.range m) a).tmps)=true:=by intro _;kernel_rfl)
 (ho:o.op=.load ty x:=by rfl) (hx:∀ f,(Par.put ol.toArray (Par.nd (fun i=>L.getD i 0) k) (Par.upd f j u) (List.range m) a).eval x=.pointer (some ⟨b,0,none⟩):=by intro _;kernel_rfl) (hd:(Tryz.prog.underlying ty).any (·.isRow)=true:=by kernel_rfl):Par.qT (Par.jP Tryz.prog ol Q Ext m L AL R a w) F k n (o::l) :=
 Par.vx (fun f=>Par.upd f j u) hs (fun f X h=>Par.xj (hr f X (h j hj))) hR hk hn ha hw (fun f X hX=>by
  unfold execOp
  simp only[ho,vC,hx,dS (hX.at_ hg) hd hi,qw]
  rfl)
end
end Go.Proofs.YtaemogcomplhiaaGreatDoor
namespace Go.Proofs.YtaemogcomplhiaaGreatDoor
theorem kW:type_of% @Ext.drewN:=@Ext.drewN
end Go.Proofs.YtaemogcomplhiaaGreatDoor
namespace Go.Proofs.YtaemogcomplhiaaGreatDoor
open Go.RowKit
def EV (l:List Nat):Value:=.agg (nts l).toArray
theorem six {l:List Nat}(h:l.length=6):∃ a b c d e f,l=[a,b,c,d,e,f]:=by
 match l,h with
 | [a,b,c,d,e,f],_=>exact⟨a,b,c,d,e,f,rfl⟩
theorem zBA (a b c d e f:Nat)(w:World):(Op.equalIn 10000 109 (.agg #[.int .u64 (a:Int),.int .u64 (b:Int),.int .u64 (c:Int),.int .u64 (d:Int),.int .u64 (e:Int),.int .u64 (f:Int)]) (.agg #[.int .u64 0,.int .u64 0,.int .u64 0,.int .u64 0,.int .u64 0,.int .u64 0])).run Tryz.prog w =
 .ok (decide ([a,b,c,d,e,f]=[0,0,0,0,0,0])) w:=by
 obtain⟨i0,hi,hz0,hz1,hz2⟩:=info_parts kS
 have hc:Tryz.prog.cellsOf 65=1:=by kernel_rfl
 rw[show(10000:Nat)=9999+1 by rfl,run_equalIn_array _ _ _ _ Tryz.underlying109 hi,hc]
 rw[show List.range 6=[0,1,2,3,4,5] by rfl]
 have he:∀ x y:Int,(Op.equalIn 9999 65 (.int .u64 x) (.int .u64 y)).run Tryz.prog w=.ok (x==y) w:=fun x y=>run_equalIn_int w 9998 _ .u64 .u64 x y Tryz.underlying65
 have hp:∀(xs:Array Value) (j:Nat) (x:Value),xs[j]?=some x→(part 65 xs j).run Tryz.prog w=.ok x w:=fun xs j x h=>by
  simp[part,h,go_sem]
 have hs:∀(xs ys:Array Value) (j:Nat) (x y:Int) (is:List Nat),xs[j]?=some (.int .u64 x)→ys[j]?=some (.int .u64 y) →
  (Op.eqItems 9999 65 1 xs ys (j::is)).run Tryz.prog w=if x=y then(Op.eqItems 9999 65 1 xs ys is).run Tryz.prog w else .ok false w:=by
  intro xs ys j x y is h1 h2
  have p1:=hp xs j _ h1
  have p2:=hp ys j _ h2
  simp only[Op.eqItems,vC,jO,p1,p2,he,qw]
  by_cases hxy:x=y
  · simp[hxy]
  · simp[hxy]
 rw[hs _ _ 0 a 0 _ rfl rfl,hs _ _ 1 b 0 _ rfl rfl,hs _ _ 2 c 0 _ rfl rfl,hs _ _ 3 d 0 _ rfl rfl,hs _ _ 4 e 0 _ rfl rfl,hs _ _ 5 f 0 _ rfl rfl]
 have hn:(Op.eqItems 9999 65 1 #[.int .u64 (a:Int),.int .u64 (b:Int),.int .u64 (c:Int),.int .u64 (d:Int),.int .u64 (e:Int),.int .u64 (f:Int)] #[.int .u64 0,.int .u64 0,.int .u64 0,.int .u64 0,.int .u64 0,.int .u64 0] []).run Tryz.prog w=.ok true w:=by simp[Op.eqItems]
 rw[hn]
 have hd:decide ([a,b,c,d,e,f]=[0,0,0,0,0,0])=decide ((a:Int)=0∧(b:Int)=0∧(c:Int)=0∧(d:Int)=0∧(e:Int)=0∧(f:Int)=0):=by
  rw[decide_eq_decide];simp
 rw[hd]
 by_cases h1:(a:Int)=0<;>by_cases h2:(b:Int)=0<;>by_cases h3:(c:Int)=0<;>by_cases h4:(d:Int)=0<;>by_cases h5:(e:Int)=0<;>by_cases h6:(f:Int)=0<;>simp only[h1,h2,h3,h4,h5,h6,if_true,yL,and_self,and_true,and_false,decide_true,decide_false]
theorem vF (l:List Nat)(w:World)(hl:l.length=6):Calls Tryz.prog 104 #[EV l] w fun e w'=>e=.returned (.bool (decide (l=[0,0,0,0,0,0])))∧Below w.heap.size w w':=by
 obtain⟨a,b,c,d,e,f,rfl⟩:=six hl;simp only[EV,nts,List.map_cons,List.map_nil];have heq:=zBA a b c d e f;generalize decide ([a,b,c,d,e,f]=[0,0,0,0,0,0])=r at *;go_enter Tryz.func104,Tryz.ntmps104;go_wp2;go_ret;exact⟨rfl,(zl _ w).alloc (zG _) _⟩
end Go.Proofs.YtaemogcomplhiaaGreatDoor
namespace Go.Proofs.YtaemogcomplhiaaGreatDoor
def da (B M:Nat) (a b:List Nat) (T i:Nat):Prop:=T<M+val B b∧∃ k,T*B^i=val B (a.take i)*val B b+k*M
theorem da.zero {B M:Nat}(a b:List Nat)(hM:0<M):da B M a b 0 0:=⟨by omega,0,by simp⟩
theorem da.step {B M inv i q T T2 T4:Nat}{a b:List Nat}(hB:2≤B)(h:da B M a b T i)(ha:dg a i<B)(hq:q=(T+dg a i*val B b)%B*inv%B)(h2:T2=T+dg a i*val B b+q*M)(h4:T2=B*T4):da B M a b T4 (i+1):=by
 have hq':q<B:=by rw[hq];exact qL _ (by omega)
 obtain⟨hb,k,hk⟩:=h;refine⟨bH (by omega) h2 hb ha hq' h4,k+q*B^i,?_⟩;rw[zp,show T4*(B^i*B)=(B*T4)*B^i by rw[zj (B^i),←za,zj T4],←h4];exact rZ h2 hk (qC B a i)
def yK (B:Nat) (t b o:List Nat) (f j c:Nat):Prop:=o.length=t.length∧(∀ p,j≤p→dg o p=dg t p)∧val B (o.take j)+B^j*c=val B (t.take j)+f*val B (b.take j)
theorem yK.zero (B:Nat)(t b:List Nat)(f:Nat):yK B t b t f 0 0:=⟨rfl,fun _ _=>rfl,by simp⟩
theorem yK.step {B f j c s c':Nat}{t b o:List Nat}(h:yK B t b o f j c)(hj:j<t.length)(he:s+B*c'=dg o j+f*dg b j+c):yK B t b (o.set j s) f (j+1) c':=by
 obtain⟨h1,h2,h3⟩:=h;refine⟨by simpa using h1,fun p hp=>by rw[getD_set_ne (by omega)];exact h2 p (by omega),?_⟩;rw[jc B (by omega),qC,qC,zp,za];have e:=congrArg (fun z=>B^j*z) he;simp only[zf]at e;rw[h2 j (zG _)]at e;have e2:B^j*(f*dg b j)=f*(B^j*dg b j):=jR _ _ _;rw[zf f];omega
theorem yK.fin {B f n c s c':Nat}{t b o:List Nat}(h:yK B t b o f n c)(hn:n+2≤t.length)(hb:b.take n=b∨val B (b.take n)=val B b)(he:s+B*c'=dg o n+c) :
   ((o.set n s).set (n+1) c').length=t.length∧val B (((o.set n s).set (n+1) c').take (n+2))=val B (t.take (n+1))+f*val B b:=by
 obtain⟨h1,h2,h3⟩:=h
 have hb' : val B (b.take n) = val B b := by rcases hb with h | h; · rw [h]
                                             · exact h
 refine⟨by simpa using h1,?_⟩;rw[jc B (by simp;omega),jc B (by omega),qC B t n,zp];have e:=congrArg (fun z=>B^n*z) he;simp only[zf]at e;rw[h2 n (zG _),←za]at e;rw[hb']at h3;omega
def yJ (B:Nat) (t m o:List Nat) (u k c:Nat):Prop:=o.length=t.length∧(∀ p,k≤p→dg o p=dg t p)∧B*val B (o.take k)+B ^(k+1)*c=val B (t.take (k+1))+u*val B (m.take (k+1))
theorem yJ.zero {B u c:Nat}{t m:List Nat}(he:B*c=dg t 0+u*dg m 0):yJ B t m t u 0 c:=by
 refine⟨rfl,fun _ _=>rfl,?_⟩;rw[qC,qC];simp;exact he
theorem yJ.step {B u k c s c':Nat}{t m o:List Nat}(h:yJ B t m o u k c)(hk:k<t.length)(he:s+B*c'=dg o (k+1)+u*dg m (k+1)+c):yJ B t m (o.set k s) u (k+1) c':=by
 obtain⟨h1,h2,h3⟩:=h;refine⟨by simpa using h1,fun p hp=>by rw[getD_set_ne (by omega)];exact h2 p (by omega),?_⟩;rw[jc B (by omega),qC B t (k+1),qC B m (k+1)];have e:=congrArg (fun z=>B ^(k+1)*z) he;simp only[zf]at e;rw[h2 (k+1) (by omega)]at e;have e2:B ^(k+1)*(u*dg m (k+1))=u*(B ^(k+1)*dg m (k+1)):=jR _ _ _;have e3:B ^(k+1)*(B*c')=B ^(k+1+1)*c':=by rw[←za,←zp]
 have e4:B*(B^k*s)=B ^(k+1)*s:=by rw[←za,zj B,←zp]
 rw[zf B,zf u,e4];omega
theorem yJ.fin {B u k c s c':Nat}{t m o:List Nat}(h:yJ B t m o u k c)(hn:k+3≤t.length)(hm:val B (m.take (k+1))=val B m)(he:s+B*c'=dg o (k+1)+c) :
 ((o.set k s).set (k+1) (dg o (k+2)+c')).length=t.length∧B*val B (((o.set k s).set (k+1) (dg o (k+2)+c')).take (k+2))=val B (t.take (k+3))+u*val B m:=by
 obtain⟨h1,h2,h3⟩:=h
 refine⟨by simpa using h1,?_⟩
 rw[jc B (by simp;omega),jc B (by omega),qC B t (k+2),qC B t (k+1),h2 (k+2) (by omega)]
 have e:=congrArg (fun z=>B ^(k+1)*z) he
 simp only[zf]at e
 rw[h2 (k+1) (by omega)]at e
 rw[hm]at h3
 have e3:B ^(k+1)*(B*c')=B ^(k+2)*c':=by rw[←za,←zp]
 have e4:B*(B^k*s)=B ^(k+1)*s:=by rw[←za,zj B,←zp]
 have e5:B*(B ^(k+1)*(dg t (k+2)+c'))=B ^(k+2)*dg t (k+2)+B ^(k+2)*c':=by rw[←za,zj B,←zp,zf]
 rw[zf B,zf B,e4,e5]
 omega
end Go.Proofs.YtaemogcomplhiaaGreatDoor
namespace Go.Proofs.YtaemogcomplhiaaGreatDoor
open Go.RowKit
def kT (n inv:Nat) (ml ol rl:List Nat):List Value:=.int .i64 (n:Int)::(nts ml++.int .u64 (inv:Int)::(nts ol++nts rl))
structure Fld (w:World) (g n inv:Nat) (ml ol rl:List Nat):Prop where
 blk:w.heap[g]?=some (.cells (kT n inv ml ol rl).toArray 165 (0,0))
 m6:ml.length=6
 o6:ol.length=6
 r6:rl.length=6
variable {w w':World} {g n inv:Nat} {ml ol rl:List Nat}
theorem Fld.below {B:Nat}(h:Fld w g n inv ml ol rl)(hb:Below B w w')(hg:g<B):Fld w' g n inv ml ol rl:=⟨(hb.block g hg).trans h.blk,h.m6,h.o6,h.r6⟩
theorem Fld.lt (h:Fld w g n inv ml ol rl):g<w.heap.size:=qr h.blk
theorem Fld.n0 (h:Fld w g n inv ml ol rl):w.cell? ⟨g,0,none⟩=some (.int .i64 (n:Int)):=by
 rw[zQ h.blk 0];rfl
theorem Fld.inv_ (h:Fld w g n inv ml ol rl):w.cell? ⟨g,7,none⟩=some (.int .u64 (inv:Int)):=by
 rw[zQ h.blk 7];obtain⟨a,b,c,d,e,f,rfl⟩:=six h.m6;rfl
theorem Fld.m_ (h:Fld w g n inv ml ol rl){j:Nat}(hj:j<6):w.cell? ⟨g,1+j,none⟩=some (.int .u64 (dg ml j:Int)):=by
 rw[zQ h.blk (1+j)];obtain⟨a,b,c,d,e,f,rfl⟩:=six h.m6;match j,hj with
 | 0,_|1,_|2,_|3,_|4,_|5,_=>rfl
def vg (w:World) (g:Nat) (ty:TypeId) (l:List Nat):Prop:=w.heap[g]?=some (.cells (nts l).toArray ty (0,0))
theorem vg.cell {ty:TypeId}{l:List Nat}(h:vg w g ty l){i:Nat}(hi:i<l.length):w.cell? ⟨g,i,none⟩=some (.int .u64 (dg l i:Int)):=by
 rw[zQ h i,zR,ub hi]
theorem vg.free {ty:TypeId}{l:List Nat}(h:vg w g ty l)(i:Nat):w.frozen? ⟨g,i,none⟩=false:=qu h i
theorem vg.set {ty:TypeId}{l:List Nat}(h:vg w g ty l)(i x:Nat):vg (w.setCell ⟨g,i,none⟩ (.int .u64 (x:Int))) g ty (l.set i x):=by
 have:=jM h i (.int .u64 (x:Int));rw[vg,this];simp[nts,List.map_set]
theorem vg.below {ty:TypeId}{l:List Nat}{B:Nat}(h:vg w g ty l)(hb:Below B w w')(hg:g<B):vg w' g ty l:=(hb.block g hg).trans h
theorem vg.lt {ty:TypeId}{l:List Nat}(h:vg w g ty l):g<w.heap.size:=qr h
theorem xt {w:World}{g:Nat}{ty:TypeId}{a b c d e f:Value}(h:w.heap[g]?=some (.cells #[a,b,c,d,e,f] ty (0,0))) :
 w.cell? ⟨g,0,none⟩=some a∧w.cell? ⟨g,1,none⟩=some b∧w.cell? ⟨g,2,none⟩=some c∧w.cell? ⟨g,3,none⟩=some d∧w.cell? ⟨g,4,none⟩=some e∧w.cell? ⟨g,5,none⟩=some f :=
 ⟨zQ h 0,zQ h 1,zQ h 2,zQ h 3,zQ h 4,zQ h 5⟩
theorem uV {w:World}{g:Nat}{ty:TypeId}{x0 x1 x2 x3 x4 x5:Value}(h:w.heap[g]?=some (.cells #[x0,x1,x2,x3,x4,x5] ty (0,0)))(a b c d e f:Value) :
 ((((((w.setCell ⟨g,0,none⟩ a).setCell ⟨g,1,none⟩ b).setCell ⟨g,2,none⟩ c).setCell ⟨g,3,none⟩ d).setCell ⟨g,4,none⟩ e).setCell ⟨g,5,none⟩ f).heap[g]?=some (.cells #[a,b,c,d,e,f] ty (0,0)):=by
 have h1:=jM (jM (jM (jM (jM (jM h 0 a) 1 b) 2 c) 3 d) 4 e) 5 f
 rw[h1]
 rfl
theorem xT {B g:Nat}{w0 w:World}(h:Below B w0 w)(hg:B≤g)(a b c d e f:Value):Below B w0 ((((((w.setCell ⟨g,0,none⟩ a).setCell ⟨g,1,none⟩ b).setCell ⟨g,2,none⟩ c).setCell ⟨g,3,none⟩ d).setCell ⟨g,4,none⟩ e).setCell ⟨g,5,none⟩ f) :=
 (((((h.setCell (p:=⟨g,0,none⟩) hg a).setCell (p:=⟨g,1,none⟩) hg b).setCell (p:=⟨g,2,none⟩) hg c).setCell (p:=⟨g,3,none⟩) hg d).setCell (p:=⟨g,4,none⟩) hg e).setCell (p:=⟨g,5,none⟩) hg f
theorem pU {fn:Func}{R:Ending→World→Prop}{a:Act}{W:World}{p:Tmp}{g:Nat}{ty:TypeId}{fr:Nat×Nat}{x0 x1 x2 x3 x4 x5:Value}(hr:fn.results=#[.cell p 109])(hp:a.tmps.getD p undef=.pointer (some ⟨g,0,none⟩))(hd:a.defers=[])
 (hg:W.heap[g]?=some (.cells #[x0,x1,x2,x3,x4,x5] ty fr)) (hR:R (.returned (.agg #[x0,x1,x2,x3,x4,x5])) W):bodyPost Tryz.prog fn R .ret a W :=
 wI (wY hr a.tmps W g _ _ _ (.array 6 65) hp hg Tryz.underlying109 rfl (by kernel_rfl)) hd hR
theorem tT (w:World)(g gt n c c':Nat)(ty ty':TypeId)(u src:List Nat)(hu:vg w g ty u)(hs:vg w gt ty' src)(hn:n≤src.length)(hn':n≤u.length)(_hpos:0<n) :
 (Builtin.copy_ #[23,23] 3 #[.slice (some ⟨g,0,none⟩) n c,.slice (some ⟨gt,0,none⟩) n c']).run Tryz.prog w=.ok (goInt n) (w.setRow g (nts (src.take n++u.drop n)).toArray):=by
 have hl:(nts (src.take n)).length=n:=by rw[qf,zo];omega
 have h:=run_copy_row (P:=Tryz.prog) w 23 23 3 65 g 0 n c ⟨gt,0,none⟩ n c' (nts u).toArray ty (nts (src.take n)) Tryz.underlying23 uf hu
  (by rw [hl]; simp) (fun j v hj => by
   have hj':j<n:=by have:=(List.getElem?_eq_some_iff.1 hj).1;omega
   rw[yx,zQ hs j,zR]
   rw[nts,List.getElem?_map,List.getElem?_take,qg hj']at hj
   rw[nts,List.getElem?_map]
   exact hj) (by rw[hl];simp[nts];omega) (kj _)
 rw[hl]at h
 rw[h]
 simp[nts,List.map_drop]
theorem wj {B:Nat}{l:List Nat}(h:∀ x∈l,x<B)(k:Nat)(hB:0<B:=by omega):val B (l.take k)<B^k:=by
 have h1:=jt (B:=B) (l:=l.take k) fun x hx=>h x (qM hx);exact zI h1 (zv hB (by rw[zo];omega))
theorem kP {B k:Nat}{l:List Nat}(h:∀ p,k≤p→dg l p=0):val B (l.take k)=val B l:=by
 rcases qF k l.length with h1|h1
 · rw[jA B l (n:=k) (by omega),vw (l:=l.drop k) ?_,ja,q9];intro x hx;obtain⟨j,hj,rfl⟩:=List.mem_iff_getElem.1 hx;have h2:=h (k+j) (by omega);rw[qn]at hj;rw[List.getElem_drop];rwa [dg,jU (by omega)]at h2
 · rw[zx h1]
theorem cJ (gt over:Nat)(t:List Nat)(w:World)(hF:Fld w g n inv ml ol rl)(hml:∀ x∈ml,x<18446744073709551616)(hT:vg w gt 175 t)(_hgt:gt≠g)(ht8:t.length=8)(ht:∀ x∈t,x<18446744073709551616)(hn:n≤6)(hn1:0<n)
 (hmv:val 18446744073709551616 (ml.take n)=val 18446744073709551616 ml) (ho:over<18446744073709551616) (hv:val 18446744073709551616 (t.take n)+18446744073709551616^n*over<2*val 18446744073709551616 ml) :
 Calls Tryz.prog 130 #[.pointer (some ⟨g,0,none⟩),.pointer (some ⟨gt,0,none⟩),.int .u64 (over:Int)] w fun e w'=>∃ o,e=.returned (EV o)∧o.length=6∧(∀ x∈o,x<18446744073709551616) ∧
  val 18446744073709551616 o=dE (val 18446744073709551616 (t.take n)+18446744073709551616^n*over) (val 18446744073709551616 ml)∧Below w.heap.size w w':=by
 have h0:=hF.n0
 have hg:=hF.lt
 have hgtl:=hT.lt
 have hB0:Below w.heap.size w ((w.alloc (.cells #[.int .u64 0,.int .u64 0,.int .u64 0,.int .u64 0,.int .u64 0,.int .u64 0] 109)).alloc (.cells #[.int .u64 0,.int .u64 0,.int .u64 0,.int .u64 0,.int .u64 0,.int .u64 0] 109)):=((zl _ w).alloc (zG _) _).alloc (by simp) _
 have hr0:vg ((w.alloc (.cells #[.int .u64 0,.int .u64 0,.int .u64 0,.int .u64 0,.int .u64 0,.int .u64 0] 109)).alloc (.cells #[.int .u64 0,.int .u64 0,.int .u64 0,.int .u64 0,.int .u64 0,.int .u64 0] 109)) (w.heap.size+1) 109 [0,0,0,0,0,0]:=by
  have:=zS (w.alloc (.cells #[.int .u64 0,.int .u64 0,.int .u64 0,.int .u64 0,.int .u64 0,.int .u64 0] 109)) (.cells #[.int .u64 0,.int .u64 0,.int .u64 0,.int .u64 0,.int .u64 0,.int .u64 0] 109);rw[qB]at this;exact this
 have hres:((w.alloc (.cells #[.int .u64 0,.int .u64 0,.int .u64 0,.int .u64 0,.int .u64 0,.int .u64 0] 109)).alloc (.cells #[.int .u64 0,.int .u64 0,.int .u64 0,.int .u64 0,.int .u64 0,.int .u64 0] 109)).heap[w.heap.size]?=some (.cells #[.int .u64 0,.int .u64 0,.int .u64 0,.int .u64 0,.int .u64 0,.int .u64 0] 109 (0,0)):=(kE _ _ _ (by simp)).trans (zS w _)
 go_enter Tryz.func130,Tryz.ntmps130
 go_wp2_with fail
 generalize(w.alloc (.cells #[.int .u64 0,.int .u64 0,.int .u64 0,.int .u64 0,.int .u64 0,.int .u64 0] 109)).alloc (.cells #[.int .u64 0,.int .u64 0,.int .u64 0,.int .u64 0,.int .u64 0,.int .u64 0] 109)=W0 at *
 have hW0:w.heap.size+2≤W0.heap.size:=by have:=hr0.lt;omega
 have Hv:=zF hv
 have Hmv:=zF hmv
 have Hml:=zF hml
 have Ht:=zF ht
 have Ht8:=zF ht8
 have hm6:=zF hF.m6
 clear hv hmv hml ht ht8
 go_loopw [8,14] (fun cv iv wr=>∃(k cr:Nat) (o:List Nat),iv=.int .i64 (k:Int)∧cv=.int .u64 (cr:Int)∧k≤n∧cr≤1∧xN 18446744073709551616 t ml o k cr∧Hid (o.length=6)∧Hid (∀ x∈o,x<18446744073709551616)∧Hid (∀ p,k≤p→dg o p=0)∧vg wr (w.heap.size+1) 109 o∧Below (w.heap.size+1) W0 wr) (fun _ iv _=>n-(intOf iv).toNat)
 case atStart=>exact⟨0,0,_,rfl,rfl,by omega,by omega,xN.zero _ _ _ _,zF rfl,zF (by simp),zF (fun p _=>by match p with|0|1|2|3|4|5=>rfl|p+6=>rfl),hr0,zl _ _⟩
 case round =>
  obtain⟨k,cr,o,rfl,rfl,hk,hcr,hA,Ho,Hlo,Hz,hblk,hB⟩:=hrel;have hBw:Below w.heap.size w wr:=hB0.trans (hB.mono (by omega));have hFr:=hF.below hBw hg;have hTr:=hT.below hBw hgtl;have c0:=hFr.n0;by_cases hlt:k<n
  · have q1:=hTr.cell (i:=k) (by have:=Ht8.out;omega);have q2:=hFr.m_ (j:=k) (by omega);have dt:dg t k<18446744073709551616:=jS (by omega) Ht.out k;have dm:dg ml k<18446744073709551616:=jS (by omega) Hml.out k;obtain⟨s,cr',hs,hcr',he⟩:=uP (dg t k) (dg ml k) cr dt dm hcr;have hok:k<o.length:=by have:=Ho.out;omega
    have q3:=hblk.cell hok;have q4:=hblk.free k;have hA':=hA.step hok he;have hblk':=hblk.set k s;have hB':=hB.setCell (p:=⟨w.heap.size+1,k,none⟩) (zG _) (.int .u64 (s:Int));have Ho':Hid ((o.set k s).length=6):=zF (by rw[jw];exact Ho.out);have Hlo':Hid (∀ x∈o.set k s,x<18446744073709551616):=zF (wy Hlo.out hs);have Hz':Hid (∀ p,k+1≤p→dg (o.set k s) p=0):=zF fun p hp=>by rw[getD_set_ne (by omega)];exact Hz.out p (by omega)
    have hsub:=fun w=>uJ (dg t k) (dg ml k) cr s cr' hcr dt dm hs he hcr' w;have ki:(k:Int)<8:=by omega
    have ki6:(k:Int)<6:=by omega
    clear he hA hblk hB hok hBw hFr hTr;go_wp2_with fail;have hfar:∀ q:Addr,q.block<w.heap.size→(wr.setCell ⟨w.heap.size+1,k,none⟩ (.int .u64 (s:Int))).drew.cell? q=wr.cell? q:=fun q hq=>qH (je _ _ _ _ (by show q.block≠w.heap.size+1;omega));have f1:=(hfar ⟨gt,k,none⟩ hgtl).trans q1;have f2:=(hfar ⟨g,1+k,none⟩ hg).trans q2;clear hfar;go_region_held3 (fun w'=>w'.cell? ⟨gt,k,none⟩=some (.int .u64 (dg t k:Int))∧w'.cell? ⟨g,1+k,none⟩=some (.int .u64 (dg ml k:Int))) (first|exact⟨q1,q2⟩|exact⟨f1,f2⟩|go_keep) (fail);go_wp2;go_roundw;case rel=>exact⟨k+1,cr',o.set k s,by go_num,rfl,by omega,hcr',hA',Ho',Hlo',Hz',hblk',hB'.drew⟩
    case measure=>simp[intOf];omega
  · obtain rfl:k=n:=by omega
    have hfin:val 18446744073709551616 o+val 18446744073709551616 ml=val 18446744073709551616 (t.take k)+18446744073709551616^k*cr:=by
     have h1:val 18446744073709551616 (o.take k)+val 18446744073709551616 (ml.take k)=val 18446744073709551616 (t.take k)+18446744073709551616^k*cr:=hA;rw[Hmv.out]at h1;have h2:val 18446744073709551616 (o.take k)=val 18446744073709551616 o:=kP Hz.out;omega
    have hvo:val 18446744073709551616 o<18446744073709551616^k:=by
     rw[←kP Hz.out];exact wj Hlo.out k
    have hvm:val 18446744073709551616 ml<18446744073709551616^k:=by rw[←Hmv.out];exact wj Hml.out k
    have hvt:=wj Ht.out k;have hv:=Hv.out;by_cases hcase:over<cr
    · obtain rfl:cr=1:=by omega
      obtain rfl:over=0:=by omega
      rw[ja,q9]at hv;have hoff:dE (val 18446744073709551616 (t.take k)+18446744073709551616^k*0) (val 18446744073709551616 ml)=val 18446744073709551616 (t.take k):=by rw[ja,q9,dE,qg (by omega)]
      have hcp:=tT wr.drew (w.heap.size+1) gt k 6 8 109 175 o t hblk hTr (by have:=Ht8.out;omega) (by have:=Ho.out;omega) hn1;have hvv:val 18446744073709551616 (t.take k++o.drop k)=val 18446744073709551616 (t.take k):=by
       rw[kQ,vw (l:=o.drop k) ?_,ja,q9];intro x hx;obtain⟨j,hj,rfl⟩:=List.mem_iff_getElem.1 hx;have h2:=Hz.out (k+j) (by omega);rw[qn]at hj;rw[List.getElem_drop];rwa [dg,jU (by omega)]at h2
      have hlen:(t.take k++o.drop k).length=6:=by rw[zz,zo,qn,Ho.out,Ht8.out];omega
      have hlim:∀ x∈t.take k++o.drop k,x<18446744073709551616:=fun x hx=>by
       rcases List.mem_append.1 hx with h|h
       · exact Ht.out x (qM h)
       · exact Hlo.out x (List.mem_of_mem_drop h)
      generalize t.take k++o.drop k=o2 at *;have hb2:vg (wr.drew.setRow (w.heap.size+1) (nts o2).toArray) (w.heap.size+1) 109 o2:=setRow_heap wr.drew _ _ _ _ _ hblk;have hB2:=fD hB.drew (zG (w.heap.size+1)) (nts o2).toArray;obtain⟨a,b,c,d,e,f,hoe⟩:=six hlen;have hcb:((wr.drew.setRow (w.heap.size+1) (nts o2).toArray).heap[w.heap.size+1]?=some (.cells #[.int .u64 (a:Int),.int .u64 (b:Int),.int .u64 (c:Int),.int .u64 (d:Int),.int .u64 (e:Int),.int .u64 (f:Int)] 109 (0,0))):=by
       have h:=hb2;rw[vg]at h;rw[h,hoe];rfl
      have hrb:(wr.drew.setRow (w.heap.size+1) (nts o2).toArray).heap[w.heap.size]?=some (.cells #[.int .u64 0,.int .u64 0,.int .u64 0,.int .u64 0,.int .u64 0,.int .u64 0] 109 (0,0)):=(hB2.block w.heap.size (by omega)).trans hres;obtain⟨e0,e1,e2,e3,e4,e5⟩:=xt hcb;obtain⟨r0,r1,r2,r3,r4,r5⟩:=xt hrb;have z:=fun i=>qu hrb i;have z0:=z 0;have z1:=z 1;have z2:=z 2;have z3:=z 3;have z4:=z 4;have z5:=z 5;have hrb':=hrb;have hBf:Below w.heap.size w (wr.drew.setRow (w.heap.size+1) (nts o2).toArray):=hB0.trans (hB2.mono (by omega));have Hoff:=zF (hvv.trans hoff.symm);have Hoe:=zF hoe;have Hlen:=zF hlen;have Hlim:=zF hlim;have k6:(k:Int)≤6:=by omega
      have k8:(k:Int)≤8:=by omega
      clear hvo hv hfin hvm hvt hoff hA hblk hFr hTr z hcb hrb hvv hoe hlen hlim hb2 hB2;go_wp2_with fail;go_region;generalize wr.drew.setRow (w.heap.size+1) (nts o2).toArray=W9 at *;go_wp2_with fail;refine pU rfl rfl rfl (uV hrb' _ _ _ _ _ _) ?_;exact⟨o2,by rw[Hoe.out];rfl,Hlen.out,Hlim.out,Hoff.out,xT hBf (zG _) _ _ _ _ _ _⟩
    · have hoff:val 18446744073709551616 o=dE (val 18446744073709551616 (t.take k)+18446744073709551616^k*over) (val 18446744073709551616 ml):=by
       have hcr':cr=0∨cr=1:=by omega
       generalize 18446744073709551616^k=R at *;rcases zT over with rfl|hpo
       · obtain rfl:cr=0:=by omega
         rw[ja,q9]at hfin hv ⊢;rw[dE,ql (by omega)];omega
       · have h1:R*1≤R*over:=qD _ hpo;have h2:over=1:=by
          rcases qF over 2 with h|h
          · omega
          · have:R*2≤R*over:=qD _ h;omega
         subst h2;rw[dE,ql (by omega)];rcases hcr' with rfl|rfl
         · rw[ja,q9]at hfin;omega
         · omega
      have Hoff:=zF hoff;obtain⟨a,b,c,d,e,f,hoe⟩:=six Ho.out;have hcb:(wr.heap[w.heap.size+1]?=some (.cells #[.int .u64 (a:Int),.int .u64 (b:Int),.int .u64 (c:Int),.int .u64 (d:Int),.int .u64 (e:Int),.int .u64 (f:Int)] 109 (0,0))):=by
       rw[hoe]at hblk;exact hblk
      have hrb:wr.heap[w.heap.size]?=some (.cells #[.int .u64 0,.int .u64 0,.int .u64 0,.int .u64 0,.int .u64 0,.int .u64 0] 109 (0,0)):=(hB.block w.heap.size (by omega)).trans hres;obtain⟨e0,e1,e2,e3,e4,e5⟩:=xt hcb;obtain⟨r0,r1,r2,r3,r4,r5⟩:=xt hrb;have z:=fun i=>qu hrb i;have z0:=z 0;have z1:=z 1;have z2:=z 2;have z3:=z 3;have z4:=z 4;have z5:=z 5;have hrb':=hrb;clear hvo hv hfin hvm hvt hoff hA hblk hFr hTr z hcb hrb;go_wp2_with fail;refine pU rfl rfl rfl (uV hrb' _ _ _ _ _ _) ?_;exact⟨o,by rw[hoe];rfl,Ho.out,Hlo.out,Hoff.out,xT hBw (zG _) _ _ _ _ _ _⟩
end Go.Proofs.YtaemogcomplhiaaGreatDoor
namespace Go.Proofs.YtaemogcomplhiaaGreatDoor
open Go.RowKit
structure FF (w:World) (g n inv M:Nat) (ml ol rl:List Nat):Prop where
 fld:Fld w g n inv ml ol rl
 mlt:∀ x∈ml,x<18446744073709551616
 mval:val 18446744073709551616 ml=M
 mtake:val 18446744073709551616 (ml.take n)=M
 npos:0<n
 nle:n≤6
 big:1<M
 invLt:inv<18446744073709551616
 invV:(inv*M+1)%18446744073709551616=0
theorem FF.below {w w':World}{g n inv M B:Nat}{ml ol rl:List Nat}(h:FF w g n inv M ml ol rl)(hb:Below B w w')(hg:g<B):FF w' g n inv M ml ol rl :=
 ⟨h.fld.below hb hg,h.mlt,h.mval,h.mtake,h.npos,h.nle,h.big,h.invLt,h.invV⟩
theorem FF.room {w:World}{g n inv M:Nat}{ml ol rl:List Nat}(h:FF w g n inv M ml ol rl):M<18446744073709551616^n:=by rw[←h.mtake];exact wj h.mlt n
structure Elt (M:Nat) (l:List Nat):Prop where
 six:l.length=6
 lim:∀ x∈l,x<18446744073709551616
 lt:val 18446744073709551616 l<M
theorem Elt.take {w:World}{g n inv M:Nat}{ml ol rl l:List Nat}(h:FF w g n inv M ml ol rl)(he:Elt M l):val 18446744073709551616 (l.take n)=val 18446744073709551616 l:=by
 have h1:=jA 18446744073709551616 l (n:=n) (by rw[he.six];exact h.nle);have h2:=h.room;rcases zT (val 18446744073709551616 (l.drop n))with h3|h3
 · rw[h3]at h1;omega
 · have h4:18446744073709551616^n*1≤18446744073709551616^n*val 18446744073709551616 (l.drop n):=qD _ h3;have h5:=he.lt;omega
theorem zDy (w:World)(o1 o2 o3 o4:Obj):((((w.alloc o1).alloc o2).alloc o3).alloc o4).heap[w.heap.size]?=some o1∧((((w.alloc o1).alloc o2).alloc o3).alloc o4).heap[w.heap.size+1]?=some o2∧((((w.alloc o1).alloc o2).alloc o3).alloc o4).heap[w.heap.size+1+1]?=some o3∧((((w.alloc o1).alloc o2).alloc o3).alloc o4).heap[w.heap.size+1+1+1]?=some o4 ∧
 ((((w.alloc o1).alloc o2).alloc o3).alloc o4).heap.size=w.heap.size+4∧Below w.heap.size w ((((w.alloc o1).alloc o2).alloc o3).alloc o4):=by
 have e1:=zS w o1
 have e2:=zS (w.alloc o1) o2
 have e3:=zS ((w.alloc o1).alloc o2) o3
 have e4:=zS (((w.alloc o1).alloc o2).alloc o3) o4
 simp only[qB]at e2 e3 e4
 refine⟨?_,?_,?_,e4,by simp,(((((zl _ w).alloc (zG _) _).alloc (by simp) _).alloc (by simp;omega) _).alloc (by simp;omega) _)⟩
 · exact(kE _ _ _ (by simp<;>omega)).trans ((kE _ _ _ (by simp<;>omega)).trans ((kE _ _ _ (by simp)).trans e1))
 · exact(kE _ _ _ (by simp<;>omega)).trans ((kE _ _ _ (by simp)).trans e2)
 · exact(kE _ _ _ (by simp)).trans e3
theorem tg {g n inv M:Nat}{ml ol rl:List Nat}(a b:List Nat)(w:World)(hF:FF w g n inv M ml ol rl)(ha:Elt M a)(hb:Elt M b) :
 Calls Tryz.prog 101 #[.pointer (some ⟨g,0,none⟩),EV a,EV b] w fun e w'=>∃ o,e=.returned (EV o)∧Elt M o∧val 18446744073709551616 o=dE (val 18446744073709551616 a+val 18446744073709551616 b) M∧Below w.heap.size w w':=by
 have hg:=hF.fld.lt
 have h0:=hF.fld.n0
 have hn:=hF.nle
 have hn1:=hF.npos
 have ta:=ha.take hF
 have tb:=hb.take hF
 obtain⟨a0,a1,a2,a3,a4,a5,hae⟩:=six ha.six
 obtain⟨b0,b1,b2,b3,b4,b5,hbe⟩:=six hb.six
 obtain⟨l1,l2,l3,l4,hz,hB0⟩:=zDy w (.cells #[.int .u64 (a0:Int),.int .u64 (a1:Int),.int .u64 (a2:Int),.int .u64 (a3:Int),.int .u64 (a4:Int),.int .u64 (a5:Int)] 109)
  (.cells #[.int .u64 (b0:Int),.int .u64 (b1:Int),.int .u64 (b2:Int),.int .u64 (b3:Int),.int .u64 (b4:Int),.int .u64 (b5:Int)] 109) (.cells #[.int .u64 0,.int .u64 0,.int .u64 0,.int .u64 0,.int .u64 0,.int .u64 0] 109)
  (.cells #[.int .u64 0,.int .u64 0,.int .u64 0,.int .u64 0,.int .u64 0,.int .u64 0,.int .u64 0,.int .u64 0] 175)
 have hva:EV a=.agg #[.int .u64 (a0:Int),.int .u64 (a1:Int),.int .u64 (a2:Int),.int .u64 (a3:Int),.int .u64 (a4:Int),.int .u64 (a5:Int)]:=by rw[hae];rfl
 have hvb:EV b=.agg #[.int .u64 (b0:Int),.int .u64 (b1:Int),.int .u64 (b2:Int),.int .u64 (b3:Int),.int .u64 (b4:Int),.int .u64 (b5:Int)]:=by rw[hbe];rfl
 rw[hva,hvb]
 have h00:=(hB0.cell (p:=⟨g,0,none⟩) hg).trans h0
 go_enter Tryz.func101,Tryz.ntmps101
 go_wp2_with fail
 generalize(((w.alloc (.cells #[.int .u64 (a0:Int),.int .u64 (a1:Int),.int .u64 (a2:Int),.int .u64 (a3:Int),.int .u64 (a4:Int),.int .u64 (a5:Int)] 109)).alloc
  (.cells #[.int .u64 (b0:Int),.int .u64 (b1:Int),.int .u64 (b2:Int),.int .u64 (b3:Int),.int .u64 (b4:Int),.int .u64 (b5:Int)] 109)).alloc (.cells #[.int .u64 0,.int .u64 0,.int .u64 0,.int .u64 0,.int .u64 0,.int .u64 0] 109)).alloc
  (.cells #[.int .u64 0,.int .u64 0,.int .u64 0,.int .u64 0,.int .u64 0,.int .u64 0,.int .u64 0,.int .u64 0] 175)=W0 at *
 have A0:vg W0 w.heap.size 109 a:=by rw[hae];exact l1
 have B0:vg W0 (w.heap.size+1) 109 b:=by rw[hbe];exact l2
 have T0:vg W0 (w.heap.size+1+1+1) 175 [0,0,0,0,0,0,0,0]:=l4
 have hW0:w.heap.size+4≤W0.heap.size:=by omega
 have Ha:=zF ha
 have Hb:=zF hb
 have Hae:=zF hae
 have Hbe:=zF hbe
 have HF:=zF hF
 clear l1 l2 l4 hz ha hb hae hbe hva hvb hF
 go_loopw [8,14] (fun cv iv wr=>∃(k cr:Nat) (o:List Nat),iv=.int .i64 (k:Int)∧cv=.int .u64 (cr:Int)∧k≤n∧cr≤1∧wk 18446744073709551616 a b o k cr∧Hid (o.length=8)∧Hid (∀ x∈o,x<18446744073709551616)∧vg wr (w.heap.size+1+1+1) 175 o∧Below (w.heap.size+1+1+1) W0 wr) (fun _ iv _=>n-(intOf iv).toNat)
 case atStart=>exact⟨0,0,_,rfl,rfl,by omega,by omega,wk.zero _ _ _ _,zF rfl,zF (by simp),T0,zl _ _⟩
 case round =>
  obtain⟨k,cr,o,rfl,rfl,hk,hcr,hA,Ho,Hlo,hblk,hB⟩:=hrel;have hBw:Below w.heap.size w wr:=hB0.trans (hB.mono (by omega));have hFr:=HF.out.below hBw hg;have c0:=hFr.fld.n0;have hAr:=A0.below hB (by omega);have hBr:=B0.below hB (by omega);by_cases hlt:k<n
  · have q1:=hAr.cell (i:=k) (by rw[Ha.out.six];omega);have q2:=hBr.cell (i:=k) (by rw[Hb.out.six];omega);have dt:dg a k<18446744073709551616:=jS (by omega) Ha.out.lim k;have dm:dg b k<18446744073709551616:=jS (by omega) Hb.out.lim k;obtain⟨s,cr',hs,hcr',he⟩:=ye (dg a k) (dg b k) cr dt dm hcr;have hok:k<o.length:=by have:=Ho.out;omega
    have q3:=hblk.cell hok;have q4:=hblk.free k;have hA':=hA.step hok (by omega);have hblk':=hblk.set k s;have hB':=hB.setCell (p:=⟨w.heap.size+1+1+1,k,none⟩) (zG _) (.int .u64 (s:Int));have Ho':Hid ((o.set k s).length=8):=zF (by rw[jw];exact Ho.out);have Hlo':Hid (∀ x∈o.set k s,x<18446744073709551616):=zF (wy Hlo.out hs);have hadd:=fun w=>kJ (dg a k) (dg b k) cr s cr' hcr hs (by omega) w;have ki:(k:Int)<8:=by omega
    have ki6:(k:Int)<6:=by omega
    clear he hA hblk hB hok hBw hFr hAr hBr;go_wp2_with fail;have hfar:∀ q:Addr,q.block<w.heap.size+1+1+1→(wr.setCell ⟨w.heap.size+1+1+1,k,none⟩ (.int .u64 (s:Int))).drew.cell? q=wr.cell? q:=fun q hq=>qH (je _ _ _ _ (by show q.block≠w.heap.size+1+1+1;omega));have f1:=(hfar ⟨w.heap.size,k,none⟩ (by show w.heap.size<_;omega)).trans q1;have f2:=(hfar ⟨w.heap.size+1,k,none⟩ (by show w.heap.size+1<_;omega)).trans q2;clear hfar;go_region_held3 (fun w'=>w'.cell? ⟨w.heap.size,k,none⟩=some (.int .u64 (dg a k:Int))∧w'.cell? ⟨w.heap.size+1,k,none⟩=some (.int .u64 (dg b k:Int))) (first|exact⟨q1,q2⟩|exact⟨f1,f2⟩|go_keep) (fail);go_wp2;go_roundw;case rel=>exact⟨k+1,cr',o.set k s,by go_num,rfl,by omega,hcr',hA',Ho',Hlo',hblk',hB'.drew⟩
    case measure=>simp[intOf];omega
  · obtain rfl:k=n:=by omega
    have hsum:val 18446744073709551616 (o.take k)+18446744073709551616^k*cr=val 18446744073709551616 a+val 18446744073709551616 b:=by
     have h1:val 18446744073709551616 (o.take k)+18446744073709551616^k*cr=val 18446744073709551616 (a.take k)+val 18446744073709551616 (b.take k):=by have:=hA;unfold wk at this;omega
     rw[ta,tb]at h1;exact h1
    have hbel:=cJ (w.heap.size+1+1+1) cr o wr hFr.fld hFr.mlt hblk (by omega) Ho.out Hlo.out hn hn1 (by rw[hFr.mtake,hFr.mval]) (by omega) (by rw[hsum,hFr.mval];have:=Ha.out.lt;have:=Hb.out.lt;omega);rw[hsum,hFr.mval]at hbel;have Hbel:=zF hbel;clear hbel hA hblk hFr hAr hBr hsum;go_wp2_with fail;refine Hbel.out.mono ?_;rintro e w2 ⟨o2,rfl,ho6,hlim,hv2,hB2⟩;obtain⟨x0,x1,x2,x3,x4,x5,hoe⟩:=six ho6;have hrb:=(hB2.block (w.heap.size+1+1) (by have:=hB.size;omega)).trans ((hB.block (w.heap.size+1+1) (by omega)).trans l3);obtain⟨r0,r1,r2,r3,r4,r5⟩:=xt hrb;have z:=fun i=>qu hrb i;have z0:=z 0;have z1:=z 1;have z2:=z 2;have z3:=z 3;have z4:=z 4;have z5:=z 5;have hrb':=hrb;have hBf:Below w.heap.size w w2:=hBw.trans (hB2.mono hBw.size);have Hv2:=zF hv2;have Ho6:=zF ho6;have Hlim:=zF hlim;have Hoe:=zF hoe;have hve:EV o2=.agg #[.int .u64 (x0:Int),.int .u64 (x1:Int),.int .u64 (x2:Int),.int .u64 (x3:Int),.int .u64 (x4:Int),.int .u64 (x5:Int)]:=by rw[hoe];rfl
    rw[hve];clear hve hoe hv2 ho6 hlim z hrb hB2 hB Hbel;go_wp2_with fail;refine pU rfl rfl rfl (uV hrb' _ _ _ _ _ _) ?_;exact⟨o2,by rw[Hoe.out];rfl,⟨Ho6.out,Hlim.out,by rw[Hv2.out];exact rS (by have:=Ha.out.lt;have:=Hb.out.lt;omega)⟩,Hv2.out,xT hBf (by omega) _ _ _ _ _ _⟩
def bf (x y M:Nat):Nat:=if y≤x then x-y else x+M-y
theorem rI {x y M:Nat}(hx:x<M)(hy:y<M):bf x y M<M:=by unfold bf;split<;>omega
theorem zAB {x y M:Nat}(hx:x<M)(hy:y<M):bf x y M=(x+M-y)%M:=by
 unfold bf;split
 · rw[show x+M-y=x-y+M by omega,Nat.add_mod_right,zy (by omega)]
 · rw[zy (by omega)]
theorem td {g n inv M:Nat}{ml ol rl:List Nat}(a b:List Nat)(w:World)(hF:FF w g n inv M ml ol rl)(ha:Elt M a)(hb:Elt M b) :
 Calls Tryz.prog 103 #[.pointer (some ⟨g,0,none⟩),EV a,EV b] w fun e w'=>∃ o,e=.returned (EV o)∧Elt M o∧val 18446744073709551616 o=bf (val 18446744073709551616 a) (val 18446744073709551616 b) M∧Below w.heap.size w w':=by
 have hg:=hF.fld.lt
 have h0:=hF.fld.n0
 have hn:=hF.nle
 have hn1:=hF.npos
 have ta:=ha.take hF
 have tb:=hb.take hF
 obtain⟨a0,a1,a2,a3,a4,a5,hae⟩:=six ha.six
 obtain⟨b0,b1,b2,b3,b4,b5,hbe⟩:=six hb.six
 obtain⟨l1,l2,l3,l4,hz,hB0⟩:=zDy w (.cells #[.int .u64 (a0:Int),.int .u64 (a1:Int),.int .u64 (a2:Int),.int .u64 (a3:Int),.int .u64 (a4:Int),.int .u64 (a5:Int)] 109)
  (.cells #[.int .u64 (b0:Int),.int .u64 (b1:Int),.int .u64 (b2:Int),.int .u64 (b3:Int),.int .u64 (b4:Int),.int .u64 (b5:Int)] 109) (.cells #[.int .u64 0,.int .u64 0,.int .u64 0,.int .u64 0,.int .u64 0,.int .u64 0] 109)
  (.cells #[.int .u64 0,.int .u64 0,.int .u64 0,.int .u64 0,.int .u64 0,.int .u64 0] 109)
 have hva:EV a=.agg #[.int .u64 (a0:Int),.int .u64 (a1:Int),.int .u64 (a2:Int),.int .u64 (a3:Int),.int .u64 (a4:Int),.int .u64 (a5:Int)]:=by rw[hae];rfl
 have hvb:EV b=.agg #[.int .u64 (b0:Int),.int .u64 (b1:Int),.int .u64 (b2:Int),.int .u64 (b3:Int),.int .u64 (b4:Int),.int .u64 (b5:Int)]:=by rw[hbe];rfl
 rw[hva,hvb]
 have h00:=(hB0.cell (p:=⟨g,0,none⟩) hg).trans h0
 go_enter Tryz.func103,Tryz.ntmps103
 go_wp2_with fail
 generalize(((w.alloc (.cells #[.int .u64 (a0:Int),.int .u64 (a1:Int),.int .u64 (a2:Int),.int .u64 (a3:Int),.int .u64 (a4:Int),.int .u64 (a5:Int)] 109)).alloc
  (.cells #[.int .u64 (b0:Int),.int .u64 (b1:Int),.int .u64 (b2:Int),.int .u64 (b3:Int),.int .u64 (b4:Int),.int .u64 (b5:Int)] 109)).alloc (.cells #[.int .u64 0,.int .u64 0,.int .u64 0,.int .u64 0,.int .u64 0,.int .u64 0] 109)).alloc
  (.cells #[.int .u64 0,.int .u64 0,.int .u64 0,.int .u64 0,.int .u64 0,.int .u64 0] 109)=W0 at *
 have A0:vg W0 w.heap.size 109 a:=by rw[hae];exact l1
 have B0:vg W0 (w.heap.size+1) 109 b:=by rw[hbe];exact l2
 have T0:vg W0 (w.heap.size+1+1+1) 109 [0,0,0,0,0,0]:=l4
 have hW0:w.heap.size+4≤W0.heap.size:=by omega
 have Ha:=zF ha
 have Hb:=zF hb
 have Hae:=zF hae
 have Hbe:=zF hbe
 have HF:=zF hF
 clear l1 l2 l4 hz ha hb hae hbe hva hvb hF
 go_loopw [8,16] (fun cv iv wr=>∃(k cr:Nat) (o:List Nat),iv=.int .i64 (k:Int)∧cv=.int .u64 (cr:Int)∧k≤n∧cr≤1∧xN 18446744073709551616 a b o k cr∧Hid (o.length=6)∧Hid (∀ x∈o,x<18446744073709551616)∧Hid (∀ p,k≤p→dg o p=0)∧vg wr (w.heap.size+1+1+1) 109 o∧Below (w.heap.size+1+1+1) W0 wr) (fun _ iv _=>n-(intOf iv).toNat)
 case atStart=>exact⟨0,0,_,rfl,rfl,by omega,by omega,xN.zero _ _ _ _,zF rfl,zF (by simp),zF (fun p _=>by match p with|0|1|2|3|4|5=>rfl|p+6=>rfl),T0,zl _ _⟩
 case round =>
  obtain⟨k,cr,o,rfl,rfl,hk,hcr,hA,Ho,Hlo,Hz,hblk,hB⟩:=hrel;have hBw:Below w.heap.size w wr:=hB0.trans (hB.mono (by omega));have hFr:=HF.out.below hBw hg;have c0:=hFr.fld.n0;have hAr:=A0.below hB (by omega);have hBr:=B0.below hB (by omega);by_cases hlt:k<n
  · have q1:=hAr.cell (i:=k) (by rw[Ha.out.six];omega);have q2:=hBr.cell (i:=k) (by rw[Hb.out.six];omega);have dt:dg a k<18446744073709551616:=jS (by omega) Ha.out.lim k;have dm:dg b k<18446744073709551616:=jS (by omega) Hb.out.lim k;obtain⟨s,cr',hs,hcr',he⟩:=uP (dg a k) (dg b k) cr dt dm hcr;have hok:k<o.length:=by have:=Ho.out;omega
    have q3:=hblk.cell hok;have q4:=hblk.free k;have hA':=hA.step hok he;have hblk':=hblk.set k s;have hB':=hB.setCell (p:=⟨w.heap.size+1+1+1,k,none⟩) (zG _) (.int .u64 (s:Int));have Ho':Hid ((o.set k s).length=6):=zF (by rw[jw];exact Ho.out);have Hlo':Hid (∀ x∈o.set k s,x<18446744073709551616):=zF (wy Hlo.out hs);have Hz':Hid (∀ p,k+1≤p→dg (o.set k s) p=0):=zF fun p hp=>by rw[getD_set_ne (by omega)];exact Hz.out p (by omega)
    have hsub:=fun w=>uJ (dg a k) (dg b k) cr s cr' hcr dt dm hs he hcr' w;have ki6:(k:Int)<6:=by omega
    clear he hA hblk hB hok hBw hFr hAr hBr;go_wp2_with fail;have hfar:∀ q:Addr,q.block<w.heap.size+1+1+1→(wr.setCell ⟨w.heap.size+1+1+1,k,none⟩ (.int .u64 (s:Int))).drew.cell? q=wr.cell? q:=fun q hq=>qH (je _ _ _ _ (by show q.block≠w.heap.size+1+1+1;omega));have f1:=(hfar ⟨w.heap.size,k,none⟩ (by show w.heap.size<_;omega)).trans q1;have f2:=(hfar ⟨w.heap.size+1,k,none⟩ (by show w.heap.size+1<_;omega)).trans q2;clear hfar;go_region_held3 (fun w'=>w'.cell? ⟨w.heap.size,k,none⟩=some (.int .u64 (dg a k:Int))∧w'.cell? ⟨w.heap.size+1,k,none⟩=some (.int .u64 (dg b k:Int))) (first|exact⟨q1,q2⟩|exact⟨f1,f2⟩|go_keep) (fail);go_wp2;go_roundw;case rel=>exact⟨k+1,cr',o.set k s,by go_num,rfl,by omega,hcr',hA',Ho',Hlo',Hz',hblk',hB'.drew⟩
    case measure=>simp[intOf];omega
  · obtain rfl:k=n:=by omega
    have hdif:val 18446744073709551616 o+val 18446744073709551616 b=val 18446744073709551616 a+18446744073709551616^k*cr:=by
     have h1:val 18446744073709551616 (o.take k)+val 18446744073709551616 (b.take k)=val 18446744073709551616 (a.take k)+18446744073709551616^k*cr:=hA;rw[ta,tb,kP Hz.out]at h1;exact h1
    have hvo:val 18446744073709551616 o<18446744073709551616^k:=by rw[←kP Hz.out];exact wj Hlo.out k
    have hroom:=hFr.room;have hal:=Ha.out.lt;have hbl:=Hb.out.lt;have hrb:=(hB.block (w.heap.size+1+1) (by omega)).trans l3;rcases zT cr with h0c|h0c
    · subst h0c;have hv2:val 18446744073709551616 o=bf (val 18446744073709551616 a) (val 18446744073709551616 b) M:=by
       rw[ja,q9]at hdif;rw[bf,qg (by omega)];omega
      obtain⟨x0,x1,x2,x3,x4,x5,hoe⟩:=six Ho.out;have hcb:wr.heap[w.heap.size+1+1+1]?=some (.cells #[.int .u64 (x0:Int),.int .u64 (x1:Int),.int .u64 (x2:Int),.int .u64 (x3:Int),.int .u64 (x4:Int),.int .u64 (x5:Int)] 109 (0,0)):=by
       rw[hoe]at hblk;exact hblk
      obtain⟨e0,e1,e2,e3,e4,e5⟩:=xt hcb;obtain⟨r0,r1,r2,r3,r4,r5⟩:=xt hrb;have z:=fun i=>qu hrb i;have z0:=z 0;have z1:=z 1;have z2:=z 2;have z3:=z 3;have z4:=z 4;have z5:=z 5;have hrb':=hrb;have Hv2:=zF hv2;have Hoe:=zF hoe;clear hv2 hoe hcb hrb z hdif hvo hroom hal hbl hA hblk hFr hAr hBr hB;go_wp2_with fail;refine pU rfl rfl rfl (uV hrb' _ _ _ _ _ _) ?_;exact⟨o,by rw[Hoe.out];rfl,⟨Ho.out,Hlo.out,by rw[Hv2.out];exact rI Ha.out.lt Hb.out.lt⟩,Hv2.out,xT hBw (by omega) _ _ _ _ _ _⟩
    · obtain rfl:cr=1:=by omega
      rw[jO]at hdif;have Hdif:=zF hdif;have Hvo:=zF hvo;have Hroom:=zF hroom;have hB1:=hB;have hblk1:=hblk;have hAs:=wk.zero 18446744073709551616 o ml o;have HBw:=zF hBw;clear hA hdif hvo hroom hal hbl hFr hAr hBr hrb hB hblk hBw;go_wp2_with fail;have HT:=zF (⟨Ho.out,Hlo.out,Hz.out⟩:o.length=6∧(∀ x∈o,x<18446744073709551616)∧∀ p,k≤p→dg o p=0);go_loopw [10,40] (fun cv iv wx=>∃(j cr:Nat) (o2:List Nat),iv=.int .i64 (j:Int)∧cv=.int .u64 (cr:Int)∧j≤k∧cr≤1∧wk 18446744073709551616 o ml o2 j cr∧Hid (∀ p,j≤p→dg o2 p=dg o p)∧Hid (o2.length=6)∧Hid (∀ x∈o2,x<18446744073709551616)∧Hid (∀ p,k≤p→dg o2 p=0)∧vg wx (w.heap.size+1+1+1) 109 o2∧Below (w.heap.size+1+1+1) W0 wx) (fun _ iv _=>k-(intOf iv).toNat);case atStart=>exact⟨0,0,o,rfl,rfl,by omega,by omega,hAs,zF fun _ _=>rfl,Ho,Hlo,Hz,hblk1,hB1⟩
      case round =>
       clear hAs hblk1 hB1;obtain⟨j,cr,o2,rfl,rfl,hj,hcr2,hA,Hsame,Ho2,Hlo2,Hz2,hblk,hB⟩:=hrel;have hBw:Below w.heap.size w wr:=hB0.trans (hB.mono (by omega));have hFr:=HF.out.below hBw hg;have c0:=hFr.fld.n0;by_cases hlt2:j<k
       · have q1:=hblk.cell (i:=j) (by have:=Ho2.out;omega);rw[Hsame.out j (zG _)]at q1;have q2:=hFr.fld.m_ (j:=j) (by omega);have dt:dg o j<18446744073709551616:=jS (by omega) HT.out.2.1 j;have dm:dg ml j<18446744073709551616:=jS (by omega) hFr.mlt j;obtain⟨s,cr',hs,hcr',he⟩:=ye (dg o j) (dg ml j) cr dt dm hcr2;have hok:j<o2.length:=by have:=Ho2.out;omega
         have q4:=hblk.free j;have hA':=hA.step hok (by omega);have hblk':=hblk.set j s;have hB':=hB.setCell (p:=⟨w.heap.size+1+1+1,j,none⟩) (zG _) (.int .u64 (s:Int));have Ho':Hid ((o2.set j s).length=6):=zF (by rw[jw];exact Ho2.out);have Hlo':Hid (∀ x∈o2.set j s,x<18446744073709551616):=zF (wy Hlo2.out hs);have Hz':Hid (∀ p,k≤p→dg (o2.set j s) p=0):=zF fun p hp=>by rw[getD_set_ne (by omega)];exact Hz2.out p hp
         have Hs':Hid (∀ p,j+1≤p→dg (o2.set j s) p=dg o p):=zF fun p hp=>by rw[getD_set_ne (by omega)];exact Hsame.out p (by omega)
         have hadd:=fun w=>kJ (dg o j) (dg ml j) cr s cr' hcr2 hs (by omega) w;have ki6:(j:Int)<6:=by omega
         clear he hA hblk hB hok hBw hFr;go_wp2_with fail;go_region_with (fail)
         all_goals
          go_wp2;go_roundw;case rel =>
           refine⟨_,_,_,_,_,_,_,_,_,_,_,_,_,_,_,_,_,_,_,_,_,_,?_,rfl⟩;exact⟨j+1,cr',o2.set j s,by go_num,rfl,by omega,hcr',hA',Hs',Ho',Hlo',Hz',hblk',hB'.drew⟩
          case measure=>simp[intOf];omega
       · obtain rfl:j=k:=by omega
         have hsum:val 18446744073709551616 o2+18446744073709551616^j*cr=val 18446744073709551616 o+M:=by
          have h1:val 18446744073709551616 (o2.take j)+18446744073709551616^j*cr=val 18446744073709551616 (o.take j)+val 18446744073709551616 (ml.take j):=hA;rwa [kP Hz2.out,kP HT.out.2.2,hFr.mtake]at h1
         have hv2:val 18446744073709551616 o2=bf (val 18446744073709551616 a) (val 18446744073709551616 b) M:=by
          have h1:=Hdif.out;have h2:=Hroom.out;have h3:=Ha.out.lt;have h4:=Hb.out.lt;have h5:val 18446744073709551616 o2<18446744073709551616^j:=by rw[←kP Hz2.out];exact wj Hlo2.out j
          have h6:=Hvo.out;generalize 18446744073709551616^j=R at *;have h7:cr=0∨cr=1:=by omega
          rw[bf,ql (by omega)];rcases h7 with rfl|rfl
          · rw[ja]at hsum;omega
          · omega
         have hrb:=(hB.block (w.heap.size+1+1) (by omega)).trans l3;obtain⟨x0,x1,x2,x3,x4,x5,hoe⟩:=six Ho2.out;have hcb:wr.heap[w.heap.size+1+1+1]?=some (.cells #[.int .u64 (x0:Int),.int .u64 (x1:Int),.int .u64 (x2:Int),.int .u64 (x3:Int),.int .u64 (x4:Int),.int .u64 (x5:Int)] 109 (0,0)):=by
          rw[hoe]at hblk;exact hblk
         obtain⟨e0,e1,e2,e3,e4,e5⟩:=xt hcb;obtain⟨r0,r1,r2,r3,r4,r5⟩:=xt hrb;have z:=fun i=>qu hrb i;have z0:=z 0;have z1:=z 1;have z2:=z 2;have z3:=z 3;have z4:=z 4;have z5:=z 5;have hrb':=hrb;have Hv2:=zF hv2;have Hoe:=zF hoe;clear hv2 hoe hcb hrb z hsum hA hblk hFr hB;go_wp2_with fail;refine pU rfl rfl rfl (uV hrb' _ _ _ _ _ _) ?_;exact⟨o2,by rw[Hoe.out];rfl,⟨Ho2.out,Hlo2.out,by rw[Hv2.out];exact rI Ha.out.lt Hb.out.lt⟩,Hv2.out,xT hBw (by omega) _ _ _ _ _ _⟩
theorem g9 {B:Nat}{l:List Nat}(h:∀ x∈l,x<B)(_hB:0<B)(k:Nat):val B (l.take (k+1))%B=dg l 0:=by
 cases l with
 | nil=>simp[dg]
 | cons x m=>rw[List.take_succ_cons,jr,qm,zy (h x (by simp))];rfl
theorem zAy {B M inv V u t0 m0:Nat}(_hB:0<B)(hi:(inv*M+1)%B=0)(hV:V%B=t0)(hm:M%B=m0)(hu:u=t0*inv%B):(t0+u*m0)%B=0:=by
 have h1:=oB (v:=V) hi hV hu;rw[←hV,←hm,vv,vu,Nat.mul_mod_mod,←vv];exact h1
theorem tA {u m0 t0:Nat}(hu:u<18446744073709551616)(hm:m0<18446744073709551616)(ht:t0<18446744073709551616)(hz:(t0+u*m0)%18446744073709551616=0) :
 ∃ hi lo c:Nat,lo<18446744073709551616∧lo+18446744073709551616*hi=u*m0∧c≤1∧0+18446744073709551616*c=lo+t0+0∧hi+c<18446744073709551616∧18446744073709551616*(hi+c)=t0+u*m0:=by
 have hb:=yQ hu hm ht (show 0<18446744073709551616 by omega)
 refine⟨u*m0/18446744073709551616,u*m0%18446744073709551616,(u*m0%18446744073709551616+t0)/18446744073709551616,qL _ (by omega),Nat.mod_add_div _ _,?_,?_,?_,?_⟩
 all_goals
  generalize u*m0=p at *;omega
theorem sX {M vb T x R top:Nat}(e1:T=x+R*top)(h2:T<M+vb)(hM:M≤R)(hb:vb<M):top≤1:=by
 rcases qF top 2 with h|h
 · omega
 · have e5:R*2≤R*top:=qD _ h;omega
end Go.Proofs.YtaemogcomplhiaaGreatDoor
