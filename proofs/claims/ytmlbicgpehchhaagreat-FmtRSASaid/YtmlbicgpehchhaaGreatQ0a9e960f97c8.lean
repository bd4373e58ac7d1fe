/- Laws that the proof rests on. -/
import Derived.Test.YtmlbicgpehchhaaGreatQ584c2cfe0aa6
set_option maxRecDepth 100000
set_option maxHeartbeats 16000000
namespace Go.Proofs.YtmlbicgpehchhaaGreat
def vO (b u u1 y1 y0 q r:Nat):Prop:=q*y1+r=u∧(u*b+u1) / (y1*b+y0)≤q∧q≤b+1
structure wW (b u u1 y1 y0:Nat):Prop where
 hb:2≤b
 hy:b≤2*y1
 hy1:y1<b
 hy0:y0<b
 hu1:u1<b
 hu:u<y1*b+y0
section
variable {b u u1 y1 y0 q r:Nat}
theorem wW.start (h:wW b u u1 y1 y0):vO b u u1 y1 y0 (u / y1) (u - u / y1*y1)∧u - u / y1*y1<b∧u / y1*y1≤u:=by
 obtain ⟨hb,hy,hy1,hy0,hu1,hu⟩:=h;have h1:u / y1*y1≤u:=Nat.div_mul_le_self u y1;have h2:u<u / y1*y1+y1:=Nat.lt_div_mul_add (by omega);generalize hG:u / y1=G at *;have h3:G≤b+1:=by
  rcases zz (b+1) G with h | h
  · have h6:(b+2)*y1≤G*y1:=qf _ h;rw [qr,zj b] at h6;omega
  · exact h
 have h4:(u*b+u1) / (y1*b+y0)≤G:=by
  apply Nat.le_of_lt_succ;apply qV;have h5:(y1*b+y0)*(G+1)=(G*y1+y1)*b+y0*(G+1):=by
   rw [zr,qr,jS,zr,jS,qr,x8,zj y1 G];omega
  have h7:(u+1)*b≤(G*y1+y1)*b:=qf _ h2;rw [qr,wH] at h7;show _<_*(G+1);rw [h5];omega
 unfold vO;generalize G*y1=p at *;exact ⟨⟨by omega,h4,h3⟩,by omega,h1⟩
theorem wW.quo_lt (h:wW b u u1 y1 y0):(u*b+u1) / (y1*b+y0)<b:=by
 obtain ⟨hb,hy,hy1,hy0,hu1,hu⟩:=h;apply qV;have h1:(u+1)*b≤(y1*b+y0)*b:=qf _ hu;rw [qr,wH] at h1;omega
theorem vO.le (h:wW b u u1 y1 y0) (hg:vO b u u1 y1 y0 q r) (hd:q*y0≤b*r+u1):q=(u*b+u1) / (y1*b+y0):=by
 obtain ⟨h1,h2,h3⟩:=hg;have hD:0<y1*b+y0:=by have:=Nat.mul_pos (show 0<y1 by have:=h.hy;have:=h.hb;omega) (show 0<b by have:=h.hb;omega);omega
 refine Nat.le_antisymm ((Nat.le_div_iff_mul_le hD).2 ?_) h2;have e:q*(y1*b+y0)=q*y1*b+q*y0:=by rw [zr,zd]
 have e2:u*b=q*y1*b+b*r:=by rw [←h1,qr,zj r]
 omega
theorem vO.gt (h:wW b u u1 y1 y0) (hg:vO b u u1 y1 y0 q r) (hd:b≤q∨b*r+u1<q*y0):(u*b+u1) / (y1*b+y0)<q:=by
 obtain ⟨h1,h2,h3⟩:=hg;rcases hd with hd | hd
 · have:=h.quo_lt;omega
 · apply qV;have e:(y1*b+y0)*q=q*y1*b+q*y0:=by rw [zj,zr,zd]
   have e2:u*b=q*y1*b+b*r:=by rw [←h1,qr,zj r]
   omega
theorem vO.step (h:wW b u u1 y1 y0) (hg:vO b u u1 y1 y0 q r) (hd:b≤q∨b*r+u1<q*y0):vO b u u1 y1 y0 (q - 1) (r+y1)∧1≤q:=by
 have h4:=hg.gt h hd;obtain ⟨h1,h2,h3⟩:=hg;obtain ⟨n,rfl⟩:∃ n,q=n+1:=⟨q - 1,by have:=j6 ((u*b+u1) / (y1*b+y0));omega⟩
 refine ⟨⟨?_,by rw [jU];exact Nat.le_of_lt_succ h4,by omega⟩,by omega⟩;rw [qr] at h1;rw [jU];omega
theorem vO.out (h:wW b u u1 y1 y0) (hg:vO b u u1 y1 y0 q r) (hq:q≤b) (hr:b≤r):q=(u*b+u1) / (y1*b+y0):=by
 refine hg.le h ?_;have h1:q*y0≤b*b:=Nat.mul_le_mul hq (by have:=h.hy0;omega);have h2:b*b≤b*r:=zi _ hr;omega
theorem vO.mul_le (hg:vO b u u1 y1 y0 q r) (hy0:y0<b):q*y0<b*b:=by
 obtain ⟨_,_,h3⟩:=hg;obtain ⟨n,rfl⟩:∃ n,b=n+1:=⟨b - 1,by omega⟩
 have h1:q*y0≤(n+2)*n:=Nat.mul_le_mul (by omega) (by omega);have h2:(n+2)*n=n*n+2*n:=by rw [qr]
 have h3:(n+1)*(n+1)=n*n+2*n+1:=by simp only [qr,zr];omega
 omega
end
theorem du {N D:Nat}(hD:0<D):N / D*D≤N∧N - N / D*D<D:=by
 have h1:=Nat.div_mul_le_self N D;have h2:=Nat.lt_div_mul_add (a:=N) hD;omega
theorem sS {b N D u1 u0:Nat}(hD:0<D) (r q0:Nat) (hr:r=N*b+u1 - (N*b+u1) / D*D) (hq:q0=(r*b+u0) / D) :
 (N*b+u1) / D*b+q0=((N*b+u1)*b+u0) / D∧r*b+u0 - q0*D=((N*b+u1)*b+u0) % D:=by
 have h1:=du (N:=N*b+u1) hD
 generalize N*b+u1=M at *
 have e:M=M / D*D+r:=by omega
 have e2:M*b+u0=(M / D*b)*D+(r*b+u0):=by
  have:M*b=(M / D*D+r)*b:=by rw [←e]
  rw [this,qr,x8,kg]
 have hd:(M*b+u0) / D=M / D*b+(r*b+u0) / D:=by
  rw [e2,kL,Nat.add_mul_div_right _ _ hD,kL]
 have hm:(M*b+u0) % D=(r*b+u0) % D:=by
  rw [e2,kL,wU]
 rw [hd,hm,hq]
 refine ⟨rfl,?_⟩
 have h5:=vi (r*b+u0) D
 have h6:(r*b+u0) / D*D=D*((r*b+u0) / D):=zj _ _
 omega
theorem tE {y k:Nat}(hy:y≠0) (h:Lib.bitLen y=k) (hlt:y<18446744073709551616):1≤k∧k≤64∧2 ^ (k - 1)≤y∧y<2 ^ k:=by
 have h1:=Lib.bitLenAux_bounds 64 y hlt hy;have h2:=Lib.bitLen_le y 64 (zH _) hlt;subst h;exact ⟨h1.1,h2,h1.2⟩
theorem nV {y:Nat}(hy:y≠0) (hlt:y<18446744073709551616):∃ s,s<64∧Lib.bitLen y=64 - s∧9223372036854775808≤y*2 ^ s∧y*2 ^ s<18446744073709551616:=by
 obtain ⟨h1,h2,h3,h4⟩:=tE hy rfl hlt;refine ⟨64 - Lib.bitLen y,by omega,by omega,?_,?_⟩
 · have:2 ^ (Lib.bitLen y - 1)*2 ^ (64 - Lib.bitLen y)≤y*2 ^ (64 - Lib.bitLen y):=qf _ h3;rw [←qI,show Lib.bitLen y - 1+(64 - Lib.bitLen y)=63 by omega] at this;simpa using this
 · have:y*2 ^ (64 - Lib.bitLen y)<2 ^ Lib.bitLen y*2 ^ (64 - Lib.bitLen y):=Nat.mul_lt_mul_of_pos_right h4 (qZ (by omega));rw [←qI,show Lib.bitLen y+(64 - Lib.bitLen y)=64 by omega] at this;simpa using this
theorem moved {hi lo y s:Nat}(hs:s<64) (hlo:lo<18446744073709551616) (h:hi<y) (hy:y*2 ^ s<18446744073709551616) :
 hi*2 ^ s+lo / 2 ^ (64 - s)<y*2 ^ s∧lo / 2 ^ (64 - s)<2 ^ s∧(hi*2 ^ s+lo / 2 ^ (64 - s))*18446744073709551616+lo*2 ^ s % 18446744073709551616=(hi*18446744073709551616+lo)*2 ^ s∧hi*2 ^ s<18446744073709551616:=by
 have e64:(18446744073709551616:Nat)=2 ^ s*2 ^ (64 - s):=by rw [←qI,show s+(64 - s)=64 by omega]
 have h1:lo / 2 ^ (64 - s)<2 ^ s:=by
  apply qV;rw [zj,←e64];exact hlo
 have h2:(hi+1)*2 ^ s≤y*2 ^ s:=qf _ h
 rw [qr,wH] at h2
 refine ⟨by omega,h1,?_,by have:=qZ (n:=s) (show 0<2 by omega);omega⟩
 have h3:lo*2 ^ s / 18446744073709551616=lo / 2 ^ (64 - s):=by
  rw [e64,zj lo,Nat.mul_div_mul_left _ _ (qZ (by omega))]
 have h4:=vi (lo*2 ^ s) 18446744073709551616
 rw [h3] at h4
 rw [qr,qr,x8 hi]
 omega
end Go.Proofs.YtmlbicgpehchhaaGreat
namespace Go.Proofs.YtmlbicgpehchhaaGreat
open Go.RowKit
theorem cg (i a b:Nat) (h:b<2 ^ i):a*2 ^ i ||| b=a*2 ^ i+b:=by
 rw [zj,Nat.two_pow_add_eq_or_of_lt h]
theorem zCk (x:Nat):x &&& 4294967295=x % 4294967296:=by
 have h:=Nat.and_two_pow_sub_one_eq_mod x 32;rwa [show 2 ^ 32 - 1=4294967295 by decide,show 2 ^ 32=4294967296 by decide] at h
theorem rL (x:Nat) (hx:x<18446744073709551616):bits .and .u64 (x:Int) 4294967295=((x % 4294967296:Nat):Int):=by
 have h:=bits_and_u64_nat x 4294967295 hx (by omega);rw [zCk] at h;exact h
theorem pz (x:Nat) (hx:x<18446744073709551616):∃ a b:Nat,a<4294967296∧b<4294967296∧a*4294967296+b=x∧(x:Int) / 4294967296=(a:Int)∧bits .and .u64 (x:Int) 4294967295=(b:Int):=by
 have h:=vi x 4294967296;have h2:=qP x (show 0<4294967296 by omega);have h3:=rL x hx;have h4:(x:Int) / 4294967296=((x / 4294967296:Nat):Int):=by omega
 generalize x / 4294967296=a at *;generalize x % 4294967296=b at *;exact ⟨a,b,by omega,h2,by omega,h4,h3⟩
theorem join4 (a b c d:Nat) (h:b*4294967296+c=d):(a*4294967296+b)*4294967296+c=a*18446744073709551616+d:=by
 rw [←h,qr,zd,kg]
theorem aF (a b r k l:Nat) (h:b+r=a) (hr:r<18446744073709551616):IntKind.u64.wrap (((a - 18446744073709551616*k:Int)) - ((b:Int) - 18446744073709551616*l))=(r:Int):=by
 simp [IntKind.wrap,IntKind.bits,IntKind.signed];omega
theorem zAE {a b c d:Int}(h:a=b) (h':c=d):Ending.returned (.tuple #[.int .u64 a,.int .u64 c])=.returned (.tuple #[.int .u64 b,.int .u64 d]):=by rw [h,h']
theorem rD (lo y:Nat) (w:World) (hlo:lo<18446744073709551616) (hy:0<y) (hy':y<18446744073709551616) :
 Calls Tryz.prog 191 #[.int .u64 0,.int .u64 (lo:Int),.int .u64 (y:Int)] w fun e w'=>e=.returned (.tuple #[.int .u64 ((lo / y:Nat):Int),.int .u64 ((lo % y:Nat):Int)])∧∃ n,w'=w.drewN n:=by
 have h0:((y:Int)==0)=false:=eqB (by omega)
 have h1:(0:Int)<(y:Int):=by omega
 have hq:IntKind.u64.wrap ((lo:Int) / (y:Int))=((lo / y:Nat):Int):=by
  have h:lo / y≤lo:=wg lo y;rw [←Int.natCast_ediv];generalize lo / y=z at *;exact jD _ (by omega)
 go_enter Tryz.func191,Tryz.ntmps191
 go_wp2
 go_quiet (fail)
 go_wp2
 go_ret2
 exact ⟨zAE (by simp) (by simp),_,rfl⟩
theorem tU (hi lo y:Nat) (w:World) (hlo:lo<18446744073709551616) (h0:0<hi) (hhi:hi<y) (hy':y<18446744073709551616) :
 Calls Tryz.prog 191 #[.int .u64 (hi:Int),.int .u64 (lo:Int),.int .u64 (y:Int)] w fun e w'=>e=.returned (.tuple #[.int .u64 (((hi*18446744073709551616+lo) / y:Nat):Int),.int .u64 (((hi*18446744073709551616+lo) % y:Nat):Int)])∧∃ n,w'=w.drewN n:=by
 have n0:((y:Int)==0)=false:=eqB (by omega)
 have n1:((hi:Int)==0)=false:=eqB (by omega)
 have n2:¬ (y:Int)≤(hi:Int):=by omega
 obtain ⟨s,hs,hbl,hY1,hY2⟩:=nV (y:=y) (by omega) hy'
 have hlz:=(Tryz.bits_LeadingZeros64 (y:Int) w (by omega) (by omega))
 rw [kU,hbl,show (64 - ((64 - s:Nat):Int))=(s:Int) by omega] at hlz
 have Hlz:=zF hlz
 clear hlz hbl
 obtain ⟨m1,m2,m3,m4⟩:=moved hs hlo hhi hY2
 obtain ⟨H,hH⟩:=eV (hi*2 ^ s)
 obtain ⟨L1,hL1⟩:=eV (lo / 2 ^ (64 - s))
 obtain ⟨Y,hY⟩:=eV (y*2 ^ s)
 obtain ⟨L,hL⟩:=eV (lo*2 ^ s % 18446744073709551616)
 have hor:H ||| L1=H+L1:=by rw [←hH];exact cg s hi L1 (by rw [←hL1];exact m2)
 have f1:IntKind.u64.wrap ((y:Int)*2 ^ s)=(Y:Int):=by
  rw [show ((y:Int)*2 ^ s)=(Y:Int) by rw [←hY];simp];exact jD _ (by omega)
 have f4:IntKind.u64.wrap ((hi:Int)*2 ^ s)=(H:Int):=by
  rw [show ((hi:Int)*2 ^ s)=(H:Int) by rw [←hH];simp];exact jD _ (by omega)
 have f5:(lo:Int) / 2 ^ (64 - s)=(L1:Int):=by rw [←hL1];simp
 have f7:IntKind.u64.wrap ((lo:Int)*2 ^ s)=(L:Int):=by
  rw [←hL];simp [IntKind.wrap,IntKind.bits,IntKind.signed]
 have k1:(s:Int)<64:=by omega
 rw [hH] at m1 m3 m4
 rw [hL1] at m1 m2 m3
 rw [hY] at m1 hY1 hY2
 rw [hL] at m3
 have hLlt:L<18446744073709551616:=by rw [←hL];exact qP _ (by omega)
 obtain ⟨U,hU⟩:=eV (H+L1)
 rw [hU] at m1 m3 hor
 have f6:bits .or .u64 (H:Int) (L1:Int)=(U:Int):=by
  rw [bits_or_u64_nat H L1 (by omega) (by omega),hor]
 obtain ⟨y1,y0,hy1,hy0,hyy,f2,f3⟩:∃ y1 y0:Nat,y1<4294967296∧y0<4294967296∧y1*4294967296+y0=Y∧(Y:Int) / 4294967296=(y1:Int)∧bits .and .u64 (Y:Int) 4294967295=(y0:Int)  := pz Y hY2
 obtain ⟨u1,u0,hu1,hu0,huu,f8,f9⟩:∃ u1 u0:Nat,u1<4294967296∧u0<4294967296∧u1*4294967296+u0=L∧(L:Int) / 4294967296=(u1:Int)∧bits .and .u64 (L:Int) 4294967295=(u0:Int)  := pz L hLlt
 have G:wW 4294967296 U u1 y1 y0:=⟨by omega,by omega,hy1,hy0,hu1,by omega⟩
 obtain ⟨hg,hr,hp⟩:=G.start
 obtain ⟨q,hq⟩:=eV (U / y1)
 rw [hq] at hg hr hp
 obtain ⟨p,hp'⟩:=eV (q*y1)
 rw [hp'] at hg hr hp
 obtain ⟨r,hr'⟩:=eV (U - p)
 rw [hr'] at hg hr
 have hqU:q≤U:=by rw [←hq];exact wg U y1
 have f10:IntKind.u64.wrap ((U:Int) / (y1:Int))=(q:Int):=by rw [←Int.natCast_ediv,hq];exact jD _ (by omega)
 have f10':IntKind.u64.wrap ((U:Int).tdiv (y1:Int))=(q:Int):=by rw [kH (by omega)];exact f10
 have f11:IntKind.u64.wrap ((q:Int)*(y1:Int))=(p:Int):=by rw [←yW,hp'];exact jD _ (by omega)
 have f12:(U:Int) - (p:Int)=(r:Int):=by omega
 have n3:((y1:Int)==0)=false:=eqB (by omega)
 have n4:¬ y1=0:=by omega
 have HY:=zF hY
 clear hH hL1 hY hL hor hU hq hp' hr' hp
 go_enter Tryz.func191,Tryz.ntmps191
 go_wp2_with fail
 refine Hlz.out.mono ?_
 rintro e w1 ⟨rfl,rfl⟩
 go_upto_block 0 with fail
 go_cut [15,16] (fun s15 s16 wx=>∃ Q r':Nat,s15=.int .u64 (Q:Int)∧s16=.int .u64 (r':Int)∧Hid (Q=(U*4294967296+u1) / (y1*4294967296+y0))∧w1=wx)
 case first =>
  go_wp2_with fail;go_loop [15,16] (fun qv rv=>∃ q r:Nat,qv=.int .u64 (q:Int)∧rv=.int .u64 (r:Int)∧vO 4294967296 U u1 y1 y0 q r∧r<4294967296) (fun qv _=>(intOf qv).toNat);case atStart=>exact ⟨q,r,rfl,rfl,hg,hr⟩
  case round =>
   clear hg hr;obtain ⟨q,r,rfl,rfl,hg,hr⟩:=hrel;have hml:=hg.mul_le hy0;obtain ⟨z,hz⟩:=eV (q*y0);rw [hz] at hml;have hqb:=hg.2.2;by_cases h1:4294967296≤q∨4294967296*r+u1<q*y0
   · obtain ⟨hg',hq1⟩:=hg.step G h1;obtain ⟨n,rfl⟩:∃ n,q=n+1:=⟨q - 1,by omega⟩
     rw [jU] at hg';have g1:IntKind.u64.wrap (((n:Int)+1)*(y0:Int))=(z:Int):=by
      rw [show ((n:Int)+1)*(y0:Int)=(z:Int) by rw [←hz];simp];exact jD _ (by omega)
     rw [hz] at h1;have hout:=fun h=>hg'.out G (by omega) h;have Hout:=zF hout;clear hout hg hz hml;by_cases h3:4294967296≤r+y1
     · have hQ:=zF (Hout.out h3);by_cases h4:4294967296≤n+1
       · have i4:(4294967296:Int)≤(n:Int)+1:=by omega
         have i3:(4294967296:Int)≤(r:Int)+(y1:Int):=by omega
         clear h1 h3 h4;go_wp2;go_meet;case rel=>exact ⟨n,_,by go_num,rfl,hQ,rfl⟩
       · have i5:(4294967296:Int)*(r:Int)+(u1:Int)<(z:Int):=by omega
         have i4:¬ (4294967296:Int)≤(n:Int)+1:=by omega
         have i3:(4294967296:Int)≤(r:Int)+(y1:Int):=by omega
         clear h1 h3 h4;go_wp2;go_meet;case rel=>exact ⟨n,_,by go_num,rfl,hQ,rfl⟩
     · by_cases h4:4294967296≤n+1
       · have i4:(4294967296:Int)≤(n:Int)+1:=by omega
         have i3:¬ (4294967296:Int)≤(r:Int)+(y1:Int):=by omega
         have H3:=zF h3;clear h1 h3 h4;go_wp2;go_round;case rel=>exact ⟨n,r+y1,by go_num,by go_num,hg',by have:=H3.out;omega⟩
         case measure=>simp [intOf]
       · have i5:(4294967296:Int)*(r:Int)+(u1:Int)<(z:Int):=by omega
         have i4:¬ (4294967296:Int)≤(n:Int)+1:=by omega
         have i3:¬ (4294967296:Int)≤(r:Int)+(y1:Int):=by omega
         have H3:=zF h3;clear h1 h3 h4;go_wp2;go_round;case rel=>exact ⟨n,r+y1,by go_num,by go_num,hg',by have:=H3.out;omega⟩
         case measure=>simp [intOf]
   · have hQ:=zF (hg.le G (by omega));have g1:IntKind.u64.wrap ((q:Int)*(y0:Int))=(z:Int):=by
      rw [show (q:Int)*(y0:Int)=(z:Int) by rw [←hz];simp];exact jD _ (by omega)
     have i4:¬ (4294967296:Int)≤(q:Int):=by omega
     have i5:¬ (4294967296:Int)*(r:Int)+(u1:Int)<(z:Int):=by omega
     clear h1 hg hz hml;go_wp2;go_meet;case rel=>exact ⟨q,_,rfl,rfl,hQ,rfl⟩
 case rest =>
  clear hg hr hqU f10 f10' f11 f12;obtain ⟨Q,r',rfl,rfl,HQ,rfl⟩:=hcut;have hQ:=HQ.out;rw [hyy] at hQ;have hQb:=G.quo_lt;rw [hyy,←hQ] at hQb;have hYpos:0<Y:=by omega
  have hrest:=du (N:=U*4294967296+u1) hYpos;rw [←hQ] at hrest;obtain ⟨p3,hp3⟩:=eV (Q*Y);rw [hp3] at hrest;obtain ⟨R,hR⟩:=eV (U*4294967296+u1 - p3);rw [hR] at hrest;obtain ⟨hr1,hr2⟩:=hrest;obtain ⟨a1,k1',ha1,ha1b,ha1e⟩:∃ a1 k1:Nat,IntKind.u64.wrap ((U:Int)*4294967296)=(a1:Int)∧(a1:Int)≤18446744069414584320∧(a1:Int)=(U:Int)*4294967296 - 18446744073709551616*k1:=by
   refine ⟨U*4294967296 % 18446744073709551616,U / 4294967296,?_,by omega,by omega⟩;simp [IntKind.wrap,IntKind.bits,IntKind.signed]
  obtain ⟨a3,k3,ha3,ha3e⟩:∃ a3 k3:Nat,IntKind.u64.wrap ((Q:Int)*(Y:Int))=(a3:Int)∧(a3:Int)=(p3:Int) - 18446744073709551616*k3:=by
   rw [show (Q:Int)*(Y:Int)=(p3:Int) by rw [←hp3];simp];exact ⟨p3 % 18446744073709551616,p3 / 18446744073709551616,by simp [IntKind.wrap,IntKind.bits,IntKind.signed],by omega⟩
  have hd:IntKind.u64.wrap ((a1:Int)+(u1:Int) - (a3:Int))=(R:Int):=by
   have:=aF (U*4294967296+u1) p3 R k1' k3 (by omega) (by omega);rw [ha3e,ha1e,←this];congr 1;simp;omega
  have G2:wW 4294967296 R u0 y1 y0:=⟨by omega,by omega,hy1,hy0,hu0,by omega⟩
  obtain ⟨hg,hr,hp⟩:=G2.start;obtain ⟨qq,hq⟩:=eV (R / y1);rw [hq] at hg hr hp;obtain ⟨pp,hp'⟩:=eV (qq*y1);rw [hp'] at hg hr hp;obtain ⟨rr,hr'⟩:=eV (R - pp);rw [hr'] at hg hr;have hqU:qq≤R:=by rw [←hq];exact wg R y1
  have f10:IntKind.u64.wrap ((R:Int) / (y1:Int))=(qq:Int):=by rw [←Int.natCast_ediv,hq];exact jD _ (by omega)
  have f10':IntKind.u64.wrap ((R:Int).tdiv (y1:Int))=(qq:Int):=by rw [kH (by omega)];exact f10
  have f11:IntKind.u64.wrap ((qq:Int)*(y1:Int))=(pp:Int):=by rw [←yW,hp'];exact jD _ (by omega)
  have f12:(R:Int) - (pp:Int)=(rr:Int):=by omega
  have hts:=sS (b:=4294967296) (N:=U) (u1:=u1) (u0:=u0) hYpos R _ (by rw [←hQ,hp3];exact hR.symm) rfl;rw [←hQ] at hts;have Hts:=zF hts;have Hp3:=zF hp3;have HR:=zF hR;clear hts hQ hp3 hR ha1e ha3e hq hp' hr' hp hr1;go_upto_block 2 with fail;go_cut [18,16] (fun s18 s16 wx=>∃ Q r':Nat,s18=.int .u64 (Q:Int)∧s16=.int .u64 (r':Int)∧Hid (Q=(R*4294967296+u0) / (y1*4294967296+y0))∧w1=wx);case first =>
   go_wp2_with fail;go_loop [18,16] (fun qv rv=>∃ q r:Nat,qv=.int .u64 (q:Int)∧rv=.int .u64 (r:Int)∧vO 4294967296 R u0 y1 y0 q r∧r<4294967296) (fun qv _=>(intOf qv).toNat);case atStart=>exact ⟨qq,rr,rfl,rfl,hg,hr⟩
   case round =>
    clear hg hr;obtain ⟨q,r,rfl,rfl,hg,hr⟩:=hrel;have hml:=hg.mul_le hy0;obtain ⟨z,hz⟩:=eV (q*y0);rw [hz] at hml;have hqb:=hg.2.2;by_cases h1:4294967296≤q∨4294967296*r+u0<q*y0
    · obtain ⟨hg',hq1⟩:=hg.step G2 h1;obtain ⟨n,rfl⟩:∃ n,q=n+1:=⟨q - 1,by omega⟩
      rw [jU] at hg';have g1:IntKind.u64.wrap (((n:Int)+1)*(y0:Int))=(z:Int):=by
       rw [show ((n:Int)+1)*(y0:Int)=(z:Int) by rw [←hz];simp];exact jD _ (by omega)
      rw [hz] at h1;have hout:=fun h=>hg'.out G2 (by omega) h;have Hout:=zF hout;clear hout hg hz hml;by_cases h3:4294967296≤r+y1
      · have hQ:=zF (Hout.out h3);by_cases h4:4294967296≤n+1
        · have i4:(4294967296:Int)≤(n:Int)+1:=by omega
          have i3:(4294967296:Int)≤(r:Int)+(y1:Int):=by omega
          clear h1 h3 h4;go_wp2;go_meet;case rel=>exact ⟨n,_,by go_num,rfl,hQ,rfl⟩
        · have i5:(4294967296:Int)*(r:Int)+(u0:Int)<(z:Int):=by omega
          have i4:¬ (4294967296:Int)≤(n:Int)+1:=by omega
          have i3:(4294967296:Int)≤(r:Int)+(y1:Int):=by omega
          clear h1 h3 h4;go_wp2;go_meet;case rel=>exact ⟨n,_,by go_num,rfl,hQ,rfl⟩
      · by_cases h4:4294967296≤n+1
        · have i4:(4294967296:Int)≤(n:Int)+1:=by omega
          have i3:¬ (4294967296:Int)≤(r:Int)+(y1:Int):=by omega
          have H3:=zF h3;clear h1 h3 h4;go_wp2;go_round;case rel=>exact ⟨n,r+y1,by go_num,by go_num,hg',by have:=H3.out;omega⟩
          case measure=>simp [intOf]
        · have i5:(4294967296:Int)*(r:Int)+(u0:Int)<(z:Int):=by omega
          have i4:¬ (4294967296:Int)≤(n:Int)+1:=by omega
          have i3:¬ (4294967296:Int)≤(r:Int)+(y1:Int):=by omega
          have H3:=zF h3;clear h1 h3 h4;go_wp2;go_round;case rel=>exact ⟨n,r+y1,by go_num,by go_num,hg',by have:=H3.out;omega⟩
          case measure=>simp [intOf]
    · have hQ:=zF (hg.le G2 (by omega));have g1:IntKind.u64.wrap ((q:Int)*(y0:Int))=(z:Int):=by
       rw [show (q:Int)*(y0:Int)=(z:Int) by rw [←hz];simp];exact jD _ (by omega)
      have i4:¬ (4294967296:Int)≤(q:Int):=by omega
      have i5:¬ (4294967296:Int)*(r:Int)+(u0:Int)<(z:Int):=by omega
      clear h1 hg hz hml;go_wp2;go_meet;case rel=>exact ⟨q,_,rfl,rfl,hQ,rfl⟩
  case rest =>
   clear hg hr hqU f10 f10' f11 f12;obtain ⟨Q0,r2,rfl,rfl,HQ0,rfl⟩:=hcut;have hQ0:=HQ0.out;rw [hyy] at hQ0;have hQ0b:=G2.quo_lt;rw [hyy,←hQ0] at hQ0b;obtain ⟨e1,e2⟩:=Hts.out;rw [←hQ0] at e1 e2;have hrest2:=du (N:=R*4294967296+u0) hYpos;rw [←hQ0] at hrest2;have hM0:(U*4294967296+u1)*4294967296+u0=U*18446744073709551616+L:=join4 U u1 u0 L huu;have hM:=hM0.trans m3;rw [hM] at e1 e2;have hYs:=HY.out;rw [←hYs,Nat.mul_div_mul_right _ _ (qZ (by omega))] at e1;rw [←hYs,Nat.mul_mod_mul_right] at e2;rw [hYs] at e2;obtain ⟨p4,hp4⟩:=eV (Q0*Y);rw [hp4] at hrest2 e2;obtain ⟨T,hT⟩:=eV ((hi*18446744073709551616+lo) % y);obtain ⟨V,hV⟩:=eV ((hi*18446744073709551616+lo) / y);rw [hT] at e2;rw [hV] at e1;obtain ⟨S,hS⟩:=eV (T*2 ^ s);rw [hS] at e2;have hS2:(S:Int) / 2 ^ s=(T:Int):=by
    rw [←hS];have:T*2 ^ s / 2 ^ s=T:=Nat.mul_div_cancel _ (qZ (by omega));rw [show ((2:Int) ^ s)=((2 ^ s:Nat):Int) by simp,←Int.natCast_ediv,this]
   obtain ⟨b1,k5,hb1,hb1b,hb1e⟩:∃ a1 k1:Nat,IntKind.u64.wrap ((R:Int)*4294967296)=(a1:Int)∧(a1:Int)≤18446744069414584320∧(a1:Int)=(R:Int)*4294967296 - 18446744073709551616*k1:=by
    refine ⟨R*4294967296 % 18446744073709551616,R / 4294967296,?_,by omega,by omega⟩;simp [IntKind.wrap,IntKind.bits,IntKind.signed]
   obtain ⟨b3,k6,hb3,hb3e⟩:∃ a3 k3:Nat,IntKind.u64.wrap ((Q0:Int)*(Y:Int))=(a3:Int)∧(a3:Int)=(p4:Int) - 18446744073709551616*k3:=by
    rw [show (Q0:Int)*(Y:Int)=(p4:Int) by rw [←hp4];simp];exact ⟨p4 % 18446744073709551616,p4 / 18446744073709551616,by simp [IntKind.wrap,IntKind.bits,IntKind.signed],by omega⟩
   have hd2:IntKind.u64.wrap ((b1:Int)+(u0:Int) - (b3:Int))=(S:Int):=by
    have:=aF (R*4294967296+u0) p4 S k5 k6 (by omega) (by omega);rw [hb3e,hb1e,←this];congr 1;simp;omega
   have He1:=zF e1;have HT:=zF hT;have HV:=zF hV;clear e1 e2 hQ0 hp4 hS hT hV hb1e hb3e hrest2 hM hM0 hYs;go_wp2;go_ret2;exact ⟨zAE (by rw [HV.out,←He1.out];simp) (by rw [HT.out]),0,rfl⟩
theorem az (hi lo y:Nat) (w:World) (hlo:lo<18446744073709551616) (hhi:hi<y) (hy':y<18446744073709551616) (q r:Nat) (hr:r<y) (he:hi*18446744073709551616+lo=y*q+r) :
 Calls Tryz.prog 191 #[.int .u64 (hi:Int),.int .u64 (lo:Int),.int .u64 (y:Int)] w fun e w'=>e=.returned (.tuple #[.int .u64 (q:Int),.int .u64 (r:Int)])∧∃ n,w'=w.drewN n:=by
 have e1:(hi*18446744073709551616+lo) / y=q:=by rw [he,Nat.mul_add_div (by omega),qn hr];omega
 have e2:(hi*18446744073709551616+lo) % y=r:=by rw [he,Nat.mul_add_mod,qG hr]
 rcases za hi with rfl | h0
 · rw [Nat.zero_mul,jc] at e1 e2;have h:=rD lo y w hlo (by omega) hy';rw [e1,e2] at h;exact h
 · have h:=tU hi lo y w hlo h0 hhi hy';rw [e1,e2] at h;exact h
def vT (k:Nat) (i:Int):Prop:=(k=0∧i=-1)∨∃ j:Nat,k=j+1∧i=(j:Int)
theorem vT.start (n:Nat):vT n ((n:Int) - 1):=by
 rcases n with _ | n
 · exact .inl ⟨rfl,by simp⟩
 · exact .inr ⟨n,rfl,by omega⟩
def xD (B:Nat) (l o:List Nat) (d k r:Nat):Prop:=o.length=l.length∧val B (l.drop k)=d*val B (o.drop k)+r
theorem xD.start {B:Nat}{l o:List Nat}(d:Nat) (h:o.length=l.length):xD B l o d l.length 0:=by
 refine ⟨h,?_⟩;rw [List.drop_length,←h,List.drop_length];simp
theorem sC {l:List Nat}{k:Nat}(h:k<l.length):l.drop k=dg l k :: l.drop (k+1):=by
 rw [qa h,dg,jW h]
theorem drop_set {l:List Nat}{k x:Nat}(h:k<l.length):(l.set k x).drop k=x :: l.drop (k+1):=by
 rw [List.drop_set,qA (Nat.lt_irrefl _),sC h,Nat.sub_self,List.set_cons_zero]
theorem xD.step {B:Nat}{l o:List Nat}{d k r q r':Nat}(h:xD B l o d (k+1) r) (hk:k<l.length) (he:r*B+dg l k=d*q+r'):xD B l (o.set k q) d k r':=by
 obtain ⟨h1,h2⟩:=h;refine ⟨by simpa using h1,?_⟩;rw [sC hk,drop_set (by omega),ju,ju,h2];have e:B*(d*val B (o.drop (k+1))+r)=d*(B*val B (o.drop (k+1)))+r*B:=by
  rw [zr,jR,zj B r]
 rw [e,zr];omega
theorem xD.fin {B:Nat}{l o:List Nat}{d r:Nat}(h:xD B l o d 0 r) (hr:r<d):val B o=val B l / d∧r=val B l % d:=by
 have:=h.2;simp only [List.drop_zero] at this;rw [this];refine ⟨?_,?_⟩
 · rw [Nat.mul_add_div (by omega),qn hr,qu]
 · rw [Nat.mul_add_mod,qG hr]
theorem sX (P:Nat→Prop) (A:Option Addr) (c:Nat) (l:List Nat) (d:Nat) (w:World) (h:RN w P A c l) (hP:∀ b,P b→b<w.heap.size) (hl:l.length<100000) (hd:0<d) (hd':d<18446744073709551616) :
 Calls Tryz.prog 159 #[.slice A l.length c,.int .u64 (d:Int)] w fun e w'=>∃ A1 c1,e=.returned (.tuple #[.slice A1 (digs 18446744073709551616 (val 18446744073709551616 l / d)).length c1,.int .u64 ((val 18446744073709551616 l % d:Nat):Int)]) ∧
  OB w' w.heap.size A1 c1 (digs 18446744073709551616 (val 18446744073709551616 l / d))∧Below w.heap.size w w':=by
 obtain ⟨h1,h2,h3⟩:=h.cap
 have hmk:=jH (P:=Tryz.prog) 23 69 (.int .u64 0) 8 Tryz.underlying23 j9 rfl .i64 .i64 l.length (by omega) (by omega)
 have Hs:=zF (vT.start l.length)
 go_enter Tryz.func159,Tryz.ntmps159
 go_wp2
 go_loopw [7,8] (fun rv iv wr=>∃ (k r:Nat) (z:Int) (o:List Nat),iv=.int .i64 z∧vT k z∧rv=.int .u64 (r:Int)∧k≤l.length∧r<d∧xD 18446744073709551616 l o d k r∧Lim o∧Blk wr w.heap.size o∧Below w.heap.size w wr) (fun _ iv _=>(intOf iv+1).toNat)
 case atStart=>exact ⟨l.length,0,_,List.replicate l.length 0,rfl,Hs.out,rfl,by omega,by omega,xD.start d (by simp),⟨by simp,by simp;omega⟩,vA w _,(zO _ w).alloc (zH _) _⟩
 case round =>
  obtain ⟨k,r,z,o,rfl,hz,rfl,hk,hr,hS,hLo,hblk,hB⟩:=hrel;rcases hz with ⟨rfl,rfl⟩ | ⟨j,rfl,rfl⟩
  · obtain ⟨hv,hrem⟩:=hS.fin hr;have hOB:OB wr w.heap.size (some ⟨w.heap.size,0,none⟩) l.length o:=kA hblk (zH _) hLo (by have:=hS.1;omega) (by unfold maxLen;omega);have ht:=jV _ _ _ _ _ hOB.rn;have hOB':=hOB.trim;rw [hv,hS.1] at ht;rw [hv] at hOB';have Ht:=zF ht;have Hrem:=zF hrem;clear hblk hLo ht hv hrem hOB hS;go_wp2_with fail;refine Ht.out.mono ?_;rintro e w1 ⟨rfl,rfl⟩;go_wp2;go_ret2;exact ⟨_,_,by rw [Hrem.out];rfl,hOB',hB⟩
  · obtain ⟨ad,rfl,had,q1⟩:=(h.below hB hP).at_ (i:=j) (by omega);have hol:=hS.1;have hlj:=h.2.dgLt j;have q3:=hblk.cell (i:=j) (by omega);have q4:=hblk.free j;obtain ⟨q,r',hr',he,hq⟩:∃ q r':Nat,r'<d∧r*18446744073709551616+dg l j=d*q+r'∧q<18446744073709551616:=by
     refine ⟨(r*18446744073709551616+dg l j) / d,(r*18446744073709551616+dg l j) % d,qP _ hd,(vi _ d).symm,?_⟩;apply qV;have:(r+1)*18446744073709551616≤d*18446744073709551616:=qf _ hr;omega
    have hdv:=zF (fun w=>az r (dg l j) d w hlj hr hd' q r' hr' he);have hS':=hS.step (by omega) he;have hblk':=hblk.set j q;have hLo':=hLo.set j q hq;have hB':=hB.setCell (p:=⟨w.heap.size,j,none⟩) (zH _) (.int .u64 (q:Int));have k1:(j:Int)<(l.length:Int):=by omega
    have Hs':=zF (vT.start j);clear he hS hblk hLo hB hol;go_wp2_with fail;refine (hdv.out _).mono ?_;rintro e w1 ⟨rfl,n,rfl⟩;go_wp2;go_roundw;case rel=>exact ⟨j,r',_,o.set j q,rfl,Hs'.out,rfl,by omega,hr',hS',hLo',hblk',qR hB' _⟩
    case measure=>simp [intOf]
theorem dj {d:Nat}(h0:0<d) (h:d<18446744073709551616):digs 18446744073709551616 d=[d]:=by
 rw [jT (by omega) h0,qG h,qn h,qU]
theorem quo_lt (P P':Nat→Prop) (A A':Option Addr) (c c':Nat) (a b:List Nat) (w:World) (h:RN w P A c a) (h':RN w P' A' c' b) (hlt:val 18446744073709551616 a<val 18446744073709551616 b) :
 Calls Tryz.prog 124 #[.slice A a.length c,.slice A' b.length c'] w fun e w'=>∃ A1 c1,e=.returned (.tuple #[.slice none 0 0,.slice A1 (digs 18446744073709551616 (val 18446744073709551616 a)).length c1,.bool true]) ∧
  OB w' w.heap.size A1 c1 (digs 18446744073709551616 (val 18446744073709551616 a))∧Below w.heap.size w w':=by
 have ta:=zF (jV P A c a w h)
 have tb:=zF (jV P' A' c' b w h')
 have tc:=wL P P' A A' c c' _ _ w h.trim h'.trim
 have tm:=fun n=>fk P A c _ (World.drewN w n) (h.trim.drewN n)
 rw [zc (by omega),zc (by omega),xY hlt] at tc
 rw [zc (by omega)] at tm
 have Tc:=zF tc
 have Tm:=zF tm
 have hne:0<(digs 18446744073709551616 (val 18446744073709551616 b)).length:=by
  rw [jT (by omega) (by omega)];simp
 clear tc tm h h' hlt
 generalize digs 18446744073709551616 (val 18446744073709551616 a)=l at *
 generalize digs 18446744073709551616 (val 18446744073709551616 b)=m at *
 have hne':((m.length:Int)==0)=false:=eqB (by omega)
 clear hne
 go_enter Tryz.func124,Tryz.ntmps124
 go_wp2_with fail
 refine ta.out.mono ?_
 rintro e w1 ⟨rfl,rfl⟩
 go_wp2_with fail
 refine tb.out.mono ?_
 rintro e w1 ⟨rfl,rfl⟩
 go_wp2_with fail
 refine Tc.out.mono ?_
 rintro e w1 ⟨rfl,n,rfl⟩
 go_wp2_with fail
 refine (Tm.out n).mono ?_
 rintro e w1 ⟨A1,c1,rfl,hO,hB⟩
 go_wp2
 go_ret3
 exact ⟨A1,c1,rfl,hO,⟨hB.os,hB.tape,hB.output,hB.size,hB.block⟩⟩
theorem zBW (P P':Nat→Prop) (A A':Option Addr) (c c':Nat) (a b:List Nat) (w:World) (h:RN w P A c a) (h':RN w P' A' c' b) (hP:∀ b,P b→b<w.heap.size) (hl:a.length<100000) (hge:val 18446744073709551616 b≤val 18446744073709551616 a)
 (h0:0<val 18446744073709551616 b) (h1:val 18446744073709551616 b<18446744073709551616) :
 Calls Tryz.prog 124 #[.slice A a.length c,.slice A' b.length c'] w fun e w'=>∃ A1 c1 A2 c2,e=.returned (.tuple #[.slice A1 (digs 18446744073709551616 (val 18446744073709551616 a / val 18446744073709551616 b)).length c1,.slice A2 (digs 18446744073709551616 (val 18446744073709551616 a % val 18446744073709551616 b)).length c2,.bool true]) ∧
  OB w' w.heap.size A1 c1 (digs 18446744073709551616 (val 18446744073709551616 a / val 18446744073709551616 b))∧OB w' w.heap.size A2 c2 (digs 18446744073709551616 (val 18446744073709551616 a % val 18446744073709551616 b))∧Below w.heap.size w w':=by
 have ta:=zF (jV P A c a w h)
 have tb:=zF (jV P' A' c' b w h')
 have tc:=wL P P' A A' c c' _ _ w h.trim h'.trim
 have la:=ql (B:=18446744073709551616) (by omega) h.2.1
 have ts:=fun n=>sX P A c _ (val 18446744073709551616 b) (World.drewN w n) (h.trim.drewN n) hP (by omega) h0 h1
 rw [zc (by omega),zc (by omega)] at tc
 rw [zc (by omega)] at ts
 replace h:=h.trim
 replace h':=h'.trim
 generalize val 18446744073709551616 a=x at *
 generalize val 18446744073709551616 b=y at *
 have hcv:0≤jo x y:=by rcases jb x y with h | h | h <;> omega
 generalize jo x y=v at tc hcv
 have hof:=zF (fun w=>xN (x % y) w (by have:=qP x h0;omega))
 have hm1:=dj h0 h1
 rw [hm1] at tb tc h'
 have Tc:=zF tc
 have Ts:=zF ts
 obtain ⟨ae,rfl,hae,q1⟩:=h'.at_ (i:=0) (by simp)
 rw [yS] at q1
 clear tc ts hm1 hge la hl
 obtain ⟨g1,g2,g3⟩:=h.cap
 generalize digs 18446744073709551616 x=l at *
 clear h h' h0 h1
 have q2:Hid (w.cell? ae=some (.int .u64 (y:Int))):=zF (by simpa [Addr.add] using q1)
 clear q1
 go_enter Tryz.func124,Tryz.ntmps124
 go_wp2_with fail
 refine ta.out.mono ?_
 rintro e w1 ⟨rfl,rfl⟩
 go_wp2_with fail
 refine tb.out.mono ?_
 rintro e w1 ⟨rfl,rfl⟩
 go_wp2_with fail
 refine Tc.out.mono ?_
 rintro e w1 ⟨rfl,n,rfl⟩
 have q3:=q2.out
 clear hP g1 g2 g3
 go_wp2_with fail
 refine (Ts.out n).mono ?_
 rintro e w1 ⟨A1,c1,rfl,hO,hB⟩
 go_wp2_with fail
 refine (hof.out _).mono ?_
 rintro e w2 ⟨A2,c2,rfl,hO2,hB2⟩
 go_wp2
 go_ret3
 exact ⟨A1,c1,A2,c2,rfl,hO.below hB2 (zH _),hO2.mono hB.size,yL ⟨hB.os,hB.tape,hB.output,hB.size,hB.block⟩ (hB2.mono hB.size)⟩
end Go.Proofs.YtmlbicgpehchhaaGreat
namespace Go.Proofs.YtmlbicgpehchhaaGreat
theorem vc:type_of% @vT.start:=@vT.start
def xa (B:Nat) (L0 y:List Nat) (q f:Nat) (L:List Nat) (j c b:Nat):Prop :=
 L.length=L0.length∧val B L+B ^ f*(q*val B (y.take j))=val B L0+B ^ (f+j)*(c+b)∧∀ i,f+j≤i→dg L i=dg L0 i
theorem xa.zero (B:Nat) (L y:List Nat) (q f:Nat):xa B L y q f L 0 0 0:=by simp [xa]
theorem xa.step {B:Nat}{L0 y L:List Nat}{q f j c b lo c' x b':Nat}(h:xa B L0 y q f L j c b) (hL:f+j<L.length) (h1:lo+B*c'=q*dg y j+c) (h2:x+lo+b=dg L (f+j)+B*b') :
 xa B L0 y q f (L.set (f+j) x) (j+1) c' b':=by
 obtain ⟨g1,g2,g3⟩:=h
 refine ⟨by simpa using g1,?_,fun i hi=>by rw [getD_set_ne (by omega)];exact g3 i (by omega)⟩
 have hs:=vp B hL x
 rw [qD,zr,zr,←kg f j 1,zu]
 have e1:B ^ f*(q*(B ^ j*dg y j))=B ^ (f+j)*(q*dg y j):=by
  rw [qI,jR q,←zd]
 have e2:B ^ (f+j)*(lo+B*c')=B ^ (f+j)*(q*dg y j+c):=by rw [h1]
 have e3:B ^ (f+j)*(x+lo+b)=B ^ (f+j)*(dg L (f+j)+B*b'):=by rw [h2]
 rw [e1,zd,zr]
 rw [zr] at g2
 simp only [zr] at e2 e3 ⊢
 generalize B ^ (f+j)*(B*c')=p1 at *
 generalize B ^ (f+j)*(B*b')=p2 at *
 generalize B ^ (f+j)*lo=p3 at *
 generalize B ^ (f+j)*(q*dg y j)=p4 at *
 generalize B ^ (f+j)*c=p5 at *
 generalize B ^ (f+j)*b=p6 at *
 generalize B ^ (f+j)*x=p7 at *
 generalize B ^ (f+j)*dg L (f+j)=p8 at *
 generalize B ^ f*(q*val B (y.take j))=p9 at *
 generalize val B (L.set (f+j) x)=p10 at *
 generalize val B L=p11 at *
 generalize val B L0=p12 at *
 omega
theorem xa.fin {B:Nat}{L0 y L:List Nat}{q f n c b x b':Nat}(h:xa B L0 y q f L n c b) (hn:y.length=n) (hL:f+n<L.length) (h2:x+c+b=dg L (f+n)+B*b') :
 (L.set (f+n) x).length=L0.length∧val B (L.set (f+n) x)+B ^ f*(q*val B y)=val B L0+B ^ (f+n+1)*b'∧∀ i,f+n+1≤i→dg (L.set (f+n) x) i=dg L0 i:=by
 obtain ⟨g1,g2,g3⟩:=h
 refine ⟨by simpa using g1,?_,fun i hi=>by rw [getD_set_ne (by omega)];exact g3 i (by omega)⟩
 rw [zk (by omega)] at g2
 have hs:=vp B hL x
 have e3:B ^ (f+n)*(x+c+b)=B ^ (f+n)*(dg L (f+n)+B*b'):=by rw [h2]
 rw [zu,zd]
 simp only [zr] at e3 g2
 generalize B ^ (f+n)*(B*b')=p2 at *
 generalize B ^ (f+n)*c=p5 at *
 generalize B ^ (f+n)*b=p6 at *
 generalize B ^ (f+n)*x=p7 at *
 generalize B ^ (f+n)*dg L (f+n)=p8 at *
 generalize B ^ f*(q*val B y)=p9 at *
 generalize val B (L.set (f+n) x)=p10 at *
 generalize val B L=p11 at *
 generalize val B L0=p12 at *
 omega
def xb (B:Nat) (L0 y:List Nat) (f:Nat) (L:List Nat) (j c:Nat):Prop :=
 L.length=L0.length∧val B L+B ^ (f+j)*c=val B L0+B ^ f*val B (y.take j)∧∀ i,f+j≤i→dg L i=dg L0 i
theorem xb.zero (B:Nat) (L y:List Nat) (f:Nat):xb B L y f L 0 0:=by simp [xb]
theorem xb.step {B:Nat}{L0 y L:List Nat}{f j c x c':Nat}(h:xb B L0 y f L j c) (hL:f+j<L.length) (h1:x+B*c'=dg L (f+j)+dg y j+c):xb B L0 y f (L.set (f+j) x) (j+1) c':=by
 obtain ⟨g1,g2,g3⟩:=h;refine ⟨by simpa using g1,?_,fun i hi=>by rw [getD_set_ne (by omega)];exact g3 i (by omega)⟩;have hs:=vp B hL x;rw [qD,zr,←zd,←qI,←kg f j 1,zu,zd];have e2:B ^ (f+j)*(x+B*c')=B ^ (f+j)*(dg L (f+j)+dg y j+c):=by rw [h1]
 simp only [zr] at e2 ⊢;generalize B ^ (f+j)*(B*c')=p1 at *;generalize B ^ (f+j)*dg y j=p4 at *;generalize B ^ (f+j)*c=p5 at *;generalize B ^ (f+j)*x=p7 at *;generalize B ^ (f+j)*dg L (f+j)=p8 at *;generalize B ^ f*val B (y.take j)=p9 at *;generalize val B (L.set (f+j) x)=p10 at *;generalize val B L=p11 at *;generalize val B L0=p12 at *;omega
theorem xb.fin {B:Nat}{L0 y L:List Nat}{f n c x c':Nat}(h:xb B L0 y f L n c) (hn:y.length=n) (hL:f+n<L.length) (h1:x+B*c'=dg L (f+n)+c) :
 (L.set (f+n) x).length=L0.length∧val B (L.set (f+n) x)+B ^ (f+n+1)*c'=val B L0+B ^ f*val B y∧∀ i,f+n+1≤i→dg (L.set (f+n) x) i=dg L0 i:=by
 obtain ⟨g1,g2,g3⟩:=h
 refine ⟨by simpa using g1,?_,fun i hi=>by rw [getD_set_ne (by omega)];exact g3 i (by omega)⟩
 rw [zk (by omega)] at g2
 have hs:=vp B hL x
 have e3:B ^ (f+n)*(x+B*c')=B ^ (f+n)*(dg L (f+n)+c):=by rw [h1]
 rw [zu,zd]
 simp only [zr] at e3
 generalize B ^ (f+n)*(B*c')=p2 at *
 generalize B ^ (f+n)*c=p5 at *
 generalize B ^ (f+n)*x=p7 at *
 generalize B ^ (f+n)*dg L (f+n)=p8 at *
 generalize B ^ f*val B y=p9 at *
 generalize val B (L.set (f+n) x)=p10 at *
 generalize val B L=p11 at *
 generalize val B L0=p12 at *
 omega
theorem vq {B:Nat}(hB:0<B){L:List Nat}(h:∀ x∈L,x<B){m:Nat}(hz:∀ i,m≤i→dg L i=0):val B L<B ^ m:=by
 rcases zz L.length m with h1 | h1
 · exact zR (jf h) (qF hB (by omega))
 · have e:=jL B L h1;have hd:val B (L.drop m)=0:=by
    apply wJ;intro x hx;obtain ⟨i,hi,rfl⟩:=List.getElem_of_mem hx;rw [yy];have:=hz (m+i) (by omega);rwa [dg,jW (by simp at hi;omega)] at this
   rw [hd,jK,qu] at e;rw [e];have:=jf (B:=B) (l:=L.take m) fun x hx=>h x (qW hx);rwa [qB,qc h1] at this
theorem tV {B:Nat}{L:List Nat}(h:∀ x∈L,x<B) (i:Nat) (hi:i<L.length):dg L i=val B L / B ^ i % B:=by
 have hB:0<B:=jB (j6 _) (h _ (kM hi));have e:=jL B L (qt hi);have h2:=jf (B:=B) (l:=L.take i) fun x hx=>h x (qW hx);rw [qB,qc (by omega)] at h2;rw [qa hi,ju] at e;rw [e,uO _ _ (qZ hB),qn h2,jc,kR,dg,jW hi,qG (h _ (kM hi))]
theorem yb {B:Nat}{L:List Nat}(h:∀ x∈L,x<B){m:Nat}(hm:val B L<B ^ m){i:Nat}(hi:m≤i):dg L i=0:=by
 rcases zz i L.length with h1 | h1
 · have hB:0<B:=jB (j6 _) (h _ (kM h1));rw [tV h i h1,qn (zR hm (qF hB hi)),Nat.zero_mod]
 · rw [dg,zh,qx h1];rfl
end Go.Proofs.YtmlbicgpehchhaaGreat
namespace Go.Proofs.YtmlbicgpehchhaaGreat
open Go.RowKit
def gB (u u1 y1 y0 G:Nat):Prop:=G<18446744073709551616∧∀ q,q<18446744073709551616→q*(y1*18446744073709551616+y0)≤u*18446744073709551616+u1→q≤G
theorem gB.top (u u1 y1 y0:Nat):gB u u1 y1 y0 18446744073709551615:=⟨by omega,fun q hq _=>by omega⟩
theorem gB.of_eq {u u1 y1 y0 G:Nat}(h:wW 18446744073709551616 u u1 y1 y0) (he:G=(u*18446744073709551616+u1) / (y1*18446744073709551616+y0)):gB u u1 y1 y0 G:=by
 refine ⟨by rw [he];exact h.quo_lt,fun q _ hle=>?_⟩;rw [he];refine (Nat.le_div_iff_mul_le ?_).2 hle;have:=h.hy;omega
theorem zCP {hi lo r x p:Nat}(h:lo+18446744073709551616*hi=p) (hlo:lo<18446744073709551616) (hx:x<18446744073709551616):(hi<r∨hi=r∧lo≤x)↔p≤18446744073709551616*r+x:=by
 subst h;rcases Nat.lt_trichotomy hi r with h1 | h1 | h1
 · refine ⟨fun _=>?_,fun _=>.inl h1⟩;omega
 · subst h1;exact ⟨fun h=>by omega,fun h=>by omega⟩
 · exact ⟨fun h=>by omega,fun h=>by omega⟩
theorem zBP {B x2 x1 y1:Nat}(h1:x1<B) (h:x2<y1):(x2*B+x1) / y1<B:=by
 apply qV;have:(x2+1)*B≤y1*B:=qf _ h;rw [qr,wH] at this;omega
theorem zCF {a b:Int}(h:a=b):Ending.returned (.int .u64 a)=.returned (.int .u64 b):=by rw [h]
def ur (x2 x1 x0 y1 y0:Nat):Nat:=if y1≤x2 then 18446744073709551615 else ((x2*18446744073709551616+x1)*18446744073709551616+x0) / (y1*18446744073709551616+y0)
theorem tM {x2 x1 x0 y1 y0:Nat}(h1:x1<18446744073709551616) (h0:x0<18446744073709551616) (g1:y1<18446744073709551616) (g0:y0<18446744073709551616) (gt:18446744073709551616≤2*y1) :
 gB (x2*18446744073709551616+x1) x0 y1 y0 (ur x2 x1 x0 y1 y0):=by
 unfold ur
 split
 · exact gB.top _ _ _ _
 · have hu:x2*18446744073709551616+x1<y1*18446744073709551616+y0:=by omega
   exact gB.of_eq ⟨by omega,gt,g1,g0,h0,hu⟩ rfl
theorem tL (x2 x1 x0 y1 y0:Nat) (w:World) (h1:x1<18446744073709551616) (h0:x0<18446744073709551616) (g1:y1<18446744073709551616) (g0:y0<18446744073709551616) (gt:18446744073709551616≤2*y1) :
 Calls Tryz.prog 162 #[.int .u64 (x2:Int),.int .u64 (x1:Int),.int .u64 (x0:Int),.int .u64 (y1:Int),.int .u64 (y0:Int)] w fun e w'=>e=.returned (.int .u64 (ur x2 x1 x0 y1 y0:Int))∧∃ n,w'=w.drewN n:=by
 by_cases hge:y1≤x2
 · have k1:y1≤x2:=hge;have ht:ur x2 x1 x0 y1 y0=18446744073709551615:=qK hge;have Ht:=zF ht;clear h1 h0 g1 g0 gt hge ht;go_enter Tryz.func162,Tryz.ntmps162;go_wp2;go_step3;go_wp2;try rw [jE]
   go_ret;exact ⟨by rw [Ht.out];rfl,0,rfl⟩
 · have k1:¬ y1≤x2:=hge;have hlt:x2<y1:=by omega
   have hu:x2*18446744073709551616+x1<y1*18446744073709551616+y0:=by omega
   have hq:=zBP h1 hlt;have hdv:=fun q r (hr:r<y1) (he:_=y1*q+r)=>az x2 x1 y1 w h1 hlt g1 q r hr he;have hF:ur x2 x1 x0 y1 y0=((x2*18446744073709551616+x1)*18446744073709551616+x0) / (y1*18446744073709551616+y0):=qA hge;obtain ⟨u,hu'⟩:=eV (x2*18446744073709551616+x1);rw [hu'] at hu hq hdv hF;have G:=(⟨by omega,gt,g1,g0,h0,hu⟩:wW 18446744073709551616 u x0 y1 y0)
   obtain ⟨hg,hr,hp⟩:=G.start;have hrr:u - u / y1*y1<y1:=(du (by omega)).2;have HG:Hid (∀ g,g=(u*18446744073709551616+x0) / (y1*18446744073709551616+y0)→g=ur x2 x1 x0 y1 y0):=zF fun g he=>he.trans hF.symm;clear hF;clear hu hu';obtain ⟨q,hq'⟩:=eV (u / y1);rw [hq'] at hg hr hp hrr hq;obtain ⟨p,hp'⟩:=eV (q*y1);rw [hp'] at hg hr hp hrr;obtain ⟨r,hr'⟩:=eV (u - p);rw [hr'] at hg hr hrr;have Hdv:=zF (hdv q r hrr (by rw [zj,hp'];omega));have HGk:=zF G;clear hdv hq' hp' hr' hp hrr hge hlt h1 G gt;go_enter Tryz.func162,Tryz.ntmps162;go_wp2;go_step3;go_wp2_with fail;refine Hdv.out.mono ?_;rintro e w1 ⟨rfl,n,rfl⟩;go_wp2;go_step3;go_wp2;go_loop [11,12] (fun qv rv=>∃ q r:Nat,qv=.int .u64 (q:Int)∧rv=.int .u64 (r:Int)∧vO 18446744073709551616 u x0 y1 y0 q r∧r<18446744073709551616∧q<18446744073709551616) (fun qv _=>(intOf qv).toNat);case atStart=>exact ⟨q,r,rfl,rfl,hg,hr,hq⟩
   case round =>
    clear hg hr hq;obtain ⟨q,r,rfl,rfl,hg,hr,hq⟩:=hrel;obtain ⟨hi',lo,b1,b2⟩:∃ hi' lo:Nat,lo<18446744073709551616∧lo+18446744073709551616*hi'=q*y0:=⟨q*y0 / 18446744073709551616,q*y0 % 18446744073709551616,by omega,by omega⟩
    have hmul:=zF (fun w=>yk q y0 hi' lo hq g0 b1 b2 w);have hle:=zCP (r:=r) b2 b1 h0;by_cases hc:q*y0≤18446744073709551616*r+x0
    · have hQ:=zF (HG.out _ (hg.le HGk.out hc));have hc':=hle.2 hc;clear hle hc hg hr hq b1 b2 g0 g1 h0;rcases hc' with hc' | ⟨rfl,hc'⟩
      · have i1:hi'<r:=by omega
        clear hc';go_wp2_with fail;refine (hmul.out _).mono ?_;rintro e w1 ⟨rfl,rfl⟩;go_wp2;try rw [jE]
        go_ret;exact ⟨by rw [←hQ.out];rfl,_,rfl⟩
      · have i1:¬ hi'<hi':=by omega
        have i2:lo≤x0:=by omega
        clear hc';go_wp2_with fail;refine (hmul.out _).mono ?_;rintro e w1 ⟨rfl,rfl⟩;go_wp2;try rw [jE]
        go_ret;exact ⟨by rw [←hQ.out];rfl,_,rfl⟩
    · obtain ⟨hg',hq1⟩:=hg.step HGk.out (.inr (by omega));obtain ⟨m,rfl⟩:∃ m,q=m+1:=⟨q - 1,by omega⟩
      rw [jU] at hg';have hmB:m<18446744073709551616:=by omega
      obtain ⟨s,cc,s1,s2,s3⟩:∃ s cc:Nat,s<18446744073709551616∧cc≤1∧s+18446744073709551616*cc=r+y1+0:=⟨(r+y1) % 18446744073709551616,(r+y1) / 18446744073709551616,by omega,by omega,by omega⟩
      have hadd:=fun w=>kF r y1 0 s cc (by omega) s1 s3 w;simp only [qe] at hadd;have hn:¬ (hi'<r∨hi'=r∧lo≤x0):=fun h=>hc (hle.1 h);have hmi:(m:Int)<18446744073709551616:=by omega
      rcases za cc with rfl | hcc
      · have hs:s=r+y1:=by omega
        rw [←hs] at hg';have Hs1:=zF s1;have Hmb:=zF hmB;clear s1 s2 s3 hs hg hle hc b1 b2 hq hr hq1 hmB;by_cases hi:hi'=r
        · subst hi;have i1:¬ hi'<hi':=by omega
          have i2:¬ lo≤x0:=by omega
          clear hn;go_wp2_with fail;refine (hmul.out _).mono ?_;rintro e w1 ⟨rfl,rfl⟩;go_wp2;go_round;case rel=>exact ⟨m,s,by go_num,rfl,hg',Hs1.out,Hmb.out⟩
          case measure=>simp [intOf]
        · have i1:¬ hi'<r:=by omega
          have i2:((hi':Int)==(r:Int))=false:=eqB (by omega);clear hn hi;go_wp2_with fail;refine (hmul.out _).mono ?_;rintro e w1 ⟨rfl,rfl⟩;go_wp2;go_round;case rel=>exact ⟨m,s,by go_num,rfl,hg',Hs1.out,Hmb.out⟩
          case measure=>simp [intOf]
      · obtain rfl:cc=1:=by omega
        have hQ:=zF (HG.out _ (hg'.out HGk.out (by omega) (by omega)));clear s1 s2 s3 hg hg' hle hc b1 b2 hq hr hq1 hmB;simp only [qe] at hadd;by_cases hi:hi'=r
        · subst hi;have i1:¬ hi'<hi':=by omega
          have i2:¬ lo≤x0:=by omega
          clear hn;go_wp2_with fail;refine (hmul.out _).mono ?_;rintro e w1 ⟨rfl,rfl⟩;go_wp2;try rw [jE]
          go_ret;exact ⟨by rw [←hQ.out];exact zCF (by simp),_,rfl⟩
        · have i1:¬ hi'<r:=by omega
          have i2:((hi':Int)==(r:Int))=false:=eqB (by omega);clear hn hi;go_wp2_with fail;refine (hmul.out _).mono ?_;rintro e w1 ⟨rfl,rfl⟩;go_wp2;try rw [jE]
          go_ret;exact ⟨by rw [←hQ.out];exact zCF (by simp),_,rfl⟩
def Row (w:World) (g:Nat) (l:List Nat):Prop:=∃ cur,w.heap[g]?=some (.cells cur 69 (0,0))∧∀ (j:Nat) u,(nts l)[j]?=some u→cur[j]?=some u
section
variable {w w' w'':World} {g f:Nat} {l:List Nat} {p:Addr}
theorem fv (g f j:Nat):(⟨g,f,none⟩:Addr).add j=⟨g,f+j,none⟩:=by
 rcases za j with h | h
 · subst h;rfl
 · simp [Addr.add,Nat.pos_iff_ne_zero.1 h]
theorem Row.cell (h:Row w g l) (hp:p=⟨g,f,none⟩){j:Nat}(hj:f+j<l.length):w.cell? (p.add j)=some (.int .u64 (dg l (f+j):Int)):=by
 obtain ⟨cur,h1,h2⟩:=h;rw [hp,fv,zJ h1,h2 _ _ (uk hj)]
theorem Row.free (h:Row w g l) (hp:p=⟨g,f,none⟩) (j:Nat):w.frozen? (p.add j)=false:=by
 obtain ⟨cur,h1,h2⟩:=h;rw [hp,fv,zv h1]
theorem Row.set (h:Row w g l) (hp:p=⟨g,f,none⟩) (j x:Nat):Row (w.setCell (p.add j) (.int .u64 (x:Int))) g (l.set (f+j) x):=by
 obtain ⟨cur,h1,h2⟩:=h;rw [hp,fv];refine ⟨cur.setIfInBounds (f+j) (.int .u64 (x:Int)),by simp [World.setCell,kY,h1],fun i u hu=>?_⟩;rw [nts,List.map_set,List.getElem?_set] at hu;rw [Array.getElem?_setIfInBounds];by_cases e:f+j=i
 · rw [qK e] at hu ⊢;split at hu
   · rename_i hl;have:=h2 i _ (uk (by rw [←e];simpa using hl));have hi:=(Array.getElem?_eq_some_iff.1 this).1;rw [qK (by omega)];exact hu
   · cases hu
 · rw [qA e] at hu ⊢;exact h2 i u hu
theorem Row.lt (h:Row w g l):g<w.heap.size:=by obtain ⟨cur,h1,h2⟩:=h;exact qw h1
theorem Row.drewN (h:Row w g l) (n:Nat):Row (w.drewN n) g l:=h
theorem Row.of_heap (h:Row w g l) (he:w'.heap[g]?=w.heap[g]?):Row w' g l:=by
 obtain ⟨cur,h1,h2⟩:=h;exact ⟨cur,he.trans h1,h2⟩
theorem Row.below {B:Nat}(h:Row w g l) (hb:Below B w w') (hg:g<B):Row w' g l:=h.of_heap (hb.block g hg)
theorem Row.ob (h:Row w g l){base c:Nat}(hg:base≤g) (hl:Lim l) (hc:l.length≤c) (hc':c≤maxLen):OB w base (some ⟨g,0,none⟩) c l:=by
 obtain ⟨cur,h1,h2⟩:=h;exact ⟨hl,hc,hc',fun _=>⟨g,cur,rfl,hg,h1,h2⟩⟩
theorem OB.row {base c:Nat}{A:Option Addr}(h:OB w base A c l) (h0:0<l.length):∃ g,A=some ⟨g,0,none⟩∧base≤g∧Row w g l:=by
 obtain ⟨h1,h2,h3,h4⟩:=h;obtain ⟨g,cur,e,hg,h5,h6⟩:=h4 h0;exact ⟨g,e,hg,cur,h5,h6⟩
theorem Row.blk (h:Blk w g l):Row w g l:=⟨_,h,fun j u hu=>by rw [zK];exact hu⟩
structure wS (g:Nat) (w w':World):Prop where
 os:w'.os=w.os
 tape:w'.tape=w.tape
 output:w'.output=w.output
 size:w'.heap.size=w.heap.size
 block:∀ k,k≠g→w'.heap[k]?=w.heap[k]?
theorem wS.refl (g:Nat) (w:World):wS g w w:=⟨rfl,rfl,rfl,rfl,fun _ _=>rfl⟩
theorem wS.trans (h:wS g w w') (k:wS g w' w''):wS g w w'':=⟨k.os.trans h.os,k.tape.trans h.tape,k.output.trans h.output,k.size.trans h.size,fun i hi=>(k.block i hi).trans (h.block i hi)⟩
theorem wS.setCell (h:wS g w w') (hp:p=⟨g,f,none⟩) (j:Nat) (v:Value):wS g w (w'.setCell (p.add j) v):=by
 have e:(p.add j).block=g:=by rw [hp,fv]
 refine ⟨h.os,h.tape,h.output,?_,fun k hk=>(zN _ _ _ _ (by rw [e];exact hk)).trans (h.block k hk)⟩;have:(w'.setCell (p.add j) v).heap.size=w'.heap.size:=by unfold World.setCell;split <;> simp
 exact this.trans h.size
theorem wS.drewN (h:wS g w w') (n:Nat):wS g w (w'.drewN n):=⟨h.os,h.tape,h.output,h.size,h.block⟩
theorem wS.below {B:Nat}(h:wS g w w') (hB:B≤g):Below B w w':=⟨h.os,h.tape,h.output,x9 h.size.symm,fun k hk=>h.block k (by omega)⟩
theorem RN.only {P:Nat→Prop}{A:Option Addr}{c:Nat}(h:RN w P A c l) (ho:wS g w w') (hP:∀ b,P b→b≠g):RN w' P A c l:=h.keep fun q hq=>zT (w:=w) (ho.block q.block (hP _ hq))
theorem Row.only {g':Nat}(h:Row w g' l) (ho:wS g w w') (hg:g'≠g):Row w' g' l:=h.of_heap (ho.block g' hg)
end
theorem nO (q v c x b:Nat) (hq:q<18446744073709551616) (hv:v<18446744073709551616) (hc:c<18446744073709551616) (hx:x<18446744073709551616) (hb:b≤1) :
   ∃ hi lo s c1 t b' : Nat, lo < 18446744073709551616 ∧ lo + 18446744073709551616 * hi = q * v ∧ s < 18446744073709551616 ∧ s + 18446744073709551616 * c1 = lo + c + 0 ∧ hi + c1 < 18446744073709551616 ∧ s + 18446744073709551616 * (hi + c1) = q * v + c ∧
     t<18446744073709551616∧b'≤1∧t+s+b=x+18446744073709551616*b':=by
 have hm:=yX hq hv hc (show 0<18446744073709551616 by omega);refine ⟨q*v / 18446744073709551616,q*v % 18446744073709551616,(q*v % 18446744073709551616+c) % 18446744073709551616,(q*v % 18446744073709551616+c) / 18446744073709551616,?_⟩;obtain ⟨t,b',h1,h2,h3⟩:=yY x ((q*v % 18446744073709551616+c) % 18446744073709551616) b hx (qP _ (by omega)) hb;refine ⟨t,b',?_⟩;generalize q*v=p at *;omega
theorem sW (g f:Nat) (p:Addr) (hp:p=⟨g,f,none⟩) (P:Nat→Prop) (A:Option Addr) (c cx n q:Nat) (L y:List Nat) (w:World) (hr:Row w g L) (hL:Lim L) (h:RN w P A c y) (hP:∀ b,P b→b≠g) (hn:y.length=n) (hf:f+n<L.length) (hq:q<18446744073709551616) :
 Calls Tryz.prog 163 #[.slice (some p) (n+1) cx,.slice A n c,.int .u64 (q:Int)] w fun e w'=>∃ (L':List Nat) (b:Nat),e=.returned (.bool (decide (0<b)))∧Row w' g L'∧Lim L'∧wS g w w' ∧
  L'.length=L.length∧val 18446744073709551616 L'+18446744073709551616 ^ f*(q*val 18446744073709551616 y)=val 18446744073709551616 L+18446744073709551616 ^ (f+n+1)*b∧∀ i,f+n+1≤i→dg L' i=dg L i:=by
 obtain ⟨h1,h2,h3⟩:=h.cap
 have hn1:n≤1000000:=by omega
 have hnc:n≤c:=by omega
 have Hp:=zF hp
 clear hp h1 h2 h3
 go_enter Tryz.func163,Tryz.ntmps163
 go_wp2
 go_loopw [7,8,16] (fun cv bv iv wr=>∃ (j cr b:Nat) (l:List Nat),iv=.int .i64 (j:Int)∧cv=.int .u64 (cr:Int)∧bv=.int .u64 (b:Int)∧j≤n∧cr<18446744073709551616∧b≤1∧xa 18446744073709551616 L y q f l j cr b∧Lim l∧Row wr g l∧wS g w wr) (fun _ _ iv _=>n - (intOf iv).toNat)
 case atStart=>exact ⟨0,0,0,L,rfl,rfl,rfl,by omega,by omega,by omega,xa.zero _ _ _ _ _,hL,hr,wS.refl _ _⟩
 case round =>
  obtain ⟨j,cr,b,l,rfl,rfl,rfl,hj,hcr,hb,hT,hl,hw,ho⟩:=hrel;have hll:=hT.1;by_cases hlt:j<n
  · obtain ⟨ad,rfl,_,q1⟩:=(h.only ho hP).at_ (i:=j) (by omega);obtain ⟨hi',lo,s,c1,t,b',b1,b2,b3,b4,b5,b6,b7,b8,b9⟩:=nO q (dg y j) cr (dg l (f+j)) b hq (h.2.dgLt j) hcr (hl.dgLt _) hb;have hmul:=zF (fun w=>yk q (dg y j) hi' lo hq (h.2.dgLt j) b1 b2 w);have hadd:=fun w=>kF lo cr 0 s c1 (by omega) b3 b4 w;simp only [qe] at hadd;have hsub:=fun w=>ye (dg l (f+j)) s b t b' hb (hl.dgLt _) b3 b7 b9 b8 w;have q3:=hw.cell Hp.out (j:=j) (by omega);have q4:=hw.free Hp.out j;have hT':=hT.step (by omega) b6 b9;have hw':=hw.set Hp.out j t;have hl':=hl.set (f+j) t b7;have ho':=ho.setCell Hp.out j (.int .u64 (t:Int));have k1:(j:Int)<(n:Int)+1:=by omega
    clear hT hl hw ho b1 b2 b3 b4 b6 b7 b9 hll hq hcr;go_wp2_with fail;refine (hmul.out _).mono ?_;rintro e w1 ⟨rfl,rfl⟩;go_wp2;go_roundw;case rel=>exact ⟨j+1,hi'+c1,b',l.set (f+j) t,by go_num,by go_num,rfl,by omega,b5,b8,hT',hl',hw',ho'⟩
    case measure=>simp [intOf];omega
  · obtain rfl:j=n:=by omega
    obtain ⟨t,b',b7,b8,b9⟩:=yY (dg l (f+j)) cr b (hl.dgLt _) hcr hb;have hsub:=fun w=>ye (dg l (f+j)) cr b t b' hb (hl.dgLt _) hcr b7 b9 b8 w;have q3:=hw.cell Hp.out (j:=j) (by omega);have q4:=hw.free Hp.out j;have hT':=zF (hT.fin hn (by omega) b9);have hw':=hw.set Hp.out j t;have hl':=hl.set (f+j) t b7;have ho':=ho.setCell Hp.out j (.int .u64 (t:Int));have k1:(j:Int)<(j:Int)+1:=by omega
    clear hT hl hw ho b7 b9 hll hq hcr;go_wp2;go_ret;exact ⟨l.set (f+j) t,b',by simp,hw',hl',ho',hT'.out⟩
theorem tO (g f:Nat) (p:Addr) (hp:p=⟨g,f,none⟩) (P:Nat→Prop) (A:Option Addr) (c cx n:Nat) (L y:List Nat) (w:World) (hr:Row w g L) (hL:Lim L) (h:RN w P A c y) (hP:∀ b,P b→b≠g) (hn:y.length=n) (hf:f+n<L.length) :
 Calls Tryz.prog 164 #[.slice (some p) (n+1) cx,.slice A n c] w fun e w'=>∃ (L':List Nat) (b:Nat),e=.returned (.tuple #[])∧Row w' g L'∧Lim L'∧wS g w w' ∧
  L'.length=L.length∧val 18446744073709551616 L'+18446744073709551616 ^ (f+n+1)*b=val 18446744073709551616 L+18446744073709551616 ^ f*val 18446744073709551616 y∧∀ i,f+n+1≤i→dg L' i=dg L i:=by
 obtain ⟨h1,h2,h3⟩:=h.cap
 have hn1:n≤1000000:=by omega
 have hnc:n≤c:=by omega
 have Hp:=zF hp
 clear hp h1 h2 h3
 go_enter Tryz.func164,Tryz.ntmps164
 go_wp2
 go_loopw [4,9] (fun cv iv wr=>∃ (j cr:Nat) (l:List Nat),iv=.int .i64 (j:Int)∧cv=.int .u64 (cr:Int)∧j≤n∧cr≤1∧xb 18446744073709551616 L y f l j cr∧Lim l∧Row wr g l∧wS g w wr) (fun _ iv _=>n - (intOf iv).toNat)
 case atStart=>exact ⟨0,0,L,rfl,rfl,by omega,by omega,xb.zero _ _ _ _,hL,hr,wS.refl _ _⟩
 case round =>
  obtain ⟨j,cr,l,rfl,rfl,hj,hcr,hT,hl,hw,ho⟩:=hrel;have hll:=hT.1;by_cases hlt:j<n
  · obtain ⟨ad,rfl,_,q1⟩:=(h.only ho hP).at_ (i:=j) (by omega);obtain ⟨s,c',b7,b8,b9⟩:=xp (dg l (f+j)) (dg y j) cr (hl.dgLt _) (h.2.dgLt j) hcr;have hadd:=fun w=>kF (dg l (f+j)) (dg y j) cr s c' hcr b7 b9 w;have q3:=hw.cell Hp.out (j:=j) (by omega);have q4:=hw.free Hp.out j;have hT':=hT.step (by omega) b9;have hw':=hw.set Hp.out j s;have hl':=hl.set (f+j) s b7;have ho':=ho.setCell Hp.out j (.int .u64 (s:Int));have k1:(j:Int)<(n:Int)+1:=by omega
    clear hT hl hw ho b7 b9 hll hcr;go_wp2;go_roundw;case rel=>exact ⟨j+1,c',l.set (f+j) s,by go_num,rfl,by omega,b8,hT',hl',hw',ho'⟩
    case measure=>simp [intOf];omega
  · obtain rfl:j=n:=by omega
    obtain ⟨t,b',b7,b8,b9⟩:=xp (dg l (f+j)) 0 cr (hl.dgLt _) (by omega) hcr;have he:IntKind.u64.wrap ((dg l (f+j):Int)+(cr:Int))=(t:Int):=by
     have:(dg l (f+j):Int)+(cr:Int)=(t:Int)+18446744073709551616*(b':Int):=by omega
     rw [this];simp [IntKind.wrap,IntKind.bits,IntKind.signed];omega
    have q3:=hw.cell Hp.out (j:=j) (by omega);have q4:=hw.free Hp.out j;have hT':=zF (hT.fin hn (by omega) (x:=t) (c':=b') (by omega));have hw':=hw.set Hp.out j t;have hl':=hl.set (f+j) t b7;have ho':=ho.setCell Hp.out j (.int .u64 (t:Int));have k1:(j:Int)<(j:Int)+1:=by omega
    clear hT hl hw ho b7 b9 hll hcr;go_wp2;go_end0;exact ⟨l.set (f+j) t,b',rfl,hw',hl',ho',hT'.out⟩
end Go.Proofs.YtmlbicgpehchhaaGreat
namespace Go.Proofs.YtmlbicgpehchhaaGreat
theorem sO {B:Nat}{L:List Nat}{t:Nat}(h:∀ x∈L,x<B) (ht:t+3≤L.length) (hz:∀ j,t+3≤j→dg L j=0) :
 ∃ r,r<B ^ t∧val B L=r+B ^ t*((dg L (t+2)*B+dg L (t+1))*B+dg L t):=by
 refine ⟨val B (L.take t),?_,?_⟩
 · have:=jf (B:=B) (l:=L.take t) fun x hx=>h x (qW hx);rwa [qB,qc (by omega)] at this
 · have e:=jL B L ht;have hd:val B (L.drop (t+3))=0:=by
    apply wJ;intro x hx;obtain ⟨i,hi,rfl⟩:=List.getElem_of_mem hx;rw [yy];have:=hz (t+3+i) (by omega);rwa [dg,jW (by simp at hi;omega)] at this
   rw [hd,jK,qu] at e;rw [e,qD,qD,qD,show B ^ (t+2)=B ^ t*B*B from by simp only [zu],zu];have e1:B ^ t*B*B*dg L (t+2)=B ^ t*(dg L (t+2)*B*B):=by simp only [zd];rw [zj B (dg L (t+2)),←zd B,zj B (dg L (t+2)),zd]
   have e2:B ^ t*B*dg L (t+1)=B ^ t*(dg L (t+1)*B):=by rw [zd,zj B]
   rw [e1,e2,qr,zr,zr];omega
theorem zBM {B:Nat}{L:List Nat}{t:Nat}(ht:t+2=L.length) :
 ∃ r,val B L=r+B ^ t*(dg L (t+1)*B+dg L t):=by
 refine ⟨val B (L.take t),?_⟩
 have e:val B L=val B (L.take (t+2)):=by rw [ht,jN]
 rw [e,qD,qD,zu]
 have e2:B ^ t*B*dg L (t+1)=B ^ t*(dg L (t+1)*B):=by rw [zd,zj B]
 rw [e2,zr]
 omega
theorem aQ {B q DB V t D2 T rd rv:Nat}(hq:q*DB≤V) (hD:DB=rd+B ^ t*D2) (hV:V=rv+B ^ t*T) (hr:rv<B ^ t):q*D2≤T:=by
 have h1:q*(B ^ t*D2)≤q*DB:=zi _ (by omega);have h2:q*(B ^ t*D2)=B ^ t*(q*D2):=by rw [jR]
 have h3:B ^ t*(q*D2)<B ^ t*(T+1):=by rw [zr,jS];omega
 exact Nat.le_of_lt_succ (Nat.lt_of_mul_lt_mul_left h3)
def gF (B V i n D:Nat) (L:List Nat) (g:Nat) (too:Bool):Prop :=
 V / (B ^ i*D)≤g∧g<B∧(∀ j,i+n+1≤j→dg L j=0)∧val B L+B ^ i*(g*D)=V+if too then B ^ (i+n+1) else 0
section
variable {B V i n D g:Nat} {L L':List Nat}
theorem gF.start {b:Nat}(hq:V / (B ^ i*D)≤g) (hg:g<B) (hz:∀ j,i+n+1≤j→dg L' j=dg L j) (hz0:∀ j,i+n+1≤j→dg L j=0) (he:val B L'+B ^ i*(g*D)=V+B ^ (i+n+1)*b) (hL':∀ x∈L',x<B) (hB:2≤B) (hD:D<B ^ n) :
 gF B V i n D L' g (decide (0<b)):=by
 have hz':∀ j,i+n+1≤j→dg L' j=0:=fun j hj=>(hz j hj).trans (hz0 j hj)
 refine ⟨hq,hg,hz',?_⟩
 have h1:=vq (by omega) hL' hz'
 rw [he]
 have h2:B ^ i*(g*D)<B ^ (i+n+1):=by
  rw [kg,qI,zu,zj (B ^ n)];refine vC ?_ (qZ (by omega));exact jB (zi g (qt hD)) (Nat.mul_lt_mul_of_pos_right hg (qZ (by omega)))
 rcases zz b 2 with hb | hb
 · have:b=0∨b=1:=by omega
   rcases this with rfl | rfl <;> simp
 · exfalso;have h3:B ^ (i+n+1)*2≤B ^ (i+n+1)*b:=zi _ hb;omega
theorem gF.pos (h:gF B V i n D L g true) (hL:∀ x∈L,x<B) (hB:2≤B):V / (B ^ i*D)<g:=by
 obtain ⟨h1,h2,h3,h4⟩:=h;have h5:=vq (by omega) hL h3;apply qV;simp only [if_true] at h4;rw [zd,zj D];omega
theorem gF.step {c:Nat}(h:gF B V i n D L (g+1) true) (hL:∀ x∈L,x<B) (hL':∀ x∈L',x<B) (hB:2≤B) (hD:0<D) (hDn:D<B ^ n)
 (he:val B L'+B ^ (i+n+1)*c=val B L+B ^ i*D) (hz:∀ j,i+n+1≤j→dg L' j=dg L j):gF B V i n D L' g (decide (dg L' (i+n)≠0)):=by
 have hp:=h.pos hL hB
 obtain ⟨h1,h2,h3,h4⟩:=h
 have hz':∀ j,i+n+1≤j→dg L' j=0:=fun j hj=>(hz j hj).trans (h3 j hj)
 have h5:=vq (by omega) hL h3
 have h6:=vq (by omega) hL' hz'
 have hDi:B ^ i*D<B ^ (i+n):=by rw [qI];exact vC hDn (qZ (by omega))
 have hBB:B ^ (i+n+1)=B ^ (i+n)*B:=zu _ _
 have hBB2:B ^ (i+n)*2≤B ^ (i+n)*B:=zi _ hB
 have hV:V<B ^ i*D*(g+1):=by
  have:=Nat.lt_mul_div_succ V (show 0<B ^ i*D from Nat.mul_pos (qZ (by omega)) hD);exact zR this (zi _ (by omega))
 simp only [if_true] at h4
 have e1:B ^ i*((g+1)*D)=B ^ i*(g*D)+B ^ i*D:=by rw [qr,wH,zr]
 have e2:B ^ i*D*(g+1)=B ^ i*(g*D)+B ^ i*D:=by rw [←e1,zd,zj D]
 have hgD:B ^ i*(g*D)+B ^ (i+n)*2≤B ^ (i+n+1)+B ^ (i+n):=by
  obtain ⟨m,hm⟩:∃ m,B=m+2:=⟨B - 2,by omega⟩
  have k1:g*D≤m*B ^ n:=Nat.mul_le_mul (by omega) (qt hDn);have k2:B ^ i*(g*D)≤B ^ i*(m*B ^ n):=zi _ k1;have k3:B ^ i*(m*B ^ n)=B ^ (i+n)*m:=by rw [zj m,←zd,←qI]
  have k4:B ^ (i+n)*B=B ^ (i+n)*m+B ^ (i+n)*2:=by rw [←zr,←hm]
  omega
 rw [e1] at h4
 rw [e2] at hV
 refine ⟨by omega,by omega,hz',?_⟩
 rcases za c with rfl | hc
 · rw [jK,qu] at he;have hbig:B ^ (i+n)≤val B L':=by omega
   have hne:dg L' (i+n)≠0:=fun h0=>by
    have:=vq (B:=B) (m:=i+n) (by omega) hL' fun j hj=>by
     rcases zz (i+n) j with h | h
     · exact hz' j (by omega)
     · obtain rfl:j=i+n:=by omega
       exact h0
    omega
   rw [qX hne,qK rfl];omega
 · have hc1:c=1:=by
    rcases zz c 2 with h | h
    · omega
    · have:B ^ (i+n+1)*2≤B ^ (i+n+1)*c:=zi _ h;omega
   subst hc1;rw [jS] at he;have hsmall:val B L'<B ^ (i+n):=by omega
   have h0:=yb hL' hsmall (zH _);rw [qb (by simp [h0]),qA (by simp)];omega
theorem gF.fin (h:gF B V i n D L g false) (hB:2≤B) (hD:0<D):val B L+B ^ i*(g*D)=V∧val B L<B ^ i*D:=by
 obtain ⟨h1,h2,h3,h4⟩:=h;simp only [Bool.false_eq_true,if_false,qu] at h4;refine ⟨h4,?_⟩;have h5:=Nat.lt_mul_div_succ V (show 0<B ^ i*D from Nat.mul_pos (qZ (by omega)) hD);have h6:B ^ i*D*(V / (B ^ i*D)+1)≤B ^ i*D*(g+1):=zi _ (by omega);have e:B ^ i*D*(g+1)=B ^ i*(g*D)+B ^ i*D:=by rw [zr,jS,zd,zj D]
 omega
end
def gZ (B X D:Nat) (L qs:List Nat) (k:Nat):Prop:=val B L+D*(B ^ k*val B (qs.drop k))=X∧val B L<B ^ k*D
theorem gZ.start {B D m:Nat}{L qs:List Nat}(hq:qs.length=m) (h:val B L<B ^ m*D):gZ B (val B L) D L qs m:=by
 refine ⟨?_,h⟩;rw [←hq,List.drop_length];simp
theorem gZ.step {B X D k g:Nat}{L L' qs:List Nat}(h:gZ B X D L qs (k+1)) (hk:k<qs.length) (h1:val B L'+B ^ k*(g*D)=val B L) (h2:val B L'<B ^ k*D):gZ B X D L' (qs.set k g) k:=by
 obtain ⟨g1,g2⟩:=h;refine ⟨?_,h2⟩;have e:(qs.set k g).drop k=g :: qs.drop (k+1):=by
  rw [List.drop_set,qA (Nat.lt_irrefl _),qa hk,Nat.sub_self,List.set_cons_zero]
 rw [e,ju,zr,zr,←g1,←h1,zu];have e1:D*(B ^ k*g)=B ^ k*(g*D):=by rw [jR,zj D]
 rw [e1,zd (B ^ k)];omega
theorem gZ.fin {B X D:Nat}{L qs:List Nat}(h:gZ B X D L qs 0):val B qs=X / D∧val B L=X % D:=by
 obtain ⟨g1,g2⟩:=h;simp only [kl,wH,List.drop_zero] at g1 g2;rw [←g1];refine ⟨?_,?_⟩
 · rw [kL,Nat.mul_add_div (by omega),qn g2,qu]
 · rw [kL,Nat.mul_add_mod,qG g2]
theorem zCi {B p u y top n:Nat}(hB:2≤B) (he:B % 2=0) (hp:B=u*p) (hn:(digs B y).length=n+1) (ht:dg (digs B y) n=top) (h1:B≤2*(top*p)) (h2:top*p<B) :
 (digs B (y*p)).length=n+1∧B≤2*dg (digs B (y*p)) n∧B ^ (n+1)≤2*(y*p):=by
 have hBn:0<B ^ n:=qZ (by omega)
 have hy:y=val B ((digs B y).take n)+B ^ n*top:=by
  rw [←ht,←qD,←hn,jN,zc hB]
 have hr:val B ((digs B y).take n)<B ^ n:=by
  have:=jf (B:=B) (l:=(digs B y).take n) fun x hx=>kQ hB y x (qW hx);rwa [qB,qc (by omega)] at this
 generalize val B ((digs B y).take n)=r at *
 have hu:(top+1)*p≤B:=by
  have:top<u:=by
   rw [hp] at h2;exact Nat.lt_of_mul_lt_mul_right h2
  rw [hp];exact qf _ this
 have hup:y*p<B ^ (n+1):=by
  have k1:y+1≤B ^ n*(top+1):=by rw [zr,jS];omega
  have hp0:0<p:=by
   rcases za p with h | h
   · subst h;omega
   · exact h
  have k2:y*p<(y+1)*p:=Nat.mul_lt_mul_of_pos_right (by omega) hp0;have k3:(y+1)*p≤B ^ n*(top+1)*p:=qf _ k1;have k4:B ^ n*(top+1)*p≤B ^ n*B:=by rw [zd];exact zi _ hu
  rw [zu];omega
 have hlo:B ^ (n+1)≤2*(y*p):=by
  have k1:B ^ n*top*p≤y*p:=qf _ (by omega);have k2:B ^ n*B≤B ^ n*(2*(top*p)):=zi _ h1;have k3:B ^ n*(2*(top*p))=2*(B ^ n*top*p):=by rw [jR,zd]
  rw [zu];omega
 have hBB:B ^ n*2≤B ^ n*B:=zi _ hB
 have hlen:(digs B (y*p)).length=n+1:=by
  refine Nat.le_antisymm (qp hB hup) ?_;rcases zz n (digs B (y*p)).length with h | h
  · exact h
  · have k1:=jl hB (y*p);have k2:B ^ (digs B (y*p)).length≤B ^ n:=qF (by omega) h;rw [zu] at hlo;omega
 refine ⟨hlen,?_,hlo⟩
 have hD:y*p=val B ((digs B (y*p)).take n)+B ^ n*dg (digs B (y*p)) n:=by
  rw [←qD,←hlen,jN,zc hB]
 have hr2:val B ((digs B (y*p)).take n)<B ^ n:=by
  have:=jf (B:=B) (l:=(digs B (y*p)).take n) fun x hx=>kQ hB (y*p) x (qW hx);rwa [qB,qc (by omega)] at this
 generalize dg (digs B (y*p)) n=z at *
 have k1:B ^ n*B<B ^ n*(2*(z+1)):=by
  rw [zu] at hlo;have:B ^ n*(2*(z+1))=2*(B ^ n*z+B ^ n):=by rw [jR,zr,jS]
  omega
 have k2:=Nat.lt_of_mul_lt_mul_left k1
 omega
theorem zCh {B x D n:Nat}(hB:2≤B) (hn:n≤(digs B x).length+1) (hD:B ^ n≤2*D):x<B ^ ((digs B x).length+1 - n)*D:=by
 have h1:=jl hB x;generalize (digs B x).length=k at *;have h2:B ^ (k+1 - n)*B ^ n≤B ^ (k+1 - n)*(2*D):=zi _ hD;rw [←qI,show k+1 - n+n=k+1 by omega,zu,jR] at h2;have h3:B ^ k*2≤B ^ k*B:=zi _ hB;omega
def zo (x:Nat):Nat:=if x=0 then 0 else x.log2+1
theorem ka:zo 0=0:=rfl
theorem oH {x k:Nat}(h1:2 ^ k≤x) (h2:x<2 ^ (k+1)):zo x=k+1:=by
 have hx:x≠0:=by have:=qZ (n:=k) (show 0<2 by omega);omega
 have h3:k≤x.log2:=(Nat.le_log2 hx).2 h1;have h4:x.log2<k+1:=(Nat.log2_lt hx).2 h2;simp [zo,hx];omega
theorem kC {x:Nat}(hx:x≠0):2 ^ (zo x - 1)≤x∧x<2 ^ zo x∧1≤zo x:=by
 simp only [zo,hx,if_false,jU];exact ⟨Nat.log2_self_le hx,Nat.lt_log2_self,by omega⟩
theorem kh {x k:Nat}(h:x<2 ^ k):zo x≤k:=by
 rcases za x with rfl | h0
 · simp [zo]
 · obtain ⟨h1,h2,h3⟩:=kC (Nat.pos_iff_ne_zero.1 h0);rcases zz k (zo x) with h4 | h4
   · have:2 ^ k≤2 ^ (zo x - 1):=qF (by omega) (by omega);omega
   · exact h4
theorem jw {x k:Nat}(h:zo x≤k):x<2 ^ k:=by
 rcases za x with rfl | h0
 · exact qZ (by omega)
 · obtain ⟨_,h2,_⟩:=kC (Nat.pos_iff_ne_zero.1 h0);exact zR h2 (qF (by omega) h)
theorem aa {m:Nat}(hm:0<m){x:Nat}(hx:0<x){k:Nat}(hk:0<k) (h1:2 ^ (k - 1)≤dg (digs (2 ^ m) x) ((digs (2 ^ m) x).length - 1)) (h2:dg (digs (2 ^ m) x) ((digs (2 ^ m) x).length - 1)<2 ^ k) :
 zo x=m*((digs (2 ^ m) x).length - 1)+k:=by
 have hB:2≤2 ^ m:=by
  have:2 ^ 1≤2 ^ m:=qF (by omega) hm;simpa using this
 have hv:=zc hB x
 have hlt:=kQ hB x
 have hne:0<(digs (2 ^ m) x).length:=by rw [jT hB hx];simp
 generalize digs (2 ^ m) x=l at *
 have h3:=qD (2 ^ m) l (l.length - 1)
 rw [show l.length - 1+1=l.length by omega,jN,hv] at h3
 have h4:=jf (B:=2 ^ m) (l:=l.take (l.length - 1)) fun y hy=>hlt y (qW hy)
 rw [qB,qc (by omega)] at h4
 have h5:(2 ^ m) ^ (l.length - 1)=2 ^ (m*(l.length - 1)):=by rw [wE]
 rw [h5] at h3 h4
 generalize m*(l.length - 1)=e at *
 generalize dg l (l.length - 1)=t at *
 obtain ⟨j,rfl⟩:∃ j,k=j+1:=⟨k - 1,by omega⟩
 rw [jU] at h1
 have h6:2 ^ e*2 ^ j≤2 ^ e*t:=zi _ h1
 have h7:2 ^ e*(t+1)≤2 ^ e*2 ^ (j+1):=zi _ h2
 rw [←qI] at h6 h7
 rw [zr] at h7
 exact oH (k:=e+j) (by omega) (by rw [show e+j+1=e+(j+1) by omega];omega)
theorem gc {m:Nat}(l:List Nat) (hl:∀ x∈l,x<2 ^ m) (k j:Nat) (hj:j≤m):∃ r,val (2 ^ m) l / 2 ^ (m*k+j)=dg l k / 2 ^ j+2 ^ (m - j)*r:=by
 refine ⟨val (2 ^ m) (l.drop (k+1)),?_⟩;have h1:val (2 ^ m) l=val (2 ^ m) (l.take k)+(2 ^ m) ^ k*(dg l k+2 ^ m*val (2 ^ m) (l.drop (k+1))):=by
  rcases zz k l.length with h | h
  · have:=jL (2 ^ m) l (qt h);rw [this,qa h,ju,dg,jW h]
  · rw [zk h,List.drop_eq_nil_of_le (by omega),dg,zh,qx h];simp
 have h2:val (2 ^ m) (l.take k)<(2 ^ m) ^ k:=by
  have h3:=jf (B:=2 ^ m) (l:=l.take k) fun y hy=>hl y (qW hy);refine zR h3 (qF (qZ (by omega)) ?_);rw [qB];omega
 rw [qI,wE,←jd,h1,uO _ _ (qZ (qZ (by omega))),qn h2,jc];have e:2 ^ m=2 ^ j*2 ^ (m - j):=by rw [←qI,show j+(m - j)=m by omega]
 generalize hv:val (2 ^ m) (l.drop (k+1))=v;rw [e,zd,uO _ _ (qZ (by omega))]
theorem rP {m:Nat}(l:List Nat) (hl:∀ x∈l,x<2 ^ m) (k j:Nat) (hj:j<m):val (2 ^ m) l / 2 ^ (m*k+j) % 2=dg l k / 2 ^ j % 2:=by
 obtain ⟨r,hr⟩:=gc l hl k j (by omega);rw [hr,show m - j=(m - j - 1)+1 by omega,zu,x8,wU]
theorem nI {m:Nat}(l:List Nat) (hl:∀ x∈l,x<2 ^ m) (k j:Nat) (hj:j+8≤m):val (2 ^ m) l / 2 ^ (m*k+j) % 256=dg l k / 2 ^ j % 256:=by
 obtain ⟨r,hr⟩:=gc l hl k j (by omega);rw [hr,show m - j=(m - j - 8)+8 by omega,qI,show (2:Nat) ^ 8=256 by rfl,x8,wU]
def bytesOf (x n:Nat):List Nat:=(List.range n).map fun i=>x / 2 ^ (8*(n - 1 - i)) % 256
theorem jp (x n:Nat):(bytesOf x n).length=n:=by simp [bytesOf]
theorem dZ {x n i:Nat}(h:i<n):(bytesOf x n)[i]?=some (x / 2 ^ (8*(n - 1 - i)) % 256):=by simp [bytesOf,h]
end Go.Proofs.YtmlbicgpehchhaaGreat
namespace Go.Proofs.YtmlbicgpehchhaaGreat
open Go.RowKit
theorem oq {x:Nat}(hx:0<x):0<dg (digs 18446744073709551616 x) ((digs 18446744073709551616 x).length - 1):=by
 have hne:digs 18446744073709551616 x≠[]:=by rw [jT (by omega) hx];simp
 have h:=uY (B:=18446744073709551616) (by omega) x hne;have hpos:=List.length_pos_iff.2 hne;rw [List.getLast_eq_getElem] at h;rw [dg,jW (by omega)];omega
theorem dV {x:Nat}(hx:0<x):zo x=64*((digs 18446744073709551616 x).length - 1)+Lib.bitLen (dg (digs 18446744073709551616 x) ((digs 18446744073709551616 x).length - 1)):=by
 have h0:=oq hx;have h1:=jZ (B:=18446744073709551616) (by omega) (kQ (by omega) x) ((digs 18446744073709551616 x).length - 1);have h2:=Lib.bitLenAux_bounds 64 _ h1 (by omega);have h3:=aa (m:=64) (by omega) hx (k:=Lib.bitLen (dg (digs 18446744073709551616 x) ((digs 18446744073709551616 x).length - 1))) h2.1 h2.2.1 h2.2.2;exact h3
theorem vJ (P:Nat→Prop) (A:Option Addr) (c:Nat) (a:List Nat) (w:World) (h:RN w P A c a) :
 Calls Tryz.prog 84 #[.slice A a.length c] w fun e w'=>e=.returned (.int .i64 (zo (val 18446744073709551616 a):Int))∧w=w':=by
 have ta:=jV P A c a w h
 replace h:=h.trim
 generalize val 18446744073709551616 a=x at *
 rcases za x with rfl | hx
 · rw [qU] at ta;have Ta:=zF ta;clear ta;go_enter Tryz.func84,Tryz.ntmps84;go_wp2_with fail;refine Ta.out.mono ?_;rintro e w1 ⟨rfl,rfl⟩;go_wp2;go_ret;exact ⟨rfl,rfl⟩
 · have hb:=dV hx;have hlt:=h.2.dgLt;obtain ⟨h1,h2,h3⟩:=h.cap;have hne:0<(digs 18446744073709551616 x).length:=by rw [jT (by omega) hx];simp
   generalize digs 18446744073709551616 x=l at *;obtain ⟨n,hn⟩:∃ n,l.length=n+1:=⟨l.length - 1,by omega⟩
   obtain ⟨ad,rfl,_,q1⟩:=h.at_ (i:=n) (by omega);rw [hn,jU] at hb;have hl:=hlt n;have hbl:Lib.bitLen (dg l n)≤64:=Lib.bitLen_le _ 64 (by omega) hl;have hlen:=Tryz.bits_Len64 (dg l n:Int) w (by omega) (by omega);rw [kU] at hlen;generalize Lib.bitLen (dg l n)=k at *;have Hlen:=zF hlen;have Hb:=zF hb;rw [hn] at ta h1 h3;have Ta:=zF ta;clear ta hb hlen hl hlt hne hx hn h;go_enter Tryz.func84,Tryz.ntmps84;go_wp2_with fail;refine Ta.out.mono ?_;rintro e w1 ⟨rfl,rfl⟩;go_wp2_with fail;refine Hlen.out.mono ?_;rintro e w1 ⟨rfl,rfl⟩;go_wp2;go_ret;exact ⟨dr (by rw [Hb.out];simp),rfl⟩
def xH (x:Nat) (i:Int):Nat:=if i<0 then 0 else x / 2 ^ i.toNat % 2
theorem mask1 (x:Nat):x &&& 1=x % 2:=Nat.and_one_is_mod x
theorem zB9 (d j:Nat) (hd:d<18446744073709551616):bits .and .u64 ((d:Int) / 2 ^ j) 1=((d / 2 ^ j % 2:Nat):Int):=by
 have h0:d / 2 ^ j≤d:=wg d _;have h:=bits_and_u64_nat (d / 2 ^ j) 1 (by omega) (by omega);rw [mask1] at h;rw [←h];simp
theorem fu (P:Nat→Prop) (A:Option Addr) (c:Nat) (a:List Nat) (i:Int) (w:World) (h:RN w P A c a) (hi:i≤9223372036854775807) :
 Calls Tryz.prog 115 #[.slice A a.length c,.int .i64 i] w fun e w'=>e=.returned (.int .u64 (xH (val 18446744073709551616 a) i:Int))∧w=w':=by
 obtain ⟨h1,h2,h3⟩:=h.cap
 by_cases h0:i<0
 · have hb:=zF (show xH (val 18446744073709551616 a) i=0 by simp [xH,h0]);go_enter Tryz.func115,Tryz.ntmps115;go_wp2;go_ret;rw [hb.out];exact ⟨rfl,rfl⟩
 · obtain ⟨n,rfl⟩:∃ n:Nat,i=(n:Int):=⟨i.toNat,by omega⟩
   obtain ⟨k,j,hj,hn⟩:∃ k j,j<64∧n=64*k+j:=⟨n / 64,n % 64,by omega,by omega⟩
   have hb:xH (val 18446744073709551616 a) (n:Int)=dg a k / 2 ^ j % 2:=by
    have:=rP (m:=64) a h.2.1 k j hj;rw [xH,qA h0,kU,hn];exact this
   have e1:(n:Int) / 64=(k:Int):=by omega
   have e2:(n:Int) % 64=(j:Int):=by omega
   have e4:IntKind.i64.wrap ((n:Int) / 64)=(k:Int):=by rw [e1];exact wq _ (by omega)
   by_cases hk:k<a.length
   · obtain ⟨ad,rfl,_,q1⟩:=h.at_ hk;have hd:=h.2.dgLt k;have e3:=zB9 (dg a k) j hd;have hj':(j:Int)<64:=by omega
     have hk':(k:Int)<(a.length:Int):=by omega
     have Hb:=zF hb;clear hb hn hd h hi;go_enter Tryz.func115,Tryz.ntmps115;go_wp2;go_ret;exact ⟨dr (by rw [Hb.out];simp),rfl⟩
   · have hd:dg a k=0:=vH (by omega);rw [hd,Nat.zero_div] at hb;have Hb:=zF hb;have hk':¬ (k:Int)<(a.length:Int):=by omega
     have hk2:(a.length:Int)≤(k:Int):=by omega
     have hkb:(k:Int)≤144115188075855871:=by omega
     clear hb hn hd h hi;go_enter Tryz.func115,Tryz.ntmps115;go_wp2;go_ret;rw [Hb.out];exact ⟨rfl,rfl⟩
theorem RN.one (w:World) (x:Nat) (hx:x<18446744073709551616):RN (w.alloc (.cells #[.int .u64 (x:Int)] 69)) (In w.heap.size (w.heap.size+1)) (some ⟨w.heap.size,0,none⟩) 1 [x] :=
 ⟨jM #[.int .u64 (x:Int)] 69 1 1 rfl (by unfold maxLen;omega) ⟨zH _,by omega⟩,by simpa [Lim] using hx⟩
abbrev RU (w:World) (A:Option Addr) (c:Nat) (l:List Nat):Prop:=RN w (fun b=>b<w.heap.size) A c l
theorem RN.up {w w':World}{A:Option Addr}{c:Nat}{l:List Nat}(h:RU w A c l) (hB:Below w.heap.size w w'):RU w' A c l :=
 (h.below hB fun _ hb=>hb).mono fun _ hb=>zR hb hB.size
theorem OB.ru {w:World}{base:Nat}{A:Option Addr}{c:Nat}{l:List Nat}(h:OB w base A c l):RU w A c l:=h.rn.mono fun _ hb=>hb.2
theorem RN.ud {w:World}{A:Option Addr}{c:Nat}{l:List Nat}(h:RU w A c l) (n:Nat):RU (w.drewN n) A c l:=h
theorem rE {a:List Nat}{n:Nat}(h:Lim a) (hn:a.length≤n):(digs 4294967296 (val 18446744073709551616 a)).length≤2*n:=by
 apply qp (by omega);rw [dQ];exact zR (jf h.1) (qF (by omega) hn)
theorem jq {w:World} : ∀ b,b<w.heap.size→b<w.heap.size:=fun _ h=>h
end Go.Proofs.YtmlbicgpehchhaaGreat
namespace Go.Proofs.YtmlbicgpehchhaaGreat
theorem qm:type_of% @RN.up:=@RN.up
theorem tp {x k:Nat}(hx:x<18446744073709551616) (hk:k<64):∃ hi lo t,x / 2 ^ (64 - k)=hi∧x*2 ^ k % 18446744073709551616=lo∧lo+18446744073709551616*hi=x*2 ^ k∧lo=t*2 ^ k∧lo+2 ^ k≤18446744073709551616∧hi<2 ^ k:=by
 have e64:(18446744073709551616:Nat)=2 ^ k*2 ^ (64 - k):=by rw [←qI,show k+(64 - k)=64 by omega]
 have hpos:0<2 ^ k:=qZ (by omega);have h1:x*2 ^ k / 18446744073709551616=x / 2 ^ (64 - k):=by rw [e64,zj x,Nat.mul_div_mul_left _ _ hpos]
 have h2:x*2 ^ k % 18446744073709551616=(x % 2 ^ (64 - k))*2 ^ k:=by
  rw [e64,zj x,Nat.mul_mod_mul_left,zj]
 have h3:=vi (x*2 ^ k) 18446744073709551616;refine ⟨_,_,_,rfl,rfl,by rw [←h1];omega,h2,?_,?_⟩
 · have h4:x % 2 ^ (64 - k)+1≤2 ^ (64 - k):=qP _ (qZ (by omega));have h5:(x % 2 ^ (64 - k)+1)*2 ^ k≤2 ^ (64 - k)*2 ^ k:=qf _ h4;rw [qr,wH,zj (2 ^ (64 - k)),←e64,←h2] at h5;exact h5
 · apply qV;rw [zj,←e64];exact hx
def fw (l o:List Nat) (w k i:Nat):Prop:=val 18446744073709551616 o=2 ^ (64*w+k)*val 18446744073709551616 (l.take i)∧(∀ j,i+w<j→dg o j=0)∧dg o (i+w)<2 ^ k
theorem fq (n j:Nat):dg (List.replicate n 0) j=0:=by
 rw [dg,zh,List.getElem?_replicate];split <;> rfl
theorem fw.zero (l:List Nat) (w k n:Nat):fw l (List.replicate n 0) w k 0:=by
 refine ⟨by rw [kO];simp,fun j _=>fq n j,by rw [fq];exact qZ (by omega)⟩
theorem fw.step {l o:List Nat}{w k i hi lo:Nat}(h:fw l o w k i) (ho:i+w+1<o.length) (he:lo+18446744073709551616*hi=dg l i*2 ^ k) (hh:hi<2 ^ k):fw l ((o.set (i+w) (dg o (i+w)+lo)).set (i+w+1) hi) w k (i+1):=by
 obtain ⟨h1,h2,h3⟩:=h;refine ⟨?_,fun j hj=>by rw [getD_set_ne (by omega),getD_set_ne (by omega)];exact h2 j (by omega),by rw [show i+1+w=i+w+1 by omega,vV (by simp;omega)];exact hh⟩;have s1:=vp 18446744073709551616 (show i+w<o.length by omega) (dg o (i+w)+lo);have s2:=vp 18446744073709551616 (l:=o.set (i+w) (dg o (i+w)+lo)) (n:=i+w+1) (by simp;omega) hi;rw [getD_set_ne (by omega:i+w≠i+w+1),h2 (i+w+1) (by omega)] at s2;rw [qD,zr,←h1];have e:2 ^ (64*w+k)*(18446744073709551616 ^ i*dg l i)=18446744073709551616 ^ (i+w)*(dg l i*2 ^ k):=by
  rw [qI,wE,show (2:Nat) ^ 64=18446744073709551616 by decide,qI];generalize 18446744073709551616 ^ w=a;generalize 18446744073709551616 ^ i=b;generalize 2 ^ k=c;generalize dg l i=d;rw [zj b d,←zd,zj _ b,zd a,zj c d,←zd b a]
 rw [e,←he,zr,←zd,←zu];rw [zr] at s1;generalize 18446744073709551616 ^ (i+w+1)*hi=q1 at *;generalize 18446744073709551616 ^ (i+w)*lo=q2 at *;generalize 18446744073709551616 ^ (i+w)*dg o (i+w)=q3 at *;generalize val 18446744073709551616 (o.set (i+w) (dg o (i+w)+lo))=q4 at *;generalize val 18446744073709551616 ((o.set (i+w) (dg o (i+w)+lo)).set (i+w+1) hi)=q5 at *;generalize val 18446744073709551616 o=q6 at *;omega
theorem fw.fin {l o:List Nat}{w k:Nat}(h:fw l o w k l.length):val 18446744073709551616 o=val 18446744073709551616 l*2 ^ (64*w+k):=by
 have:=h.1;rwa [jN,zj] at this
theorem sY {x k:Nat}{l:List Nat}(hk:k<64) (i w:Nat) (hx:dg l (i+w+1)=x) (hl:∀ y∈l,y<18446744073709551616) :
   ∃ t, x * 2 ^ (64 - k) % 18446744073709551616 = t * 2 ^ (64 - k) ∧ dg l (i + w) / 2 ^ k < 2 ^ (64 - k) ∧ dg l (i + w) / 2 ^ k + t * 2 ^ (64 - k) < 18446744073709551616 ∧
     val 18446744073709551616 l / 2 ^ (64*(i+w)+k) % 18446744073709551616=dg l (i+w) / 2 ^ k+t*2 ^ (64 - k):=by
 have e64:(18446744073709551616:Nat)=2 ^ k*2 ^ (64 - k):=by rw [←qI,show k+(64 - k)=64 by omega]
 have hpos:0<2 ^ (64 - k):=qZ (by omega);have hd:dg l (i+w)<18446744073709551616:=jZ (by omega) hl _;have h1:dg l (i+w) / 2 ^ k<2 ^ (64 - k):=qV (by rw [←e64];exact hd);have h2:x*2 ^ (64 - k) % 18446744073709551616=(x % 2 ^ k)*2 ^ (64 - k):=by
   rw [e64,Nat.mul_mod_mul_right]
 have h4:(x % 2 ^ k+1)*2 ^ (64 - k)≤2 ^ k*2 ^ (64 - k):=qf _ (qP _ (qZ (by omega)));rw [←e64,qr,wH] at h4;refine ⟨x % 2 ^ k,h2,h1,by omega,?_⟩;have hv:val 18446744073709551616 l / 2 ^ (64*(i+w)+k)=dg l (i+w) / 2 ^ k+2 ^ (64 - k)*(x+18446744073709551616*val 18446744073709551616 (l.drop (i+w+2))):=by
   have hs:=gc (m:=64) l hl (i+w) k (by omega);have h6:val 18446744073709551616 l=val 18446744073709551616 (l.take (i+w))+18446744073709551616 ^ (i+w)*(dg l (i+w)+18446744073709551616*(x+18446744073709551616*val 18446744073709551616 (l.drop (i+w+2)))):=by
     have dgdrop:∀ j,val 18446744073709551616 (l.drop j)=dg l j+18446744073709551616*val 18446744073709551616 (l.drop (j+1)):=fun j=>by
       rcases zz j l.length with h | h
       · rw [qa h,ju,dg,jW h]
       · rw [List.drop_eq_nil_of_le h,List.drop_eq_nil_of_le (by omega),dg,zh,qx h];simp
     rw [←hx,←dgdrop (i+w+1),←dgdrop (i+w)];rcases zz l.length (i+w) with h | h
     · rw [zk (by omega),List.drop_eq_nil_of_le (by omega)];simp
     · exact jL _ _ h
   have h7:val 18446744073709551616 (l.take (i+w))<18446744073709551616 ^ (i+w):=by
     refine zR (jf fun y hy=>hl y (qW hy)) (qF (by omega) ?_);rw [qB];omega
   rw [qI,wE,show (2:Nat) ^ 64=18446744073709551616 by decide,←jd,h6,uO _ _ (qZ (by omega)),qn h7,jc];generalize x+18446744073709551616*val 18446744073709551616 (l.drop (i+w+2))=v;have:dg l (i+w)+18446744073709551616*v=dg l (i+w)+2 ^ k*(2 ^ (64 - k)*v):=by rw [←zd,←e64]
   rw [this,uO _ _ (qZ (by omega))]
 rw [hv,zr,←kg];have h8:2 ^ (64 - k)*(18446744073709551616*val 18446744073709551616 (l.drop (i+w+2)))=18446744073709551616*(2 ^ (64 - k)*val 18446744073709551616 (l.drop (i+w+2))):=jR _ _ _;rw [h8,kR];have h9:x*2 ^ (64 - k)=18446744073709551616*(x*2 ^ (64 - k) / 18446744073709551616)+(x % 2 ^ k)*2 ^ (64 - k):=by
   have:=vi (x*2 ^ (64 - k)) 18446744073709551616;rw [h2] at this;omega
 rw [zj (2 ^ (64 - k)) x,h9,kL (18446744073709551616*_),←kg,kR];exact qG (by omega)
def pH (l o:List Nat) (w k i:Nat):Prop:=∀ j,j<i→dg o j=val 18446744073709551616 l / 2 ^ (64*(j+w)+k) % 18446744073709551616
theorem mo {B:Nat}{o:List Nat}(x:Nat) (hd:∀ j,j<o.length→dg o j=x / B ^ j % B) (hx:x<B ^ o.length):val B o=x:=by
 have:∀ i,i≤o.length→val B (o.take i)=x % B ^ i:=by
   intro i;induction i with
   | zero=>intro _;simp [Nat.mod_one]
   | succ i ih =>
     intro hi;rw [qD,ih (by omega),hd i (by omega),zu,Nat.mod_mul]
 have h:=this o.length (zH _);rw [jN,qG hx] at h;exact h
theorem pH.fin {l o:List Nat}{w k:Nat}(h:pH l o w k o.length) (hl:∀ x∈l,x<18446744073709551616) (hn:l.length=o.length+w):val 18446744073709551616 o=val 18446744073709551616 l / 2 ^ (64*w+k):=by
 apply mo
 · intro j hj;rw [h j hj,jd];congr 2;rw [show (18446744073709551616:Nat)=2 ^ 64 by decide,←wE,←qI];congr 1;omega
 · apply qV;have h1:=jf hl;rw [hn,qI] at h1;rw [qI,wE,show (2:Nat) ^ 64=18446744073709551616 by decide];have h2:18446744073709551616 ^ o.length*18446744073709551616 ^ w*1≤18446744073709551616 ^ o.length*18446744073709551616 ^ w*2 ^ k:=zi _ (qZ (by omega));have h3:18446744073709551616 ^ w*2 ^ k*18446744073709551616 ^ o.length=18446744073709551616 ^ o.length*18446744073709551616 ^ w*2 ^ k:=by
    rw [zj,zd]
   rw [h3];omega
end Go.Proofs.YtmlbicgpehchhaaGreat
namespace Go.Proofs.YtmlbicgpehchhaaGreat
open Go.RowKit
theorem rU (P:Nat→Prop) (A:Option Addr) (c:Nat) (a:List Nat) (n:Nat) (w:World) (h:RN w P A c a) (hP:∀ b,P b→b<w.heap.size) (hl:a.length<100000) (hn:n≤65536) (hv:0<val 18446744073709551616 a) :
 Calls Tryz.prog 161 #[.slice A a.length c,.int .i64 (n:Int)] w fun e w'=>∃ A1 c1,e=.returned (.slice A1 (digs 18446744073709551616 (val 18446744073709551616 a*2 ^ n)).length c1) ∧
  OB w' w.heap.size A1 c1 (digs 18446744073709551616 (val 18446744073709551616 a*2 ^ n))∧c1≤a.length+n / 64+1∧(∃ o,A1=some ⟨w.heap.size,0,none⟩∧Blk w' w.heap.size o∧o.length=c1∧digs 18446744073709551616 (val 18446744073709551616 a*2 ^ n)=o.take (digs 18446744073709551616 (val 18446744073709551616 a*2 ^ n)).length)∧Below w.heap.size w w':=by
 have ta:=zF (jV P A c a w h)
 have la:=ql (B:=18446744073709551616) (by omega) h.2.1
 replace h:=h.trim
 have hne:0<(digs 18446744073709551616 (val 18446744073709551616 a)).length:=by rw [jT (by omega) hv];simp
 generalize val 18446744073709551616 a=x at *
 have hx:=zc (B:=18446744073709551616) (by omega) x
 generalize digs 18446744073709551616 x=l at *
 have la':l.length<100000:=by omega
 have Hla:=zF la
 have Hx:=zF hx
 clear hl hx hv la
 obtain ⟨h1,h2,h3⟩:=h.cap
 obtain ⟨s,k,hk,hnk⟩:∃ s k,k<64∧n=64*s+k:=⟨n / 64,n % 64,by omega,by omega⟩
 have e1:(n:Int) / 64=(s:Int):=by omega
 have e2:(n:Int) % 64=(k:Int):=by omega
 have hs:s≤1024:=by omega
 have hne':((l.length:Int)==0)=false:=eqB (by omega)
 have hmk:=jH (P:=Tryz.prog) 23 69 (.int .u64 0) 8 Tryz.underlying23 j9 rfl .i64 .i64 (l.length+s+1) (by omega) (by omega)
 simp only [vK,qe] at hmk
 have hk1:(k:Int)<64:=by omega
 have Hnk:=zF hnk
 clear hne hnk
 go_enter Tryz.func161,Tryz.ntmps161
 go_wp2_with fail
 refine ta.out.mono ?_
 rintro e w1 ⟨rfl,rfl⟩
 go_wp2
 go_loopw [36] (fun iv wr=>∃ (i:Nat) (o:List Nat),iv=.int .i64 (i:Int)∧i≤l.length∧fw l o s k i∧Hid (o.length=l.length+s+1)∧Lim o∧Blk wr w.heap.size o∧Below w.heap.size w wr) (fun iv _=>l.length - (intOf iv).toNat)
 case atStart=>exact ⟨0,List.replicate (l.length+s+1) 0,rfl,by omega,fw.zero _ _ _ _,zF (by simp),⟨by simp,by simp;omega⟩,vA w _,(zO _ w).alloc (zH _) _⟩
 case round =>
  obtain ⟨i,o,rfl,hi,hS,Ho,hLo,hblk,hB⟩:=hrel;by_cases hlt:i<l.length
  · obtain ⟨ad,rfl,had,q1⟩:=(h.below hB hP).at_ hlt;have hol:=Ho.out;obtain ⟨hi',lo,t,p1,p2,p3,p4,p5,p6⟩:=tp (h.2.dgLt i) hk;have hS':=hS.step (by omega) p3 p6;obtain ⟨y,hy⟩:=eV (dg o (i+s)+lo);rw [hy] at hS';have hyl:y<18446744073709551616:=by have:=hS.2.2;omega
    have hhl:hi'<18446744073709551616:=by
     have:2 ^ k≤2 ^ 63:=qF (by omega) (by omega);omega
    have f1:IntKind.u64.wrap ((dg l i:Int)*2 ^ k)=(lo:Int):=by
     rw [←p2];simp [IntKind.wrap,IntKind.bits,IntKind.signed]
    have f2:bits .or .u64 (dg o (i+s):Int) (lo:Int)=(y:Int):=by
     rw [bits_or_u64_nat _ _ (hLo.dgLt _) (by omega),Nat.or_comm,p4,cg _ _ _ hS.2.2,←p4,←hy,kL]
    have f3:(dg l i:Int) / 2 ^ (64 - k)=(hi':Int):=by rw [←p1];simp
    have q3:=hblk.cell (i:=i+s) (by omega);have q4:=hblk.free (i+s);have hblk1:=hblk.set (i+s) y;have q5:=hblk1.cell (i:=i+s+1) (by simp;omega);have q6:=hblk1.free (i+s+1);have hblk2:=hblk1.set (i+s+1) hi';have hLo':=(hLo.set (i+s) y hyl).set (i+s+1) hi' hhl;have hB2:=(hB.setCell (p:=⟨w.heap.size,i+s,none⟩) (zH _) (.int .u64 (y:Int))).setCell (p:=⟨w.heap.size,i+s+1,none⟩) (zH _) (.int .u64 (hi':Int));have Ho':Hid (((o.set (i+s) y).set (i+s+1) hi').length=l.length+s+1):=zF (by simpa using Ho.out);have k1:(i:Int)+(s:Int)+1<(l.length:Int)+(s:Int)+1:=by omega
    clear hS hLo hblk hB hblk1 hol p1 p2 p3 p4 p5 p6 hyl hhl hy;go_wp2;go_roundw;case rel=>exact ⟨i+1,(o.set (i+s) y).set (i+s+1) hi',by go_num,by omega,hS',Ho',hLo',hblk2,hB2⟩
    case measure=>simp [intOf];omega
  · obtain rfl:i=l.length:=by omega
    have hfin:=hS.fin;rw [Hx.out,←Hnk.out] at hfin;have hOB:OB wr w.heap.size (some ⟨w.heap.size,0,none⟩) (l.length+s+1) o:=kA hblk (zH _) hLo (by have:=Ho.out;omega) (by unfold maxLen;omega);have ht:=jV _ _ _ _ _ hOB.rn;have hOB':=hOB.trim;have hpre:digs 18446744073709551616 (val 18446744073709551616 o)=o.take (digs 18446744073709551616 (val 18446744073709551616 o)).length:=by
     obtain ⟨n,hn,e⟩:=hLo.trim;rw [e,qB,qc hn]
    rw [hfin,Ho.out] at ht;rw [hfin] at hOB' hpre;have Hpre:=zF hpre;have Hblk:=zF hblk;have Ht:=zF ht;have hcc:Hid (l.length+s+1≤a.length+n / 64+1):=zF (by have:=Hla.out;have:=Hnk.out;omega);clear hblk hLo ht hfin hOB hS hpre;go_wp2_with fail;refine Ht.out.mono ?_;rintro e w1 ⟨rfl,rfl⟩;go_wp2;go_ret;exact ⟨_,_,rfl,hOB',hcc.out,⟨o,rfl,Hblk.out,Ho.out,Hpre.out⟩,hB⟩
theorem rT (P:Nat→Prop) (A:Option Addr) (c:Nat) (a:List Nat) (n:Nat) (w:World) (h:RN w P A c a) (hP:∀ b,P b→b<w.heap.size) (hl:a.length<100000) (hn:n≤9223372036854775807) :
 Calls Tryz.prog 165 #[.slice A a.length c,.int .i64 (n:Int)] w fun e w'=>∃ A1 c1,e=.returned (.slice A1 (digs 18446744073709551616 (val 18446744073709551616 a / 2 ^ n)).length c1) ∧
  OB w' w.heap.size A1 c1 (digs 18446744073709551616 (val 18446744073709551616 a / 2 ^ n))∧Below w.heap.size w w':=by
 have ta:=zF (jV P A c a w h)
 have la:=ql (B:=18446744073709551616) (by omega) h.2.1
 replace h:=h.trim
 generalize val 18446744073709551616 a=x at *
 have hx:=zc (B:=18446744073709551616) (by omega) x
 generalize digs 18446744073709551616 x=l at *
 have la':l.length<100000:=by omega
 have Hx:=zF hx
 obtain ⟨h1,h2,h3⟩:=h.cap
 obtain ⟨s,k,hk,hnk⟩:∃ s k,k<64∧n=64*s+k:=⟨n / 64,n % 64,by omega,by omega⟩
 have e1:(n:Int) / 64=(s:Int):=by omega
 have e2:(n:Int) % 64=(k:Int):=by omega
 have e4:IntKind.i64.wrap ((n:Int) / 64)=(s:Int):=by rw [e1];exact wq _ (by omega)
 have hsb:(s:Int)≤144115188075855871:=by omega
 by_cases hs:s<l.length
 · obtain ⟨m,hm⟩:∃ m,l.length=m+s:=⟨l.length - s,by omega⟩
   have em:(l.length:Int) - (s:Int)=(m:Int):=by omega
   have hmk:=jH (P:=Tryz.prog) 23 69 (.int .u64 0) 8 Tryz.underlying23 j9 rfl .i64 .i64 m (by omega) (by omega);have hk1:(k:Int)<64:=by omega
   have hs':(s:Int)<(l.length:Int):=by omega
   have hs2:¬ (l.length:Int)≤(s:Int):=by omega
   have Hnk:=zF hnk;have Hm:=zF hm;have hmb:m≤100000:=by omega
   clear hl hx la hnk hn hm hsb hs;go_enter Tryz.func165,Tryz.ntmps165;go_wp2_with fail;refine ta.out.mono ?_;rintro e w1 ⟨rfl,rfl⟩;go_wp2;go_loopw [32] (fun iv wr=>∃ (i:Nat) (o:List Nat),iv=.int .i64 (i:Int)∧i≤m∧pH l o s k i∧Hid (o.length=m)∧Lim o∧Blk wr w.heap.size o∧Below w.heap.size w wr) (fun iv _=>m - (intOf iv).toNat);case atStart=>exact ⟨0,List.replicate m 0,rfl,by omega,fun j hj=>by omega,zF (by simp),⟨by simp,by simp;omega⟩,vA w _,(zO _ w).alloc (zH _) _⟩
   case round =>
    obtain ⟨i,o,rfl,hi,hS,Ho,hLo,hblk,hB⟩:=hrel;have hol:=Ho.out;have hml:=Hm.out;by_cases hlt:i<m
    · obtain ⟨ad,rfl,had,q1⟩:=(h.below hB hP).at_ (i:=i+s) (by omega);obtain ⟨t,p1,p2,p3,p4⟩:=sY hk i s rfl h.2.1;obtain ⟨z,hz⟩:=eV (t*2 ^ (64 - k));obtain ⟨y1,hy1⟩:=eV (dg l (i+s) / 2 ^ k);obtain ⟨y,hy⟩:=eV (y1+z);have hor:(y1 ||| z)=y:=by rw [Nat.or_comm,←hz,cg _ _ _ (by rw [←hy1];exact p2),hz,←hy,kL]
      rw [hz] at p1 p3 p4;rw [hy1] at p2 p3 p4;rw [hy] at p3 p4;have f1:(dg l (i+s):Int) / 2 ^ k=(y1:Int):=by rw [←hy1];simp
      have hS':pH l (o.set i y) s k (i+1):=fun j hj=>by
       rcases zz j i with h | h
       · rw [getD_set_ne (by omega)];exact hS j h
       · obtain rfl:j=i:=by omega
         rw [vV (by omega)];exact p4.symm
      have q3:=hblk.cell (i:=i) (by omega);have q4:=hblk.free i;have hblk1:=hblk.set i y1;have hy1l:y1<18446744073709551616:=by omega
      have k1:(i:Int)+(s:Int)<(l.length:Int):=by omega
      by_cases h2:i+s+1<l.length
      · have hB1:=hB.setCell (p:=⟨w.heap.size,i,none⟩) (zH _) (.int .u64 (y1:Int));have q2:=(h.below hB1 hP).cells (i+s+1) h2;rw [pG] at q2;have f2:IntKind.u64.wrap ((dg l (i+s+1):Int)*2 ^ (64 - k))=(z:Int):=by
         rw [←p1];simp [IntKind.wrap,IntKind.bits,IntKind.signed]
        have hzl:z<18446744073709551616:=by omega
        have f3:bits .or .u64 (y1:Int) (z:Int)=(y:Int):=by rw [bits_or_u64_nat _ _ hy1l hzl,hor]
        have q5:=hblk1.cell (i:=i) (by simp;omega);rw [vV (by omega)] at q5;have q6:=hblk1.free i;have hblk2:=hblk1.set i y;rw [List.set_set] at hblk2;have hLo':=hLo.set i y p3;have hB2:=hB1.setCell (p:=⟨w.heap.size,i,none⟩) (zH _) (.int .u64 (y:Int));have Ho':Hid ((o.set i y).length=m):=zF (by simpa using Ho.out);have k2:(i:Int)+(s:Int)+1<(l.length:Int):=by omega
        clear hS hLo hblk hB hblk1 hol p1 p2 p3 p4 hz hy1 hy hor hy1l hzl hml hB1;go_wp2;go_region
        all_goals
         go_wp2;go_roundw;case rel=>exact ⟨i+1,o.set i y,by go_num,by omega,hS',Ho',hLo',hblk2,qR hB2 1⟩
         case measure=>simp [intOf];omega
      · have hzz:z=0:=by
         rw [vH (by omega:l.length≤i+s+1),Nat.zero_mul,Nat.zero_mod] at p1;exact p1.symm
        have hyy:y1=y:=by omega
        subst hyy;have hLo':=hLo.set i y1 p3;have hB2:=hB.setCell (p:=⟨w.heap.size,i,none⟩) (zH _) (.int .u64 (y1:Int));have Ho':Hid ((o.set i y1).length=m):=zF (by simpa using Ho.out);have k2:¬ (i:Int)+(s:Int)+1<(l.length:Int):=by omega
        clear hS hLo hblk hB hol p1 p2 p3 p4 hz hy1 hy hor hy1l hml hzz;go_wp2;go_roundw;case rel=>exact ⟨i+1,o.set i y1,by go_num,by omega,hS',Ho',hLo',hblk1,hB2⟩
        case measure=>simp [intOf];omega
    · obtain rfl:i=m:=by omega
      have hfin:=pH.fin (by rw [hol];exact hS) h.2.1 (by rw [hol];exact hml);rw [Hx.out,←Hnk.out] at hfin;have hOB:OB wr w.heap.size (some ⟨w.heap.size,0,none⟩) i o:=kA hblk (zH _) hLo (by omega) (by unfold maxLen;omega);have ht:=jV _ _ _ _ _ hOB.rn;have hOB':=hOB.trim;rw [hfin,hol] at ht;rw [hfin] at hOB';have Ht:=zF ht;clear hblk hLo ht hfin hOB hS hol hml;go_wp2_with fail;refine Ht.out.mono ?_;rintro e w1 ⟨rfl,rfl⟩;go_wp2;go_ret;exact ⟨_,_,rfl,hOB',hB⟩
 · have hz:x / 2 ^ n=0:=by
    apply qn;have h4:=jf h.2.1;rw [hx] at h4;refine zR h4 ?_;rw [show (18446744073709551616:Nat)=2 ^ 64 by decide,←wE];exact qF (by omega) (by omega)
   rw [hz,qU];have hs':¬ (s:Int)<(l.length:Int):=by omega
   have hs2:(l.length:Int)≤(s:Int):=by omega
   clear hl hx la hnk hn hz hs;go_enter Tryz.func165,Tryz.ntmps165;go_wp2_with fail;refine ta.out.mono ?_;rintro e w1 ⟨rfl,rfl⟩;go_wp2;go_ret;exact ⟨none,0,rfl,OB.nil_ _ _,zO _ _⟩
theorem fJ {w:World}{base g n c:Nat}{o l:List Nat}(h:Blk w g o) (hg:base≤g) (hc:o.length=c) (hc':c≤maxLen) (hn:n≤c) (hl:l=o.take n) (hlen:l.length=n) :
 w.ownsRow base 69 1 (.slice (some ⟨g,0,none⟩) n c) n (nts l) :=
 ⟨by simp [nts,hlen],.inr ⟨g,c,(nts o).toArray,rfl,hg,h,hn,hc',by simp [nts,hc],by simp [nts,hl]⟩⟩
theorem sa {y:Nat}(hy:18446744073709551616≤y):∃ n2 s top,(digs 18446744073709551616 y).length=n2+2∧dg (digs 18446744073709551616 y) (n2+1)=top∧top<18446744073709551616∧s<64∧Lib.bitLen top=64 - s ∧
 (digs 18446744073709551616 (y*2 ^ s)).length=n2+2∧18446744073709551616≤2*dg (digs 18446744073709551616 (y*2 ^ s)) (n2+1)∧18446744073709551616 ^ (n2+2)≤2*(y*2 ^ s):=by
 have hB:(2:Nat)≤18446744073709551616:=by omega
 have hlt:=kQ hB y
 have hl:1<(digs 18446744073709551616 y).length:=by
  rcases zz 1 (digs 18446744073709551616 y).length with h | h
  · exact h
  · have h1:=jl hB y;have h2:18446744073709551616 ^ (digs 18446744073709551616 y).length≤18446744073709551616 ^ 1:=qF (by omega) h;omega
 obtain ⟨n2,hn⟩:∃ n2,(digs 18446744073709551616 y).length=n2+2:=⟨(digs 18446744073709551616 y).length - 2,by omega⟩
 obtain ⟨top,ht⟩:=eV (dg (digs 18446744073709551616 y) (n2+1))
 have htl:top<18446744073709551616:=by rw [←ht];exact jZ (by omega) hlt _
 have h0:top≠0:=by
  rintro rfl;have h1:=gJ hB (v:=y) (by omega);rw [hn] at h1;have h2:y=val 18446744073709551616 ((digs 18446744073709551616 y).take (n2+1)):=by
   have:=qD 18446744073709551616 (digs 18446744073709551616 y) (n2+1);rw [ht,jK,qu,←hn,jN,zc hB] at this;exact this
  have h3:=jf (B:=18446744073709551616) (l:=(digs 18446744073709551616 y).take (n2+1)) fun x hx=>hlt x (qW hx);rw [←h2,qB,qc (by omega)] at h3;exact absurd h3 (Nat.not_lt.2 h1)
 obtain ⟨s,hs,hbl,g1,g2⟩:=nV h0 htl
 have e64:(18446744073709551616:Nat)=2 ^ (64 - s)*2 ^ s:=by rw [←qI,show 64 - s+s=64 by omega]
 obtain ⟨k1,k2,k3⟩:=zCi hB (by decide) e64 hn ht (by omega) g2
 exact ⟨n2,s,top,hn,ht,htl,hs,hbl,k1,k2,k3⟩
theorem zAu {L lD:List Nat}{j n n1 n2:Nat}(hn:n2+2=n) (hn1:n2+1=n1) (hL:∀ x∈L,x<18446744073709551616) (hD:∀ x∈lD,x<18446744073709551616) (hlD:lD.length=n) (hlen:j+n<L.length)
 (htop:18446744073709551616≤2*dg lD n1) (hV:val 18446744073709551616 L<18446744073709551616 ^ (j+1)*val 18446744073709551616 lD) :
 (∀ i, j + n + 1 ≤ i → dg L i = 0) ∧ val 18446744073709551616 L / (18446744073709551616 ^ j * val 18446744073709551616 lD) ≤ ur (dg L (j + n)) (dg L (j + n1)) (dg L (j + n2)) (dg lD n1) (dg lD n2) ∧
  ur (dg L (j+n)) (dg L (j+n1)) (dg L (j+n2)) (dg lD n1) (dg lD n2)<18446744073709551616:=by
 subst hn hn1
 have hdl:=jf hD
 rw [hlD] at hdl
 have hz:∀ i,j+(n2+2)+1≤i→dg L i=0:=fun i hi=>yb hL (m:=j+(n2+2)+1) (Nat.lt_trans hV (by
  rw [show j+(n2+2)+1=(j+1)+(n2+2) by omega,qI _ (j+1)]
  exact vC hdl (qZ (by omega)))) hi
 obtain ⟨k1,k2⟩:=tM (x2:=dg L (j+(n2+2))) (jZ (by omega) hL (j+(n2+1))) (jZ (by omega) hL (j+n2)) (jZ (by omega) hD (n2+1)) (jZ (by omega) hD n2) htop
 refine ⟨hz,k2 _ ?_ ?_,k1⟩
 · apply qV;rw [zu,x8] at hV;exact hV
 · obtain ⟨rv,hrv,hv⟩:=sO (t:=j+n2) hL (by omega) (fun i hi=>hz i (by omega));obtain ⟨rd,hd⟩:=zBM (B:=18446744073709551616) (L:=lD) (t:=n2) (by omega);refine aQ (B:=18446744073709551616) (t:=j+n2) (DB:=18446744073709551616 ^ j*val 18446744073709551616 lD) (rd:=18446744073709551616 ^ j*rd) (Nat.div_mul_le_self _ _) ?_ hv hrv;rw [hd,zr,←zd,←qI]
theorem Row.alloc_ {w:World}{g:Nat}{l:List Nat}(h:Row w g l) (o:Obj):Row (w.alloc o) g l:=h.of_heap (zx w o g h.lt)
theorem RN.alloc_ {w:World}{P:Nat→Prop}{A:Option Addr}{c:Nat}{l:List Nat}(h:RN w P A c l) (hP:∀ b,P b→b<w.heap.size) (o:Obj):RN (w.alloc o) P A c l:=h.below ((zO w.heap.size w).alloc (zH _) o) hP
theorem zBU (x:Nat){s:Nat}(hs:s<64):(digs 18446744073709551616 (x*2 ^ s)).length≤(digs 18446744073709551616 x).length+1:=by
 apply qp (by omega);have h1:=jl (B:=18446744073709551616) (by omega) x;have h2:2 ^ s≤2 ^ 64:=qF (by omega) (by omega);rw [show (2:Nat) ^ 64=18446744073709551616 by decide] at h2;rw [zu];exact jB (zi _ h2) (Nat.mul_lt_mul_of_pos_right h1 (by omega))
theorem zBX (P P':Nat→Prop) (A A':Option Addr) (c c':Nat) (a b:List Nat) (w:World) (h:RN w P A c a) (h':RN w P' A' c' b) (hP:∀ b,P b→b<w.heap.size) (hP':∀ b,P' b→b<w.heap.size) (hl:a.length<90000) (hl':b.length<90000)
 (hge:val 18446744073709551616 b≤val 18446744073709551616 a) (hbig:18446744073709551616≤val 18446744073709551616 b) :
 Calls Tryz.prog 124 #[.slice A a.length c,.slice A' b.length c'] w fun e w'=>∃ A1 c1 A2 c2,e=.returned (.tuple #[.slice A1 (digs 18446744073709551616 (val 18446744073709551616 a / val 18446744073709551616 b)).length c1,.slice A2 (digs 18446744073709551616 (val 18446744073709551616 a % val 18446744073709551616 b)).length c2,.bool true]) ∧
  OB w' w.heap.size A1 c1 (digs 18446744073709551616 (val 18446744073709551616 a / val 18446744073709551616 b))∧OB w' w.heap.size A2 c2 (digs 18446744073709551616 (val 18446744073709551616 a % val 18446744073709551616 b))∧Below w.heap.size w w':=by
 have ta:=zF (jV P A c a w h)
 have tb:=jV P' A' c' b w h'
 have tc:=wL P P' A A' c c' _ _ w h.trim h'.trim
 have la:=ql (B:=18446744073709551616) (by omega) h.2.1
 have lb:=ql (B:=18446744073709551616) (by omega) h'.2.1
 rw [zc (by omega),zc (by omega)] at tc
 replace h:=h.trim
 replace h':=h'.trim
 generalize val 18446744073709551616 a=x at *
 generalize val 18446744073709551616 b=y at *
 have hcv:0≤jo x y:=by rcases jb x y with h | h | h <;> omega
 generalize jo x y=v at tc hcv
 obtain ⟨i0,hi,hz0,hz1,hz2⟩:=wM j9
 obtain ⟨n2,s,top,hn,htop,htl,hs,hbl,hDn,hDt,hDp⟩:=sa hbig
 have hxv:=zc (B:=18446744073709551616) (by omega) x
 have hyv:=zc (B:=18446744073709551616) (by omega) y
 have hmono:(digs 18446744073709551616 x).length≤(digs 18446744073709551616 (x*2 ^ s)).length:=qg (by omega) (Nat.le_mul_of_pos_right _ (qZ (by omega)))
 have hmono2:(digs 18446744073709551616 y).length≤(digs 18446744073709551616 x).length:=qg (by omega) hge
 have hshl:=zBU x hs
 have hX0:0<x:=by omega
 have hY0:0<y:=by omega
 generalize digs 18446744073709551616 x=l at *
 generalize digs 18446744073709551616 y=m at *
 have T1:=zF fun W (hW:RN W P A c l) (hp:∀ b,P b→b<W.heap.size)=>rU P A c l s W hW hp (by omega) (by omega) (by rw [hxv];exact hX0)
 have T2:=zF fun W (hW:RN W P' A' c' m) (hp:∀ b,P' b→b<W.heap.size)=>rU P' A' c' m s W hW hp (by omega) (by omega) (by rw [hyv];exact hY0)
 rw [hxv] at T1
 rw [hyv,hDn,hn] at T2
 rw [hn] at tb tc
 have hXD:=zCh (B:=18446744073709551616) (x:=x*2 ^ s) (D:=y*2 ^ s) (n:=n2+2) (by omega) (by omega) hDp
 have hDlt:=jl (B:=18446744073709551616) (by omega) (y*2 ^ s)
 rw [hDn] at hDlt
 have hDd:=kQ (B:=18446744073709551616) (by omega) (y*2 ^ s)
 have hDv:=zc (B:=18446744073709551616) (by omega) (y*2 ^ s)
 have hXv:=zc (B:=18446744073709551616) (by omega) (x*2 ^ s)
 have hD0:0<y*2 ^ s:=Nat.mul_pos hY0 (qZ (by omega))
 have hqx:(x*2 ^ s) / (y*2 ^ s)=x / y:=Nat.mul_div_mul_right _ _ (qZ (by omega))
 have hrx:(x*2 ^ s) % (y*2 ^ s) / 2 ^ s=x % y:=by
  rw [Nat.mul_mod_mul_right];exact Nat.mul_div_cancel _ (qZ (by omega))
 generalize y*2 ^ s=D at *
 generalize x*2 ^ s=X at *
 generalize digs 18446744073709551616 D=lD at *
 generalize digs 18446744073709551616 X=lX at *
 obtain ⟨n,hn'⟩:=eV (n2+2)
 obtain ⟨n1,hn1⟩:=eV (n2+1)
 rw [hn'] at hn hDn hDlt hXD tb tc T2
 have HlD:=zF hDn
 rw [hn1] at htop hDt
 obtain ⟨kX,hkX⟩:=eV lX.length
 have hLX:Lim lX→True:=fun _=>trivial
 clear hLX
 rw [hkX] at hmono T1 hXD hshl
 obtain ⟨t,htt⟩:=eV (kX+1 - n)
 rw [htt] at hXD
 have hlz:=fun w=>Tryz.bits_LeadingZeros64 (top:Int) w (by omega) (by omega)
 rw [kU,hbl,show (64 - ((64 - s:Nat):Int))=(s:Int) by omega] at hlz
 have hge0:((n:Int)==0)=false:=eqB (by omega)
 have hge1:((n:Int)==1)=false:=eqB (by omega)
 have i1:(n:Int) - 1=(n1:Int):=by omega
 have i2:n1<n:=by omega
 have i3:¬ kX<l.length:=by omega
 have i4:(kX:Int)+1 - (n:Int)=(t:Int):=by omega
 have hcv':¬ v<0:=by omega
 have hnb:n<90000:=by omega
 have hlb:l.length<90000:=by omega
 have hkb:kX≤90001:=by omega
 obtain ⟨ad',rfl,hPad,q1⟩:=h'.at_ (i:=n1) (by omega)
 rw [htop] at q1
 have Htb:=zF tb
 have Htc:=zF tc
 have Hlz:=zF hlz
 have Hn2:=zF hn'
 have Hn1:=zF hn1
 have HkX:=zF hkX
 have HXD:=zF hXD
 have Htt:=zF htt
 have Hqx:=zF hqx
 have Hrx:=zF hrx
 have HDv:=zF hDv
 have HXv:=zF hXv
 have HDlt:=zF hDlt
 have HDt:=zF hDt
 have Hla:=zF la
 have Hl:=zF hl
 clear tb tc hlz hn' hn1 hkX hXD htt hqx hrx hDv hXv hDlt hDt la hl hbig hge hxv hyv hmono2 hX0 hY0 hDp lb hl' hbl htl htop hcv hDn hmono hshl
 go_enter Tryz.func124,Tryz.ntmps124
 go_wp2_with fail
 refine ta.out.mono ?_
 rintro e w1 ⟨rfl,rfl⟩
 go_wp2_with fail
 refine Htb.out.mono ?_
 rintro e w1 ⟨rfl,rfl⟩
 go_wp2_with fail
 refine Htc.out.mono ?_
 rintro e w1 ⟨rfl,nd,rfl⟩
 obtain ⟨W,hW⟩:=eW (w.drewN nd)
 have q2:W.cell? (ad'.add n1)=some (.int .u64 (top:Int)):=by rw [hW];exact q1
 have hsz:W.heap.size=w.heap.size:=by rw [hW];rfl
 have hB0:Below w.heap.size w W:=by rw [hW];exact qR (zO _ _) _
 have hRa:RN W P A c l:=by rw [hW];exact h.drewN _
 have hRb:RN W P' (some ad') c' m:=by rw [hW];exact h'.drewN _
 rw [←hW]
 have T1':=zF (T1.out W hRa (by rw [hsz];exact hP))
 have Hsz:=zF hsz
 clear hW q1 T1 hRa h h' hsz
 go_wp2_with fail
 refine (Hlz.out _).mono ?_
 rintro e w1 ⟨rfl,hw1⟩
 obtain rfl:W=w1:=hw1.symm
 go_wp2_with fail
 refine T1'.out.mono ?_
 rintro e w2 ⟨A1,c1,rfl,hO1,hc1,⟨o,rfl,hblk,ho,hpre⟩,hB1⟩
 have hown:=fJ hblk (zH _) ho (by unfold maxLen;have:=hO1.cap;omega) (by have:=hO1.cap;have:=HkX.out;omega) hpre HkX.out
 have hLX:=hO1.1
 have hB1s:=hB1.size
 clear hblk hpre ho
 go_wp2_with (at_builtin;refine jG _ rfl _ _ 23 rfl W.heap.size 69 i0 (.int .u64 0) 1 8 Tryz.underlying23 hi hz0 hz1 hz2 rfl (by decide) _ kX (nts lX) rfl (hown.alloc _) (In w2.heap.size (w2.heap.size+1)) (some ⟨w2.heap.size,0,none⟩) 1 1 [.int .u64 0] rfl (jM #[.int .u64 0] 69 1 1 rfl (by unfold maxLen;omega) ⟨zH _,by omega⟩) (by simp [Value.oneCell']) (kX+1) rfl (by unfold maxLen;omega) (by omega) (by simp;omega) ?_)
 intro A2 c2 w3 hown3 hg3 _
 have hlen:(lX++[0]).length=kX+1:=by rw [zt,HkX.out];rfl
 have hown4:w3.ownsRow W.heap.size 69 1 (.slice A2 (lX++[0]).length c2) (lX++[0]).length (nts (lX++[0])):=by
  rw [hlen];have:nts (lX++[0])=nts lX++[.int .u64 0]:=by simp [nts]
  rw [this];exact hown3
 have hLr:Lim (lX++[0]):=⟨fun x hx=>by
  rcases List.mem_append.1 hx with h | h
  · exact hLX.1 x h
  · rw [List.mem_singleton.1 h];omega,by rw [hlen];omega⟩
 have hOr:=OB.of_own hown4 hLr
 obtain ⟨g,rfl,hg,hrow⟩:=hOr.row (by omega)
 have hcr:=hOr.cap
 rw [hlen] at hcr
 have hgl:=hrow.lt
 have hB3:Below W.heap.size W w3:=(hB1.alloc hB1s _).grown hg3 (by simp;omega) (by intro j hj;exact yO hown hj)
 have hvr:val 18446744073709551616 (lX++[0])=X:=by rw [kJ,HXv.out];simp
 generalize lX++[0]=R at *
 obtain ⟨p,hp⟩:∃ p:Addr,p=⟨g,0,none⟩:=⟨_,rfl⟩
 rw [←hp]
 have Hp:=zF hp
 have T3:=zF (T2.out w3 (hRb.below hB3 (by rw [Hsz.out];exact hP')) (by have:=hB3.size;have:=Hsz.out;intro b hb;have:=hP' b hb;omega))
 have hcr2:kX+1≤c2:=hcr.1
 have hcr3:c2≤9223372036854775807:=hcr.2.1
 clear hp hown hown3 hown4 hO1 hB1 hB1s hcr T2 hRb q2 hg3 hOr
 go_wp2_with fail
 go_loopw [11] (fun rv wr=>rv=.slice (some p) (kX+1) c2∧w3=wr) (fun _ _=>0)
 case atStart=>exact ⟨rfl,rfl⟩
 case round =>
  obtain ⟨rfl,rfl⟩:=hrel;go_wp2_with fail;refine T3.out.mono ?_;rintro e w4 ⟨A3,c3,rfl,hO3,hc3,⟨o3,hA3,hu1,hu2,hu3⟩,hB4⟩;clear hu1 hu2 hu3;have hAd:=hO3.row (by rw [HlD.out];omega);have hRd:=hO3.rn;have hB4s:=hB4.size;have hgq:g<w4.heap.size:=by omega
  have hrow4:=hrow.below hB4 hgl;have hB34:Below W.heap.size W w4:=hB3.trans (hB4.mono (by have:=hB3.size;omega));have hB4a:=hB34.alloc (by omega) (.cells (madeCells #[.int .u64 0] t) 69);have hblkq:=vA w4 t;have hmk:=jH (P:=Tryz.prog) 23 69 (.int .u64 0) 8 Tryz.underlying23 j9 rfl .i64 .i64 t (by omega) (by omega);have Hs:=zF (vc t);clear hO3 hB4 hB34 hrow T3 hA3;go_wp2_with fail;go_loopw [14] (fun iv wr=>∃ (k:Nat) (z:Int) (L qs:List Nat),iv=.int .i64 z∧vT k z∧k≤t∧gZ 18446744073709551616 X D L qs k∧Hid (L.length=kX+1)∧Hid (qs.length=t)∧Lim L∧Lim qs∧Row wr g L∧Blk wr w4.heap.size qs∧RN wr (In w3.heap.size w4.heap.size) A3 c3 lD∧Below w.heap.size w wr) (fun iv _=>(intOf iv+1).toNat);case atStart=>exact ⟨t,_,R,List.replicate t 0,rfl,Hs.out,by omega,by rw [←hvr];exact gZ.start (by simp) (by rw [hvr];exact HXD.out),zF hlen,zF (by simp),hLr,⟨by simp,by simp;omega⟩,hrow4.alloc_ _,hblkq,hRd.alloc_ (fun b hb=>hb.2) _,(hB0.trans (hB4a.mono (by rw [Hsz.out];exact zH _)))⟩
  case round =>
   obtain ⟨k,z,L,qs,rfl,hz,hk,hQ,HL,Hqs,hLL,hLq,hrw,hbq,hRD,hB⟩:=hrel;clear hrow4 hblkq hRd hB4a hlen hLr hvr hAd;rcases hz with ⟨rfl,rfl⟩ | ⟨j,rfl,rfl⟩
   · obtain ⟨v1,v2⟩:=hQ.fin;rw [Hqx.out] at v1;have hws:=hB.size;have hWs:=Hsz.out;have hOq:OB wr w.heap.size (some ⟨w4.heap.size,0,none⟩) t qs:=kA hbq (by omega) hLq (by have:=Hqs.out;omega) (by unfold maxLen;omega);have hOr:=hrw.ob (base:=w.heap.size) (c:=c2) (by omega) hLL (by have:=HL.out;omega) (by unfold maxLen;omega);have tq:=jV _ _ _ _ _ hOq.rn;have hOq':=hOq.trim;rw [v1] at hOq';rw [v1,Hqs.out] at tq;have tr:=rT _ _ _ _ s wr hOr.rn (fun b hb=>hb.2) (by have:=HL.out;omega) (by omega);rw [v2,Hrx.out,HL.out,←Hp.out] at tr;have Tq:=zF tq;have Tr:=zF tr;clear hQ hLL hLq hrw hbq hRD hOr hOq tq tr;go_wp2_with fail;refine Tq.out.mono ?_;rintro e w5 ⟨rfl,rfl⟩;go_wp2_with fail;refine Tr.out.mono ?_;rintro e w6 ⟨A6,c6,rfl,hO6,hB6⟩;go_wp2;go_ret3;exact ⟨_,_,_,_,rfl,hOq'.below hB6 (zH _),hO6.mono hws,hB.trans (hB6.mono hws)⟩
   · have hLl:=HL.out;have hlD:=HlD.out;have e2:=Hn2.out;have e1:=Hn1.out;have hjt:=Htt.out;obtain ⟨hz0,hge,hgB⟩:=zAu (j:=j) e2 e1 hLL.1 hDd hlD (by omega) HDt.out (by rw [HDv.out];exact hQ.2);obtain ⟨ad,rfl,had,d1⟩:=hRD.at_ (i:=n1) (by omega);have d2:=hRD.cells n2 (by omega);obtain ⟨y0,hy0⟩:=eV (j+n);obtain ⟨y1,hy1⟩:=eV (j+n1);obtain ⟨y2,hy2⟩:=eV (j+n2);rw [hy0,hy1,hy2] at hge hgB;rw [HDv.out] at hge;have r0:=hrw.cell Hp.out (j:=y0) (by omega);have r1:=hrw.cell Hp.out (j:=y1) (by omega);have r2:=hrw.cell Hp.out (j:=y2) (by omega);rw [jc] at r0 r1 r2;have hgs:=tL (dg L y0) (dg L y1) (dg L y2) (dg lD n1) (dg lD n2);have hgs2:=fun w=>hgs w (hLL.dgLt y1) (hLL.dgLt y2) (jZ (by omega) hDd n1) (jZ (by omega) hDd n2) HDt.out;obtain ⟨G,hG⟩:=eV (ur (dg L y0) (dg L y1) (dg L y2) (dg lD n1) (dg lD n2));rw [hG] at hge hgB hgs2;have Hgs:=zF hgs2;have c0:(j:Int)+(n:Int)=(y0:Int):=by omega
     have c1':(y0:Int) - 1=(y1:Int):=by omega
     have c2':(y0:Int) - 2=(y2:Int):=by omega
     have c3':(n:Int) - 2=(n2:Int):=by omega
     have c4:y0+1 - j=n+1:=by omega
     have hpj:p.add j=⟨g,j,none⟩:=by rw [Hp.out,fv,jc]
     have Hpj:=zF hpj;have b0:(y0:Int)<(kX:Int)+1:=by omega
     have b1:(y1:Int)<(kX:Int)+1:=by omega
     have b2:(y2:Int)<(kX:Int)+1:=by omega
     have b3:n2<n:=by omega
     have b4:j≤y0+1:=by omega
     have b5:(y0:Int)+1≤(c2:Int):=by omega
     have b6:y0≤90001:=by omega
     clear hgs hgs2 hG e1 e2 hLl hpj;have Hjt:=zF hjt;have Hlen:Hid (j+n<L.length):=zF (by have:=HL.out;omega);have HlDn:=zF hlD;have hPg:∀ b,In w3.heap.size w4.heap.size b→b≠g:=fun b hb=>by have:=hb.1;omega
     have hgq':w4.heap.size≠g:=by omega
     have hwg:w.heap.size≤g:=by have:=Hsz.out;omega
     clear hjt hlD;go_wp2_with fail;go_quiet ((go_at_call 162;exact Calls.quiet_of (Hgs.out _)));go_wp2_with fail;refine (sW g j (p.add j) Hpj.out (In w3.heap.size w4.heap.size) (some ad) c3 (c2 - j) n G L lD _ (hrw.drewN _) hLL (hRD.drewN _) hPg HlDn.out Hlen.out hgB).mono ?_;rintro e w5 ⟨L1,bb,rfl,hrw1,hLL1,ho1,hl1,hv1,hz1⟩;have hF1:=gF.start (n:=n) (D:=D) hge hgB hz1 hz0 (by rw [HDv.out] at hv1;exact hv1) hLL1.1 (by omega) HDlt.out;have hbq1:Blk w5 w4.heap.size qs:=(ho1.block _ hgq').trans hbq;have hRD1:=(hRD.drewN nq).only ho1 hPg;have hB1':=(qR hB nq).trans (ho1.below hwg);have hl1':=zF (hl1.trans HL.out);clear hrw hLL hbq hRD hB ho1 hv1 hz1 hl1 hge hgB r0 r1 r2 d1 d2 hz0;go_wp2_with fail;go_loopw [15,17] (fun gv tv wr=>∃ (G:Nat) (too:Bool) (L':List Nat),gv=.int .u64 (G:Int)∧tv=.bool too∧gF 18446744073709551616 (val 18446744073709551616 L) j n D L' G too∧Hid (L'.length=kX+1)∧Lim L'∧Row wr g L'∧Blk wr w4.heap.size qs∧RN wr (In w3.heap.size w4.heap.size) (some ad) c3 lD∧Below w.heap.size w wr) (fun gv _ _=>(intOf gv).toNat);case atStart=>exact ⟨G,_,L1,rfl,rfl,hF1,hl1',hLL1,hrw1,hbq1,hRD1,hB1'⟩
     case round =>
      clear hF1 hl1' hLL1 hrw1 hbq1 hRD1 hB1';obtain ⟨G,too,L',rfl,rfl,hF,HL',hLL,hrw,hbq,hRD,hB⟩:=hrel;rcases too with _ | _
      · obtain ⟨f1,f2⟩:=hF.fin (by omega) hD0;have hjq:j<qs.length:=by have:=Hqs.out;omega
        have hQ':=hQ.step hjq f1 f2;have q3:=hbq.cell hjq;have q4:=hbq.free j;have hbq':=hbq.set j G;have hLq':=hLq.set j G hF.2.1;have hB':=hB.setCell (p:=⟨w4.heap.size,j,none⟩) (by show w.heap.size≤w4.heap.size;omega) (.int .u64 (G:Int));have hRD':RN (World.setCell _ ⟨w4.heap.size,j,none⟩ (.int .u64 (G:Int))) (In w3.heap.size w4.heap.size) (some ad) c3 lD:=hRD.keep fun q hq=>zT (w:=_) (zN _ _ _ q.block (by have:=hq.2;show q.block≠w4.heap.size;omega));have hrw':=hrw.of_heap (zN _ ⟨w4.heap.size,j,none⟩ (.int .u64 (G:Int)) g (by show g≠w4.heap.size;omega));have Hqs':Hid ((qs.set j G).length=t):=zF (by simpa using Hqs.out);have k1:j<t:=by omega
        have Hs':=zF (vc j);clear hF f1 f2 hQ hbq hLq hB hRD hrw;go_wp2;go_roundw;case rel=>exact ⟨j,_,L',qs.set j G,rfl,Hs'.out,by omega,hQ',HL',Hqs',hLL,hLq',hrw',hbq',hRD',hB'⟩
        case measure=>simp [intOf]
      · have hpos:=hF.pos hLL.1 (by omega);have hpos':=jB (j6 _) hpos;clear hpos;obtain ⟨G,rfl⟩:∃ k,G=k+1:=⟨G - 1,by omega⟩
        have hgB:=hF.2.1;have hGi:(G:Int)<18446744073709551616:=by omega
        clear hpos' hgB;go_wp2_with fail;refine (tO g j (p.add j) Hpj.out (In w3.heap.size w4.heap.size) (some ad) c3 (c2 - j) n L' lD _ hrw hLL hRD hPg HlDn.out (by rw [HL'.out,←HL.out];exact Hlen.out)).mono ?_;rintro e w6 ⟨L2,bb2,rfl,hrw2,hLL2,ho2,hl2,hv2,hz2⟩;rw [HDv.out] at hv2;have hF2:=hF.step hLL.1 hLL2.1 (by omega) hD0 HDlt.out hv2 hz2;have hbq2:Blk w6 w4.heap.size qs:=(ho2.block _ hgq').trans hbq;have hRD2:=hRD.only ho2 hPg;have hB2:=hB.trans (ho2.below hwg);have r4:=hrw2.cell Hpj.out (j:=n) (by rw [hl2,HL'.out,←HL.out];exact Hlen.out);have HL2:=zF (hl2.trans HL'.out);have k2:(n:Int)<(n:Int)+1:=by omega
        clear hF hLL hrw hbq hRD hB ho2 hl2 hv2 hz2;by_cases hd0:dg L2 (j+n)=0
        · rw [hd0] at r4 hF2;clear hd0;go_wp2;go_roundw;case rel=>exact ⟨G,false,L2,by go_num,rfl,by simpa using hF2,HL2,hLL2,hrw2,hbq2,hRD2,hB2⟩
          case measure=>simp [intOf]
        · have hdn:((dg L2 (j+n):Int) != 0)=true:=neB (by omega);have hF2':gF 18446744073709551616 (val 18446744073709551616 L) j n D L2 G true:=by simpa [hd0] using hF2
          clear hF2;go_wp2;go_roundw;case rel=>exact ⟨G,true,L2,by go_num,congrArg Value.bool (by first | exact hdn | (rw [←hy0];exact hdn)),hF2',HL2,hLL2,hrw2,hbq2,hRD2,hB2⟩
          case measure=>simp [intOf]
theorem uB (P P':Nat→Prop) (A A':Option Addr) (c c':Nat) (a b:List Nat) (w:World) (h:RN w P A c a) (h':RN w P' A' c' b) (hP:∀ b,P b→b<w.heap.size) (hP':∀ b,P' b→b<w.heap.size) (hl:a.length<90000) (hl':b.length<90000) (h0:0<val 18446744073709551616 b) :
 Calls Tryz.prog 124 #[.slice A a.length c,.slice A' b.length c'] w fun e w'=>∃ A1 c1 A2 c2,e=.returned (.tuple #[.slice A1 (digs 18446744073709551616 (val 18446744073709551616 a / val 18446744073709551616 b)).length c1,.slice A2 (digs 18446744073709551616 (val 18446744073709551616 a % val 18446744073709551616 b)).length c2,.bool true]) ∧
  OB w' w.heap.size A1 c1 (digs 18446744073709551616 (val 18446744073709551616 a / val 18446744073709551616 b))∧OB w' w.heap.size A2 c2 (digs 18446744073709551616 (val 18446744073709551616 a % val 18446744073709551616 b))∧Below w.heap.size w w':=by
 rcases zz (val 18446744073709551616 a) (val 18446744073709551616 b) with hlt | hge
 · have hq:=quo_lt P P' A A' c c' a b w h h' hlt;rw [qn hlt,qG hlt,qU];refine hq.mono ?_;rintro e w' ⟨A1,c1,rfl,hO,hB⟩;exact ⟨none,0,A1,c1,rfl,OB.nil_ _ _,hO,hB⟩
 · rcases zz (val 18446744073709551616 b) 18446744073709551616 with h1 | h1
   · exact zBW P P' A A' c c' a b w h h' hP (by omega) hge h0 h1
   · exact zBX P P' A A' c c' a b w h h' hP hP' hl hl' hge h1
theorem fX (P P':Nat→Prop) (A A':Option Addr) (c c':Nat) (a b:List Nat) (w:World) (h:RN w P A c a) (h':RN w P' A' c' b) (hP:∀ b,P b→b<w.heap.size) (hP':∀ b,P' b→b<w.heap.size) (hl:a.length<90000) (hl':b.length<90000) (h0:0<val 18446744073709551616 b) :
 Calls Tryz.prog 123 #[.slice A a.length c,.slice A' b.length c'] w fun e w'=>∃ A1 c1,e=.returned (.slice A1 (digs 18446744073709551616 (val 18446744073709551616 a % val 18446744073709551616 b)).length c1) ∧
  OB w' w.heap.size A1 c1 (digs 18446744073709551616 (val 18446744073709551616 a % val 18446744073709551616 b))∧Below w.heap.size w w':=by
 have hq:=zF (uB P P' A A' c c' a b w h h' hP hP' hl hl' h0)
 generalize val 18446744073709551616 a % val 18446744073709551616 b=r at *
 generalize val 18446744073709551616 a / val 18446744073709551616 b=q at *
 clear h0 hl hl'
 go_enter Tryz.func123,Tryz.ntmps123
 go_wp2_with fail
 refine hq.out.mono ?_
 rintro e w1 ⟨A1,c1,A2,c2,rfl,_,hO,hB⟩
 go_wp2
 go_ret
 exact ⟨A2,c2,rfl,hO,hB⟩
def RNN (w:World) (P:Nat→Prop) (A:Option Addr) (c:Nat) (ls:List (List Nat)) (cs:List Value):Prop :=
 RS w P 1 A ls.length c cs∧ls.length≤1000∧∀ (j:Nat) l,ls[j]?=some l→∃ A' c',cs[j]?=some (.slice A' l.length c')∧RN w P A' c' l
theorem cA (P:Nat→Prop) (A:Option Addr) (c:Nat) (ls:List (List Nat)) (cs:List Value) (w:World) (h:RNN w P A c ls cs) :
 Calls Tryz.prog 121 #[.slice A ls.length c] w fun e w'=>e=.returned (.bool (ls.all fun l=>decide (zo (val 18446744073709551616 l)≤4096)))∧w=w':=by
 obtain ⟨⟨h1,h2,h3,h4⟩,h5,h6⟩:=h
 go_enter Tryz.func121,Tryz.ntmps121
 go_wp2_with fail
 go_loopw [7] (fun iv wr=>∃ k:Nat,iv=.int .i64 (k:Int)∧k≤ls.length∧Hid ((ls.all fun l=>decide (zo (val 18446744073709551616 l)≤4096))=((ls.drop k).all fun l=>decide (zo (val 18446744073709551616 l)≤4096)))∧w=wr) (fun iv _=>ls.length - (intOf iv).toNat)
 case atStart=>exact ⟨0,rfl,by omega,zF (by simp),rfl⟩
 case round =>
  obtain ⟨k,rfl,hk,hall,rfl⟩:=hrel;by_cases hlt:k<ls.length
  · obtain ⟨ad,rfl,_,hc⟩:=h4 (by omega);obtain ⟨A1,c1,e1,hr⟩:=h6 k _ (qO hlt);have hx:=hc _ _ e1;have hb:=zF (vJ P A1 c1 ls[k] w hr);have hd:(ls.drop k).all (fun l=>decide (zo (val 18446744073709551616 l)≤4096))=(decide (zo (val 18446744073709551616 ls[k])≤4096) && (ls.drop (k+1)).all fun l=>decide (zo (val 18446744073709551616 l)≤4096)):=by
     rw [qa hlt,List.all_cons]
    obtain ⟨l,hl⟩:=eV (ls[k]);rw [hl] at hx hb hd;obtain ⟨nb,hnb⟩:=eV (zo (val 18446744073709551616 l));rw [hnb] at hb hd;have Hall:=hall;have Hd:=zF hd;clear hd hl hr e1 hc h4 h6 hnb hall;go_wp2_with fail;refine hb.out.mono ?_;rintro e w' ⟨rfl,rfl⟩;by_cases hbig:4096<nb
    · have hf:=zF (show (ls.all fun l=>decide (zo (val 18446744073709551616 l)≤4096))=false from Hall.out.trans (by rw [Hd.out,qb (by omega:¬ nb≤4096),Bool.false_and]));have t1:decide ((4096:Int)<(nb:Int))=true:=qX (by omega);clear Hall Hd;go_wp2;go_ret;exact ⟨by rw [hf.out];rfl,rfl⟩
    · have hf:=Hall.out.trans (by rw [Hd.out,qX (by omega:nb≤4096),Bool.true_and]);have Hf:=zF hf;have t1:decide ((4096:Int)<(nb:Int))=false:=qb (by omega);clear Hall Hd hf;go_wp2;go_roundw;case rel=>exact ⟨k+1,by go_num,by omega,Hf,by first | rfl | trivial⟩
      case measure=>simp [intOf];omega
  · have hf:=zF (show (ls.all fun l=>decide (zo (val 18446744073709551616 l)≤4096))=true from hall.out.trans (by rw [yG (by omega),List.all_nil]));clear hall h4 h6;go_wp2;go_ret;exact ⟨by rw [hf.out];rfl,rfl⟩
def gd (w:World) (v:Value):Nat:=match v with
 | .slice (some a) n _=>val 18446744073709551616 ((List.range n).map fun i=>match w.cell? (a.add i) with | some (.int _ z)=>z.toNat | _=>0)
 | _=>0
theorem RN.read {w:World}{P:Nat→Prop}{A:Option Addr}{c:Nat}{l:List Nat}(h:RN w P A c l):gd w (.slice A l.length c)=val 18446744073709551616 l:=by
 rcases za l.length with h0 | h0
 · obtain rfl:=qC h0;cases A <;> simp [gd]
 · obtain ⟨ad,rfl,_,_⟩:=h.at_ h0;simp only [gd];congr 1;apply List.ext_getElem?;intro i;rw [wn];by_cases hi:i<l.length
   · rw [List.getElem?_range hi,qO hi,Option.map_some,h.cells i hi,uD hi];simp
   · rw [qx (by simp;omega),qx (by omega)];rfl
theorem zCA (P P':Nat→Prop) (A A':Option Addr) (c c':Nat) (a b:List Nat) (w:World) (h:RN w P A c a) (h':RN w P' A' c' b) (hP:∀ b,P b→b<w.heap.size) (hP':∀ b,P' b→b<w.heap.size) (hl:a.length<100000) (hl':b.length<100000) :
 Calls Tryz.prog 126 #[.slice A a.length c,.slice A' b.length c'] w fun e w'=>∃ A1 c1,e=.returned (.slice A1 (digs 18446744073709551616 (val 18446744073709551616 a+val 18446744073709551616 b)).length c1) ∧
  OB w' w.heap.size A1 c1 (digs 18446744073709551616 (val 18446744073709551616 a+val 18446744073709551616 b))∧Below w.heap.size w w':=by
 have ta:=zF (jV P A c a w h)
 have tb:=zF (jV P' A' c' b w h')
 have la:=ql (B:=18446744073709551616) (by omega) h.2.1
 have lb:=ql (B:=18446744073709551616) (by omega) h'.2.1
 replace h:=h.trim
 replace h':=h'.trim
 generalize val 18446744073709551616 a=x at *
 generalize val 18446744073709551616 b=y at *
 have hx:=zc (B:=18446744073709551616) (by omega) x
 have hy:=zc (B:=18446744073709551616) (by omega) y
 generalize digs 18446744073709551616 x=l at *
 generalize digs 18446744073709551616 y=m at *
 have la':l.length<100000:=by omega
 have lb':m.length<100000:=by omega
 clear la lb hl hl'
 have Hx:=zF hx
 have Hy:=zF hy
 clear hx hy
 go_enter Tryz.func126,Tryz.ntmps126
 go_wp2_with fail
 refine ta.out.mono ?_
 rintro e w1 ⟨rfl,rfl⟩
 go_wp2_with fail
 refine tb.out.mono ?_
 rintro e w1 ⟨rfl,rfl⟩
 go_upto_if 17 with fail
 go_cut [0,1] (fun s0 s1 wx=>∃ (A c:_) (l:List Nat) (A' c':_) (m:List Nat),s0=.slice A l.length c∧s1=.slice A' m.length c'∧m.length≤l.length∧l.length<100000 ∧
  RN w (fun b=>b<w.heap.size) A c l∧RN w (fun b=>b<w.heap.size) A' c' m∧Hid (val 18446744073709551616 l+val 18446744073709551616 m=x+y)∧w=wx)
 case first =>
  by_cases hs:l.length<m.length
  · go_wp2_with fail;go_meet;case rel=>exact ⟨A',c',m,A,c,l,rfl,rfl,by omega,by omega,h'.mono hP',h.mono hP,zF (by rw [Hx.out,Hy.out,kL]),rfl⟩
  · go_wp2_with fail;go_meet;case rel=>exact ⟨A,c,l,A',c',m,rfl,rfl,by omega,by omega,h.mono hP,h'.mono hP',zF (by rw [Hx.out,Hy.out]),rfl⟩
 case rest =>
  clear ta tb h h' hP hP' Hx Hy la' lb';clear A A' c c' l m;obtain ⟨A,c,l,A',c',m,rfl,rfl,hle,hlen,h,h',Hv,rfl⟩:=hcut;obtain ⟨h1,h2,h3⟩:=h.cap;obtain ⟨g1,g2,g3⟩:=h'.cap;have hmk:=jH (P:=Tryz.prog) 23 69 (.int .u64 0) 8 Tryz.underlying23 j9 rfl .i64 .i64 (l.length+1) (by omega) (by omega);simp only [vK,qe] at hmk;go_wp2;go_loopw [6,26] (fun cv iv wr=>∃ (k cr:Nat) (o:List Nat),iv=.int .i64 (k:Int)∧cv=.int .u64 (cr:Int)∧k≤l.length∧cr≤1∧wf 18446744073709551616 l m o k cr∧Hid (o.length=l.length+1)∧Lim o∧Blk wr w.heap.size o∧Below w.heap.size w wr) (fun _ iv _=>l.length - (intOf iv).toNat);case atStart=>exact ⟨0,0,List.replicate (l.length+1) 0,rfl,rfl,by omega,by omega,wf.zero _ _ _ _,zF (by simp),⟨by simp,by simp;omega⟩,vA w _,(zO _ w).alloc (zH _) _⟩
  case round =>
   obtain ⟨k,cr,o,rfl,rfl,hk,hcr,hA,Ho,hLo,hblk,hB⟩:=hrel;by_cases hlt:k<l.length
   · obtain ⟨ad,rfl,_,q1⟩:=(h.below hB (fun b hb=>hb)).at_ hlt;obtain ⟨s,cr',hs,hcr',he⟩:=xp (dg l k) (dg m k) cr (h.2.dgLt k) (h'.2.dgLt k) hcr;have hok:k<o.length:=by have:=Ho.out;omega
     have q3:=hblk.cell hok;have q4:=hblk.free k;have hA':=hA.step hok he;have hblk':=hblk.set k s;have hLo':=hLo.set k s hs;have hB':=hB.setCell (p:=⟨w.heap.size,k,none⟩) (zH _) (.int .u64 (s:Int));have Ho':Hid ((o.set k s).length=l.length+1):=zF (by rw [jt];exact Ho.out);by_cases hm:k<m.length
     · obtain ⟨ae,rfl,_,q2⟩:=(h'.below hB (fun b hb=>hb)).at_ hm;have hadd:=fun w=>kF (dg l k) (dg m k) cr s cr' hcr hs he w;clear he hA hblk hLo hB;go_wp2;go_roundw;case rel=>exact ⟨k+1,cr',o.set k s,by go_num,rfl,by omega,hcr',hA',Ho',hLo',hblk',hB'⟩
       case measure=>simp [intOf];omega
     · have hadd:=fun w=>kF (dg l k) 0 cr s cr' hcr hs (by rw [vH (by omega:m.length≤k)] at he;exact he) w;simp only [qe] at hadd;clear he hA hblk hLo hB;go_wp2;go_roundw;case rel=>exact ⟨k+1,cr',o.set k s,by go_num,rfl,by omega,hcr',hA',Ho',hLo',hblk',hB'⟩
       case measure=>simp [intOf];omega
   · obtain rfl:k=l.length:=by omega
     have hfin:=hA.fin (by rw [Ho.out]) (zH _) hle;rw [Hv.out] at hfin;have q4:=hblk.free l.length;have q3:=hblk.cell (i:=l.length) (by have:=Ho.out;omega);have hblk':=hblk.set l.length cr;have hLo':=hLo.set l.length cr (by omega);have hB':=hB.setCell (p:=⟨w.heap.size,l.length,none⟩) (zH _) (.int .u64 (cr:Int));have Ho':Hid ((o.set l.length cr).length=l.length+1):=zF (by rw [jt];exact Ho.out);obtain ⟨o',ho'⟩:=eV (o.set l.length cr);rw [ho'] at hfin hblk' hLo' Ho';have hOB:OB (wr.setCell ⟨w.heap.size,l.length,none⟩ (.int .u64 (cr:Int))) w.heap.size (some ⟨w.heap.size,0,none⟩) (l.length+1) o':=kA hblk' (zH _) hLo' (by have:=Ho'.out;omega) (by unfold maxLen;omega);have ht:=jV _ _ _ _ _ hOB.rn;have hOB':=hOB.trim;rw [hfin,Ho'.out] at ht;rw [hfin] at hOB';have Ht:=zF ht;clear hA hblk hLo hB ht hfin hOB hblk' hLo' ho';go_wp2_with fail;refine Ht.out.mono ?_;rintro e w1 ⟨rfl,rfl⟩;go_wp2;go_ret;exact ⟨_,_,rfl,hOB',hB'⟩
end Go.Proofs.YtmlbicgpehchhaaGreat
namespace Go.Proofs.YtmlbicgpehchhaaGreat
theorem zB0 (u:List Nat) (k i:Nat):dg (u.drop k) i=dg u (k+i):=by
 simp [dg,zh,List.getElem?_drop]
def yw (B:Nat) (u v W:List Nat) (k g i c b:Nat):Prop:=W.length=v.length+1∧val B (W.take i)+g*val B (v.take i)=val B ((u.drop k).take i)+B ^ i*(c+b)
section
variable {B k g i c b:Nat} {u v W:List Nat}
theorem yw.zero (h:W.length=v.length+1):yw B u v W k g 0 0 0:=⟨h,by simp⟩
theorem yw.step {lo c' x b':Nat}(h:yw B u v W k g i c b) (hi:i<W.length) (h1:lo+B*c'=c+g*dg v i) (h2:x+(lo+b)=dg u (k+i)+B*b'):yw B u v (W.set i x) k g (i+1) c' b':=by
 obtain ⟨g1,g2⟩:=h;refine ⟨by simpa using g1,?_⟩;rw [je B hi,qD,qD,zB0,zu];have e1:g*(B ^ i*dg v i)=B ^ i*(g*dg v i):=jR _ _ _;have e2:B ^ i*(lo+B*c')=B ^ i*(c+g*dg v i):=by rw [h1]
 have e3:B ^ i*(x+(lo+b))=B ^ i*(dg u (k+i)+B*b'):=by rw [h2]
 rw [zr g,e1,zd,zr B,zr (B ^ i) (B*c')];simp only [zr] at e2 e3 g2 ⊢;generalize B ^ i*(B*c')=p1 at *;generalize B ^ i*(B*b')=p2 at *;generalize B ^ i*lo=p3 at *;generalize B ^ i*(g*dg v i)=p4 at *;generalize B ^ i*c=p5 at *;generalize B ^ i*b=p6 at *;generalize B ^ i*x=p7 at *;generalize B ^ i*dg u (k+i)=p8 at *;omega
def uT (u W:List Nat) (k:Nat):List Nat:=u.take k++W++u.drop (k+W.length)
theorem mX (h:k+W.length≤u.length):(uT u W k).length=u.length:=by simp [uT];omega
theorem sP (B:Nat) (h:k+W.length≤u.length):∃ r t:Nat,val B u=r+B ^ k*(val B ((u.drop k).take W.length)+B ^ W.length*t)∧val B (uT u W k)=r+B ^ k*(val B W+B ^ W.length*t):=by
 refine ⟨val B (u.take k),val B (u.drop (k+W.length)),?_,?_⟩
 · rw [jL B u (n:=k) (by omega),jL B (u.drop k) (n:=W.length) (by simp;omega),List.drop_drop]
 · unfold uT;rw [kJ,kJ,zt,qB,qc (by omega),qI,zd,kg,←zr]
theorem yw.yes (h:yw B u v W k g W.length 0 0) (hk:k+W.length≤u.length):val B (uT u W k)+B ^ k*(g*val B v)=val B u:=by
 obtain ⟨g1,g2⟩:=h;obtain ⟨r,t,e1,e2⟩:=sP B (u:=u) (W:=W) hk;rw [jN,zk (by omega:v.length≤W.length)] at g2;simp only [qu,jK] at g2;rw [e1,e2,←g2,zr,zr,zr];omega
theorem yw.no (h:yw B u v W k g W.length 0 1) (hW:∀ x∈W,x<B) (hu:∀ x∈u,x<B) (hz:∀ j,k+W.length≤j→dg u j=0) (hk:k+W.length≤u.length):val B u / (B ^ k*val B v)<g:=by
 obtain ⟨g1,g2⟩:=h;rw [jN,zk (by omega:v.length≤W.length)] at g2;simp only [jc,jS] at g2;have h1:=jf hW;have e1:=jL B u (n:=k) (by omega);have e2:=jL B (u.drop k) (n:=W.length) (by simp;omega);have h0:val B ((u.drop k).drop W.length)=0:=by
  apply wJ;intro x hx;rw [List.drop_drop] at hx;obtain ⟨i,hi,rfl⟩:=List.getElem_of_mem hx;rw [yy];have:=hz (k+W.length+i) (by omega);rwa [dg,jW (by simp at hi;omega)] at this
 rw [h0,jK,qu] at e2;have h2:val B (u.take k)<B ^ k:=by
  have:=jf (B:=B) (l:=u.take k) fun x hx=>hu x (qW hx);rwa [qB,qc (by omega)] at this
 apply qV;rw [e1,e2];have h3:val B ((u.drop k).take W.length)+1≤g*val B v:=by omega
 have h4:B ^ k*(val B ((u.drop k).take W.length)+1)≤B ^ k*(g*val B v):=zi _ h3;rw [zr,jS] at h4;rw [zd,zj (val B v)];omega
theorem tN {n n1:Nat}(hn:n1+1=n) (hu:∀ x∈u,x<B) (hv:∀ x∈v,x<B) (hvn:v.length=n) (hlen:k+n<u.length) (htop:0<dg v n1) (hV:val B u<B ^ (k+1)*val B v) :
 (∀ i,k+n+1≤i→dg u i=0)∧val B u / (B ^ k*val B v)<B∧val B u / (B ^ k*val B v)≤(dg u (k+n)*B+dg u (k+n1)) / dg v n1:=by
 subst hn
 have hB:0<B:=jB (j6 _) (hu _ (kM (by omega:k<u.length)))
 have hdl:=jf hv
 rw [hvn] at hdl
 have hz:∀ i,k+(n1+1)+1≤i→dg u i=0:=fun i hi=>yb hu (m:=k+(n1+1)+1) (Nat.lt_trans hV (by
  rw [show k+(n1+1)+1=(k+1)+(n1+1) by omega,qI _ (k+1)]
  exact vC hdl (qZ hB))) hi
 refine ⟨hz,?_,?_⟩
 · apply qV;rw [zu,x8] at hV;exact hV
 · rw [Nat.le_div_iff_mul_le htop];have e:=jL B u (n:=k+n1+2) (by omega);have hd:val B (u.drop (k+n1+2))=0:=by
    apply wJ;intro x hx;obtain ⟨i,hi,rfl⟩:=List.getElem_of_mem hx;rw [yy];have:=hz (k+n1+2+i) (by omega);rwa [dg,jW (by simp at hi;omega)] at this
   rw [hd,jK,qu,qD,qD,zu] at e;have hr:=jf (B:=B) (l:=u.take (k+n1)) fun x hx=>hu x (qW hx);rw [qB,qc (by omega)] at hr;have ev:val B v=val B (v.take n1)+B ^ n1*dg v n1:=by rw [←qD,←hvn,jN]
   refine aQ (B:=B) (t:=k+n1) (DB:=B ^ k*val B v) (rd:=B ^ k*val B (v.take n1)) (V:=val B u) (rv:=val B (u.take (k+n1))) (Nat.div_mul_le_self _ _) ?_ ?_ hr
   · rw [ev,zr,←zd,←qI]
   · rw [e,zd,zj B,zr,show k+(n1+1)=k+n1+1 by omega];omega
def gr (B:Nat) (a o:List Nat) (m i c:Nat):Prop:=o.length=a.length+1∧val B (o.take i)+B ^ i*c=m*val B (a.take i)
theorem gr.step {a o:List Nat}{m x c':Nat}(h:gr B a o m i c) (hi:i<o.length) (h1:x+B*c'=c+dg a i*m):gr B a (o.set i x) m (i+1) c':=by
 obtain ⟨g1,g2⟩:=h;refine ⟨by simpa using g1,?_⟩;rw [je B hi,qD,zr,←g2,zu,zd];have e1:m*(B ^ i*dg a i)=B ^ i*(dg a i*m):=by rw [jR,zj m]
 have e2:B ^ i*(x+B*c')=B ^ i*(c+dg a i*m):=by rw [h1]
 rw [e1];simp only [zr] at e2;omega
theorem gr.fin {a o:List Nat}{m:Nat}(h:gr B a o m a.length c):val B (o.set a.length c)=m*val B a:=by
 obtain ⟨g1,g2⟩:=h;have e:(o.set a.length c).length=a.length+1:=by simpa using g1
 have e2:val B (o.set a.length c)=val B ((o.set a.length c).take (a.length+1)):=by rw [←e,jN]
 rw [e2,je B (by omega),g2,jN]
end
end Go.Proofs.YtmlbicgpehchhaaGreat
namespace Go.Proofs.YtmlbicgpehchhaaGreat
open Go.RowKit
theorem fY (P:Nat→Prop) (A:Option Addr) (c:Nat) (l:List Nat) (d:Nat) (w:World) (h:RN w P A c l) (hP:∀ b,P b→b<w.heap.size) (hD:Dig l) (hl:l.length<100000) (hd':d<4294967296) :
 Calls Tryz.prog 171 #[.slice A l.length c,.int .u64 (d:Int)] w fun e w'=>∃ o,e=.returned (.slice (some ⟨w.heap.size,0,none⟩) (l.length+1) (l.length+1))∧Blk w' w.heap.size o∧o.length=l.length+1∧Dig o∧val 4294967296 o=d*val 4294967296 l∧Below w.heap.size w w':=by
 obtain ⟨h1,h2,h3⟩:=h.cap
 have hmk:=jH (P:=Tryz.prog) 26 69 (.int .u64 0) 8 Tryz.underlying26 j9 rfl .i64 .i64 (l.length+1) (by omega) (by omega)
 simp only [vK,qe] at hmk
 go_enter Tryz.func171,Tryz.ntmps171
 go_wp2
 go_loopw [6,7] (fun cv iv wr=>∃ (i cr:Nat) (o:List Nat),iv=.int .i64 (i:Int)∧cv=.int .u64 (cr:Int)∧i≤l.length∧cr<4294967296∧gr 4294967296 l o d i cr∧Dig o∧Blk wr w.heap.size o∧Below w.heap.size w wr) (fun _ iv _=>l.length - (intOf iv).toNat)
 case atStart=>exact ⟨0,0,List.replicate (l.length+1) 0,rfl,rfl,by omega,by omega,⟨by simp,by simp⟩,by intro x hx;simp at hx;omega,vA w _,(zO _ w).alloc (zH _) _⟩
 case round =>
  obtain ⟨i,cr,o,rfl,rfl,hi,hcr,hT,hDo,hblk,hB⟩:=hrel;have hol:=hT.1;by_cases hlt:i<l.length
  · obtain ⟨ad,rfl,had,q1⟩:=(h.below hB hP).at_ hlt;have hb:=yX (hD.dgLt i) hd' hcr (show 0<4294967296 by omega);obtain ⟨pr,hpr⟩:=eV (dg l i*d);have Hpr:=zF (show (dg l i:Int)*(d:Int)=(pr:Int) by rw [←hpr,yW]);rw [hpr] at hb;obtain ⟨s,cr',hs,hcr',he⟩:∃ s c':Nat,s<4294967296∧c'<4294967296∧s+4294967296*c'=cr+pr:=⟨(cr+pr) % 4294967296,(cr+pr) / 4294967296,by omega,by omega,by omega⟩
    have e1:((cr:Int)+(pr:Int)) % 4294967296=(s:Int):=by omega
    have e2:((cr:Int)+(pr:Int)) / 4294967296=(cr':Int):=by omega
    have q3:=hblk.cell (i:=i) (by omega);have q4:=hblk.free i;have hT':=hT.step (by omega) (by rw [hpr];exact he);have hblk':=hblk.set i s;have hD':=hDo.set i s hs;have hB':=hB.setCell (p:=⟨w.heap.size,i,none⟩) (zH _) (.int .u64 (s:Int));have k1:(i:Int)<(l.length:Int)+1:=by omega
    have k3:(pr:Int)<18446744073709551616:=by omega
    have k4:(cr:Int)+(pr:Int)<18446744073709551616:=by omega
    clear he hT hblk hDo hB hb hpr hol;have hpr:=Hpr.out;go_wp2;go_roundw;case rel=>exact ⟨i+1,cr',o.set i s,by go_num,(by first | rfl | exact congrArg (Value.int .u64) e2),by omega,hcr',hT',hD',hblk',hB'⟩
    case measure=>simp [intOf];omega
  · obtain rfl:i=l.length:=by omega
    have q3:=hblk.cell (i:=l.length) (by omega);have q4:=hblk.free l.length;have hfin:=hT.fin;have hblk':=hblk.set l.length cr;have hD':=hDo.set l.length cr hcr;have hB':=hB.setCell (p:=⟨w.heap.size,l.length,none⟩) (zH _) (.int .u64 (cr:Int));have k1:(l.length:Int)<(l.length:Int)+1:=by omega
    have Hf:=zF hfin;have Hol:=zF (show (o.set l.length cr).length=l.length+1 by simpa using hol);clear hT hblk hDo hB hfin hol;go_wp2;go_ret;exact ⟨o.set l.length cr,rfl,hblk',Hol.out,hD',Hf.out,hB'⟩
theorem fZ (P:Nat→Prop) (A:Option Addr) (c:Nat) (l:List Nat) (d:Nat) (w:World) (h:RN w P A c l) (hP:∀ b,P b→b<w.heap.size) (hDl:Dig l) (hl:l.length<100000) (hd:0<d) (hd':d<4294967297) :
 Calls Tryz.prog 170 #[.slice A l.length c,.int .u64 (d:Int)] w fun e w'=>∃ A1 c1,e=.returned (.tuple #[.slice A1 (digs 4294967296 (val 4294967296 l / d)).length c1,.int .u64 ((val 4294967296 l % d:Nat):Int)]) ∧
  OB w' w.heap.size A1 c1 (digs 4294967296 (val 4294967296 l / d))∧Below w.heap.size w w':=by
 obtain ⟨h1,h2,h3⟩:=h.cap
 have hmk:=jH (P:=Tryz.prog) 26 69 (.int .u64 0) 8 Tryz.underlying26 j9 rfl .i64 .i64 l.length (by omega) (by omega)
 have Hs:=zF (vc l.length)
 have n0:((d:Int)==0)=false:=eqB (by omega)
 have n1:¬ d=0:=by omega
 go_enter Tryz.func170,Tryz.ntmps170
 go_wp2
 go_loopw [7,8] (fun rv iv wr=>∃ (k r:Nat) (z:Int) (o:List Nat),iv=.int .i64 z∧vT k z∧rv=.int .u64 (r:Int)∧k≤l.length∧r<d∧xD 4294967296 l o d k r∧Dig o∧Blk wr w.heap.size o∧Below w.heap.size w wr) (fun _ iv _=>(intOf iv+1).toNat)
 case atStart=>exact ⟨l.length,0,_,List.replicate l.length 0,rfl,Hs.out,rfl,by omega,by omega,xD.start d (by simp),by intro x hx;simp at hx;omega,vA w _,(zO _ w).alloc (zH _) _⟩
 case round =>
  obtain ⟨k,r,z,o,rfl,hz,rfl,hk,hr,hS,hDo,hblk,hB⟩:=hrel;rcases hz with ⟨rfl,rfl⟩ | ⟨j,rfl,rfl⟩
  · obtain ⟨hv,hrem⟩:=hS.fin hr;have hLo:Lim o:=⟨fun x hx=>by have:=hDo x hx;omega,by have:=hS.1;omega⟩
    have hOB:OB wr w.heap.size (some ⟨w.heap.size,0,none⟩) l.length o:=kA hblk (zH _) hLo (by have:=hS.1;omega) (by unfold maxLen;omega);have ht:=vG _ _ _ _ _ hOB.rn hDo;have hOB':=hOB.trim32 hDo;rw [hv,hS.1] at ht;rw [hv] at hOB';have Ht:=zF ht;have Hrem:=zF hrem;clear hblk hLo ht hv hrem hOB hS hDo;go_wp2_with fail;refine Ht.out.mono ?_;rintro e w1 ⟨rfl,rfl⟩;go_wp2;go_ret2;exact ⟨_,_,by rw [Hrem.out];rfl,hOB',hB⟩
  · obtain ⟨ad,rfl,had,q1⟩:=(h.below hB hP).at_ (i:=j) (by omega);have hol:=hS.1;have hlj:=hDl.dgLt j;have q3:=hblk.cell (i:=j) (by omega);have q4:=hblk.free j;obtain ⟨t,ht⟩:=eV (r*4294967296+dg l j);obtain ⟨q,r',hr',he,hq⟩:∃ q r':Nat,r'<d∧t=d*q+r'∧q<4294967296:=by
     refine ⟨t / d,t % d,qP _ hd,(vi _ d).symm,?_⟩;apply qV;have:(r+1)*4294967296≤d*4294967296:=qf _ hr;omega
    have htb:(t:Int)<18446744073709551616:=by omega
    have f0:(r:Int)*4294967296+(dg l j:Int)=(t:Int):=by omega
    have f1:(t:Int) / (d:Int)=(q:Int):=by
     rw [←Int.natCast_ediv,he,Nat.mul_add_div hd,qn hr',qu]
    have f2:(t:Int) % (d:Int)=(r':Int):=by
     rw [←Int.natCast_emod,he,Nat.mul_add_mod,qG hr']
    have f1':(t:Int).tdiv (d:Int)=(q:Int):=by rw [kH (by omega)];exact f1
    have f2':(t:Int).tmod (d:Int)=(r':Int):=by rw [Int.tmod_eq_emod_of_nonneg (by omega)];exact f2
    have hS':=hS.step (by omega) (by rw [ht];exact he);have hblk':=hblk.set j q;have hD':=hDo.set j q hq;have hB':=hB.setCell (p:=⟨w.heap.size,j,none⟩) (zH _) (.int .u64 (q:Int));have k1:(j:Int)<(l.length:Int):=by omega
    have k2:(r:Int)*4294967296<18446744073709551616:=by omega
    have k3:(q:Int)<18446744073709551616:=by omega
    have k4:(r':Int)<18446744073709551616:=by omega
    have Hs':=zF (vc j);clear he hS hblk hDo hB hol ht;go_wp2;go_roundw;case rel=>exact ⟨j,r',_,o.set j q,rfl,Hs'.out,by go_num,by omega,hr',hS',hD',hblk',hB'⟩
    case measure=>simp [intOf]
theorem pN {P:Program}(w:World){o:Oper}{a:Act}{K:Act→World→Prop}{Q:Exit→Act→World→Prop}(d s:Operand) (t t':TypeId)
 (ho:o.op=.call { callee:=.builtin .copy,args:=#[d,s],argTypes:=#[t,t'] }) (v u:Value) (hd:a.eval d=v) (hs:a.eval s=u) {v':Value} {w':World}
 (hr:(Builtin.copy_ #[t,t'] o.type #[v,u]).run P w=.ok v' w') (h:K (a.put o.dst v') w'):o.wp P a w K Q:=by
 unfold Oper.wp execOp
 simp only [ho,resolve,invoke,builtin,vh,Sem.run_pure,qy,List.map_toArray,wI,wm,hd,hs,hr]
 exact h
theorem cH {P:Program}(w:World){ops:Array Oper}{rest:List Oper}{o:Oper}{a:Act}{Q:Exit→Act→World→Prop}(hgd:o.guard=none) (d s:Operand) (t t':TypeId)
 (ho:o.op=.call { callee:=.builtin .copy,args:=#[d,s],argTypes:=#[t,t'] }) (v u:Value) (hd:a.eval d=v) (hs:a.eval s=u) {v':Value} {w':World}
 (hr:(Builtin.copy_ #[t,t'] o.type #[v,u]).run P w=.ok v' w') (h:wpList P ops Q rest (a.put o.dst v') w'):wpList P ops Q (o :: rest) a w :=
 wpList_plain hgd fun _ hK=>pN w d s t t' ho v u hd hs hr (hK _ _ h)
theorem xP:(Tryz.prog.info? 69).map (·.size)=some 1:=by kernel_rfl
theorem sd {u W:List Nat}{k:Nat}(hu:Dig u) (hW:Dig W):Dig (uT u W k):=by
 intro x hx;rcases List.mem_append.1 hx with h | h
 · rcases List.mem_append.1 h with h | h
   · exact hu x (qW h)
   · exact hW x h
 · exact hu x (uQ h)
theorem zBo (u W:List Nat) (k:Nat):(((nts u).toArray.toList.take k++nts W++(nts u).toArray.toList.drop (k+(nts W).length)).toArray)=(nts (uT u W k)).toArray:=by
 simp [nts,uT,List.map_take,List.map_drop]
theorem zA6 (w:World) (g gw k n m cw:Nat) (u W:List Nat) (ty:TypeId) (hu:Blk w g u) (hw:Blk w gw W) (hn:W.length=n) (hk:k+n≤u.length) (hm:u.length - k=m) :
 (Builtin.copy_ #[26,26] ty #[.slice (some ⟨g,k,none⟩) m m,.slice (some ⟨gw,0,none⟩) n cw]).run Tryz.prog w=.ok (goInt n) (w.setRow g (nts (uT u W k)).toArray):=by
 have h:=run_copy_row (P:=Tryz.prog) w 26 26 ty 69 g k m m ⟨gw,0,none⟩ n cw (nts u).toArray 69 (nts W) Tryz.underlying26 xP hu
  (by rw [qj,hn];exact (qc (by omega)).symm) (fun j v hj=>by rw [xZ,zJ hw j,zK];exact hj) (by rw [qj,hn];simp [nts];omega) (kG W)
 rw [zBo,qj,hn] at h
 exact h
theorem Blk.put {w:World}{g:Nat}{u:List Nat}(h:Blk w g u) (v:List Nat):Blk (w.setRow g (nts v).toArray) g v:=setRow_heap w g _ _ _ _ h
theorem wS.put {w w':World}{g:Nat}(h:wS g w w') (v:Array Value):wS g w (w'.setRow g v) :=
 ⟨h.os, h.tape, h.output, by have : (w'.setRow g v).heap.size = w'.heap.size := by simp [World.setRow]
                             exact this.trans h.size,fun k hk=>by
   have:(w'.setRow g v).heap[k]?=w'.heap[k]?:=by simp [World.setRow,kY,ub hk]
   exact this.trans (h.block k hk)⟩
structure Two (g g':Nat) (w w':World):Prop where
 os:w'.os=w.os
 tape:w'.tape=w.tape
 output:w'.output=w.output
 size:w'.heap.size=w.heap.size
 block:∀ k,k≠g→k≠g'→w'.heap[k]?=w.heap[k]?
theorem Two.below {g g' B:Nat}{w w':World}(h:Two g g' w w') (hg:B≤g) (hg':B≤g'):Below B w w':=⟨h.os,h.tape,h.output,x9 h.size.symm,fun k hk=>h.block k (by omega) (by omega)⟩
theorem wS.two {g g':Nat}{w w' w'':World}(h:wS g' w w') (k:wS g w' w''):Two g g' w w'':=⟨k.os.trans h.os,k.tape.trans h.tape,k.output.trans h.output,k.size.trans h.size,fun i hi hi'=>(k.block i hi).trans (h.block i hi')⟩
theorem RN.two {g g':Nat}{w w':World}{P:Nat→Prop}{A:Option Addr}{c:Nat}{l:List Nat}(h:RN w P A c l) (ho:Two g g' w w') (hP:∀ b,P b→b≠g∧b≠g'):RN w' P A c l:=h.keep fun q hq=>zT (w:=w) (ho.block q.block (hP _ hq).1 (hP _ hq).2)
theorem po (g v c b x:Nat) (hg:g<4294967296) (hv:v<4294967296) (hc:c<4294967296) (hb:b≤1) (hx:x<4294967296) :
 ∃ pr lo c' off y b':Nat,g*v=pr∧pr<18446744073709551616∧c+pr<18446744073709551616∧lo+4294967296*c'=c+pr∧(c+pr) % 4294967296=lo∧(c+pr) / 4294967296=c'∧c'<4294967296∧off=lo+b∧off≤4294967296∧y<4294967296∧b'≤1∧y+(lo+b)=x+4294967296*b'∧(b'=0↔¬ x<off):=by
 have hm:=yX hg hv hc (show 0<4294967296 by omega)
 obtain ⟨pr,hpr⟩:=eV (g*v)
 rw [hpr] at hm
 by_cases h:x<(c+pr) % 4294967296+b
 · exact ⟨pr,(c+pr) % 4294967296,(c+pr) / 4294967296,(c+pr) % 4294967296+b,x+4294967296 - ((c+pr) % 4294967296+b),1,hpr,by omega,by omega,by omega,rfl,rfl,by omega,rfl,by omega,by omega,by omega,by omega,by simp [h]⟩
 · exact ⟨pr,(c+pr) % 4294967296,(c+pr) / 4294967296,(c+pr) % 4294967296+b,x - ((c+pr) % 4294967296+b),0,hpr,by omega,by omega,by omega,rfl,rfl,by omega,rfl,by omega,by omega,by omega,by omega,by simp [h]⟩
theorem zAk (g gw k n m G:Nat) (P:Nat→Prop) (A:Option Addr) (c:Nat) (U V W:List Nat) (w:World) (hU:Blk w g U) (hW:Blk w gw W) (h:RN w P A c V) (hgg:g≠gw) (hP:∀ b,P b→b≠gw) (hDU:Dig U) (hDV:Dig V) (hUm:U.length=m) (hVn:V.length=n) (hWn:W.length=n+1) (hk:k+n+1≤m) (hm:m≤100000) (hG:G<4294967296) (hz:∀ j,k+n+1≤j→dg U j=0) :
 Calls Tryz.prog 172 #[.slice (some ⟨g,0,none⟩) m m,.slice A n c,.slice (some ⟨gw,0,none⟩) (n+1) (n+1),.int .i64 (k:Int),.int .u64 (G:Int)] w fun e w'=>∃ U' W',Blk w' g U'∧Dig U'∧U'.length=m∧Blk w' gw W'∧W'.length=n+1∧Two g gw w w' ∧
  ((e=.returned (.bool true)∧val 4294967296 U'+4294967296 ^ k*(G*val 4294967296 V)=val 4294967296 U)∨(e=.returned (.bool false)∧U'=U∧val 4294967296 U / (4294967296 ^ k*val 4294967296 V)<G)):=by
 obtain ⟨h1,h2,h3⟩:=h.cap
 have hnc:n≤c:=by omega
 have Hz:=zF hz
 have HVn:=zF hVn
 have HUm:=zF hUm
 have Hgg:=zF hgg
 have HG:=zF hG
 have hn1:n≤100000:=by omega
 clear h1 h2 h3 hz hVn hUm hgg hG
 go_enter Tryz.func172,Tryz.ntmps172
 go_wp2
 go_loopw [12,13,14] (fun cv bv iv wr=>∃ (i cr b:Nat) (o:List Nat),iv=.int .i64 (i:Int)∧cv=.int .u64 (cr:Int)∧bv=.int .u64 (b:Int)∧i≤n+1∧cr<4294967296∧b≤1∧(n<i→cr=0)∧yw 4294967296 U V o k G i cr b∧Dig (o.take i)∧Blk wr gw o∧wS gw w wr) (fun _ _ iv _=>n+1 - (intOf iv).toNat)
 case atStart=>exact ⟨0,0,0,W,rfl,rfl,rfl,by omega,by omega,by omega,by omega,yw.zero (by rw [HVn.out];exact hWn),by intro x hx;simp at hx,hW,wS.refl _ _⟩
 case round =>
  obtain ⟨i,cr,b,o,rfl,rfl,rfl,hi,hcr,hb,hc0,hS,hDo,hbw,ho⟩:=hrel;have hol:=hS.1;rw [HVn.out] at hol;have hbu:Blk _ g U:=(ho.block g Hgg.out).trans hU;by_cases hle:i≤n
  · have hxU:=hDU.dgLt (k+i);have q1:=hbu.cell (i:=k+i) (by rw [HUm.out];omega);have q3:=hbw.cell (i:=i) (by omega);have q4:=hbw.free i;have k0:(k:Int)+(i:Int)<(m:Int):=by omega
    have k1:(i:Int)<(n:Int)+1:=by omega
    obtain ⟨pr,lo,c',off,y,b',b1,b2,b3,b4,b5,b6,b7,b8,b9,b10,b11,b12,b13⟩:=po G (dg V i) cr b (dg U (k+i)) HG.out (hDV.dgLt i) hcr hb hxU;have hS':=hS.step (x:=y) (c':=c') (b':=b') (lo:=lo) (by omega) (by rw [b1];exact b4) b12;have hblk':=hbw.set i y;have hD':Dig ((o.set i y).take (i+1)):=by
     rw [ue (by simpa using (by omega:i<o.length)),vV (by omega),List.take_set_of_le (by omega)];intro x hx;rcases List.mem_append.1 hx with h | h
     · exact hDo x h
     · rw [List.mem_singleton.1 h];exact b10
    have ho':=ho.setCell (p:=⟨gw,0,none⟩) (f:=0) rfl i (.int .u64 (y:Int));rw [xZ] at ho';have e3:(lo:Int)+(b:Int)=(off:Int):=by omega
    have kx:(dg U (k+i):Int)<4294967296:=by omega
    have kp:(pr:Int)<18446744073709551616:=by omega
    have kc:(cr:Int)+(pr:Int)<18446744073709551616:=by omega
    have ko:(off:Int)≤4294967296:=by omega
    have hc':n<i+1→c'=0:=by
     intro hni;have hin:i=n:=by omega
     have:dg V i=0:=vH (by rw [HVn.out];omega);rw [this,jK] at b1;omega
    have e1:((cr:Int)+(pr:Int)) % 4294967296=(lo:Int):=by omega
    have e2:((cr:Int)+(pr:Int)) / 4294967296=(c':Int):=by omega
    have Hb7:=zF b7;have Hhc:=zF hc';by_cases hlt:i<n
    · obtain ⟨ad,rfl,_,q2⟩:=(h.only ho hP).at_ (i:=i) (by rw [HVn.out];exact hlt);have hpr:(dg V i:Int)*(G:Int)=(pr:Int):=by rw [←yW,zj,b1]
      rcases za b' with h0 | h0
      · have hxo:=b13.1 h0;have e4:(dg U (k+i):Int) - (off:Int)=(y:Int):=by omega
        subst h0;clear b1 b2 b3 b4 b5 b6 b7 b8 b9 b10 b12 b13 hS hDo hbw ho hol hbu hxU hcr hc' hc0;go_wp2;go_roundw;case rel=>exact ⟨i+1,c',0,o.set i y,by go_num,by go_num,rfl,by omega,Hb7.out,by omega,Hhc.out,hS',hD',hblk',ho'⟩
        case measure=>simp [intOf];omega
      · have h01:b'=1:=by omega
        have hxo:dg U (k+i)<off:=by
         rcases zz (dg U (k+i)) off with h | h
         · exact h
         · have:=b13.2 (by omega);omega
        have e4:(dg U (k+i):Int)+4294967296 - (off:Int)=(y:Int):=by omega
        subst h01;clear b1 b2 b3 b4 b5 b6 b7 b8 b9 b10 b12 b13 hS hDo hbw ho hol hbu hxU hcr hc' hc0;go_wp2;go_roundw;case rel=>exact ⟨i+1,c',1,o.set i y,by go_num,by go_num,rfl,by omega,Hb7.out,by omega,Hhc.out,hS',hD',hblk',ho'⟩
        case measure=>simp [intOf];omega
    · have hin:i=n:=by omega
      have hv0:dg V i=0:=vH (by rw [HVn.out];omega);rw [hv0,jK] at b1;have e1':(cr:Int) % 4294967296=(lo:Int):=by omega
      have e2':(cr:Int) / 4294967296=(c':Int):=by omega
      subst hin;rcases za b' with h0 | h0
      · have hxo:=b13.1 h0;have e4:(dg U (k+i):Int) - (off:Int)=(y:Int):=by omega
        subst h0;clear b1 b2 b3 b4 b5 b6 b7 b8 b9 b10 b12 b13 hS hDo hbw ho hol hbu hxU hcr hc' hc0 hv0 e1 e2;go_wp2;go_roundw;case rel=>exact ⟨i+1,c',0,o.set i y,by go_num,by go_num,rfl,by omega,Hb7.out,by omega,Hhc.out,hS',hD',hblk',ho'⟩
        case measure=>simp [intOf]
      · have h01:b'=1:=by omega
        have hxo:dg U (k+i)<off:=by
         rcases zz (dg U (k+i)) off with h | h
         · exact h
         · have:=b13.2 (by omega);omega
        have e4:(dg U (k+i):Int)+4294967296 - (off:Int)=(y:Int):=by omega
        subst h01;clear b1 b2 b3 b4 b5 b6 b7 b8 b9 b10 b12 b13 hS hDo hbw ho hol hbu hxU hcr hc' hc0 hv0 e1 e2;go_wp2;go_roundw;case rel=>exact ⟨i+1,c',1,o.set i y,by go_num,by go_num,rfl,by omega,Hb7.out,by omega,Hhc.out,hS',hD',hblk',ho'⟩
        case measure=>simp [intOf]
  · have hin:i=n+1:=by omega
    have hcz:=hc0 (by omega);subst hin hcz;have hDo':Dig o:=by rwa [zk (by omega)] at hDo
    rw [←hol] at hS;have hkl:k+o.length≤U.length:=by rw [HUm.out];omega
    have hle':¬ (n:Int)+1≤(n:Int):=by omega
    rcases za b with h0 | h0
    · subst h0;have hy:=zF (hS.yes hkl);have hcp:=zA6 _ g gw k (n+1) (m - k) (n+1) U o 3 hbu hbw hol (by rw [HUm.out];omega) (by rw [HUm.out]);have Hol:=zF hol;have Hkl:=zF hkl;clear hol hkl hS hDo;have hbu2:=hbu.put (uT U o k);have hbw2:Blk (World.setRow _ g (nts (uT U o k)).toArray) gw o:=((wS.refl g _).put _ |>.block gw (ub Hgg.out)).trans hbw;have htwo:=ho.two ((wS.refl g _).put (nts (uT U o k)).toArray);go_wp2;go_ret;exact ⟨uT U o k,hbu2,sd hDU hDo',(mX Hkl.out).trans HUm.out,o,hbw2,Hol.out,htwo,.inl ⟨rfl,hy.out⟩⟩
    · have hb1:b=1:=by omega
      subst hb1;have hno:=zF (hS.no hDo' hDU (fun j hj=>Hz.out j (by omega)) hkl);have Hol:=zF hol;clear hS hDo hol hkl;go_wp2;go_ret;exact ⟨U,hbu,hDU,HUm.out,o,hbw,Hol.out,(wS.refl g _ |> fun r=>ho.two r),.inr ⟨rfl,rfl,hno.out⟩⟩
end Go.Proofs.YtmlbicgpehchhaaGreat
