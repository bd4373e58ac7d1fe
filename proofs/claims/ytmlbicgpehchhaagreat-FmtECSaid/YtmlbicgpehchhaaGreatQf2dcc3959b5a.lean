/- Laws that the proof rests on. -/
import Derived.Test.YtmlbicgpehchhaaGreatQ768c3feac3e7
set_option maxRecDepth 100000
set_option maxHeartbeats 16000000
namespace Go.Proofs.YtmlbicgpehchhaaGreat
def kZ (b u u1 y1 y0 q r:Nat):Prop:=q*y1+r=u∧(u*b+u1) / (y1*b+y0)≤q∧q≤b+1
structure vW (b u u1 y1 y0:Nat):Prop where
 hb:2≤b
 hy:b≤2*y1
 hy1:y1<b
 hy0:y0<b
 hu1:u1<b
 hu:u<y1*b+y0
section
variable {b u u1 y1 y0 q r:Nat}
theorem vW.start (h:vW b u u1 y1 y0):kZ b u u1 y1 y0 (u / y1) (u - u / y1*y1)∧u - u / y1*y1<b∧u / y1*y1≤u:=by
 obtain ⟨hb,hy,hy1,hy0,hu1,hu⟩:=h
 have h1:u / y1*y1≤u:=Nat.div_mul_le_self u y1
 have h2:u<u / y1*y1+y1:=Nat.lt_div_mul_add (by omega)
 generalize hG:u / y1=G at *
 have h3:G≤b+1:=by
  rcases qB (b+1) G with h | h
  · have h6:(b+2)*y1≤G*y1:=qb _ h
    rw [qZ,zh b] at h6
    omega
  · exact h
 have h4:(u*b+u1) / (y1*b+y0)≤G:=by
  apply Nat.le_of_lt_succ
  apply qP
  have h5:(y1*b+y0)*(G+1)=(G*y1+y1)*b+y0*(G+1):=by
   rw [zl,qZ,jS,zl,jS,qZ,xK,zh y1 G]
   omega
  have h7:(u+1)*b≤(G*y1+y1)*b:=qb _ h2
  rw [qZ,xE] at h7
  show _<_*(G+1)
  rw [h5]
  omega
 unfold kZ
 generalize G*y1=p at *
 exact ⟨⟨by omega,h4,h3⟩,by omega,h1⟩
theorem vW.quo_lt (h:vW b u u1 y1 y0):(u*b+u1) / (y1*b+y0)<b:=by
 obtain ⟨hb,hy,hy1,hy0,hu1,hu⟩:=h
 apply qP
 have h1:(u+1)*b≤(y1*b+y0)*b:=qb _ hu
 rw [qZ,xE] at h1
 omega
theorem kZ.le (h:vW b u u1 y1 y0) (hg:kZ b u u1 y1 y0 q r) (hd:q*y0≤b*r+u1):q=(u*b+u1) / (y1*b+y0):=by
 obtain ⟨h1,h2,h3⟩:=hg
 have hD:0<y1*b+y0:=by have:=Nat.mul_pos (show 0<y1 by have:=h.hy;have:=h.hb;omega) (show 0<b by have:=h.hb;omega);omega
 refine Nat.le_antisymm ((Nat.le_div_iff_mul_le hD).2 ?_) h2
 have e:q*(y1*b+y0)=q*y1*b+q*y0:=by rw [zl,zf]
 have e2:u*b=q*y1*b+b*r:=by rw [←h1,qZ,zh r]
 omega
theorem kZ.gt (h:vW b u u1 y1 y0) (hg:kZ b u u1 y1 y0 q r) (hd:b≤q∨b*r+u1<q*y0):(u*b+u1) / (y1*b+y0)<q:=by
 obtain ⟨h1,h2,h3⟩:=hg
 rcases hd with hd | hd
 · have:=h.quo_lt;omega
 · apply qP
   have e:(y1*b+y0)*q=q*y1*b+q*y0:=by rw [zh,zl,zf]
   have e2:u*b=q*y1*b+b*r:=by rw [←h1,qZ,zh r]
   omega
theorem kZ.step (h:vW b u u1 y1 y0) (hg:kZ b u u1 y1 y0 q r) (hd:b≤q∨b*r+u1<q*y0):kZ b u u1 y1 y0 (q - 1) (r+y1)∧1≤q:=by
 have h4:=hg.gt h hd
 obtain ⟨h1,h2,h3⟩:=hg
 obtain ⟨n,rfl⟩:∃ n,q=n+1:=⟨q - 1,by have:=xD ((u*b+u1) / (y1*b+y0));omega⟩
 refine ⟨⟨?_,by rw [jC];exact Nat.le_of_lt_succ h4,by omega⟩,by omega⟩
 rw [qZ] at h1
 rw [jC]
 omega
theorem kZ.out (h:vW b u u1 y1 y0) (hg:kZ b u u1 y1 y0 q r) (hq:q≤b) (hr:b≤r):q=(u*b+u1) / (y1*b+y0):=by
 refine hg.le h ?_
 have h1:q*y0≤b*b:=Nat.mul_le_mul hq (by have:=h.hy0;omega)
 have h2:b*b≤b*r:=qA _ hr
 omega
theorem kZ.mul_le (hg:kZ b u u1 y1 y0 q r) (hy0:y0<b):q*y0<b*b:=by
 obtain ⟨_,_,h3⟩:=hg
 obtain ⟨n,rfl⟩:∃ n,b=n+1:=⟨b - 1,by omega⟩
 have h1:q*y0≤(n+2)*n:=Nat.mul_le_mul (by omega) (by omega)
 have h2:(n+2)*n=n*n+2*n:=by rw [qZ]
 have h3:(n+1)*(n+1)=n*n+2*n+1:=by simp only [qZ,zl];omega
 omega
end
theorem fJ {N D:Nat} (hD:0<D):N / D*D≤N∧N - N / D*D<D:=by
 have h1:=Nat.div_mul_le_self N D
 have h2:=Nat.lt_div_mul_add (a:=N) hD
 omega
theorem nw {b N D u1 u0:Nat} (hD:0<D) (r q0:Nat) (hr:r=N*b+u1 - (N*b+u1) / D*D) (hq:q0=(r*b+u0) / D) :
 (N*b+u1) / D*b+q0=((N*b+u1)*b+u0) / D∧r*b+u0 - q0*D=((N*b+u1)*b+u0) % D:=by
 have h1:=fJ (N:=N*b+u1) hD
 generalize N*b+u1=M at *
 have e:M=M / D*D+r:=by omega
 have e2:M*b+u0=(M / D*b)*D+(r*b+u0):=by
  have:M*b=(M / D*D+r)*b:=by rw [←e]
  rw [this,qZ,xK,jq]
 have hd:(M*b+u0) / D=M / D*b+(r*b+u0) / D:=by
  rw [e2,kG,Nat.add_mul_div_right _ _ hD,kG]
 have hm:(M*b+u0) % D=(r*b+u0) % D:=by
  rw [e2,kG,vQ]
 rw [hd,hm,hq]
 refine ⟨rfl,?_⟩
 have h5:=vp (r*b+u0) D
 have h6:(r*b+u0) / D*D=D*((r*b+u0) / D):=zh _ _
 omega
theorem oN {y k:Nat} (hy:y≠0) (h:Lib.bitLen y=k) (hlt:y<18446744073709551616):1≤k∧k≤64∧2 ^ (k - 1)≤y∧y<2 ^ k:=by
 have h1:=Lib.bitLenAux_bounds 64 y hlt hy
 have h2:=Lib.bitLen_le y 64 (zG _) hlt
 subst h
 exact ⟨h1.1,h2,h1.2⟩
theorem bm {y:Nat} (hy:y≠0) (hlt:y<18446744073709551616):∃ s,s<64∧Lib.bitLen y=64 - s∧9223372036854775808≤y*2 ^ s∧y*2 ^ s<18446744073709551616:=by
 obtain ⟨h1,h2,h3,h4⟩:=oN hy rfl hlt
 refine ⟨64 - Lib.bitLen y,by omega,by omega,?_,?_⟩
 · have:2 ^ (Lib.bitLen y - 1)*2 ^ (64 - Lib.bitLen y)≤y*2 ^ (64 - Lib.bitLen y):=qb _ h3
   rw [←qM,show Lib.bitLen y - 1+(64 - Lib.bitLen y)=63 by omega] at this
   simpa using this
 · have:y*2 ^ (64 - Lib.bitLen y)<2 ^ Lib.bitLen y*2 ^ (64 - Lib.bitLen y):=Nat.mul_lt_mul_of_pos_right h4 (qN (by omega))
   rw [←qM,show Lib.bitLen y+(64 - Lib.bitLen y)=64 by omega] at this
   simpa using this
theorem moved {hi lo y s:Nat} (hs:s<64) (hlo:lo<18446744073709551616) (h:hi<y) (hy:y*2 ^ s<18446744073709551616) :
 hi*2 ^ s+lo / 2 ^ (64 - s)<y*2 ^ s∧lo / 2 ^ (64 - s)<2 ^ s∧(hi*2 ^ s+lo / 2 ^ (64 - s))*18446744073709551616+lo*2 ^ s % 18446744073709551616=(hi*18446744073709551616+lo)*2 ^ s∧hi*2 ^ s<18446744073709551616:=by
 have e64:(18446744073709551616:Nat)=2 ^ s*2 ^ (64 - s):=by rw [←qM,show s+(64 - s)=64 by omega]
 have h1:lo / 2 ^ (64 - s)<2 ^ s:=by
  apply qP
  rw [zh,←e64];exact hlo
 have h2:(hi+1)*2 ^ s≤y*2 ^ s:=qb _ h
 rw [qZ,xE] at h2
 refine ⟨by omega,h1,?_,by have:=qN (n:=s) (show 0<2 by omega);omega⟩
 have h3:lo*2 ^ s / 18446744073709551616=lo / 2 ^ (64 - s):=by
  rw [e64,zh lo,Nat.mul_div_mul_left _ _ (qN (by omega))]
 have h4:=vp (lo*2 ^ s) 18446744073709551616
 rw [h3] at h4
 rw [qZ,qZ,xK hi]
 omega
end Go.Proofs.YtmlbicgpehchhaaGreat
namespace Go.Proofs.YtmlbicgpehchhaaGreat
open Go.RowKit
theorem fq (i a b:Nat) (h:b<2 ^ i):a*2 ^ i ||| b=a*2 ^ i+b:=by
 rw [zh,Nat.two_pow_add_eq_or_of_lt h]
theorem zAR (x:Nat):x &&& 4294967295=x % 4294967296:=by
 have h:=Nat.and_two_pow_sub_one_eq_mod x 32
 rwa [show 2 ^ 32 - 1=4294967295 by decide,show 2 ^ 32=4294967296 by decide] at h
theorem nA (x:Nat) (hx:x<18446744073709551616):bits .and .u64 (x:Int) 4294967295=((x % 4294967296:Nat):Int):=by
 have h:=bits_and_u64_nat x 4294967295 hx (by omega)
 rw [zAR] at h
 exact h
theorem mh (x:Nat) (hx:x<18446744073709551616):∃ a b:Nat,a<4294967296∧b<4294967296∧a*4294967296+b=x∧(x:Int) / 4294967296=(a:Int)∧bits .and .u64 (x:Int) 4294967295=(b:Int):=by
 have h:=vp x 4294967296
 have h2:=qS x (show 0<4294967296 by omega)
 have h3:=nA x hx
 have h4:(x:Int) / 4294967296=((x / 4294967296:Nat):Int):=by omega
 generalize x / 4294967296=a at *
 generalize x % 4294967296=b at *
 exact ⟨a,b,by omega,h2,by omega,h4,h3⟩
theorem join4 (a b c d:Nat) (h:b*4294967296+c=d):(a*4294967296+b)*4294967296+c=a*18446744073709551616+d:=by
 rw [←h,qZ,zf,jq]
theorem di (a b r k l:Nat) (h:b+r=a) (hr:r<18446744073709551616):IntKind.u64.wrap (((a - 18446744073709551616*k:Int)) - ((b:Int) - 18446744073709551616*l))=(r:Int):=by
 simp [IntKind.wrap,IntKind.bits,IntKind.signed]
 omega
theorem pQ {a b c d:Int} (h:a=b) (h':c=d):Ending.returned (.tuple #[.int .u64 a,.int .u64 c])=.returned (.tuple #[.int .u64 b,.int .u64 d]):=by rw [h,h']
theorem mr (lo y:Nat) (w:World) (hlo:lo<18446744073709551616) (hy:0<y) (hy':y<18446744073709551616) :
 Calls Tryz.prog 191 #[.int .u64 0,.int .u64 (lo:Int),.int .u64 (y:Int)] w fun e w'=>e=.returned (.tuple #[.int .u64 ((lo / y:Nat):Int),.int .u64 ((lo % y:Nat):Int)])∧∃ n,w'=w.drewN n:=by
 have h0:((y:Int)==0)=false:=eqB (by omega)
 have h1:(0:Int)<(y:Int):=by omega
 have hq:IntKind.u64.wrap ((lo:Int) / (y:Int))=((lo / y:Nat):Int):=by
  have h:lo / y≤lo:=Nat.div_le_self lo y
  rw [←Int.natCast_ediv]
  generalize lo / y=z at *
  exact qg _ (by omega)
 go_enter Tryz.func191,Tryz.ntmps191
 go_wp2
 go_quiet (fail)
 go_wp2
 go_ret2
 exact ⟨pQ (by simp) (by simp),_,rfl⟩
theorem og (hi lo y:Nat) (w:World) (hlo:lo<18446744073709551616) (h0:0<hi) (hhi:hi<y) (hy':y<18446744073709551616) :
 Calls Tryz.prog 191 #[.int .u64 (hi:Int),.int .u64 (lo:Int),.int .u64 (y:Int)] w fun e w'=>e=.returned (.tuple #[.int .u64 (((hi*18446744073709551616+lo) / y:Nat):Int),.int .u64 (((hi*18446744073709551616+lo) % y:Nat):Int)])∧∃ n,w'=w.drewN n:=by
 have n0:((y:Int)==0)=false:=eqB (by omega)
 have n1:((hi:Int)==0)=false:=eqB (by omega)
 have n2:¬ (y:Int)≤(hi:Int):=by omega
 obtain ⟨s,hs,hbl,hY1,hY2⟩:=bm (y:=y) (by omega) hy'
 have hlz:=(Tryz.bits_LeadingZeros64 (y:Int) w (by omega) (by omega))
 rw [ku,hbl,show (64 - ((64 - s:Nat):Int))=(s:Int) by omega] at hlz
 have Hlz:=zF hlz
 clear hlz hbl
 obtain ⟨m1,m2,m3,m4⟩:=moved hs hlo hhi hY2
 obtain ⟨H,hH⟩:=eV (hi*2 ^ s)
 obtain ⟨L1,hL1⟩:=eV (lo / 2 ^ (64 - s))
 obtain ⟨Y,hY⟩:=eV (y*2 ^ s)
 obtain ⟨L,hL⟩:=eV (lo*2 ^ s % 18446744073709551616)
 have hor:H ||| L1=H+L1:=by rw [←hH];exact fq s hi L1 (by rw [←hL1];exact m2)
 have f1:IntKind.u64.wrap ((y:Int)*2 ^ s)=(Y:Int):=by
  rw [show ((y:Int)*2 ^ s)=(Y:Int) by rw [←hY];simp]
  exact qg _ (by omega)
 have f4:IntKind.u64.wrap ((hi:Int)*2 ^ s)=(H:Int):=by
  rw [show ((hi:Int)*2 ^ s)=(H:Int) by rw [←hH];simp]
  exact qg _ (by omega)
 have f5:(lo:Int) / 2 ^ (64 - s)=(L1:Int):=by rw [←hL1];simp
 have f7:IntKind.u64.wrap ((lo:Int)*2 ^ s)=(L:Int):=by
  rw [←hL]
  simp [IntKind.wrap,IntKind.bits,IntKind.signed]
 have k1:(s:Int)<64:=by omega
 rw [hH] at m1 m3 m4
 rw [hL1] at m1 m2 m3
 rw [hY] at m1 hY1 hY2
 rw [hL] at m3
 have hLlt:L<18446744073709551616:=by rw [←hL];exact qS _ (by omega)
 obtain ⟨U,hU⟩:=eV (H+L1)
 rw [hU] at m1 m3 hor
 have f6:bits .or .u64 (H:Int) (L1:Int)=(U:Int):=by
  rw [bits_or_u64_nat H L1 (by omega) (by omega),hor]
 obtain ⟨y1,y0,hy1,hy0,hyy,f2,f3⟩:∃ y1 y0:Nat,y1<4294967296∧y0<4294967296∧y1*4294967296+y0=Y∧(Y:Int) / 4294967296=(y1:Int)∧bits .and .u64 (Y:Int) 4294967295=(y0:Int)  := mh Y hY2
 obtain ⟨u1,u0,hu1,hu0,huu,f8,f9⟩:∃ u1 u0:Nat,u1<4294967296∧u0<4294967296∧u1*4294967296+u0=L∧(L:Int) / 4294967296=(u1:Int)∧bits .and .u64 (L:Int) 4294967295=(u0:Int)  := mh L hLlt
 have G:vW 4294967296 U u1 y1 y0:=⟨by omega,by omega,hy1,hy0,hu1,by omega⟩
 obtain ⟨hg,hr,hp⟩:=G.start
 obtain ⟨q,hq⟩:=eV (U / y1)
 rw [hq] at hg hr hp
 obtain ⟨p,hp'⟩:=eV (q*y1)
 rw [hp'] at hg hr hp
 obtain ⟨r,hr'⟩:=eV (U - p)
 rw [hr'] at hg hr
 have hqU:q≤U:=by rw [←hq];exact Nat.div_le_self U y1
 have f10:IntKind.u64.wrap ((U:Int) / (y1:Int))=(q:Int):=by rw [←Int.natCast_ediv,hq];exact qg _ (by omega)
 have f10':IntKind.u64.wrap ((U:Int).tdiv (y1:Int))=(q:Int):=by rw [je (by omega)];exact f10
 have f11:IntKind.u64.wrap ((q:Int)*(y1:Int))=(p:Int):=by rw [←vq,hp'];exact qg _ (by omega)
 have f12:(U:Int) - (p:Int)=(r:Int):=by omega
 have n3:((y1:Int)==0)=false:=eqB (by omega)
 have n4:¬ y1=0:=by omega
 have HY:=zF hY
 clear hH hL1 hY hL hor hU hq hp' hr' hp
 go_enter Tryz.func191,Tryz.ntmps191
 go_wp2_with fail
 refine Hlz.out.mono ?_
 rintro e w1 ⟨rfl,rfl⟩
 go_upto_block 0 with fail
 go_cut [15,16] (fun s15 s16 wx=>∃ Q r':Nat,s15=.int .u64 (Q:Int)∧s16=.int .u64 (r':Int)∧Hid (Q=(U*4294967296+u1) / (y1*4294967296+y0))∧w1=wx)
 case first =>
  go_wp2_with fail
  go_loop [15,16] (fun qv rv=>∃ q r:Nat,qv=.int .u64 (q:Int)∧rv=.int .u64 (r:Int)∧kZ 4294967296 U u1 y1 y0 q r∧r<4294967296) (fun qv _=>(intOf qv).toNat)
  case atStart=>exact ⟨q,r,rfl,rfl,hg,hr⟩
  case round =>
   clear hg hr
   obtain ⟨q,r,rfl,rfl,hg,hr⟩:=hrel
   have hml:=hg.mul_le hy0
   obtain ⟨z,hz⟩:=eV (q*y0)
   rw [hz] at hml
   have hqb:=hg.2.2
   by_cases h1:4294967296≤q∨4294967296*r+u1<q*y0
   · obtain ⟨hg',hq1⟩:=hg.step G h1
     obtain ⟨n,rfl⟩:∃ n,q=n+1:=⟨q - 1,by omega⟩
     rw [jC] at hg'
     have g1:IntKind.u64.wrap (((n:Int)+1)*(y0:Int))=(z:Int):=by
      rw [show ((n:Int)+1)*(y0:Int)=(z:Int) by rw [←hz];simp]
      exact qg _ (by omega)
     rw [hz] at h1
     have hout:=fun h=>hg'.out G (by omega) h
     have Hout:=zF hout
     clear hout hg hz hml
     by_cases h3:4294967296≤r+y1
     · have hQ:=zF (Hout.out h3)
       by_cases h4:4294967296≤n+1
       · have i4:(4294967296:Int)≤(n:Int)+1:=by omega
         have i3:(4294967296:Int)≤(r:Int)+(y1:Int):=by omega
         clear h1 h3 h4
         go_wp2
         go_meet
         case rel=>exact ⟨n,_,by go_num,rfl,hQ,rfl⟩
       · have i5:(4294967296:Int)*(r:Int)+(u1:Int)<(z:Int):=by omega
         have i4:¬ (4294967296:Int)≤(n:Int)+1:=by omega
         have i3:(4294967296:Int)≤(r:Int)+(y1:Int):=by omega
         clear h1 h3 h4
         go_wp2
         go_meet
         case rel=>exact ⟨n,_,by go_num,rfl,hQ,rfl⟩
     · by_cases h4:4294967296≤n+1
       · have i4:(4294967296:Int)≤(n:Int)+1:=by omega
         have i3:¬ (4294967296:Int)≤(r:Int)+(y1:Int):=by omega
         have H3:=zF h3
         clear h1 h3 h4
         go_wp2
         go_round
         case rel=>exact ⟨n,r+y1,by go_num,by go_num,hg',by have:=H3.out;omega⟩
         case measure=>simp [intOf]
       · have i5:(4294967296:Int)*(r:Int)+(u1:Int)<(z:Int):=by omega
         have i4:¬ (4294967296:Int)≤(n:Int)+1:=by omega
         have i3:¬ (4294967296:Int)≤(r:Int)+(y1:Int):=by omega
         have H3:=zF h3
         clear h1 h3 h4
         go_wp2
         go_round
         case rel=>exact ⟨n,r+y1,by go_num,by go_num,hg',by have:=H3.out;omega⟩
         case measure=>simp [intOf]
   · have hQ:=zF (hg.le G (by omega))
     have g1:IntKind.u64.wrap ((q:Int)*(y0:Int))=(z:Int):=by
      rw [show (q:Int)*(y0:Int)=(z:Int) by rw [←hz];simp]
      exact qg _ (by omega)
     have i4:¬ (4294967296:Int)≤(q:Int):=by omega
     have i5:¬ (4294967296:Int)*(r:Int)+(u1:Int)<(z:Int):=by omega
     clear h1 hg hz hml
     go_wp2
     go_meet
     case rel=>exact ⟨q,_,rfl,rfl,hQ,rfl⟩
 case rest =>
  clear hg hr hqU f10 f10' f11 f12
  obtain ⟨Q,r',rfl,rfl,HQ,rfl⟩:=hcut
  have hQ:=HQ.out
  rw [hyy] at hQ
  have hQb:=G.quo_lt
  rw [hyy,←hQ] at hQb
  have hYpos:0<Y:=by omega
  have hrest:=fJ (N:=U*4294967296+u1) hYpos
  rw [←hQ] at hrest
  obtain ⟨p3,hp3⟩:=eV (Q*Y)
  rw [hp3] at hrest
  obtain ⟨R,hR⟩:=eV (U*4294967296+u1 - p3)
  rw [hR] at hrest
  obtain ⟨hr1,hr2⟩:=hrest
  obtain ⟨a1,k1',ha1,ha1b,ha1e⟩:∃ a1 k1:Nat,IntKind.u64.wrap ((U:Int)*4294967296)=(a1:Int)∧(a1:Int)≤18446744069414584320∧(a1:Int)=(U:Int)*4294967296 - 18446744073709551616*k1:=by
   refine ⟨U*4294967296 % 18446744073709551616,U / 4294967296,?_,by omega,by omega⟩
   simp [IntKind.wrap,IntKind.bits,IntKind.signed]
  obtain ⟨a3,k3,ha3,ha3e⟩:∃ a3 k3:Nat,IntKind.u64.wrap ((Q:Int)*(Y:Int))=(a3:Int)∧(a3:Int)=(p3:Int) - 18446744073709551616*k3:=by
   rw [show (Q:Int)*(Y:Int)=(p3:Int) by rw [←hp3];simp]
   exact ⟨p3 % 18446744073709551616,p3 / 18446744073709551616,by simp [IntKind.wrap,IntKind.bits,IntKind.signed],by omega⟩
  have hd:IntKind.u64.wrap ((a1:Int)+(u1:Int) - (a3:Int))=(R:Int):=by
   have:=di (U*4294967296+u1) p3 R k1' k3 (by omega) (by omega)
   rw [ha3e,ha1e,←this]
   congr 1
   simp
   omega
  have G2:vW 4294967296 R u0 y1 y0:=⟨by omega,by omega,hy1,hy0,hu0,by omega⟩
  obtain ⟨hg,hr,hp⟩:=G2.start
  obtain ⟨qq,hq⟩:=eV (R / y1)
  rw [hq] at hg hr hp
  obtain ⟨pp,hp'⟩:=eV (qq*y1)
  rw [hp'] at hg hr hp
  obtain ⟨rr,hr'⟩:=eV (R - pp)
  rw [hr'] at hg hr
  have hqU:qq≤R:=by rw [←hq];exact Nat.div_le_self R y1
  have f10:IntKind.u64.wrap ((R:Int) / (y1:Int))=(qq:Int):=by rw [←Int.natCast_ediv,hq];exact qg _ (by omega)
  have f10':IntKind.u64.wrap ((R:Int).tdiv (y1:Int))=(qq:Int):=by rw [je (by omega)];exact f10
  have f11:IntKind.u64.wrap ((qq:Int)*(y1:Int))=(pp:Int):=by rw [←vq,hp'];exact qg _ (by omega)
  have f12:(R:Int) - (pp:Int)=(rr:Int):=by omega
  have hts:=nw (b:=4294967296) (N:=U) (u1:=u1) (u0:=u0) hYpos R _ (by rw [←hQ,hp3];exact hR.symm) rfl
  rw [←hQ] at hts
  have Hts:=zF hts
  have Hp3:=zF hp3
  have HR:=zF hR
  clear hts hQ hp3 hR ha1e ha3e hq hp' hr' hp hr1
  go_upto_block 2 with fail
  go_cut [18,16] (fun s18 s16 wx=>∃ Q r':Nat,s18=.int .u64 (Q:Int)∧s16=.int .u64 (r':Int)∧Hid (Q=(R*4294967296+u0) / (y1*4294967296+y0))∧w1=wx)
  case first =>
   go_wp2_with fail
   go_loop [18,16] (fun qv rv=>∃ q r:Nat,qv=.int .u64 (q:Int)∧rv=.int .u64 (r:Int)∧kZ 4294967296 R u0 y1 y0 q r∧r<4294967296) (fun qv _=>(intOf qv).toNat)
   case atStart=>exact ⟨qq,rr,rfl,rfl,hg,hr⟩
   case round =>
    clear hg hr
    obtain ⟨q,r,rfl,rfl,hg,hr⟩:=hrel
    have hml:=hg.mul_le hy0
    obtain ⟨z,hz⟩:=eV (q*y0)
    rw [hz] at hml
    have hqb:=hg.2.2
    by_cases h1:4294967296≤q∨4294967296*r+u0<q*y0
    · obtain ⟨hg',hq1⟩:=hg.step G2 h1
      obtain ⟨n,rfl⟩:∃ n,q=n+1:=⟨q - 1,by omega⟩
      rw [jC] at hg'
      have g1:IntKind.u64.wrap (((n:Int)+1)*(y0:Int))=(z:Int):=by
       rw [show ((n:Int)+1)*(y0:Int)=(z:Int) by rw [←hz];simp]
       exact qg _ (by omega)
      rw [hz] at h1
      have hout:=fun h=>hg'.out G2 (by omega) h
      have Hout:=zF hout
      clear hout hg hz hml
      by_cases h3:4294967296≤r+y1
      · have hQ:=zF (Hout.out h3)
        by_cases h4:4294967296≤n+1
        · have i4:(4294967296:Int)≤(n:Int)+1:=by omega
          have i3:(4294967296:Int)≤(r:Int)+(y1:Int):=by omega
          clear h1 h3 h4
          go_wp2
          go_meet
          case rel=>exact ⟨n,_,by go_num,rfl,hQ,rfl⟩
        · have i5:(4294967296:Int)*(r:Int)+(u0:Int)<(z:Int):=by omega
          have i4:¬ (4294967296:Int)≤(n:Int)+1:=by omega
          have i3:(4294967296:Int)≤(r:Int)+(y1:Int):=by omega
          clear h1 h3 h4
          go_wp2
          go_meet
          case rel=>exact ⟨n,_,by go_num,rfl,hQ,rfl⟩
      · by_cases h4:4294967296≤n+1
        · have i4:(4294967296:Int)≤(n:Int)+1:=by omega
          have i3:¬ (4294967296:Int)≤(r:Int)+(y1:Int):=by omega
          have H3:=zF h3
          clear h1 h3 h4
          go_wp2
          go_round
          case rel=>exact ⟨n,r+y1,by go_num,by go_num,hg',by have:=H3.out;omega⟩
          case measure=>simp [intOf]
        · have i5:(4294967296:Int)*(r:Int)+(u0:Int)<(z:Int):=by omega
          have i4:¬ (4294967296:Int)≤(n:Int)+1:=by omega
          have i3:¬ (4294967296:Int)≤(r:Int)+(y1:Int):=by omega
          have H3:=zF h3
          clear h1 h3 h4
          go_wp2
          go_round
          case rel=>exact ⟨n,r+y1,by go_num,by go_num,hg',by have:=H3.out;omega⟩
          case measure=>simp [intOf]
    · have hQ:=zF (hg.le G2 (by omega))
      have g1:IntKind.u64.wrap ((q:Int)*(y0:Int))=(z:Int):=by
       rw [show (q:Int)*(y0:Int)=(z:Int) by rw [←hz];simp]
       exact qg _ (by omega)
      have i4:¬ (4294967296:Int)≤(q:Int):=by omega
      have i5:¬ (4294967296:Int)*(r:Int)+(u0:Int)<(z:Int):=by omega
      clear h1 hg hz hml
      go_wp2
      go_meet
      case rel=>exact ⟨q,_,rfl,rfl,hQ,rfl⟩
  case rest =>
   clear hg hr hqU f10 f10' f11 f12
   obtain ⟨Q0,r2,rfl,rfl,HQ0,rfl⟩:=hcut
   have hQ0:=HQ0.out
   rw [hyy] at hQ0
   have hQ0b:=G2.quo_lt
   rw [hyy,←hQ0] at hQ0b
   obtain ⟨e1,e2⟩:=Hts.out
   rw [←hQ0] at e1 e2
   have hrest2:=fJ (N:=R*4294967296+u0) hYpos
   rw [←hQ0] at hrest2
   have hM0:(U*4294967296+u1)*4294967296+u0=U*18446744073709551616+L:=join4 U u1 u0 L huu
   have hM:=hM0.trans m3
   rw [hM] at e1 e2
   have hYs:=HY.out
   rw [←hYs,Nat.mul_div_mul_right _ _ (qN (by omega))] at e1
   rw [←hYs,Nat.mul_mod_mul_right] at e2
   rw [hYs] at e2
   obtain ⟨p4,hp4⟩:=eV (Q0*Y)
   rw [hp4] at hrest2 e2
   obtain ⟨T,hT⟩:=eV ((hi*18446744073709551616+lo) % y)
   obtain ⟨V,hV⟩:=eV ((hi*18446744073709551616+lo) / y)
   rw [hT] at e2
   rw [hV] at e1
   obtain ⟨S,hS⟩:=eV (T*2 ^ s)
   rw [hS] at e2
   have hS2:(S:Int) / 2 ^ s=(T:Int):=by
    rw [←hS]
    have:T*2 ^ s / 2 ^ s=T:=Nat.mul_div_cancel _ (qN (by omega))
    rw [show ((2:Int) ^ s)=((2 ^ s:Nat):Int) by simp,←Int.natCast_ediv,this]
   obtain ⟨b1,k5,hb1,hb1b,hb1e⟩:∃ a1 k1:Nat,IntKind.u64.wrap ((R:Int)*4294967296)=(a1:Int)∧(a1:Int)≤18446744069414584320∧(a1:Int)=(R:Int)*4294967296 - 18446744073709551616*k1:=by
    refine ⟨R*4294967296 % 18446744073709551616,R / 4294967296,?_,by omega,by omega⟩
    simp [IntKind.wrap,IntKind.bits,IntKind.signed]
   obtain ⟨b3,k6,hb3,hb3e⟩:∃ a3 k3:Nat,IntKind.u64.wrap ((Q0:Int)*(Y:Int))=(a3:Int)∧(a3:Int)=(p4:Int) - 18446744073709551616*k3:=by
    rw [show (Q0:Int)*(Y:Int)=(p4:Int) by rw [←hp4];simp]
    exact ⟨p4 % 18446744073709551616,p4 / 18446744073709551616,by simp [IntKind.wrap,IntKind.bits,IntKind.signed],by omega⟩
   have hd2:IntKind.u64.wrap ((b1:Int)+(u0:Int) - (b3:Int))=(S:Int):=by
    have:=di (R*4294967296+u0) p4 S k5 k6 (by omega) (by omega)
    rw [hb3e,hb1e,←this]
    congr 1
    simp
    omega
   have He1:=zF e1
   have HT:=zF hT
   have HV:=zF hV
   clear e1 e2 hQ0 hp4 hS hT hV hb1e hb3e hrest2 hM hM0 hYs
   go_wp2
   go_ret2
   exact ⟨pQ (by rw [HV.out,←He1.out];simp) (by rw [HT.out]),0,rfl⟩
theorem cX (hi lo y:Nat) (w:World) (hlo:lo<18446744073709551616) (hhi:hi<y) (hy':y<18446744073709551616) (q r:Nat) (hr:r<y) (he:hi*18446744073709551616+lo=y*q+r) :
 Calls Tryz.prog 191 #[.int .u64 (hi:Int),.int .u64 (lo:Int),.int .u64 (y:Int)] w fun e w'=>e=.returned (.tuple #[.int .u64 (q:Int),.int .u64 (r:Int)])∧∃ n,w'=w.drewN n:=by
 have e1:(hi*18446744073709551616+lo) / y=q:=by rw [he,Nat.mul_add_div (by omega),qj hr];omega
 have e2:(hi*18446744073709551616+lo) % y=r:=by rw [he,Nat.mul_add_mod,qJ hr]
 rcases zo hi with rfl | h0
 · rw [Nat.zero_mul,kE] at e1 e2
   have h:=mr lo y w hlo (by omega) hy'
   rw [e1,e2] at h
   exact h
 · have h:=og hi lo y w hlo h0 hhi hy'
   rw [e1,e2] at h
   exact h
def vI (k:Nat) (i:Int):Prop:=(k=0∧i=-1)∨∃ j:Nat,k=j+1∧i=(j:Int)
theorem vI.start (n:Nat):vI n ((n:Int) - 1):=by
 rcases n with _ | n
 · exact .inl ⟨rfl,by simp⟩
 · exact .inr ⟨n,rfl,by omega⟩
def wP (B:Nat) (l o:List Nat) (d k r:Nat):Prop:=o.length=l.length∧val B (l.drop k)=d*val B (o.drop k)+r
theorem wP.start {B:Nat} {l o:List Nat} (d:Nat) (h:o.length=l.length):wP B l o d l.length 0:=by
 refine ⟨h,?_⟩
 rw [List.drop_length,←h,List.drop_length]
 simp
theorem na {l:List Nat} {k:Nat} (h:k<l.length):l.drop k=dg l k :: l.drop (k+1):=by
 rw [qQ h,dg,q9 h]
theorem drop_set {l:List Nat} {k x:Nat} (h:k<l.length):(l.set k x).drop k=x :: l.drop (k+1):=by
 rw [List.drop_set,zr (Nat.lt_irrefl _),na h,Nat.sub_self,vR]
theorem wP.step {B:Nat} {l o:List Nat} {d k r q r':Nat} (h:wP B l o d (k+1) r) (hk:k<l.length) (he:r*B+dg l k=d*q+r'):wP B l (o.set k q) d k r':=by
 obtain ⟨h1,h2⟩:=h
 refine ⟨by simpa using h1,?_⟩
 rw [na hk,drop_set (by omega),jZ,jZ,h2]
 have e:B*(d*val B (o.drop (k+1))+r)=d*(B*val B (o.drop (k+1)))+r*B:=by
  rw [zl,jB,zh B r]
 rw [e,zl]
 omega
theorem wP.fin {B:Nat} {l o:List Nat} {d r:Nat} (h:wP B l o d 0 r) (hr:r<d):val B o=val B l / d∧r=val B l % d:=by
 have:=h.2
 simp only [List.drop_zero] at this
 rw [this]
 refine ⟨?_,?_⟩
 · rw [Nat.mul_add_div (by omega),qj hr,qt]
 · rw [Nat.mul_add_mod,qJ hr]
theorem n7 (P:Nat→Prop) (A:Option Addr) (c:Nat) (l:List Nat) (d:Nat) (w:World) (h:RN w P A c l) (hP:∀ b,P b→b<w.heap.size) (hl:l.length<100000) (hd:0<d) (hd':d<18446744073709551616) :
 Calls Tryz.prog 159 #[.slice A l.length c,.int .u64 (d:Int)] w fun e w'=>∃ A1 c1,e=.returned (.tuple #[.slice A1 (digs 18446744073709551616 (val 18446744073709551616 l / d)).length c1,.int .u64 ((val 18446744073709551616 l % d:Nat):Int)]) ∧
  OB w' w.heap.size A1 c1 (digs 18446744073709551616 (val 18446744073709551616 l / d))∧Below w.heap.size w w':=by
 obtain ⟨h1,h2,h3⟩:=h.cap
 have hmk:=jJ (P:=Tryz.prog) 23 69 (.int .u64 0) 8 Tryz.underlying23 j9 rfl .i64 .i64 l.length (by omega) (by omega)
 have Hs:=zF (vI.start l.length)
 go_enter Tryz.func159,Tryz.ntmps159
 go_wp2
 go_loopw [7,8] (fun rv iv wr=>∃ (k r:Nat) (z:Int) (o:List Nat),iv=.int .i64 z∧vI k z∧rv=.int .u64 (r:Int)∧k≤l.length∧r<d∧wP 18446744073709551616 l o d k r∧Lim o∧Blk wr w.heap.size o∧Below w.heap.size w wr) (fun _ iv _=>(intOf iv+1).toNat)
 case atStart=>exact ⟨l.length,0,_,List.replicate l.length 0,rfl,Hs.out,rfl,by omega,by omega,wP.start d (by simp),⟨by simp,by simp;omega⟩,vT w _,(zQ _ w).alloc (zG _) _⟩
 case round =>
  obtain ⟨k,r,z,o,rfl,hz,rfl,hk,hr,hS,hLo,hblk,hB⟩:=hrel
  rcases hz with ⟨rfl,rfl⟩ | ⟨j,rfl,rfl⟩
  · obtain ⟨hv,hrem⟩:=hS.fin hr
    have hOB:OB wr w.heap.size (some ⟨w.heap.size,0,none⟩) l.length o:=kj hblk (zG _) hLo (by have:=hS.1;omega) (by unfold maxLen;omega)
    have ht:=jN _ _ _ _ _ hOB.rn
    have hOB':=hOB.trim
    rw [hv,hS.1] at ht
    rw [hv] at hOB'
    have Ht:=zF ht
    have Hrem:=zF hrem
    clear hblk hLo ht hv hrem hOB hS
    go_wp2_with fail
    refine Ht.out.mono ?_
    rintro e w1 ⟨rfl,rfl⟩
    go_wp2
    go_ret2
    exact ⟨_,_,by rw [Hrem.out];rfl,hOB',hB⟩
  · obtain ⟨ad,rfl,had,q1⟩:=(h.below hB hP).at_ (i:=j) (by omega)
    have hol:=hS.1
    have hlj:=h.2.dgLt j
    have q3:=hblk.cell (i:=j) (by omega)
    have q4:=hblk.free j
    obtain ⟨q,r',hr',he,hq⟩:∃ q r':Nat,r'<d∧r*18446744073709551616+dg l j=d*q+r'∧q<18446744073709551616:=by
     refine ⟨(r*18446744073709551616+dg l j) / d,(r*18446744073709551616+dg l j) % d,qS _ hd,(vp _ d).symm,?_⟩
     apply qP
     have:(r+1)*18446744073709551616≤d*18446744073709551616:=qb _ hr
     omega
    have hdv:=zF (fun w=>cX r (dg l j) d w hlj hr hd' q r' hr' he)
    have hS':=hS.step (by omega) he
    have hblk':=hblk.set j q
    have hLo':=hLo.set j q hq
    have hB':=hB.setCell (p:=⟨w.heap.size,j,none⟩) (zG _) (.int .u64 (q:Int))
    have k1:(j:Int)<(l.length:Int):=by omega
    have Hs':=zF (vI.start j)
    clear he hS hblk hLo hB hol
    go_wp2_with fail
    refine (hdv.out _).mono ?_
    rintro e w1 ⟨rfl,n,rfl⟩
    go_wp2
    go_roundw
    case rel=>exact ⟨j,r',_,o.set j q,rfl,Hs'.out,rfl,by omega,hr',hS',hLo',hblk',qT hB' _⟩
    case measure=>simp [intOf]
theorem fD {d:Nat} (h0:0<d) (h:d<18446744073709551616):digs 18446744073709551616 d=[d]:=by
 rw [jP (by omega) h0,qJ h,qj h,qY]
theorem quo_lt (P P':Nat→Prop) (A A':Option Addr) (c c':Nat) (a b:List Nat) (w:World) (h:RN w P A c a) (h':RN w P' A' c' b) (hlt:val 18446744073709551616 a<val 18446744073709551616 b) :
 Calls Tryz.prog 124 #[.slice A a.length c,.slice A' b.length c'] w fun e w'=>∃ A1 c1,e=.returned (.tuple #[.slice none 0 0,.slice A1 (digs 18446744073709551616 (val 18446744073709551616 a)).length c1,.bool true]) ∧
  OB w' w.heap.size A1 c1 (digs 18446744073709551616 (val 18446744073709551616 a))∧Below w.heap.size w w':=by
 have ta:=zF (jN P A c a w h)
 have tb:=zF (jN P' A' c' b w h')
 have tc:=wj P P' A A' c c' _ _ w h.trim h'.trim
 have tm:=fun n=>gK P A c _ (World.drewN w n) (h.trim.drewN n)
 rw [z7 (by omega),z7 (by omega),vV hlt] at tc
 rw [z7 (by omega)] at tm
 have Tc:=zF tc
 have Tm:=zF tm
 have hne:0<(digs 18446744073709551616 (val 18446744073709551616 b)).length:=by
  rw [jP (by omega) (by omega)];simp
 clear tc tm h h' hlt
 generalize digs 18446744073709551616 (val 18446744073709551616 a)=l at *
 generalize digs 18446744073709551616 (val 18446744073709551616 b)=m at *
 have hne':((m.length:Int)==0)=false:=eqB (by omega)
 clear hne
 go_enter Tryz.func124,Tryz.ntmps124
 go_wp2_with fail
 refine ta.out.mono ?_
 rintro e w1 ⟨rfl,rfl⟩
 go_wp2_with fail
 refine tb.out.mono ?_
 rintro e w1 ⟨rfl,rfl⟩
 go_wp2_with fail
 refine Tc.out.mono ?_
 rintro e w1 ⟨rfl,n,rfl⟩
 go_wp2_with fail
 refine (Tm.out n).mono ?_
 rintro e w1 ⟨A1,c1,rfl,hO,hB⟩
 go_wp2
 go_ret3
 exact ⟨A1,c1,rfl,hO,⟨hB.os,hB.tape,hB.output,hB.size,hB.block⟩⟩
theorem sW (P P':Nat→Prop) (A A':Option Addr) (c c':Nat) (a b:List Nat) (w:World) (h:RN w P A c a) (h':RN w P' A' c' b) (hP:∀ b,P b→b<w.heap.size) (hl:a.length<100000) (hge:val 18446744073709551616 b≤val 18446744073709551616 a)
 (h0:0<val 18446744073709551616 b) (h1:val 18446744073709551616 b<18446744073709551616) :
 Calls Tryz.prog 124 #[.slice A a.length c,.slice A' b.length c'] w fun e w'=>∃ A1 c1 A2 c2,e=.returned (.tuple #[.slice A1 (digs 18446744073709551616 (val 18446744073709551616 a / val 18446744073709551616 b)).length c1,.slice A2 (digs 18446744073709551616 (val 18446744073709551616 a % val 18446744073709551616 b)).length c2,.bool true]) ∧
  OB w' w.heap.size A1 c1 (digs 18446744073709551616 (val 18446744073709551616 a / val 18446744073709551616 b))∧OB w' w.heap.size A2 c2 (digs 18446744073709551616 (val 18446744073709551616 a % val 18446744073709551616 b))∧Below w.heap.size w w':=by
 have ta:=zF (jN P A c a w h)
 have tb:=zF (jN P' A' c' b w h')
 have tc:=wj P P' A A' c c' _ _ w h.trim h'.trim
 have la:=jQ (B:=18446744073709551616) (by omega) h.2.1
 have ts:=fun n=>n7 P A c _ (val 18446744073709551616 b) (World.drewN w n) (h.trim.drewN n) hP (by omega) h0 h1
 rw [z7 (by omega),z7 (by omega)] at tc
 rw [z7 (by omega)] at ts
 replace h:=h.trim
 replace h':=h'.trim
 generalize val 18446744073709551616 a=x at *
 generalize val 18446744073709551616 b=y at *
 have hcv:0≤kh x y:=by rcases kR x y with h | h | h <;> omega
 generalize kh x y=v at tc hcv
 have hof:=zF (fun w=>ge (x % y) w (by have:=qS x h0;omega))
 have hm1:=fD h0 h1
 rw [hm1] at tb tc h'
 have Tc:=zF tc
 have Ts:=zF ts
 obtain ⟨ae,rfl,hae,q1⟩:=h'.at_ (i:=0) (by simp)
 rw [xP] at q1
 clear tc ts hm1 hge la hl
 obtain ⟨g1,g2,g3⟩:=h.cap
 generalize digs 18446744073709551616 x=l at *
 clear h h' h0 h1
 have q2:Hid (w.cell? ae=some (.int .u64 (y:Int))):=zF (by simpa [Addr.add] using q1)
 clear q1
 go_enter Tryz.func124,Tryz.ntmps124
 go_wp2_with fail
 refine ta.out.mono ?_
 rintro e w1 ⟨rfl,rfl⟩
 go_wp2_with fail
 refine tb.out.mono ?_
 rintro e w1 ⟨rfl,rfl⟩
 go_wp2_with fail
 refine Tc.out.mono ?_
 rintro e w1 ⟨rfl,n,rfl⟩
 have q3:=q2.out
 clear hP g1 g2 g3
 go_wp2_with fail
 refine (Ts.out n).mono ?_
 rintro e w1 ⟨A1,c1,rfl,hO,hB⟩
 go_wp2_with fail
 refine (hof.out _).mono ?_
 rintro e w2 ⟨A2,c2,rfl,hO2,hB2⟩
 go_wp2
 go_ret3
 exact ⟨A1,c1,A2,c2,rfl,hO.below hB2 (zG _),hO2.mono hB.size,kU ⟨hB.os,hB.tape,hB.output,hB.size,hB.block⟩ (hB2.mono hB.size)⟩
end Go.Proofs.YtmlbicgpehchhaaGreat
namespace Go.Proofs.YtmlbicgpehchhaaGreat
theorem wS:type_of% @vI.start:=@vI.start
def qa (x:Nat):Nat:=if x=0 then 0 else x.log2+1
theorem uq:qa 0=0:=rfl
theorem aP {x k:Nat} (h1:2 ^ k≤x) (h2:x<2 ^ (k+1)):qa x=k+1:=by
 have hx:x≠0:=by have:=qN (n:=k) (show 0<2 by omega);omega
 have h3:k≤x.log2:=(Nat.le_log2 hx).2 h1
 have h4:x.log2<k+1:=(Nat.log2_lt hx).2 h2
 simp [qa,hx]
 omega
theorem wL {x:Nat} (hx:x≠0):2 ^ (qa x - 1)≤x∧x<2 ^ qa x∧1≤qa x:=by
 simp only [qa,hx,if_false,jC]
 exact ⟨Nat.log2_self_le hx,Nat.lt_log2_self,by omega⟩
theorem ww {x k:Nat} (h:x<2 ^ k):qa x≤k:=by
 rcases zo x with rfl | h0
 · simp [qa]
 · obtain ⟨h1,h2,h3⟩:=wL (Nat.pos_iff_ne_zero.1 h0)
   rcases qB k (qa x) with h4 | h4
   · have:2 ^ k≤2 ^ (qa x - 1):=zy (by omega) (by omega)
     omega
   · exact h4
theorem go {x k:Nat} (h:qa x≤k):x<2 ^ k:=by
 rcases zo x with rfl | h0
 · exact qN (by omega)
 · obtain ⟨_,h2,_⟩:=wL (Nat.pos_iff_ne_zero.1 h0)
   exact zP h2 (zy (by omega) h)
theorem cJ {m:Nat} (hm:0<m) {x:Nat} (hx:0<x) {k:Nat} (hk:0<k) (h1:2 ^ (k - 1)≤dg (digs (2 ^ m) x) ((digs (2 ^ m) x).length - 1)) (h2:dg (digs (2 ^ m) x) ((digs (2 ^ m) x).length - 1)<2 ^ k) :
 qa x=m*((digs (2 ^ m) x).length - 1)+k:=by
 have hB:2≤2 ^ m:=by
  have:2 ^ 1≤2 ^ m:=zy (by omega) hm
  simpa using this
 have hv:=z7 hB x
 have hlt:=jm hB x
 have hne:0<(digs (2 ^ m) x).length:=by rw [jP hB hx];simp
 generalize digs (2 ^ m) x=l at *
 have h3:=z8 (2 ^ m) l (l.length - 1)
 rw [show l.length - 1+1=l.length by omega,qu,hv] at h3
 have h4:=ji (B:=2 ^ m) (l:=l.take (l.length - 1)) fun y hy=>hlt y (qI hy)
 rw [zz,qO (by omega)] at h4
 have h5:(2 ^ m) ^ (l.length - 1)=2 ^ (m*(l.length - 1)):=by rw [vw]
 rw [h5] at h3 h4
 generalize m*(l.length - 1)=e at *
 generalize dg l (l.length - 1)=t at *
 obtain ⟨j,rfl⟩:∃ j,k=j+1:=⟨k - 1,by omega⟩
 rw [jC] at h1
 have h6:2 ^ e*2 ^ j≤2 ^ e*t:=qA _ h1
 have h7:2 ^ e*(t+1)≤2 ^ e*2 ^ (j+1):=qA _ h2
 rw [←qM] at h6 h7
 rw [zl] at h7
 exact aP (k:=e+j) (by omega) (by rw [show e+j+1=e+(j+1) by omega];omega)
theorem uZ {m:Nat} (l:List Nat) (hl:∀ x∈l,x<2 ^ m) (k j:Nat) (hj:j≤m):∃ r,val (2 ^ m) l / 2 ^ (m*k+j)=dg l k / 2 ^ j+2 ^ (m - j)*r:=by
 refine ⟨val (2 ^ m) (l.drop (k+1)),?_⟩
 have h1:val (2 ^ m) l=val (2 ^ m) (l.take k)+(2 ^ m) ^ k*(dg l k+2 ^ m*val (2 ^ m) (l.drop (k+1))):=by
  rcases qB k l.length with h | h
  · have:=qn (2 ^ m) l (qr h)
    rw [this,qQ h,jZ,dg,q9 h]
  · rw [zx h,List.drop_eq_nil_of_le (by omega),dg,zi,jD h]
    simp
 have h2:val (2 ^ m) (l.take k)<(2 ^ m) ^ k:=by
  have h3:=ji (B:=2 ^ m) (l:=l.take k) fun y hy=>hl y (qI hy)
  refine zP h3 (zy (qN (by omega)) ?_)
  rw [zz];omega
 rw [qM,vw,←xM,h1,x8 _ _ (qN (qN (by omega))),qj h2,kE]
 have e:2 ^ m=2 ^ j*2 ^ (m - j):=by rw [←qM,show j+(m - j)=m by omega]
 generalize hv:val (2 ^ m) (l.drop (k+1))=v
 rw [e,zf,x8 _ _ (qN (by omega))]
theorem nE {m:Nat} (l:List Nat) (hl:∀ x∈l,x<2 ^ m) (k j:Nat) (hj:j<m):val (2 ^ m) l / 2 ^ (m*k+j) % 2=dg l k / 2 ^ j % 2:=by
 obtain ⟨r,hr⟩:=uZ l hl k j (by omega)
 rw [hr,show m - j=(m - j - 1)+1 by omega,zv,xK,vQ]
theorem bZ {m:Nat} (l:List Nat) (hl:∀ x∈l,x<2 ^ m) (k j:Nat) (hj:j+8≤m):val (2 ^ m) l / 2 ^ (m*k+j) % 256=dg l k / 2 ^ j % 256:=by
 obtain ⟨r,hr⟩:=uZ l hl k j (by omega)
 rw [hr,show m - j=(m - j - 8)+8 by omega,qM,show (2:Nat) ^ 8=256 by rfl,xK,vQ]
def bytesOf (x n:Nat):List Nat:=(List.range n).map fun i=>x / 2 ^ (8*(n - 1 - i)) % 256
theorem jF (x n:Nat):(bytesOf x n).length=n:=by simp [bytesOf]
end Go.Proofs.YtmlbicgpehchhaaGreat
namespace Go.Proofs.YtmlbicgpehchhaaGreat
open Go.RowKit
theorem aq {x:Nat} (hx:0<x):0<dg (digs 18446744073709551616 x) ((digs 18446744073709551616 x).length - 1):=by
 have hne:digs 18446744073709551616 x≠[]:=by rw [jP (by omega) hx];simp
 have h:=yQ (B:=18446744073709551616) (by omega) x hne
 have hpos:=List.length_pos_iff.2 hne
 rw [List.getLast_eq_getElem] at h
 rw [dg,q9 (by omega)]
 omega
theorem aO {x:Nat} (hx:0<x):qa x=64*((digs 18446744073709551616 x).length - 1)+Lib.bitLen (dg (digs 18446744073709551616 x) ((digs 18446744073709551616 x).length - 1)):=by
 have h0:=aq hx
 have h1:=jE (B:=18446744073709551616) (by omega) (jm (by omega) x) ((digs 18446744073709551616 x).length - 1)
 have h2:=Lib.bitLenAux_bounds 64 _ h1 (by omega)
 have h3:=cJ (m:=64) (by omega) hx (k:=Lib.bitLen (dg (digs 18446744073709551616 x) ((digs 18446744073709551616 x).length - 1))) h2.1 h2.2.1 h2.2.2
 exact h3
theorem xZ (P:Nat→Prop) (A:Option Addr) (c:Nat) (a:List Nat) (w:World) (h:RN w P A c a) :
 Calls Tryz.prog 84 #[.slice A a.length c] w fun e w'=>e=.returned (.int .i64 (qa (val 18446744073709551616 a):Int))∧w=w':=by
 have ta:=jN P A c a w h
 replace h:=h.trim
 generalize val 18446744073709551616 a=x at *
 rcases zo x with rfl | hx
 · rw [qY] at ta
   have Ta:=zF ta
   clear ta
   go_enter Tryz.func84,Tryz.ntmps84
   go_wp2_with fail
   refine Ta.out.mono ?_
   rintro e w1 ⟨rfl,rfl⟩
   go_wp2
   go_ret
   exact ⟨rfl,rfl⟩
 · have hb:=aO hx
   have hlt:=h.2.dgLt
   obtain ⟨h1,h2,h3⟩:=h.cap
   have hne:0<(digs 18446744073709551616 x).length:=by rw [jP (by omega) hx];simp
   generalize digs 18446744073709551616 x=l at *
   obtain ⟨n,hn⟩:∃ n,l.length=n+1:=⟨l.length - 1,by omega⟩
   obtain ⟨ad,rfl,_,q1⟩:=h.at_ (i:=n) (by omega)
   rw [hn,jC] at hb
   have hl:=hlt n
   have hbl:Lib.bitLen (dg l n)≤64:=Lib.bitLen_le _ 64 (by omega) hl
   have hlen:=Tryz.bits_Len64 (dg l n:Int) w (by omega) (by omega)
   rw [ku] at hlen
   generalize Lib.bitLen (dg l n)=k at *
   have Hlen:=zF hlen
   have Hb:=zF hb
   rw [hn] at ta h1 h3
   have Ta:=zF ta
   clear ta hb hlen hl hlt hne hx hn h
   go_enter Tryz.func84,Tryz.ntmps84
   go_wp2_with fail
   refine Ta.out.mono ?_
   rintro e w1 ⟨rfl,rfl⟩
   go_wp2_with fail
   refine Hlen.out.mono ?_
   rintro e w1 ⟨rfl,rfl⟩
   go_wp2
   go_ret
   exact ⟨fI (by rw [Hb.out];simp),rfl⟩
def xo (x:Nat) (i:Int):Nat:=if i<0 then 0 else x / 2 ^ i.toNat % 2
theorem mask1 (x:Nat):x &&& 1=x % 2:=Nat.and_one_is_mod x
theorem tX (d j:Nat) (hd:d<18446744073709551616):bits .and .u64 ((d:Int) / 2 ^ j) 1=((d / 2 ^ j % 2:Nat):Int):=by
 have h0:d / 2 ^ j≤d:=Nat.div_le_self d _
 have h:=bits_and_u64_nat (d / 2 ^ j) 1 (by omega) (by omega)
 rw [mask1] at h
 rw [←h]
 simp
theorem tU (P:Nat→Prop) (A:Option Addr) (c:Nat) (a:List Nat) (i:Int) (w:World) (h:RN w P A c a) (hi:i≤9223372036854775807) :
 Calls Tryz.prog 115 #[.slice A a.length c,.int .i64 i] w fun e w'=>e=.returned (.int .u64 (xo (val 18446744073709551616 a) i:Int))∧w=w':=by
 obtain ⟨h1,h2,h3⟩:=h.cap
 by_cases h0:i<0
 · have hb:=zF (show xo (val 18446744073709551616 a) i=0 by simp [xo,h0])
   go_enter Tryz.func115,Tryz.ntmps115
   go_wp2
   go_ret
   rw [hb.out]
   exact ⟨rfl,rfl⟩
 · obtain ⟨n,rfl⟩:∃ n:Nat,i=(n:Int):=⟨i.toNat,by omega⟩
   obtain ⟨k,j,hj,hn⟩:∃ k j,j<64∧n=64*k+j:=⟨n / 64,n % 64,by omega,by omega⟩
   have hb:xo (val 18446744073709551616 a) (n:Int)=dg a k / 2 ^ j % 2:=by
    have:=nE (m:=64) a h.2.1 k j hj
    rw [xo,zr h0,ku,hn]
    exact this
   have e1:(n:Int) / 64=(k:Int):=by omega
   have e2:(n:Int) % 64=(j:Int):=by omega
   have e4:IntKind.i64.wrap ((n:Int) / 64)=(k:Int):=by rw [e1];exact wE _ (by omega)
   by_cases hk:k<a.length
   · obtain ⟨ad,rfl,_,q1⟩:=h.at_ hk
     have hd:=h.2.dgLt k
     have e3:=tX (dg a k) j hd
     have hj':(j:Int)<64:=by omega
     have hk':(k:Int)<(a.length:Int):=by omega
     have Hb:=zF hb
     clear hb hn hd h hi
     go_enter Tryz.func115,Tryz.ntmps115
     go_wp2
     go_ret
     exact ⟨fI (by rw [Hb.out];simp),rfl⟩
   · have hd:dg a k=0:=kY (by omega)
     rw [hd,Nat.zero_div] at hb
     have Hb:=zF hb
     have hk':¬ (k:Int)<(a.length:Int):=by omega
     have hk2:(a.length:Int)≤(k:Int):=by omega
     have hkb:(k:Int)≤144115188075855871:=by omega
     clear hb hn hd h hi
     go_enter Tryz.func115,Tryz.ntmps115
     go_wp2
     go_ret
     rw [Hb.out]
     exact ⟨rfl,rfl⟩
theorem cQ:(Tryz.prog.info? 5).map (fun i=>(i.zero,i.size,i.bytes))=some (some (.int .u8 0),1,1):=by kernel_rfl
def uX (w:World) (g:Nat) (l:List Nat):Prop:=w.heap[g]?=some (.cells (bys l).toArray 5 (0,0))
section
variable {w w':World} {g:Nat} {l:List Nat}
theorem tT {l:List Nat} {i:Nat} (h:i<l.length):(bys l)[i]?=some (.int .u8 (dg l i:Int)):=by
 rw [dg,q9 h];simp [bys,qK h]
theorem uX.cell (h:uX w g l) {i:Nat} (hi:i<l.length):w.cell? ⟨g,i,none⟩=some (.int .u8 (dg l i:Int)):=by
 rw [zH h i,zI,tT hi]
theorem uX.free (h:uX w g l) (i:Nat):w.frozen? ⟨g,i,none⟩=false:=zp h i
theorem uX.set (h:uX w g l) (i:Nat) (x:Nat):uX (w.setCell ⟨g,i,none⟩ (.int .u8 (x:Int))) g (l.set i x):=by
 unfold uX at *
 simp [World.setCell,jn,h,bys]
theorem uX.made (w:World) (n:Nat):uX (w.alloc (.cells (madeCells #[.int .u8 0] n) 5)) w.heap.size (List.replicate n 0):=by
 unfold uX
 rw [zN]
 congr 1
 congr 1
 apply Array.ext_getElem?
 intro i
 by_cases hi:i<n
 · have hs:i<(madeCells #[Value.int .u8 0] n).size:=by rw [size_madeCells];simpa using hi
   rw [qR hs]
   simp [madeCells,bys,hi,Nat.mod_one]
 · rw [xN (by rw [size_madeCells];omega),xN (by simp [bys];omega)]
theorem uX.rb {P:Nat→Prop} (h:uX w g l) (hP:P g) (hl:∀ b∈l,b<256) (hn:l.length≤1000000):RB w P (some ⟨g,0,none⟩) l.length l:=by
 refine ⟨⟨zG _,by unfold maxLen;omega,by simp [bys],fun _=>⟨_,rfl,hP,fun j u hu=>?_⟩⟩,hl,by omega⟩
 rw [wl,zH h j,zI]
 exact hu
end
def vX (x n:Nat) (o:List Nat) (k:Nat):Prop:=o.length=n∧(∀ j,j<k→dg o j=x / 2 ^ (8*(n - 1 - j)) % 256)∧(∀ j,k≤j→dg o j=0)∧∀ b∈o,b<256
theorem vX.zero (x n:Nat):vX x n (List.replicate n 0) 0:=by
 refine ⟨by simp,fun j hj=>by omega,fun j _=>?_,fun b hb=>by simp at hb;omega⟩
 rw [dg,zi,List.getElem?_replicate]
 split <;> rfl
theorem vX.step {x n:Nat} {o:List Nat} {k b:Nat} (h:vX x n o k) (hk:k<n) (hb:x / 2 ^ (8*(n - 1 - k)) % 256=b):vX x n (o.set k b) (k+1):=by
 obtain ⟨h1,h2,h3,h4⟩:=h
 refine ⟨by simpa using h1,fun j hj=>?_,fun j hj=>by rw [getD_set_ne (by omega)];exact h3 j (by omega),wJ h4 (by omega)⟩
 rcases qB j k with h | h
 · rw [getD_set_ne (by omega)];exact h2 j h
 · obtain rfl:j=k:=by omega
   rw [vH (by omega)];exact hb.symm
theorem vX.skip {x n:Nat} {o:List Nat} {k:Nat} (h:vX x n o k) (hb:x / 2 ^ (8*(n - 1 - k)) % 256=0):vX x n o (k+1):=by
 obtain ⟨h1,h2,h3,h4⟩:=h
 refine ⟨h1,fun j hj=>?_,fun j hj=>h3 j (by omega),h4⟩
 rcases qB j k with h | h
 · exact h2 j h
 · obtain rfl:j=k:=by omega
   rw [hb];exact h3 j h
theorem vX.fin {x n:Nat} {o:List Nat} (h:vX x n o n):o=bytesOf x n:=by
 obtain ⟨h1,h2,_⟩:=h
 apply List.ext_getElem (by rw [h1,jF])
 intro i h3 h4
 have:=h2 i (by omega)
 rw [dg,q9 h3] at this
 rw [this]
 simp [bytesOf]
theorem cq (d j:Nat):IntKind.u8.wrap ((d:Int) / 2 ^ j)=((d / 2 ^ j % 256:Nat):Int):=by
 rw [show (d:Int) / 2 ^ j=((d / 2 ^ j:Nat):Int) by simp]
 generalize d / 2 ^ j=z
 simp [IntKind.wrap,IntKind.bits,IntKind.signed]
theorem yS (P:Nat→Prop) (A:Option Addr) (c:Nat) (a:List Nat) (n:Nat) (w:World) (h:RN w P A c a) (hP:∀ b,P b→b<w.heap.size) (hn:n≤65536) (hn':qa (val 18446744073709551616 a)≤8*n) :
 Calls Tryz.prog 43 #[.slice A a.length c,.int .i64 (n:Int)] w fun e w'=>∃ A1,e=.returned (.tuple #[.slice A1 n n,.bool true]) ∧
  RB w' (In w.heap.size w'.heap.size) A1 n (bytesOf (val 18446744073709551616 a) n)∧Below w.heap.size w w':=by
 obtain ⟨h1,h2,h3⟩:=h.cap
 have hb:=zF (xZ P A c a w h)
 have hby:=fun k j hj=>bZ (m:=64) a h.2.1 k j hj
 rw [show (2:Nat) ^ 64=18446744073709551616 by decide] at hby
 generalize hX:val 18446744073709551616 a=x at *
 generalize qa x=k0 at *
 have hk0:(k0:Int)≤8*(n:Int):=by omega
 have Hby:=zF hby
 clear hby hX hn'
 have hmk:=jJ (P:=Tryz.prog) 34 5 (.int .u8 0) 1 Tryz.underlying34 cQ rfl .i64 .i64 n (by omega) (by omega)
 go_enter Tryz.func43,Tryz.ntmps43
 go_wp2_with fail
 refine hb.out.mono ?_
 rintro e w1 ⟨rfl,rfl⟩
 clear hb
 go_wp2
 go_loopw [26] (fun iv wr=>∃ (k:Nat) (o:List Nat),iv=.int .i64 (k:Int)∧k≤n∧vX x n o k∧uX wr w.heap.size o∧Below w.heap.size w wr) (fun iv _=>n - (intOf iv).toNat)
 case atStart=>exact ⟨0,List.replicate n 0,rfl,by omega,vX.zero x n,uX.made w n,(zQ _ w).alloc (zG _) _⟩
 case round =>
  obtain ⟨k,o,rfl,hk,hA,hblk,hB⟩:=hrel
  by_cases hlt:k<n
  · obtain ⟨m,q,r,hm,hr,hmq⟩:∃ m q r,m=n - 1 - k∧r<8∧m=8*q+r:=⟨n - 1 - k,(n - 1 - k) / 8,(n - 1 - k) % 8,rfl,by omega,by omega⟩
    have hbv:=Hby.out q (r*8) (by omega)
    rw [show 64*q+r*8=8*m by omega,hm] at hbv
    have e1:(n:Int) - 1 - (k:Int)=(m:Int):=by omega
    have e2:(m:Int) / 8=(q:Int):=by omega
    have e3:(m:Int) % 8=(r:Int):=by omega
    have k1:(m:Int)<(n:Int):=by omega
    by_cases hq:q<a.length
    · obtain ⟨ad,rfl,had,q1⟩:=(h.below hB hP).at_ hq
      obtain ⟨b,hbb⟩:=eV (dg a q / 2 ^ (r*8) % 256)
      rw [hbb] at hbv
      have e4:=cq (dg a q) (r*8)
      rw [hbb] at e4
      have hA':=hA.step hlt hbv
      have q3:=hblk.cell (i:=k) (by rw [hA.1];exact hlt)
      have q4:=hblk.free k
      have hblk':=hblk.set k b
      have hB':=hB.setCell (p:=⟨w.heap.size,k,none⟩) (zG _) (.int .u8 (b:Int))
      have k2:(q:Int)<(a.length:Int):=by omega
      have k3:(r:Int)<8:=by omega
      clear hbb hbv hA hblk hB hmq hm
      go_wp2
      go_roundw
      case rel=>exact ⟨k+1,o.set k b,by go_num,by omega,hA',hblk',hB'⟩
      case measure=>simp [intOf];omega
    · rw [kY (by omega:a.length≤q),Nat.zero_div,Nat.zero_mod] at hbv
      have hA':=hA.skip hbv
      have k2:¬ (q:Int)<(a.length:Int):=by omega
      clear hbv hA hmq hm
      go_wp2
      go_roundw
      case rel=>exact ⟨k+1,o,by go_num,by omega,hA',hblk,hB⟩
      case measure=>simp [intOf];omega
  · obtain rfl:k=n:=by omega
    have he:=hA.fin
    have hl4:=hA.2.2.2
    have hlen:=hA.1
    have hrb:=hblk.rb (P:=In w.heap.size wr.heap.size) ⟨zG _,ql hblk⟩ hl4 (by omega)
    rw [hlen] at hrb
    rw [he] at hrb
    clear hA he hl4 hlen hblk
    go_wp2
    go_ret2
    exact ⟨_,rfl,hrb,hB⟩
end Go.Proofs.YtmlbicgpehchhaaGreat
namespace Go.Proofs.YtmlbicgpehchhaaGreat.Der
inductive DN where
 | mk (tag:Nat) (bs:List Nat) (kids:List DN)
theorem gD {α:Type} (l:List α) (d:α) {i:Nat} (h:i<l.length):l.getD i d=l[i]:=by simp [qK h]
def be:Nat→List Nat→Nat
 | n,[]=>n
 | n,x :: r=>be (256*n+x) r
def xm:Bool→List Nat→Bool
 | bg,[]=>bg
 | bg,x :: r=>if bg && x==128 then false else xm (decide (x<128)) r
def xF (b:List Nat):Bool:=decide (0<b.length) && xm true b
def jY (tag:Nat) (b:List Nat):Bool :=
 if tag=2 then decide (0<b.length) && decide (b.getD 0 0<128) && (decide (0<b.getD 0 0) || b.length==1 || decide (128≤b.getD 1 0))
 else if tag=3 then decide (0<b.length) && b.getD 0 0==0
 else if tag=4 then true
 else if tag=5 then b.length==0
 else if tag=6 then xF b
 else false
def um (t n:Nat) (rest:List Nat):Option (Nat×List Nat×List Nat):=if rest.length<n then none else some (t,rest.take n,rest.drop n)
def kq:List Nat→Option (Nat×List Nat×List Nat)
  | t :: n :: rest =>
    if n<128 then um t n rest
    else if n - 128<1∨3<n - 128∨rest.length<n - 128∨rest.getD 0 0=0 then none
    else if be 0 (rest.take (n - 128))<128 then none
    else um t (be 0 (rest.take (n - 128))) (rest.drop (n - 128))
  | _=>none
def kQ (rd:Nat→List Nat→Option (DN×List Nat×Nat)):Nat→Nat→List DN→List Nat→Option (List DN×Nat)
  | 0,left,acc,b=>if b=[] then some (acc,left) else none
  | f + 1, left, acc, b => if b = [] then some (acc, left) else match rd left b with
    | none=>none
    | some (k,r,l)=>kQ rd f l (acc++[k]) r
def jO:Nat→Nat→List Nat→Option (DN×List Nat×Nat)
  | 0,_,_=>none
  | d + 1, left, b =>
    if left=0 then none
    else match kq b with
      | none=>none
      | some (t, h, r) =>
        if t≠48 then (if jY t h then some (.mk t h [],r,left - 1) else none)
        else match kQ (jO d) h.length (left - 1) [] h with
          | none=>none
          | some (ks,l)=>some (.mk 48 [] ks,r,l)
theorem yr {t n:Nat} {b:List Nat} {x:Nat×List Nat×List Nat} (h:um t n b=some x):x=(t,b.take n,b.drop n)∧n≤b.length:=by
 unfold um at h
 split at h
 · cases h
 · cases h;exact ⟨rfl,by omega⟩
theorem aa {b:List Nat} {t:Nat} {h r:List Nat} (e:kq b=some (t,h,r)):h.length+r.length+2≤b.length:=by
 unfold kq at e
 split at e
 · rename_i t0 n rest
   split at e
   · obtain ⟨e,hl⟩:=yr e
     cases e
     simp;omega
   split at e
   · cases e
   split at e
   · cases e
   obtain ⟨e,hl⟩:=yr e
   simp only [Prod.mk.injEq] at e
   have e1:=congrArg List.length e.2.1
   have e2:=congrArg List.length e.2.2
   clear e
   rw [zz] at e1
   rw [jI] at e2
   rw [jI] at hl e1 e2
   generalize be 0 (List.take (n - 128) rest)=m at *
   simp only [jA]
   omega
 · cases e
theorem uO:∀ {d left:Nat} {b:List Nat} {k:DN} {r:List Nat} {l:Nat},jO d left b=some (k,r,l)→r.length+2≤b.length
  | 0,_,_,_,_,_,e=>by simp [jO] at e
  | d + 1, left, b, k, r, l, e => by
    rw [jO] at e
    split at e
    · cases e
    split at e
    · cases e
    rename_i t h r' hh
    have:=aa hh
    split at e
    · split at e
      · cases e;omega
      · cases e
    · split at e
      · cases e
      · cases e;omega
theorem cO {rd:Nat→List Nat→Option (DN×List Nat×Nat)} (hr:∀ {left b k r l},rd left b=some (k,r,l)→l<left):∀ {f left:Nat} {acc:List DN} {b:List Nat} {ks:List DN} {l:Nat},kQ rd f left acc b=some (ks,l)→l≤left
  | 0, left, acc, b, ks, l, e => by
    unfold kQ at e
    split at e
    · cases e;exact zG _
    · cases e
  | f + 1, left, acc, b, ks, l, e => by
    unfold kQ at e
    split at e
    · cases e;exact zG _
    split at e
    · cases e
    rename_i k r l' hk
    have:=cO hr e
    have:=hr hk
    omega
theorem cF:∀ {d left:Nat} {b:List Nat} {k:DN} {r:List Nat} {l:Nat},jO d left b=some (k,r,l)→l<left
  | 0,_,_,_,_,_,e=>by simp [jO] at e
  | d + 1, left, b, k, r, l, e => by
    rw [jO] at e
    split at e
    · cases e
    rename_i hl
    split at e
    · cases e
    split at e
    · split at e
      · cases e;omega
      · cases e
    · split at e
      · cases e
      · rename_i hk
        cases e
        have:=cO (rd:=jO d) (fun h=>cF h) hk
        omega
theorem cK {bg:Bool} {b:List Nat} {k:Nat} (hk:k<b.length) {x:Nat} (hx:b[k]=x):xm bg (b.drop k)=if bg && x==128 then false else xm (decide (x<128)) (b.drop (k+1)):=by
 rw [qQ hk,hx,xm]
end Go.Proofs.YtmlbicgpehchhaaGreat.Der
namespace Go.Proofs.YtmlbicgpehchhaaGreat
open Go.RowKit
def Ext (w w':World):Prop:=Below w.heap.size w w'
theorem Ext.refl (w:World):Ext w w:=zQ _ w
theorem Ext.trans {a b c:World} (h:Ext a b) (k:Ext b c):Ext a c:=kU h (Below.mono k h.size)
theorem Ext.drew (w:World):Ext w w.drew:=(zQ _ w).drew
theorem Ext.alloc (w:World) (o:Obj):Ext w (w.alloc o):=(zQ _ w).alloc (zG _) o
theorem Ext.bsize {w w':World} (h:Ext w w'):w.heap.size≤w'.heap.size:=Below.size h
theorem Ext.at_ {w w':World} (h:Ext w w') {k:Nat} {o:Obj} (hk:w.heap[k]?=some o):w'.heap[k]?=some o:=by
 have hlt:k<w.heap.size:=by
  rcases qB k w.heap.size with h | h
  · exact h
  · rw [xN h] at hk;cases hk
 exact (Below.block h k hlt).trans hk
theorem Ext.cell {w w':World} (h:Ext w w') {a:Addr} {v:Value} (hk:w.cell? a=some v):w'.cell? a=some v :=
 (zS (Below.block h _ (World.block_lt_of_cell? w a hk))).trans hk
namespace Par
def dst (ops:Array Oper) (j:Nat):Option Nat:=(ops[j]?).bind (·.dst)
def binds (e:Edge):Bool:=Region.binds .any e
def put (ops:Array Oper) (sel:Nat→Bool) (f:Nat→Value):List Nat→Act→Act
 | [],a=>a
 | j :: l,a=>put ops sel f l (if sel j then a.put (dst ops j) (f j) else a)
def upd (f:Nat→Value) (i:Nat) (v:Value):Nat→Value:=fun j=>if j=i then v else f j
def jb (M:Nat→Nat) (j:Nat) (f:Nat→Value):Nat→Value:=fun k=>if (k==j || (M j).testBit k)=true then f k else undef
def nd (M:Nat→Nat) (i:Nat):Nat→Bool:=fun j=>j != i && !(M j).testBit i
theorem dv {ops:Array Oper} {sel sel':Nat→Bool} {f f':Nat→Value} {l:List Nat} (h:∀ j∈l,sel j=sel' j∧f j=f' j) (a:Act):put ops sel f l a=put ops sel' f' l a:=by
  induction l generalizing a with
  | nil=>rfl
  | cons j l ih =>
    obtain ⟨h1,h2⟩:=h j (by simp)
    simp only [put,h1,h2]
    exact ih (fun k hk=>h k (by simp [hk])) _
def nh (ops:Array Oper) (i j:Nat):Prop:=∃ d,dst ops i=some d∧dst ops j=some d
theorem sY {ops:Array Oper} {sel:Nat→Bool} {f:Nat→Value} {l:List Nat} {i:Nat} {v:Value} (h:∀ j∈l,¬ nh ops i j) (a:Act):(put ops sel f l a).put (dst ops i) v=put ops sel f l (a.put (dst ops i) v):=by
  induction l generalizing a with
  | nil=>rfl
  | cons j l ih =>
    simp only [put]
    rw [ih (fun k hk=>h k (by simp [hk]))]
    cases sel j
    · rfl
    · simp only [if_true]
      rw [Act.put_comm a _ _ (fun d h1 h2=>h j (by simp) ⟨d,h2,h1⟩)]
theorem aC {ops:Array Oper} {sel:Nat→Bool} {f:Nat→Value} {i:Nat} {v:Value} : ∀ {l:List Nat} (_:i∈l) (_:l.Nodup) (_:∀ j∈l,j≠i→¬ nh ops i j) (_:sel i=false) (a:Act),(put ops sel f l a).put (dst ops i) v=put ops (fun j=>sel j || j==i) (upd f i v) l a
  | [],hi,_,_,_,_=>by cases hi
  | j :: l, hi, hn, hc, hs, a => by
    rw [List.nodup_cons] at hn
    by_cases hji:j=i
    · subst hji
      simp only [put,hs,Bool.false_eq_true,if_false,beq_self_eq_true,Bool.or_true,if_true,upd]
      rw [sY (fun k hk=>hc k (by simp [hk]) (fun e=>hn.1 (e▸hk)))]
      refine dv (fun k hk=>?_) _
      have hne:k≠j:=fun e=>hn.1 (e▸hk)
      simp [hne,upd]
    · have hmem:i∈l:=by
        rcases List.mem_cons.1 hi with h | h
        · exact absurd h.symm hji
        · exact h
      simp only [put]
      rw [aC hmem hn.2 (fun k hk=>hc k (by simp [hk])) hs]
      have e1:(sel j || j==i)=sel j:=by simp [hji]
      have e2:upd f i v j=f j:=by simp [upd,hji]
      simp only [e1,e2]
theorem sZ (a:Act) (d:Option Nat) (v:Value) (h:∀ t,d=some t→v=a.tmps.getD t undef):a.put d v=a:=by
  cases d with
  | none=>rfl
  | some t =>
    have hv:=h t rfl
    subst hv
    show ({ a with tmps:=a.tmps.setIfInBounds t (a.tmps.getD t undef) } : Act)=a
    congr 1
    apply Array.ext_getElem?
    intro k
    rw [Array.getElem?_setIfInBounds]
    split
    · rename_i htk
      subst htk
      split
      · rename_i hlt
        simp [hlt]
      · rename_i hlt
        simp [xN (Nat.le_of_not_lt hlt)]
    · rfl
theorem pg {a:Act} {d:Option Nat} {v:Value} {t:Nat} (h:d≠some t):(a.put d v).tmps.getD t undef=a.tmps.getD t undef:=by
  cases d with
  | none=>rfl
  | some s =>
    have hne:s≠t:=fun e=>h (by rw [e])
    show (a.tmps.setIfInBounds s v).getD t undef=_
    simp [Array.getD_eq_getD_getElem?,Array.getElem?_setIfInBounds_ne hne]
theorem fh {ops:Array Oper} {D sel:Nat→Bool} {f g:Nat→Value} (b:Act):∀ {l:List Nat} (_:l.Nodup) (_:∀ i∈l,∀ j∈l,i≠j→¬ nh ops i j) (_:∀ j∈l,D j=true→sel j=true∧g j=f j) (a:Act) (_:∀ j∈l,D j=false→∀ t,dst ops j=some t→g j=a.tmps.getD t undef),put ops D f l a=put ops sel g l a
  | [],_,_,_,_,_=>rfl
  | j :: l, hn, hc, hD, a, hg => by
    rw [List.nodup_cons] at hn
    simp only [put]
    have key:∀ a':Act,(∀ k∈l,∀ t,dst ops k=some t→a'.tmps.getD t undef=a.tmps.getD t undef)→put ops D f l a'=put ops sel g l a':=fun a' h' =>
      fh b hn.2 (fun i hi k hk=>hc i (by simp [hi]) k (by simp [hk])) (fun k hk=>hD k (by simp [hk])) a' (fun k hk h1 t ht=>by rw [h' k hk t ht];exact hg k (by simp [hk]) h1 t ht)
    have far:∀ v,∀ k∈l,∀ t,dst ops k=some t→(a.put (dst ops j) v).tmps.getD t undef=a.tmps.getD t undef:=fun v k hk t ht=>pg (fun e=>hc j (by simp) k (by simp [hk]) (fun e=>hn.1 (e▸hk)) ⟨t,e,ht⟩)
    cases hj:D j
    · have e:(if sel j=true then a.put (dst ops j) (g j) else a)=a:=by
        split
        · exact sZ _ _ _ (fun t ht=>hg j (by simp) hj t ht)
        · rfl
      rw [e]
      exact key a (fun _ _ _ _=>rfl)
    · obtain ⟨h1,h2⟩:=hD j (by simp) hj
      rw [h1,h2]
      exact key _ (far _)
def cnt (D:Nat→Bool):Nat→Nat
 | 0=>0
 | k+1=>cnt D k+(if D k then 1 else 0)
theorem m7 (D:Nat→Bool):∀ m,cnt D m≤m
 | 0=>zG _
 | k+1=>by have:=m7 D k;simp only [cnt];split <;> omega
theorem co {D D':Nat→Bool} : ∀ {m:Nat},(∀ j,j<m→D j=D' j)→cnt D m=cnt D' m
 | 0,_=>rfl
 | k+1,h=>by simp only [cnt];rw [co (fun j hj=>h j (by omega)),h k (by omega)]
theorem ay {D D':Nat→Bool} {i:Nat} (hD:D i=false) (hD':D' i=true) (h:∀ j,j≠i→D' j=D j):∀ {m:Nat},i<m→cnt D' m=cnt D m+1
  | 0,hi=>by omega
  | k + 1, hi => by
    simp only [cnt]
    by_cases hk:k=i
    · subst hk
      rw [hD,hD',co (fun j hj=>h j (by omega))]
      simp
    · rw [ay hD hD' h (m:=k) (by omega),h k hk]
      omega
theorem az {D:Nat→Bool} : ∀ {m:Nat},(∀ j,j<m→D j=true)→cnt D m=m
 | 0,_=>rfl
 | k+1,h=>by simp only [cnt];rw [az (fun j hj=>h j (by omega)),h k (by omega)];simp
theorem ra {D:Nat→Bool} {i:Nat} (hD:D i=false):∀ {m:Nat},i<m→cnt D m<m
  | 0,hi=>by omega
  | k + 1, hi => by
    simp only [cnt]
    by_cases hk:k=i
    · subst hk;have:=m7 D k;rw [hD];simp;omega
    · have:=ra hD (m:=k) (by omega);split <;> omega
def ok (ops:Array Oper) (M:Nat→Nat) (m:Nat):Bool :=
  decide (m≤ops.size) &&
  ((List.range ops.size).all fun i => match ops[i]? with
    | none=>false
    | some o => (o.after.all fun e => !binds e || decide (e.on < i)) &&
      ((List.range ops.size).all fun k=>!(M i).testBit k || o.after.any fun e=>binds e && (e.on==k || (M e.on).testBit k)) &&
      (decide (i<m) || (List.range i).all fun k=>(M i).testBit k) && decide (M i<2 ^ i)) &&
  ((List.range m).all fun i=>(List.range m).all fun j=>i==j || (match dst ops i,dst ops j with | some d,some e=>d != e | _,_=>true))
structure mJ (ops:Array Oper) (M:Nat→Nat) (m:Nat):Prop where
 le:m≤ops.size
 up:∀ i o,ops[i]?=some o→∀ e∈o.after,binds e=true→e.on<i
 by_:∀ i o k,ops[i]?=some o→k<ops.size→(M i).testBit k=true→∃ e∈o.after,binds e=true∧(e.on=k∨(M e.on).testBit k=true)
 low:∀ i,i<ops.size→M i<2 ^ i
 late:∀ i,m≤i→i<ops.size→∀ k,k<i→(M i).testBit k=true
 own:∀ i j,i<m→j<m→i≠j→¬ nh ops i j
theorem ok.form {ops:Array Oper} {M:Nat→Nat} {m:Nat} (h:ok ops M m=true):mJ ops M m:=by
 unfold ok at h
 rw [Bool.and_eq_true,Bool.and_eq_true,decide_eq_true_eq,List.all_eq_true,List.all_eq_true] at h
 obtain ⟨⟨hle,h1⟩,h2⟩:=h
 have key:∀ i o,ops[i]?=some o→(∀ e∈o.after,binds e=true→e.on<i)∧(∀ k,k<ops.size→(M i).testBit k=true→∃ e∈o.after,binds e=true∧(e.on=k∨(M e.on).testBit k=true))∧(m≤i→∀ k,k<i→(M i).testBit k=true)∧M i<2 ^ i:=by
  intro i o ho
  have hi:i<ops.size:=(Array.getElem?_eq_some_iff.1 ho).1
  have:=h1 i (List.mem_range.2 hi)
  rw [ho] at this
  simp only [Bool.and_eq_true,Array.all_eq_true_iff_forall_mem,kz,Bool.not_eq_true',decide_eq_true_eq,List.all_eq_true,List.mem_range,Array.any_eq_true',beq_iff_eq] at this
  obtain ⟨⟨⟨a1,a2⟩,a3⟩,a4⟩:=this
  refine ⟨fun e he hb=>(a1 e he).resolve_left (by simp [hb]),fun k hk hb=>?_,fun hm k hk=>(a3.resolve_left (by omega)) k hk,a4⟩
  obtain ⟨e,he,h3,h4⟩:=(a2 k hk).resolve_left (by simp [hb])
  exact ⟨e,he,h3,h4⟩
 refine ⟨hle,fun i o ho=>(key i o ho).1,fun i o k ho=>(key i o ho).2.1 k,fun i hi=>(key i _ (qR hi)).2.2.2,fun i hm hi k hk=>?_,fun i j hi hj hne=>?_⟩
 · exact (key i _ (qR hi)).2.2.1 hm k hk
 · have h3:=h2 i (List.mem_range.2 hi)
   rw [List.all_eq_true] at h3
   have h4:=h3 j (List.mem_range.2 hj)
   rintro ⟨d,e1,e2⟩
   rw [e1,e2] at h4
   simp [hne] at h4
theorem mJ.bit {ops:Array Oper} {M:Nat→Nat} {m:Nat} (h:mJ ops M m) (i:Nat) (hi:i<ops.size) (k:Nat) (hk:(M i).testBit k=true):k<i:=by
 rcases qB k i with hlt | hge
 · exact hlt
 · have h1:=h.low i hi
   rw [Nat.testBit_lt_two_pow (zP h1 (zy (by omega) hge))] at hk
   cases hk
theorem anc {ops:Array Oper} {M:Nat→Nat} {m:Nat} (hF:mJ ops M m) {listed:Array Bool} (hcl:∀ j o,ops[j]?=some o→listed.getD j false=true→∀ e∈o.after,binds e=true→listed.getD e.on false=true) :
    ∀ n i o,i≤n→ops[i]?=some o→(∀ e∈o.after,binds e=true→listed.getD e.on false=true)→∀ k,k<ops.size→(M i).testBit k=true→listed.getD k false=true:=by
  intro n
  induction n with
  | zero =>
    intro i o hin ho hd k hk hb
    obtain ⟨e,he,hb',_⟩:=hF.by_ i o k ho hk hb
    have:=hF.up i o ho e he hb'
    omega
  | succ n ihn =>
    intro i o hin ho hd k hk hb
    obtain ⟨e,he,hb',h1⟩:=hF.by_ i o k ho hk hb
    rcases h1 with rfl | h1
    · exact hd e he hb'
    · have hlt':=hF.up i o ho e he hb'
      have hes:e.on<ops.size:=by have:=(Array.getElem?_eq_some_iff.1 ho).1;omega
      exact ihn e.on _ (by omega) (qR hes) (hcl e.on _ (qR hes) (hd e he hb')) k hk h1
section
variable {P:Program} {ops:Array Oper} {Q:Exit→Act→World→Prop}
def sB (P:Program) (ops:Array Oper) (Q:Exit→Act→World→Prop) (E:World→World→Prop) (m:Nat) (M:Nat→Nat) (AL:Nat→Bool) (R:Nat→(Nat→Value)→World→Prop) (a:Act) (w:World) (i:Nat):Prop :=
  ∀ f X, E w X → (∀ j, (M i).testBit j = true → R j f X) → ∀ K : Act → World → Prop,
    (∀ a' v X',a'=(put ops (nd M i) f (List.range m) a).put (dst ops i) v→E X X'→(if AL i=true then v=.pointer (some ⟨X.heap.size,0,none⟩)∧X.heap.size<X'.heap.size else True)→(∀ Y,E X' Y→R i (upd f i v) Y)→K a' X') →
    wpOp P ops Q i K (put ops (nd M i) f (List.range m) a) X
theorem sB.intro {E:World→World→Prop} {m:Nat} {M:Nat→Nat} {AL:Nat→Bool} {R:Nat→(Nat→Value)→World→Prop} {a:Act} {w:World} {i:Nat} {o:Oper} (ho:ops[i]?=some o)
 (h : ∀ f X, E w X → (∀ j, (M i).testBit j = true → R j f X) → ∀ K : Act → World → Prop,
  (∀ a' v X',a'=(put ops (nd M i) f (List.range m) a).put o.dst v→E X X'→(if AL i=true then v=.pointer (some ⟨X.heap.size,0,none⟩)∧X.heap.size<X'.heap.size else True)→(∀ Y,E X' Y→R i (upd f i v) Y)→K a' X') →
  if Region.wanted o (yielded ops (put ops (nd M i) f (List.range m) a).tmps)=true then Oper.wp P o (put ops (nd M i) f (List.range m) a) X K Q else K ((put ops (nd M i) f (List.range m) a).put o.dst undef) X) :
 sB P ops Q E m M AL R a w i:=fun f X hX hR K hK=>wpOp_step ho fun K' hK'=>h f X hX hR K' fun a' v X' ha hE hA hR'=>hK' _ _ (hK a' v X' (by rw [ha,dst,ho];rfl) hE hA hR')
structure Inv (ops:Array Oper) (E:World→World→Prop) (m:Nat) (M:Nat→Nat) (AL:Nat→Bool) (R:Nat→(Nat→Value)→World→Prop) (a:Act) (w:World) (D:Nat→Bool) (f:Nat→Value) (a':Act) (X:World):Prop where
 act:a'=put ops D f (List.range m) a
 ext:E w X
 said:∀ j,j<m→D j=true→R j (jb M j f) X
 at_:∀ j,j<m→D j=true→AL j=true→∃ b,f j=.pointer (some ⟨b,0,none⟩)∧b<X.heap.size
 apart:∀ j k,j<m→k<m→D j=true→D k=true→AL j=true→AL k=true→j≠k→f j≠f k
theorem fin {E:World→World→Prop} {m:Nat} {M:Nat→Nat} {AL:Nat→Bool} {R:Nat→(Nat→Value)→World→Prop} {a:Act} {w:World} (_hF:mJ ops M m)
 (hfin : ∀ f X, E w X → (∀ j, j < m → R j (jb M j f) X) → (∀ j, j < m → AL j = true → ∃ b, f j = .pointer (some ⟨b, 0, none⟩) ∧ b < X.heap.size) → (∀ j k, j < m → k < m → AL j = true → AL k = true → j ≠ k → f j ≠ f k) →
  wpAny P .any ops Q (ops.size - m) (((List.range ops.size).map fun j=>decide (j<m)).toArray) (put ops (fun _=>true) f (List.range m) a) X)
 {fuel:Nat} {listed:Array Bool} {f:Nat→Value} {a':Act} {X:World} (hsz:listed.size=ops.size) (hall:∀ j,j<m→listed.getD j false=true) (hlt:∀ j,listed.getD j false=true→j<m)
 (hI:Inv ops E m M AL R a w (fun j=>listed.getD j false) f a' X) (hfuel:fuel+m=ops.size):wpAny P .any ops Q fuel listed a' X:=by
 have e1:listed=((List.range ops.size).map fun j=>decide (j<m)).toArray:=by
  apply Array.ext
  · simp [hsz]
  · intro k h1 h2
    simp only [List.getElem_toArray,List.getElem_map,List.getElem_range]
    by_cases hk:k<m
    · have:=hall k hk
      simpa [h1,hk] using this
    · cases hd:listed[k]
      · simp [hk]
      · exact absurd (hlt k (by simp [h1,hd])) hk
 have e2:a'=put ops (fun _=>true) f (List.range m) a:=by
  rw [hI.act]
  exact dv (fun j hj=>⟨hall j (List.mem_range.1 hj),rfl⟩) _
 have e3:fuel=ops.size - m:=by omega
 rw [e1,e2,e3]
 exact hfin f X hI.ext (fun j hj=>hI.said j hj (hall j hj)) (fun j hj h=>hI.at_ j hj (hall j hj) h) (fun j k hj hk h1 h2=>hI.apart j k hj hk (hall j hj) (hall k hk) h1 h2)
theorem par {E:World→World→Prop} (hE0:∀ w,E w w) (hE1:∀ a b c,E a b→E b c→E a c) (hE2:∀ a b,E a b→a.heap.size≤b.heap.size)
    {m:Nat} {M:Nat→Nat} {AL:Nat→Bool} {R:Nat→(Nat→Value)→World→Prop} {a:Act} {w:World} (hF:mJ ops M m)
    (hR:∀ j,j<m→∀ f X,R j (jb M j f) X→∀ Y,E X Y→R j (jb M j f) Y)
    (hstep:∀ i,i<m→sB P ops Q E m M AL (fun j f X=>R j (jb M j f) X) a w i)
    (hfin:∀ f X,E w X→(∀ j,j<m→R j (jb M j f) X)→(∀ j,j<m→AL j=true→∃ b,f j=.pointer (some ⟨b,0,none⟩)∧b<X.heap.size)→(∀ j k,j<m→k<m→AL j=true→AL k=true→j≠k→f j≠f k) →
      wpAny P .any ops Q (ops.size - m) (((List.range ops.size).map fun j=>decide (j<m)).toArray) (put ops (fun _=>true) f (List.range m) a) X) :
    ∀ (fuel : Nat) (listed : Array Bool) (f : Nat → Value) (a' : Act) (X : World), listed.size = ops.size →
      (∀ j o,ops[j]?=some o→listed.getD j false=true→∀ e∈o.after,binds e=true→listed.getD e.on false=true) →
      (∀ j,listed.getD j false=true→j<m)→fuel+cnt (fun j=>listed.getD j false) m=ops.size →
      Inv ops E m M AL R a w (fun j=>listed.getD j false) f a' X→wpAny P .any ops Q fuel listed a' X:=by
  intro fuel
  induction fuel with
  | zero =>
    intro listed f a' X hsz hcl hlt hc hI
    have hcm:cnt (fun j=>listed.getD j false) m≤m:=m7 _ _
    have hmm:m=ops.size:=by have:=hF.le;omega
    have hall:∀ j,j<m→listed.getD j false=true:=fun j hj=>by
      cases h:listed.getD j false
      · have:=ra (D:=fun j=>listed.getD j false) (i:=j) h hj;omega
      · rfl
    exact fin hF hfin hsz hall hlt hI (by omega)
  | succ fuel ih =>
    intro listed f a' X hsz hcl hlt hc hI
    by_cases hall:∀ j,j<m→listed.getD j false=true
    · have hcm:=az (D:=fun j=>listed.getD j false) hall
      exact fin hF hfin hsz hall hlt hI (by omega)
    · refine ⟨fun h=>?_,fun i hi=>?_⟩
      · exfalso
        -- the first that is not done may come up
        have:∀ n,n≤m→(∀ j,j<n→listed.getD j false=true):=by
          intro n
          induction n with
          | zero=>intro _ j hj;omega
          | succ n ihn =>
            intro hn j hj
            by_cases hjn:j<n
            · exact ihn (by omega) j hjn
            · obtain rfl:j=n:=by omega
              cases hd:listed.getD j false
              · exfalso
                have hjs:j<ops.size:=by have:=hF.le;omega
                have hmem:j∈Region.ready .any ops listed:=by
                  rw [mem_ready]
                  have hjl:j<listed.size:=by omega
                  refine ⟨by simpa [hjl] using hd,_,qR hjs,fun e he hb=>ihn (by omega) _ (hF.up j _ (qR hjs) e he hb)⟩
                rw [h] at hmem
                cases hmem
              · rfl
        exact hall (this m (zG _))
      · obtain ⟨hi0,o,ho,hdep⟩:=mem_ready.1 hi
        have his:i<ops.size:=(Array.getElem?_eq_some_iff.1 ho).1
        have hil:i<listed.size:=by omega
        have hid:listed.getD i false=false:=by simpa [hil] using hi0
        have anc:=fun i o hio hd k hk hb=>anc hF hcl i i o (zG _) hio hd k (zP hk hF.le) hb
        have him:i<m:=by
          rcases qB i m with h | h
          · exact h
          · exact absurd (fun k hk=>anc i o ho hdep k hk (hF.late i h his k (by omega))) hall
        -- what waits for it is not
        have hnd:∀ j,j<m→listed.getD j false=true→nd M i j=true:=fun j hj hd=>by
          have h1:j≠i:=fun e=>by rw [e,hid] at hd;cases hd
          have hjs:j<ops.size:=by have:=hF.le;omega
          have h2:(M j).testBit i=false:=by
            cases hb:(M j).testBit i
            · rfl
            · have:=anc j _ (qR hjs) (hcl j _ (qR hjs) hd) i him hb
              rw [hid] at this;cases this
          simp [nd,h1,h2]
        -- the slots as the step sees them
        obtain ⟨g,hg⟩:∃ g:Nat→Value,g=fun j=>if listed.getD j false=true then f j else ((dst ops j).map fun t=>a.tmps.getD t undef).getD undef:=⟨_,rfl⟩
        have hgf:∀ j,listed.getD j false=true→g j=f j:=fun j hj=>by rw [hg];simp only [hj,if_true]
        have hact:a'=put ops (nd M i) g (List.range m) a:=by
          rw [hI.act]
          refine fh a List.nodup_range (fun p hp q hq=>hF.own p q (List.mem_range.1 hp) (List.mem_range.1 hq)) (fun j hj hd=>⟨hnd j (List.mem_range.1 hj) hd,hgf j hd⟩) a (fun j _ hd t ht=>?_)
          rw [hg]
          simp only [hd,Bool.false_eq_true,if_false,ht,Option.map_some,wh]
        have hmask:∀ j,j<m→listed.getD j false=true→jb M j g=jb M j f:=fun j hj hd=>by
          funext k
          unfold jb
          split
          · rename_i hk
            rw [kz,beq_iff_eq] at hk
            rcases hk with rfl | hk
            · exact hgf _ hd
            · have hjs:j<ops.size:=by have:=hF.le;omega
              have hkj:=hF.bit j hjs k hk
              exact hgf k (anc j _ (qR hjs) (hcl j _ (qR hjs) hd) k (by omega) hk)
          · rfl
        rw [hact]
        refine hstep i him g X hI.ext (fun j hb=>?_) _ (fun a'' v X' ha hE hA hR'=>?_)
        · have hj:j<m:=by have:=hF.bit i his j hb;omega
          have hd:=anc i o ho hdep j hj hb
          show R j (jb M j g) X
          rw [hmask j hj hd]
          exact hI.said j hj hd
        · have hnew:∀ j,(listed.setIfInBounds i true).getD j false=(listed.getD j false || j==i):=fun j=>by
            by_cases hji:j=i
            · subst hji;simp [hil]
            · rw [Go.getD_set_ne false (fun e=>hji e.symm)];simp [hji]
          have hnin:∀ j,j<m→listed.getD j false=true→j≠i:=fun j _ hd e=>by rw [e,hid] at hd;cases hd
          have hupd:∀ j,listed.getD j false=true→upd g i v j=f j:=fun j hd=>by
            have hne:j≠i:=fun e=>by rw [e,hid] at hd;cases hd
            simp only [upd,hne,if_false];exact hgf j hd
          have hupi:upd g i v i=v:=by simp [upd]
          have hmk:∀ j,j<m→listed.getD j false=true→jb M j (upd g i v)=jb M j f:=fun j hj hd=>by
            rw [←hmask j hj hd]
            funext k
            unfold jb
            split
            · rename_i hk
              rw [kz,beq_iff_eq] at hk
              have hne:k≠i:=by
                rintro rfl
                rcases hk with rfl | hk
                · exact hnin _ hj hd rfl
                · have:=hnd j hj hd
                  simp [nd,hk] at this
              simp [upd,hne]
            · rfl
          refine ih _ (upd g i v) a'' X' (by simpa using hsz) (fun j oj hoj hd e he hb=>?_) (fun j hd=>?_) ?_ ⟨?_,hE1 _ _ _ hI.ext hE,fun j hj hd=>?_,fun j hj hd hal=>?_,fun j k hj hk hd hd' hal hal' hne=>?_⟩
          · rw [hnew] at hd ⊢
            rw [kz,beq_iff_eq] at hd ⊢
            rcases hd with hd | rfl
            · exact .inl (hcl j oj hoj hd e he hb)
            · rw [ho] at hoj;cases hoj;exact .inl (hdep e he hb)
          · rw [hnew,kz,beq_iff_eq] at hd
            rcases hd with hd | rfl
            · exact hlt j hd
            · exact him
          · rw [ay (D:=fun j=>listed.getD j false) (D':=fun j=>(listed.setIfInBounds i true).getD j false) hid (by rw [hnew];simp) (fun j hj=>by show (listed.setIfInBounds i true).getD j false=listed.getD j false;rw [hnew];simp [hj]) him]
            omega
          · rw [ha,aC (List.mem_range.2 him) List.nodup_range (fun j hj hne=>hF.own i j him (List.mem_range.1 hj) (yX hne)) (by simp [nd])]
            refine (fh a List.nodup_range (fun p hp q hq=>hF.own p q (List.mem_range.1 hp) (List.mem_range.1 hq)) (fun j hj hd=>⟨?_,rfl⟩) a (fun j hj hd t ht=>?_)).symm
            · rw [hnew,kz,beq_iff_eq] at hd
              rw [kz,beq_iff_eq]
              exact hd.imp (hnd j (List.mem_range.1 hj)) id
            · rw [hnew,Bool.or_eq_false_iff] at hd
              have hne:j≠i:=by simpa using hd.2
              simp only [upd,hne,if_false]
              rw [hg]
              simp only [hd.1,Bool.false_eq_true,if_false,ht,Option.map_some,wh]
          · rw [hnew,kz,beq_iff_eq] at hd
            by_cases hold:listed.getD j false=true
            · rw [hmk j hj hold]
              have:=hI.said j hj hold
              exact hR j hj f X this X' hE
            · obtain rfl:j=i:=hd.resolve_left hold
              exact hR' X' (hE0 _)
          · rw [hnew,kz,beq_iff_eq] at hd
            by_cases hold:listed.getD j false=true
            · obtain ⟨b,h1,h2⟩:=hI.at_ j hj hold hal
              exact ⟨b,(hupd j hold).trans h1,zP h2 (hE2 _ _ hE)⟩
            · obtain rfl:j=i:=hd.resolve_left hold
              rw [qE hal] at hA
              exact ⟨X.heap.size,hupi.trans hA.1,hA.2⟩
          · rw [hnew,kz,beq_iff_eq] at hd hd'
            have key:∀ j k,j<m→listed.getD j false=true→AL j=true→AL k=true→k=i→upd g i v j≠upd g i v k:=fun j k hj hold hal hal' hki heq=>by
              subst hki
              rw [qE hal'] at hA
              obtain ⟨b,h1,h2⟩:=hI.at_ j hj hold hal
              rw [hupd j hold,hupi,h1,hA.1] at heq
              injection heq with heq
              injection heq with heq
              injection heq with heq
              omega
            by_cases hold:listed.getD j false=true
            · by_cases hold':listed.getD k false=true
              · rw [hupd j hold,hupd k hold']
                exact hI.apart j k hj hk hold hold' hal hal' hne
              · exact key j k hj hold hal hal' (hd'.resolve_left hold')
            · have hji:=hd.resolve_left hold
              by_cases hold':listed.getD k false=true
              · exact fun e=>key k j hk hold' hal' hal hji e.symm
              · exact absurd (hji.trans (hd'.resolve_left hold').symm) hne
structure Way (p:Prop):Prop where
 out:p
def ze (P:Program) (ol:List Oper) (Q:Exit→Act→World→Prop):List Oper→Act→World→Prop
 | [],a,w=>Q .normal a w
 | o :: l,a,w=>∀ K:Act→World→Prop,(∀ a w,ze P ol Q l a w→K a w)→if Region.wanted o (yielded ol.toArray a.tmps)=true then Oper.wp P o a w K Q else K (a.put o.dst undef) w
def ws (n m:Nat):Array Bool:=((List.range n).map fun j=>decide (j<m)).toArray
theorem x9 {n m j:Nat} (h:j<n):(ws n m).getD j false=decide (j<m):=by
 simp [ws,h]
theorem ba {n m:Nat} (h:m<n):(ws n m).setIfInBounds m true=ws n (m+1):=by
 apply Array.ext
 · simp [ws]
 · intro k h1 h2
   have hk:k<n:=by simpa [ws] using h2
   by_cases hkm:k=m
   · subst hkm;simp [ws]
   · rw [Array.getElem_setIfInBounds_ne (by simpa [ws] using hk) (fun e=>hkm e.symm)]
     simp only [ws,List.getElem_toArray,List.getElem_map,List.getElem_range,decide_eq_decide]
     omega
theorem ze.sound {ol:List Oper} {M:Nat→Nat} {m:Nat} (hF:mJ ol.toArray M m):∀ (n m':Nat) (a:Act) (X:World),m≤m'→m'+n=ol.toArray.size→ze P ol Q (ol.drop m') a X→wpAny P .any ol.toArray Q n (ws ol.toArray.size m') a X:=by
  intro n
  induction n with
  | zero =>
    intro m' a X hm hn h
    have hnil:ol.drop m'=[]:=List.drop_eq_nil_of_le (by simp at hn;omega)
    rw [hnil] at h
    refine ⟨?_,h⟩
    cases hr:Region.ready .any ol.toArray (ws ol.toArray.size m') with
    | nil=>rfl
    | cons i l =>
      have hi:i∈Region.ready .any ol.toArray (ws ol.toArray.size m'):=by rw [hr];simp
      obtain ⟨h0,o,ho,_⟩:=mem_ready.1 hi
      have his:=(Array.getElem?_eq_some_iff.1 ho).1
      have h1:(ws ol.toArray.size m').getD i true=decide (i<m'):=by
        have:i<ol.length:=by simpa using his
        simp [ws,this]
      rw [h1,decide_eq_false_iff_not] at h0
      omega
  | succ n ih =>
    intro m' a X hm hn h
    have hms:m'<ol.length:=by simp at hn;omega
    have hms':m'<ol.toArray.size:=by simpa using hms
    have hcl:∀ j o,ol.toArray[j]?=some o→(ws ol.toArray.size m').getD j false=true→∀ e∈o.after,binds e=true→(ws ol.toArray.size m').getD e.on false=true:=fun j o ho hj e he hb=>by
      have hjs:=(Array.getElem?_eq_some_iff.1 ho).1
      have hlt:=hF.up j o ho e he hb
      rw [x9 hjs] at hj
      rw [x9 (by omega)]
      simp at hj ⊢;omega
    have hmem:m'∈Region.ready .any ol.toArray (ws ol.toArray.size m'):=by
      rw [mem_ready]
      refine ⟨?_,_,qR hms',fun e he hb=>?_⟩
      · simp [ws,hms]
      · have hlt:=hF.up m' _ (qR hms') e he hb
        rw [x9 (by omega)];simpa using hlt
    refine ⟨fun h0=>(by rw [h0] at hmem;cases hmem),fun i hi=>?_⟩
    obtain ⟨h0,o,ho,hdep⟩:=mem_ready.1 hi
    have his:=(Array.getElem?_eq_some_iff.1 ho).1
    have him:i=m':=by
      have h1:(ws ol.toArray.size m').getD i true=decide (i<m'):=by
        have:i<ol.length:=by simpa using his
        simp [ws,this]
      rw [h1,decide_eq_false_iff_not] at h0
      rcases qB m' i with hlt | hge
      · have:=anc hF hcl i i o (zG _) ho hdep m' hms' (hF.late i (by omega) his m' hlt)
        rw [x9 hms'] at this
        simp at this
      · omega
    subst him
    rw [qQ hms] at h
    have hoe:o=ol[i]:=by
      have:ol[i]?=some o:=by simpa using ho
      rw [qK hms] at this
      injection this with this
      exact this.symm
    rw [ba hms']
    refine wpOp_step ho fun K' hK'=>?_
    rw [hoe]
    exact h K' fun a w hc=>hK' a w (ih (i+1) a w (by omega) (by omega) hc)
theorem ze.next {ol:List Oper} {o:Oper} {l:List Oper} {a:Act} {w:World} (h:∀ K:Act→World→Prop,Way (∀ a w,Way (ze P ol Q l a w)→K a w)→Way (if Region.wanted o (yielded ol.toArray a.tmps)=true then Oper.wp P o a w K Q else K (a.put o.dst undef) w)):Way (ze P ol Q (o :: l) a w) :=
 ⟨fun K hK=>(h K ⟨fun a w hc=>hK a w hc.out⟩).out⟩
theorem ze.done {ol:List Oper} {a:Act} {w:World} (h:Q .normal a w):Way (ze P ol Q [] a w):=⟨h⟩
def sel (ops:Array Oper) (s:Nat→Bool) (l:List Nat):List (Nat×Nat):=l.filterMap fun j=>if s j then (dst ops j).map fun d=>(d,j) else none
def wT (f:Nat→Value):List (Nat×Nat)→Act→Act
 | [],a=>a
 | p :: l,a=>wT f l (a.put (some p.1) (f p.2))
theorem nM (s:Nat→Bool) (f:Nat→Value) (l:List Nat) (a:Act):put ops s f l a=wT f (sel ops s l) a:=by
  induction l generalizing a with
  | nil=>rfl
  | cons j l ih =>
    simp only [put,sel,List.filterMap_cons]
    rw [ih]
    cases s j
    · rfl
    · simp only [if_true]
      cases h:dst ops j with
      | none=>rfl
      | some d=>rfl
def wq (S:Nat→Prop):Nat→Nat→Prop
 | _,0=>True
 | k,n+1=>S k∧wq S (k+1) n
theorem wq.nil {S:Nat→Prop} {k:Nat} : wq S k 0:=trivial
theorem wq.cons {S:Nat→Prop} {k n:Nat} (k' n':Nat) (hk:k+1=k') (hn:n'+1=n) (h:S k) (hs:wq S k' n'):wq S k n:=by
 subst hk hn;exact ⟨h,hs⟩
theorem wq.out {S:Nat→Prop} : ∀ {n k:Nat},wq S k n→∀ i,k≤i→i<k+n→S i
  | 0,k,_,i,h1,h2=>by omega
  | n + 1, k, h, i, h1, h2 => by
    by_cases hi:i=k
    · subst hi;exact h.1
    · exact h.2.out i (by omega) (by omega)
def dU (P:Program) (ops:Array Oper) (Q:Exit→Act→World→Prop) (E:World→World→Prop) (m:Nat) (L:List Nat) (AL:List Nat) (R:Nat→(Nat→Value)→World→Prop) (a:Act) (w:World) (i:Nat):Prop :=
 sB P ops Q E m (fun i=>L.getD i 0) (fun i=>AL.contains i) (fun j f X=>R j (jb (fun i=>L.getD i 0) j f) X) a w i
theorem dU.intro {E:World→World→Prop} {m:Nat} {L AL:List Nat} {R:Nat→(Nat→Value)→World→Prop} {a:Act} {w:World} {i:Nat} {o:Oper} (pl:List (Nat×Nat)) (ho:ops[i]?=some o) (hpl:sel ops (nd (fun i=>L.getD i 0) i) (List.range m)=pl)
 (h : ∀ f X, E w X → Way (∀ j, (L.getD i 0).testBit j = true → R j (jb (fun i => L.getD i 0) j f) X) → ∀ K : Act → World → Prop,
  Way (∀ a' v X',a'=(wT f pl a).put o.dst v→E X X'→(if AL.contains i=true then v=.pointer (some ⟨X.heap.size,0,none⟩)∧X.heap.size<X'.heap.size else True)→(∀ Y,E X' Y→R i (jb (fun i=>L.getD i 0) i (upd f i v)) Y)→K a' X') →
  Way (if Region.wanted o (yielded ops (wT f pl a).tmps)=true then Oper.wp P o (wT f pl a) X K Q else K ((wT f pl a).put o.dst undef) X)) :
 dU P ops Q E m L AL R a w i:=sB.intro ho fun f X hX hR K hK=>by
 have h1:=h f X hX ⟨hR⟩ K
 rw [←hpl,←nM] at h1
 exact (h1 ⟨hK⟩).out
structure jU (P:Program) (ol:List Oper) (Q:Exit→Act→World→Prop) (E:World→World→Prop) (m:Nat) (L:List Nat) (AL:List Nat) (R:Nat→(Nat→Value)→World→Prop) (a:Act) (w:World) (i:Nat) (o:Oper):Prop where
 out:ol[i]?=some o→dU P ol.toArray Q E m L AL R a w i
theorem jU.intro {ol:List Oper} {E:World→World→Prop} {m:Nat} {L AL:List Nat} {R:Nat→(Nat→Value)→World→Prop} {a:Act} {w:World} {i:Nat} {o:Oper} (pl:List (Nat×Nat)) (hpl:sel ol.toArray (nd (fun i=>L.getD i 0) i) (List.range m)=pl)
 (h : ∀ f X, E w X → Way (∀ j, (L.getD i 0).testBit j = true → R j (jb (fun i => L.getD i 0) j f) X) → ∀ K : Act → World → Prop,
  Way (∀ a' v X',a'=(wT f pl a).put o.dst v→E X X'→(if AL.contains i=true then v=.pointer (some ⟨X.heap.size,0,none⟩)∧X.heap.size<X'.heap.size else True)→(∀ Y,E X' Y→R i (jb (fun i=>L.getD i 0) i (upd f i v)) Y)→K a' X') →
  Way (if Region.wanted o (yielded ol.toArray (wT f pl a).tmps)=true then Oper.wp P o (wT f pl a) X K Q else K ((wT f pl a).put o.dst undef) X)) :
 jU P ol Q E m L AL R a w i o:=⟨fun ho=>dU.intro pl (by simpa using ho) hpl h⟩
inductive qd (S:Nat→Oper→Prop) (F:List Oper→Prop):Nat→Nat→List Oper→Prop
 | fin {k:Nat} {l:List Oper} (h:F l):qd S F k 0 l
 | step {k n:Nat} {o:Oper} {l:List Oper} (h:S k o) (hs:qd S F (k+1) n l):qd S F k (n+1) (o :: l)
theorem qd.cons {S:Nat→Oper→Prop} {F:List Oper→Prop} {k n:Nat} {o:Oper} {l:List Oper} (k' n':Nat) (hk:k+1=k') (hn:n'+1=n) (h:S k o) (hs:qd S F k' n' l):qd S F k n (o :: l):=by
 subst hk hn;exact .step h hs
theorem qd.out {S:Nat→Oper→Prop} {F:List Oper→Prop} {n k:Nat} {l:List Oper} (h:qd S F k n l):∀ i,i<n→∃ o,l[i]?=some o∧S (k+i) o:=by
  induction h with
  | fin _=>intro i hi;omega
  | step h hs ih =>
    rename_i k n o l
    intro i hi
    match i with
    | 0=>exact ⟨o,rfl,h⟩
    | i + 1 =>
      obtain ⟨o',h1,h2⟩:=ih i (by omega)
      exact ⟨o',by simpa using h1,by rw [show k+(i+1)=k+1+i by omega];exact h2⟩
theorem qd.end_ {S:Nat→Oper→Prop} {F:List Oper→Prop} {n k:Nat} {l:List Oper} (h:qd S F k n l):F (l.drop n):=by
 induction h with
 | fin h=>exact h
 | step _ _ ih=>exact ih
theorem qU {b:Bool} {p q:Prop} (h:b=true) (hp:p):if b=true then p else q:=by rw [qE h];exact hp
theorem dA {n j:Nat} : (Array.replicate n false).getD j false=false:=by
 rw [Array.getD_eq_getD_getElem?,Array.getElem?_replicate]
 split <;> rfl
theorem zAb {E:World→World→Prop} (hE0:∀ w,E w w) (hE1:∀ a b c,E a b→E b c→E a c) (hE2:∀ a b,E a b→a.heap.size≤b.heap.size)
 {a:Act} {w X0:World} (hX0:E w X0) (m:Nat) (L AL:List Nat) (R:Nat→(Nat→Value)→World→Prop) (hok:ok ops (fun i=>L.getD i 0) m=true)
 (hstep:wq (dU P ops Q E m L AL R a w) 0 m) (pl:List (Nat×Nat)) (hpl:sel ops (fun _=>true) (List.range m)=pl)
 (hfin : ∀ f X, E w X → (∀ j, j < m → R j (jb (fun i => L.getD i 0) j f) X) → (∀ j, j < m → AL.contains j = true → ∃ b, f j = .pointer (some ⟨b, 0, none⟩) ∧ b < X.heap.size) → (∀ j k, j < m → k < m → AL.contains j = true → AL.contains k = true → j ≠ k → f j ≠ f k) →
  wpAny P .any ops Q (ops.size - m) (((List.range ops.size).map fun j=>decide (j<m)).toArray) (wT f pl a) X):wpAny P .any ops Q ops.size (Array.replicate ops.size false) a X0:=by
 have hF:=ok.form hok
 refine par hE0 hE1 hE2 (R:=fun j f X=>∀ Y,E X Y→R j f Y) (M:=fun i=>L.getD i 0) (AL:=fun i=>AL.contains i) (m:=m) (a:=a) (w:=w) hF (fun j _ f X h Y hY Z hZ=>h Z (hE1 _ _ _ hY hZ))
  (fun i hi f X hX hR K hK=>?_) (fun f X hX hR h1 h2=>?_) ops.size _ (fun _=>undef) a X0 (by simp) (fun j o _ h=>(by rw [dA] at h;cases h)) (fun j h=>(by rw [dA] at h;cases h)) ?_ ⟨?_,hX0,fun j _ h=>(by rw [dA] at h;cases h),fun j _ h=>(by rw [dA] at h;cases h),fun j k _ _ h=>(by rw [dA] at h;cases h)⟩
 · refine hstep.out i (xD _) (by omega) f X hX (fun j hj=>hR j hj X (hE0 _)) K (fun a' v X' ha hE hA hR'=>hK a' v X' ha hE hA (fun Y hY Z hZ=>hR' Z (hE1 _ _ _ hY hZ)))
 · have:=hfin f X hX (fun j hj=>hR j hj X (hE0 _)) h1 h2
   rw [←hpl,←nM] at this
   exact this
 · have:∀ n,cnt (fun j=>(Array.replicate ops.size false).getD j false) n=0:=fun n=>by
    induction n with
    | zero=>rfl
    | succ n ih=>rw [cnt,ih,dA];rfl
   rw [this];rfl
 · have:∀ (l:List Nat) (a:Act),put ops (fun j=>(Array.replicate ops.size false).getD j false) (fun _=>undef) l a=a:=fun l=>by
    induction l with
    | nil=>intro a;rfl
    | cons j l ih=>intro a;rw [put,dA];exact ih _
   exact (this _ _).symm
structure Fin (P:Program) (ol:List Oper) (Q:Exit→Act→World→Prop) (E:World→World→Prop) (m:Nat) (L AL:List Nat) (R:Nat→(Nat→Value)→World→Prop) (pl:List (Nat×Nat)) (a:Act) (w:World) (l:List Oper):Prop where
 out:∀ f X,E w X→(∀ j,j<m→R j (jb (fun i=>L.getD i 0) j f) X)→(∀ j,j<m→AL.contains j=true→∃ b,f j=.pointer (some ⟨b,0,none⟩)∧b<X.heap.size)→(∀ j k,j<m→k<m→AL.contains j=true→AL.contains k=true→j≠k→f j≠f k)→Way (ze P ol Q l (wT f pl a) X)
theorem fO {E:World→World→Prop} (hE0:∀ w,E w w) (hE1:∀ a b c,E a b→E b c→E a c) (hE2:∀ a b,E a b→a.heap.size≤b.heap.size)
 {ol:List Oper} {a:Act} {w X0:World} (hX0:E w X0) (m:Nat) (L AL:List Nat) (R:Nat→(Nat→Value)→World→Prop) (hok:ok ol.toArray (fun i=>L.getD i 0) m=true) (pl:List (Nat×Nat)) (hpl:sel ol.toArray (fun _=>true) (List.range m)=pl)
 (hstep:qd (jU P ol Q E m L AL R a w) (Fin P ol Q E m L AL R pl a w) 0 m ol):wpAny P .any ol.toArray Q ol.toArray.size (Array.replicate ol.toArray.size false) a X0:=by
 refine zAb hE0 hE1 hE2 hX0 m L AL R hok ?_ pl hpl (fun f X hX hR h1 h2=>?_)
 · have key:∀ i,i<m→dU P ol.toArray Q E m L AL R a w i:=fun i hi=>by
    obtain ⟨o,h1,h2⟩:=hstep.out i hi
    rw [kE] at h2
    exact h2.out h1
   have:∀ n k,k+n=m→wq (dU P ol.toArray Q E m L AL R a w) k n:=fun n=>by
    induction n with
    | zero=>intro k _;trivial
    | succ n ih=>intro k hk;exact ⟨key k (by omega),ih (k+1) (by omega)⟩
   exact this m 0 (by omega)
 · have hF:=ok.form hok
   have h3:=(hstep.end_.out f X hX hR h1 h2).out
   exact ze.sound hF (ol.toArray.size - m) m _ X (zG _) (by have:=hF.le;omega) h3
theorem mE {ol:List Oper} {M:Nat→Nat} {m:Nat} (hF:mJ ol.toArray M m):∀ (n m':Nat) (a:Act) (X:World),m'+n=ol.toArray.size→wpAny P .any ol.toArray Q n (ws ol.toArray.size m') a X→wpOps P ol.toArray Q (List.range' m' n) a X:=by
  intro n
  induction n with
  | zero=>intro m' a X _ h;exact h.2
  | succ n ih =>
    intro m' a X hn h
    have hms':m'<ol.toArray.size:=by omega
    have hmem:m'∈Region.ready .any ol.toArray (ws ol.toArray.size m'):=by
      rw [mem_ready]
      refine ⟨?_,_,qR hms',fun e he hb=>?_⟩
      · have:m'<ol.length:=by simpa using hms'
        simp [ws,this]
      · have hlt:=hF.up m' _ (qR hms') e he hb
        rw [x9 (by omega)];simpa using hlt
    rw [List.range'_succ,wpOps_cons]
    refine wpOp_mono (fun a w hw=>?_) (h.2 m' hmem)
    rw [ba hms'] at hw
    exact ih (m'+1) a w (by omega) hw
theorem dl (n:Nat):Array.replicate n false=ws n 0:=by
 apply Array.ext
 · simp [ws]
 · intro k h1 h2
   simp [ws]
theorem qD {ol:List Oper} {id:Nat} {a:Act} {w:World} (hm:P.follows .mixedOrders=true) (m:Nat) (L AL:List Nat) (R:Nat→(Nat→Value)→World→Prop) (hok:ok ol.toArray (fun i=>L.getD i 0) m=true) (pl:List (Nat×Nat)) (hpl:sel ol.toArray (fun _=>true) (List.range m)=pl)
 (hstep:qd (jU P ol Q Ext m L AL R a w) (Fin P ol Q Ext m L AL R pl a w) 0 m ol):(Code.region id ol.toArray true).wp P Q a w :=
 wp_region_any hm (fO Ext.refl (fun _ _ _=>Ext.trans) (fun _ _=>Ext.bsize) (Ext.drew w) m L AL R hok pl hpl hstep)
theorem zg {ol:List Oper} {id:Nat} {a:Act} {w:World} (m:Nat) (L AL:List Nat) (R:Nat→(Nat→Value)→World→Prop) (hok:ok ol.toArray (fun i=>L.getD i 0) m=true) (pl:List (Nat×Nat)) (hpl:sel ol.toArray (fun _=>true) (List.range m)=pl)
 (hstep:qd (jU P ol Q Ext m L AL R a w) (Fin P ol Q Ext m L AL R pl a w) 0 m ol):(Code.region id ol.toArray false).wp P Q a w:=by
 refine wp_region ?_
 have h:=fO Ext.refl (fun _ _ _=>Ext.trans) (fun _ _=>Ext.bsize) (Ext.refl w) m L AL R hok pl hpl hstep
 rw [dl] at h
 rw [List.range_eq_range']
 exact mE (ok.form hok) _ 0 a w (by omega) h
end
theorem S {P:Program} {Q:Exit→Act→World→Prop} {ol:List Oper} {E:World→World→Prop} {m:Nat} {L AL:List Nat} {R:Nat→(Nat→Value)→World→Prop} {a:Act} {w:World} {F:List Oper→Prop} {k n:Nat} {o:Oper} {l:List Oper} (k' n':Nat) (pl:List (Nat×Nat))
 (h : ∀ f X, E w X → Way (∀ j, (L.getD k 0).testBit j = true → R j (jb (fun i => L.getD i 0) j f) X) → ∀ K : Act → World → Prop,
  Way (∀ a' v X',a'=(wT f pl a).put o.dst v→E X X'→(if AL.contains k=true then v=.pointer (some ⟨X.heap.size,0,none⟩)∧X.heap.size<X'.heap.size else True)→(∀ Y,E X' Y→R k (jb (fun i=>L.getD i 0) k (upd f k v)) Y)→K a' X') →
  Way (if Region.wanted o (yielded ol.toArray (wT f pl a).tmps)=true then Oper.wp P o (wT f pl a) X K Q else K ((wT f pl a).put o.dst undef) X))
 (hs:qd (jU P ol Q E m L AL R a w) F k' n' l) (hk:k+1=k':=by rfl) (hn:n'+1=n:=by rfl) (hpl:sel ol.toArray (nd (fun i=>L.getD i 0) k) (List.range m)=pl:=by kernel_rfl) :
 qd (jU P ol Q E m L AL R a w) F k n (o :: l):=qd.cons k' n' hk hn (jU.intro pl hpl h) hs
theorem xW {f:Nat→Value} {j:Nat} {u:Value} (h:f j=u):f=upd f j u:=by
 funext i
 unfold upd
 split
 · rename_i e;rw [e];exact h
 · rfl
theorem vx {P:Program} {Q:Exit→Act→World→Prop} {ol:List Oper} {m:Nat} {L AL:List Nat} {R:Nat→(Nat→Value)→World→Prop} {a:Act} {w:World} {F:List Oper→Prop} {k n:Nat} {o:Oper} {l:List Oper} {k' n':Nat} {v:Value} (g:(Nat→Value)→Nat→Value)
 (hs:qd (jU P ol Q Ext m L AL R a w) F k' n' l) (hg:∀ f X,(∀ j,(L.getD k 0).testBit j=true→R j (jb (fun i=>L.getD i 0) j f) X)→f=g f)
 (hR:∀ f X,f k=v→R k (jb (fun i=>L.getD i 0) k f) X) (hk:k+1=k') (hn:n'+1=n) (ha:AL.contains k=false)
 (hw:∀ f,Region.wanted o (yielded ol.toArray (put ol.toArray (nd (fun i=>L.getD i 0) k) (g f) (List.range m) a).tmps)=true)
 (hrun:∀ f X,Ext w X→(execOp (put ol.toArray (nd (fun i=>L.getD i 0) k) (g f) (List.range m) a).eval o).run P X=.ok (.value v) X):qd (jU P ol Q Ext m L AL R a w) F k n (o :: l):=by
 refine qd.cons k' n' hk hn ⟨fun ho=>?_⟩ hs
 intro f X hX hR' K hK
 have hf:=hg f X hR'
 have ho':ol.toArray[k]?=some o:=by simpa using ho
 refine wpOp_step ho' fun K' hK'=>?_
 have hA:put ol.toArray (nd (fun i=>L.getD i 0) k) f (List.range m) a=put ol.toArray (nd (fun i=>L.getD i 0) k) (g f) (List.range m) a:=congrArg (fun f=>put ol.toArray (nd (fun i=>L.getD i 0) k) f (List.range m) a) hf
 rw [qE (by rw [hA];exact hw f)]
 unfold Oper.wp
 rw [show execOp (put ol.toArray (nd (fun i=>L.getD i 0) k) f (List.range m) a).eval o=execOp (put ol.toArray (nd (fun i=>L.getD i 0) k) (g f) (List.range m) a).eval o by rw [hA],hrun f X hX]
 show K' ((put ol.toArray (nd (fun i=>L.getD i 0) k) f (List.range m) a).put o.dst v) X
 refine hK' _ _ (hK _ v X ?_ (Ext.refl _) (by show (if AL.contains k=true then _ else True);rw [zr (by rw [ha];decide)];trivial) (fun Y _=>hR _ _ (by simp [upd])))
 have:o.dst=dst ol.toArray k:=by rw [dst,ho'];rfl
 rw [this]
section
variable {P:Program} {Q:Exit→Act→World→Prop} {ol:List Oper} {m:Nat} {L AL:List Nat} {R:Nat→(Nat→Value)→World→Prop} {a:Act} {w:World} {F:List Oper→Prop} {k n:Nat} {o:Oper} {l:List Oper} {v u u':Value}
theorem v0 (k' n':Nat) (hs:qd (jU P ol Q Ext m L AL R a w) F k' n' l) (hR:∀ f X,f k=v→R k (jb (fun i=>L.getD i 0) k f) X:=by exact fun _ _ h=>h) (hk:k+1=k':=by rfl) (hn:n'+1=n:=by rfl) (ha:AL.contains k=false:=by kernel_rfl)
 (hw:∀ f,Region.wanted o (yielded ol.toArray (put ol.toArray (nd (fun i=>L.getD i 0) k) f (List.range m) a).tmps)=true:=by intro _;kernel_rfl)
 (hrun:∀ f X,(execOp (put ol.toArray (nd (fun i=>L.getD i 0) k) f (List.range m) a).eval o).run P X=.ok (.value v) X:=by intro _ _;kernel_rfl):qd (jU P ol Q Ext m L AL R a w) F k n (o :: l) :=
 vx (fun f=>f) hs (fun _ _ _=>rfl) hR hk hn ha hw (fun f X _=>hrun f X)
theorem v1 (k' n' j:Nat) (hs:qd (jU P ol Q Ext m L AL R a w) F k' n' l) (hr:∀ f X,R j (jb (fun i=>L.getD i 0) j f) X→f j=u:=by exact fun _ _ h=>h) (hR:∀ f X,f k=v→R k (jb (fun i=>L.getD i 0) k f) X:=by exact fun _ _ h=>h) (hk:k+1=k':=by rfl) (hn:n'+1=n:=by rfl) (ha:AL.contains k=false:=by kernel_rfl)
 (hj:(L.getD k 0).testBit j=true:=by kernel_rfl)
 (hw:∀ f,Region.wanted o (yielded ol.toArray (put ol.toArray (nd (fun i=>L.getD i 0) k) (upd f j u) (List.range m) a).tmps)=true:=by intro _;kernel_rfl)
 (hrun:∀ f X,(execOp (put ol.toArray (nd (fun i=>L.getD i 0) k) (upd f j u) (List.range m) a).eval o).run P X=.ok (.value v) X:=by intro _ _;kernel_rfl):qd (jU P ol Q Ext m L AL R a w) F k n (o :: l) :=
 vx (fun f=>upd f j u) hs (fun f X h=>xW (hr f X (h j hj))) hR hk hn ha hw (fun f X _=>hrun f X)
theorem v2 (k' n' j i:Nat) (hs:qd (jU P ol Q Ext m L AL R a w) F k' n' l) (hr:∀ f X,R j (jb (fun i=>L.getD i 0) j f) X→f j=u:=by exact fun _ _ h=>h) (hr':∀ f X,R i (jb (fun i=>L.getD i 0) i f) X→f i=u':=by exact fun _ _ h=>h) (hR:∀ f X,f k=v→R k (jb (fun i=>L.getD i 0) k f) X:=by exact fun _ _ h=>h) (hk:k+1=k':=by rfl) (hn:n'+1=n:=by rfl) (ha:AL.contains k=false:=by kernel_rfl)
 (hj:(L.getD k 0).testBit j=true:=by kernel_rfl) (hi:(L.getD k 0).testBit i=true:=by kernel_rfl)
 (hw:∀ f,Region.wanted o (yielded ol.toArray (put ol.toArray (nd (fun i=>L.getD i 0) k) (upd (upd f j u) i u') (List.range m) a).tmps)=true:=by intro _;kernel_rfl)
 (hrun:∀ f X,(execOp (put ol.toArray (nd (fun i=>L.getD i 0) k) (upd (upd f j u) i u') (List.range m) a).eval o).run P X=.ok (.value v) X:=by intro _ _;kernel_rfl):qd (jU P ol Q Ext m L AL R a w) F k n (o :: l) :=
 vx (fun f=>upd (upd f j u) i u') hs (fun f X h=>by
  have h1:=xW (hr f X (h j hj))
  have h2:=xW (hr' f X (h i hi))
  rw [←h1,←h2]) hR hk hn ha hw (fun f X _=>hrun f X)
theorem sk (k' n' j:Nat) (hs:qd (jU P ol Q Ext m L AL R a w) F k' n' l) (hr:∀ f X,R j (jb (fun i=>L.getD i 0) j f) X→f j=u:=by exact fun _ _ h=>h) (hR:∀ f X,f k=undef→R k (jb (fun i=>L.getD i 0) k f) X:=by exact fun _ _ h=>h) (hk:k+1=k':=by rfl) (hn:n'+1=n:=by rfl) (ha:AL.contains k=false:=by kernel_rfl)
 (hj:(L.getD k 0).testBit j=true:=by kernel_rfl)
 (hw:∀ f,Region.wanted o (yielded ol.toArray (put ol.toArray (nd (fun i=>L.getD i 0) k) (upd f j u) (List.range m) a).tmps)=false:=by intro _;kernel_rfl):qd (jU P ol Q Ext m L AL R a w) F k n (o :: l):=by
 refine qd.cons k' n' hk hn ⟨fun ho=>?_⟩ hs
 intro f X hX hR' K hK
 have hf:=xW (hr f X (hR' j hj))
 have ho':ol.toArray[k]?=some o:=by simpa using ho
 refine wpOp_step ho' fun K' hK'=>?_
 have hA:put ol.toArray (nd (fun i=>L.getD i 0) k) f (List.range m) a=put ol.toArray (nd (fun i=>L.getD i 0) k) (upd f j u) (List.range m) a:=congrArg (fun f=>put ol.toArray (nd (fun i=>L.getD i 0) k) f (List.range m) a) hf
 rw [zr (by rw [hA,hw f];decide)]
 refine hK' _ _ (hK _ undef X ?_ (Ext.refl _) (by show (if AL.contains k=true then _ else True);rw [zr (by rw [ha];decide)];trivial) (fun Y _=>hR _ _ (by simp [upd])))
 have:o.dst=dst ol.toArray k:=by rw [dst,ho'];rfl
 rw [this]
theorem al (k' n':Nat) {ob:Obj} (hs:qd (jU P ol Q Ext m L AL R a w) F k' n' l) (hR:∀ f X,(∃ b,f k=.pointer (some ⟨b,0,none⟩)∧w.heap.size≤b∧X.heap[b]?=some ob)→R k (jb (fun i=>L.getD i 0) k f) X:=by exact fun _ _ h=>h) (hk:k+1=k':=by rfl) (hn:n'+1=n:=by rfl)
 (hw:∀ f,Region.wanted o (yielded ol.toArray (put ol.toArray (nd (fun i=>L.getD i 0) k) f (List.range m) a).tmps)=true:=by intro _;kernel_rfl)
 (hrun:∀ f X,(execOp (put ol.toArray (nd (fun i=>L.getD i 0) k) f (List.range m) a).eval o).run P X=.ok (.value (.pointer (some ⟨X.heap.size,0,none⟩))) (X.alloc ob):=by intro _ _;kernel_rfl):qd (jU P ol Q Ext m L AL R a w) F k n (o :: l):=by
 refine qd.cons k' n' hk hn ⟨fun ho=>?_⟩ hs
 intro f X hX hR' K hK
 have ho':ol.toArray[k]?=some o:=by simpa using ho
 refine wpOp_step ho' fun K' hK'=>?_
 rw [qE (hw f)]
 unfold Oper.wp
 rw [hrun f X]
 show K' ((put ol.toArray (nd (fun i=>L.getD i 0) k) f (List.range m) a).put o.dst _) (X.alloc ob)
 refine hK' _ _ (hK _ (.pointer (some ⟨X.heap.size,0,none⟩)) (X.alloc ob) ?_ (Ext.alloc _ _) (by show (if AL.contains k=true then _ else True);split;exact ⟨rfl,by simp⟩;trivial) (fun Y hY=>hR _ _ ⟨X.heap.size,by simp [upd],hX.bsize,hY.at_ (zN _ _)⟩))
 have:o.dst=dst ol.toArray k:=by rw [dst,ho'];rfl
 rw [this]
theorem vy {k' n':Nat} (hs:qd (jU P ol Q Ext m L AL R a w) F k' n' l) (hk:k+1=k') (hn:n'+1=n) (ha:AL.contains k=false)
 (hw:∀ f,Region.wanted o (yielded ol.toArray (put ol.toArray (nd (fun i=>L.getD i 0) k) f (List.range m) a).tmps)=true)
 (hrun:∀ f X,Ext w X→∃ v,(execOp (put ol.toArray (nd (fun i=>L.getD i 0) k) f (List.range m) a).eval o).run P X=.ok (.value v) X∧∀ Y,Ext X Y→R k (jb (fun i=>L.getD i 0) k (upd f k v)) Y):qd (jU P ol Q Ext m L AL R a w) F k n (o :: l):=by
 refine qd.cons k' n' hk hn ⟨fun ho=>?_⟩ hs
 intro f X hX hR' K hK
 have ho':ol.toArray[k]?=some o:=by simpa using ho
 refine wpOp_step ho' fun K' hK'=>?_
 rw [qE (hw f)]
 unfold Oper.wp
 obtain ⟨v,h1,h2⟩:=hrun f X hX
 rw [h1]
 show K' ((put ol.toArray (nd (fun i=>L.getD i 0) k) f (List.range m) a).put o.dst v) X
 refine hK' _ _ (hK _ v X ?_ (Ext.refl _) (by show (if AL.contains k=true then _ else True);rw [zr (by rw [ha];decide)];trivial) h2)
 have:o.dst=dst ol.toArray k:=by rw [dst,ho'];rfl
 rw [this]
theorem cx {F':FuncId} {args:(Nat→Value)→Array Value} {k' n':Nat} (hs:qd (jU P ol Q Ext m L AL R a w) F k' n' l) (hk:k+1=k') (hn:n'+1=n) (ha:AL.contains k=false)
 (hw:∀ f X,(∀ j,(L.getD k 0).testBit j=true→R j (jb (fun i=>L.getD i 0) j f) X)→Region.wanted o (yielded ol.toArray (put ol.toArray (nd (fun i=>L.getD i 0) k) f (List.range m) a).tmps)=true)
 (hrun:∀ f X,(execOp (put ol.toArray (nd (fun i=>L.getD i 0) k) f (List.range m) a).eval o).run P X=.ok (.enter F' (args f)) X)
 (hc:∀ f X,Ext w X→Way (∀ j,(L.getD k 0).testBit j=true→R j (jb (fun i=>L.getD i 0) j f) X)→Calls P F' (args f) X fun e w'=>∃ v,e=.returned v∧Ext X w'∧∀ Y,Ext w' Y→R k (jb (fun i=>L.getD i 0) k (upd f k v)) Y):qd (jU P ol Q Ext m L AL R a w) F k n (o :: l):=by
 refine qd.cons k' n' hk hn ⟨fun ho=>?_⟩ hs
 intro f X hX hR' K hK
 have ho':ol.toArray[k]?=some o:=by simpa using ho
 refine wpOp_step ho' fun K' hK'=>?_
 rw [qE (hw f X hR')]
 unfold Oper.wp
 rw [hrun f X,Oper.upon_enter]
 refine (hc f X hX ⟨hR'⟩).mono ?_
 rintro e w' ⟨v,rfl,hE,hY⟩
 refine hK' _ _ (hK _ v w' ?_ hE (by show (if AL.contains k=true then _ else True);rw [zr (by rw [ha];decide)];trivial) hY)
 have:o.dst=dst ol.toArray k:=by rw [dst,ho'];rfl
 rw [this]
theorem c0 (k' n':Nat) (args:(Nat→Value)→Array Value) {F':FuncId} (hc:∀ f X,Ext w X→Way (∀ j,(L.getD k 0).testBit j=true→R j (jb (fun i=>L.getD i 0) j f) X)→Calls P F' (args f) X fun e w'=>∃ v,e=.returned v∧Ext X w'∧∀ Y,Ext w' Y→R k (jb (fun i=>L.getD i 0) k (upd f k v)) Y) (hs:qd (jU P ol Q Ext m L AL R a w) F k' n' l)
 (hk:k+1=k':=by rfl) (hn:n'+1=n:=by rfl) (ha:AL.contains k=false:=by kernel_rfl)
 (hw:∀ f,Region.wanted o (yielded ol.toArray (put ol.toArray (nd (fun i=>L.getD i 0) k) f (List.range m) a).tmps)=true:=by intro _;kernel_rfl)
 (hrun:∀ f X,(execOp (put ol.toArray (nd (fun i=>L.getD i 0) k) f (List.range m) a).eval o).run P X=.ok (.enter F' (args f)) X:=by intro _ _;kernel_rfl):qd (jU P ol Q Ext m L AL R a w) F k n (o :: l) :=
 cx hs hk hn ha (fun f _ _=>hw f) hrun hc
theorem c1 (k' n' j:Nat) (args:(Nat→Value)→Array Value) {F':FuncId} (hc:∀ f X,Ext w X→Way (∀ j,(L.getD k 0).testBit j=true→R j (jb (fun i=>L.getD i 0) j f) X)→Calls P F' (args f) X fun e w'=>∃ v,e=.returned v∧Ext X w'∧∀ Y,Ext w' Y→R k (jb (fun i=>L.getD i 0) k (upd f k v)) Y) (hs:qd (jU P ol Q Ext m L AL R a w) F k' n' l)
 (hr:∀ f X,R j (jb (fun i=>L.getD i 0) j f) X→f j=u:=by exact fun _ _ h=>h) (hk:k+1=k':=by rfl) (hn:n'+1=n:=by rfl) (ha:AL.contains k=false:=by kernel_rfl) (hj:(L.getD k 0).testBit j=true:=by kernel_rfl)
 (hw:∀ f,Region.wanted o (yielded ol.toArray (put ol.toArray (nd (fun i=>L.getD i 0) k) (upd f j u) (List.range m) a).tmps)=true:=by intro _;kernel_rfl)
 (hrun:∀ f X,(execOp (put ol.toArray (nd (fun i=>L.getD i 0) k) f (List.range m) a).eval o).run P X=.ok (.enter F' (args f)) X:=by intro _ _;kernel_rfl):qd (jU P ol Q Ext m L AL R a w) F k n (o :: l) :=
 cx hs hk hn ha (fun f X h=>by rw [xW (hr f X (h j hj))];exact hw f) hrun hc
theorem gn {t:TypeId} {p:Addr} {X:World} (hc:X.cell? p=some v) (ht:(isAgg t).run P X=.ok false X):(Instr.loadAt t (.pointer (some p))).run P X=.ok v X:=by
 unfold Instr.loadAt loadVar
 simp only [wg]
 rw [show (Instr.sureAddr (.pointer (some p))).run P X=.ok p X from rfl,qk,ht,qk,zr (by decide)]
 unfold load
 simp only [Sem.run,hc]
theorem ld0 (k' n':Nat) {p:Addr} {t:TypeId} {x:Operand} (hc:w.cell? p=some v) (hs:qd (jU P ol Q Ext m L AL R a w) F k' n' l) (hR:∀ f X,f k=v→R k (jb (fun i=>L.getD i 0) k f) X:=by exact fun _ _ h=>h) (hk:k+1=k':=by rfl) (hn:n'+1=n:=by rfl) (ha:AL.contains k=false:=by kernel_rfl)
 (hw:∀ f,Region.wanted o (yielded ol.toArray (put ol.toArray (nd (fun i=>L.getD i 0) k) f (List.range m) a).tmps)=true:=by intro _;kernel_rfl)
 (ho:o.op=.load t x:=by rfl) (hx:∀ f,(put ol.toArray (nd (fun i=>L.getD i 0) k) f (List.range m) a).eval x=.pointer (some p):=by intro _;kernel_rfl) (ht:∀ X,(isAgg t).run P X=.ok false X:=by intro _;kernel_rfl):qd (jU P ol Q Ext m L AL R a w) F k n (o :: l) :=
 vx (fun f=>f) hs (fun _ _ _=>rfl) hR hk hn ha hw (fun f X hX=>by
  unfold execOp
  simp only [ho,wg,hx,gn (hX.cell hc) (ht X),qk]
  rfl)
theorem ld1 (k' n' j:Nat) {p:Addr} {t:TypeId} {x:Operand} (hc:w.cell? p=some v) (hs:qd (jU P ol Q Ext m L AL R a w) F k' n' l) (hr:∀ f X,R j (jb (fun i=>L.getD i 0) j f) X→f j=u:=by exact fun _ _ h=>h) (hR:∀ f X,f k=v→R k (jb (fun i=>L.getD i 0) k f) X:=by exact fun _ _ h=>h) (hk:k+1=k':=by rfl) (hn:n'+1=n:=by rfl) (ha:AL.contains k=false:=by kernel_rfl)
 (hj:(L.getD k 0).testBit j=true:=by kernel_rfl)
 (hw:∀ f,Region.wanted o (yielded ol.toArray (put ol.toArray (nd (fun i=>L.getD i 0) k) (upd f j u) (List.range m) a).tmps)=true:=by intro _;kernel_rfl)
 (ho:o.op=.load t x:=by rfl) (hx:∀ f,(put ol.toArray (nd (fun i=>L.getD i 0) k) (upd f j u) (List.range m) a).eval x=.pointer (some p):=by intro _;kernel_rfl) (ht:∀ X,(isAgg t).run P X=.ok false X:=by intro _;kernel_rfl):qd (jU P ol Q Ext m L AL R a w) F k n (o :: l) :=
 vx (fun f=>upd f j u) hs (fun f X h=>xW (hr f X (h j hj))) hR hk hn ha hw (fun f X hX=>by
  unfold execOp
  simp only [ho,wg,hx,gn (hX.cell hc) (ht X),qk]
  rfl)
end
theorem k {A:Value→Act} {b:Act} {X:World} {H:Value→World→Prop} {G:Value→World→Prop} {K:Act→World→Prop} {v:Value}
 (hK:Way (∀ a' v X',a'=A v→Ext X X'→H v X'→(∀ Y,Ext X' Y→G v Y)→K a' X'))
 (hr:∀ Y,Ext X Y→G v Y:=by exact fun _ _=>rfl) (s:b=A v) (ha:H v X:=by exact trivial):K b X :=
 hK.out b v X s (Ext.refl X) ha hr
end Par
/- What lays the slots' values out. -/
theorem yA (f:Nat→Value) (i j:Nat) (l:List (Nat×Nat)) (L:List Value) (d:List Deferred):Par.wT f ((i,j) :: l) ⟨L.toArray,d⟩=Par.wT f l ⟨(L.set i (f j)).toArray,d⟩:=by
 simp only [Par.wT,Act.put,jd]
theorem yB (f:Nat→Value) (a:Act):Par.wT f [] a=a:=rfl
theorem yC (L:List Value) (d:List Deferred) (i:Nat) (v:Value):Act.put ⟨L.toArray,d⟩ (some i) v=⟨(L.set i v).toArray,d⟩:=by
 simp only [Act.put,jd]
theorem yD (x:Value) (l:List Value) (n:Nat) (v:Value):(x :: l).set (n+1) v=x :: l.set n v:=rfl
theorem yE (x:Value) (l:List Value) (v:Value):(x :: l).set 0 v=v :: l:=rfl
theorem yF:type_of% @Par.qd.fin:=@Par.qd.fin
theorem yZ:(∀ (f:Nat→Value) (i j:Nat) (l:List (Nat×Nat)) (L:List Value) (d:List Deferred),Par.wT f ((i,j)::l) ⟨L.toArray,d⟩=Par.wT f l ⟨(L.set i (f j)).toArray,d⟩)∧(∀ (f:Nat→Value) (a:Act),Par.wT f [] a=a)∧(∀ (L:List Value) (d:List Deferred) (i:Nat) (v:Value),Act.put ⟨L.toArray,d⟩ (some i) v=⟨(L.set i v).toArray,d⟩)∧(∀ (x:Value) (l:List Value) (n:Nat) (v:Value),(x::l).set (n+1) v=x::l.set n v)∧∀ (x:Value) (l:List Value) (v:Value),(x::l).set 0 v=v::l:=⟨yA,yB,yC,yD,yE⟩
end Go.Proofs.YtmlbicgpehchhaaGreat
namespace Go.Proofs.YtmlbicgpehchhaaGreat
theorem zK:type_of% @Par.ze.done:=@Par.ze.done
theorem zR:type_of% @Ext.alloc:=@Ext.alloc
theorem zT:type_of% @Par.v0:=@Par.v0
theorem zX:type_of% @Par.zg:=@Par.zg
theorem zZ:type_of% @Par.ze.next:=@Par.ze.next
theorem za:type_of% @Ext.trans:=@Ext.trans
theorem zc:type_of% @Par.qU:=@Par.qU
theorem zd:type_of% @Ext.refl:=@Ext.refl
theorem zj:type_of% @Par.qD:=@Par.qD
theorem zt:type_of% @Par.S:=@Par.S
theorem qC:type_of% @Par.c0:=@Par.c0
theorem qG:type_of% @Par.ld1:=@Par.ld1
theorem qL:type_of% @Par.v1:=@Par.v1
theorem qe:type_of% @Par.k:=@Par.k
theorem jl:type_of% @Par.sk:=@Par.sk
theorem ju:type_of% @Par.al:=@Par.al
theorem vv:type_of% @Par.v2:=@Par.v2
end Go.Proofs.YtmlbicgpehchhaaGreat
