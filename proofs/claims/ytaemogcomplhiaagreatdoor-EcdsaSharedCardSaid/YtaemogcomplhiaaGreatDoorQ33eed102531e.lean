/- EcdsaShared: for every curve or none and every two numbers the law answers true and leaves its arguments as they were, over the program's own table of constants. The card is tied. -/
import Derived.Test.YtaemogcomplhiaaGreatDoorQ5dcd53e86bad
set_option maxRecDepth 100000
set_option maxHeartbeats 16000000
namespace Go.Proofs.YtaemogcomplhiaaGreatDoor
open Go.RowKit
def wX (x m:Nat):Nat×Bool:=if(jp m m (x%m) 0 1).1=1 then((jp m m (x%m) 0 1).2,true)else(0,false)
theorem cX (A A':Option Addr)(c c' X M:Nat)(w:World)(h:RU w A c (digs 4294967296 X))(h':RU w A' c' (digs 4294967296 M))(hl:(digs 4294967296 X).length<30000)(hlM:(digs 4294967296 M).length≤30000)(hM2:2≤M) :
 Calls Tryz.prog 43 #[.slice A (digs 4294967296 X).length c,.slice A' (digs 4294967296 M).length c'] w fun e w'=>∃ A1 c1,e=.returned (.tuple #[.slice A1 (digs 4294967296 (wX X M).1).length c1,.bool (wX X M).2])∧RU w' A1 c1 (digs 4294967296 (wX X M).1)∧Below w.heap.size w w':=by
 have hm:=zF (xU A A' c c' X M w h h' (by omega) (by omega))
 have Hl:=zF hlM
 go_enter Tryz.func43,Tryz.ntmps43
 go_wp2_with fail
 refine hm.out.mono ?_
 rintro e w1 ⟨A1,c1,rfl,hR1,hB1⟩
 have hof:=zF (gT 1 w1 (by omega))
 go_wp2_with fail
 refine hof.out.mono ?_
 rintro e w2 ⟨A2,c2,rfl,hO2,hB2⟩
 have hB02:=hB1.trans (hB2.mono hB1.size)
 have zA:=h'.up hB02
 have zB:=hR1.up hB2
 have zD:=hO2.ru
 have hXm:=qL X (show 0<M by omega)
 clear hR1 hO2 hB1 hB2 hof hm h
 go_wp2
 go_loopw [6,7,8,9] (fun rv sv tv uv wr=>∃(A1 A2 A3 A4:Option Addr) (c1 c2 c3 c4 r s t u:Nat),rv=.slice A1 (digs 4294967296 r).length c1∧sv=.slice A2 (digs 4294967296 s).length c2∧tv=.slice A3 (digs 4294967296 t).length c3∧uv=.slice A4 (digs 4294967296 u).length c4 ∧
  RU wr A1 c1 (digs 4294967296 r)∧RU wr A2 c2 (digs 4294967296 s)∧RU wr A3 c3 (digs 4294967296 t)∧RU wr A4 c4 (digs 4294967296 u)∧r≤M∧s≤M∧t≤M∧u≤M∧Hid (jp M r s t u=jp M M (X%M) 0 1)∧Below w.heap.size w wr)
  (fun _ sv _ _ wr=>fL wr sv)
 case atStart=>exact⟨A',A1,none,A2,c',c1,0,c2,M,X%M,0,1,rfl,rfl,by rw[qV];rfl,rfl,zA,zB,by rw[qV];exact(OB.nil_ w2 0).ru,zD,by omega,by omega,by omega,by omega,zF rfl,hB02⟩
 case round =>
  clear zA zB zD hB02 hXm;obtain⟨A1,A2,A3,A4,c1,c2,c3,c4,r,s,t,u,rfl,rfl,rfl,rfl,zA,zB,zC,zD,hr,hs,ht,hu,hI,hB⟩:=hrel;have zw:=hB.size;have zM:=h'.up hB;by_cases h0:s=0
  · subst h0;have hI':=hI.out;rw[vP]at hI';rw[qV]at *;have hof:=zF (gT 1 wr (by omega));have hcm:=zF fun W (hW:Below wr.heap.size wr W) (A5:Option Addr) (c5:Nat) (h5:RU W A5 c5 (digs 4294967296 1))=>wV _ _ A1 A5 c1 c5 r 1 W (zA.up hW) h5;by_cases h1:r=1
    · have hans:wX X M=(t,true):=by rw[wX,←hI',qg h1]
      have hc1:vJ r 1=0:=by rw[h1];decide
      rw[hc1]at hcm;have Hans:=zF hans;clear hans hI hI' h1 hc1;go_wp2_with fail;refine hof.out.mono ?_;rintro e w' ⟨A5,c5,rfl,hO5,hB5⟩;have Hcm:=zF (hcm.out w' hB5 A5 c5 hO5.ru);go_wp2_with fail;refine Hcm.out.mono ?_;rintro e w' ⟨rfl,nd,rfl⟩;have hf:=(zC.up hB5).ud nd;have hBf:=jC (hB.trans (hB5.mono zw)) nd;clear hcm Hcm hof;go_wp2;go_ret2;exact⟨A3,c3,by rw[Hans.out];rfl,by rw[Hans.out];exact hf,hBf⟩
    · have hans:wX X M=(0,false):=by rw[wX,←hI',ql h1]
      have hc1:vJ r 1≠0:=fun e=>h1 (tV e);generalize vJ r 1=cv at *;have t2:(cv != 0)=true:=by simpa using hc1
      have Hans:=zF hans;clear hans hI hI' h1;go_wp2_with fail;refine hof.out.mono ?_;rintro e w' ⟨A5,c5,rfl,hO5,hB5⟩;have Hcm:=zF (hcm.out w' hB5 A5 c5 hO5.ru);go_wp2_with fail;refine Hcm.out.mono ?_;rintro e w' ⟨rfl,nd,rfl⟩;have hBf:=jC (hB.trans (hB5.mono zw)) nd;clear hcm Hcm hof;go_wp2;go_ret2;exact⟨none,0,by rw[Hans.out,qV];rfl,by rw[Hans.out,qV];exact(OB.nil_ _ 0).ru,hBf⟩
  · have kp:(0:Int)<((digs 4294967296 s).length:Int):=by
     have:0<(digs 4294967296 s).length:=by rw[jj (by omega) (by omega)];simp
     omega
    have hlM:=Hl.out;have hq1:=cU _ _ A1 A2 c1 c2 r s wr zA zB (fun b hb=>hb) (fun b hb=>hb) (by have:=xY hr hlM;omega) (by omega);have hqM:r/s≤M:=zK (vV _ _) hr;have hlM2:r%s≤M:=zK (Nat.mod_le _ _) hr;have Hq1:=zF hq1;have Hrd:=zF zB.readD;have hmod:=qL r (show 0<s by omega);have hstep:=zF (show jp M s (r%s) u ((t+M-r/s*u%M)%M)=jp M M (X%M) 0 1 by rw[←hI.out,xD h0]);clear hq1 hI;go_wp2_with fail;refine Hq1.out.mono ?_;rintro e w4 ⟨A5,c5,A6,c6,rfl,y5,y6,hB4⟩;have s4:=hB4.size;have Hm1:=zF (cW _ _ A5 A4 c5 c4 (r/s) u w4 y5.ru (zD.up hB4) (fun b hb=>hb) (fun b hb=>hb) (by have:=xY hqM hlM;omega) (by have:=xY hu hlM;omega));go_wp2_with fail;refine Hm1.out.mono ?_;rintro e w5 ⟨A7,c7,rfl,y7,hB5⟩;have hB45:=hB4.trans (hB5.mono s4);have hr5:=xU A7 A' c7 c' (r/s*u) M w5 y7.ru (zM.up hB45) (by have:=aa (xY hqM hlM) (xY hu hlM);omega) (by omega);have hlessM:=qL (r/s*u) (show 0<M by omega);generalize r/s*u%M=df at *;have Hr5:=zF hr5;clear hr5;go_wp2_with fail;refine Hr5.out.mono ?_;rintro e w6 ⟨A8,c8,rfl,y8,hB6⟩;have hB46:=hB45.trans (hB6.mono (by have:=hB45.size;omega));have Ha6:=zF (uY _ _ A3 A' c3 c' t M w6 (zC.up hB46) (zM.up hB46) (fun b hb=>hb) (fun b hb=>hb) (by have:=xY ht hlM;omega) (by omega));go_wp2_with fail;refine Ha6.out.mono ?_;rintro e w7 ⟨A9,c9,rfl,y9,hB7⟩;have hB47:=hB46.trans (hB7.mono hB46.size);have hs7:=cT _ _ A9 A8 c9 c8 (t+M) df w7 y9.ru (y8.up hB7) (fun b hb=>hb) (fun b hb=>hb) (by have:=ab ht (zG M) hlM;omega) (by omega);have hdif:t+M-df≤M+M:=by omega
    have hlast:=ab (zG M) (zG M) hlM;have hld:=xY hdif hlast;generalize t+M-df=dif at *;have Hs7:=zF hs7;clear hs7;go_wp2_with fail;refine Hs7.out.mono ?_;rintro e w8 ⟨A10,c10,rfl,y10,hB8⟩;have hB48:=hB47.trans (hB8.mono hB47.size);have Hr8:=zF (xU A10 A' c10 c' dif M w8 y10.ru (zM.up hB48) (by omega) (by omega));have hdm:=qL dif (show 0<M by omega);go_wp2_with fail;refine Hr8.out.mono ?_;rintro e w9 ⟨A11,c11,rfl,y11,hB9⟩;have hB49:=hB48.trans (hB9.mono hB48.size);have hBw9:=hB.trans (hB49.mono zw);have f2:=zB.up hB49;have hB49':Below w4.heap.size w4 w9:=(((hB5.trans (hB6.mono hB5.size)).trans (hB7.mono (by have:=hB5.size;have:=hB6.size;omega))).trans (hB8.mono (by have:=hB5.size;have:=hB6.size;have:=hB7.size;omega))).trans (hB9.mono (by have:=hB5.size;have:=hB6.size;have:=hB7.size;have:=hB8.size;omega));have f6:=zL y6 hB49';have f4:=zD.up hB49;have Hrd9:=zF f6.readD;clear zA zB zC zD zM y5 y6 y7 y8 y9 y10 hB4 hB5 hB6 hB7 hB8 hB9 hB45 hB46 hB47 hB48 hB49 hB49' hB Hq1 Hm1 Hr5 Ha6 Hs7 Hr8;go_wp2;go_roundw;case rel=>exact⟨A2,A6,A4,A11,c2,c6,c4,c11,s,r%s,u,dif%M,rfl,rfl,rfl,rfl,f2,f6,f4,y11,hs,hlM2,hu,by omega,hstep,hBw9⟩
    case measure=>rw[Hrd.out,Hrd9.out];exact hmod
theorem bz {x:Nat}(hx:0<x):0<dg (digs 4294967296 x) ((digs 4294967296 x).length-1):=by
 have hne:digs 4294967296 x≠[]:=by rw[jj (by omega) hx];simp
 have h:=uO (B:=4294967296) (by omega) x hne;have hpos:=List.length_pos_iff.2 hne;rw[List.getLast_eq_getElem]at h;rw[dg,jU (by omega)];omega
theorem tE (t k:Nat):t/2^k/2=t/2 ^(k+1):=by rw[Nat.div_div_eq_div_mul,zp]
theorem dV (P:Nat→Prop)(A:Option Addr)(c:Nat)(x:Nat)(w:World)(h:RN w P A c (digs 4294967296 x)) :
 Calls Tryz.prog 39 #[.slice A (digs 4294967296 x).length c] w fun e w'=>e=.returned (.int .i64 (zu x:Int))∧w=w':=by
 rcases zT x with rfl|hx
 · rw[qV];go_enter Tryz.func39,Tryz.ntmps39;go_wp2;go_ret;exact⟨rfl,rfl⟩
 · have htop:=fun k hk h1 h2=>aQ (m:=32) (by omega) hx (k:=k) hk h1 h2;have hpos:=bz hx;have hD:=wJ x;obtain⟨h1,h2,h3⟩:=h.cap;have hne:0<(digs 4294967296 x).length:=by rw[jj (by omega) hx];simp
   rw[show(2:Nat)^32=4294967296 by decide]at htop;generalize digs 4294967296 x=l at *;obtain⟨n,hn⟩:∃ n,l.length=n+1:=⟨l.length-1,by omega⟩
   obtain⟨ad,rfl,_,q1⟩:=h.at_ (i:=n) (by omega);rw[hn,ju]at htop hpos;have hl:=hD.dgLt n;generalize dg l n=t at *;rw[hn]at h1 h3 ⊢;have Htop:=zF htop;have Hpos:=zF hpos;clear htop hpos hx hn hne h hD;have Hl:=zF hl;clear hl;go_enter Tryz.func39,Tryz.ntmps39;go_wp2;go_loop [4,5] (fun kv tv=>∃ k z:Nat,kv=.int .i64 (k:Int)∧tv=.int .u64 (z:Int)∧Hid (z=t/2^k)∧Hid (z<4294967296)∧k≤32∧(k=0∨2 ^(k-1)≤t)) (fun kv _=>(33-intOf kv).toNat);case atStart=>exact⟨0,t,rfl,rfl,zF (by simp),Hl,by omega,.inl rfl⟩
   case round =>
    obtain⟨k,z,rfl,rfl,hz,hzl,hk,hor⟩:=hrel;have Hor:=zF hor;clear hor;by_cases h0:z=0
    · have hfin:zu x=32*n+k:=by
       have e:=hz.out;rw[h0]at e;have hlt:t<2^k:=by
        rcases qF t (2^k)with h|h
        · exact h
        · have:=Nat.div_pos h (qS (by omega));omega
       have hk0:0<k:=by
        rcases zT k with rfl|h
        · have:=Hpos.out;simp at hlt;omega
        · exact h
       rcases Hor.out with h|h
       · omega
       · exact Htop.out k hk0 h hlt
      have Hfin:=zF hfin;subst h0;clear hfin;go_wp2;go_ret;exact⟨du (by rw[Hfin.out];simp),rfl⟩
    · have hk':k<32:=by
       rcases qF k 32 with h|h
       · exact h
       · exfalso;apply h0;rw[hz.out];exact qh (zI Hl.out (by rw[show(4294967296:Nat)=2^32 by decide];exact zv (by omega) h))
      have hge:2^k≤t:=by
       rcases qF t (2^k)with h|h
       · exfalso;apply h0;rw[hz.out];exact qh h
       · exact h
      have Hge:=zF hge;obtain⟨z',hz',e1⟩:∃ z':Nat,z/2=z'∧(z:Int)/2=(z':Int):=⟨z/2,rfl,by omega⟩
      have hzz:Hid (z'=t/2 ^(k+1)):=zF (by rw[←hz',hz.out,tE]);have hzl':Hid (z'<4294967296):=zF (by have:=hzl.out;omega);have p1:(0:Int)<(z:Int):=by omega
      clear hge hz' h0;go_wp2;go_round;case rel=>exact⟨k+1,z',by go_num,by first|rfl|exact congrArg (Value.int .u64) (qt _ (by have:=hzl'.out;omega)),hzz,hzl',by omega,.inr (by rw[ju];exact Hge.out)⟩
      case measure=>simp[intOf];omega
theorem tmod2 (d j:Nat):((d:Int)/2^j).tmod 2=((d/2^j%2:Nat):Int):=by
 rw[show(d:Int)/2^j=((d/2^j:Nat):Int) by simp];generalize d/2^j=z;rw[Int.tmod_eq_emod_of_nonneg (by omega)];omega
theorem mod2 (d j:Nat):IntKind.u64.wrap ((d:Int)/2^j%2)=((d/2^j%2:Nat):Int):=by
 rw[show(d:Int)/2^j%2=((d/2^j%2:Nat):Int) by simp];generalize d/2^j=z;exact qt _ (by omega)
theorem ov (P:Nat→Prop)(A:Option Addr)(c:Nat)(x:Nat)(i:Int)(w:World)(h:RN w P A c (digs 4294967296 x))(hi:i≤9223372036854775807) :
 Calls Tryz.prog 41 #[.slice A (digs 4294967296 x).length c,.int .i64 i] w fun e w'=>e=.returned (.int .u64 (yw x i:Int))∧w=w':=by
 obtain⟨h1,h2,h3⟩:=h.cap
 have hv:=zd (B:=4294967296) (by omega) x
 have hD:=wJ x
 generalize digs 4294967296 x=a at *
 by_cases h0:i<0
 · have hb:=zF (show yw x i=0 by simp[yw,h0]);go_enter Tryz.func41,Tryz.ntmps41;go_wp2;go_ret;rw[hb.out];exact⟨rfl,rfl⟩
 · obtain⟨n,rfl⟩:∃ n:Nat,i=(n:Int):=⟨i.toNat,by omega⟩
   obtain⟨k,j,hj,hn⟩:∃ k j,j<32∧n=32*k+j:=⟨n/32,n%32,by omega,by omega⟩
   have hb:yw x (n:Int)=dg a k/2^j%2:=by
    have:=rD (m:=32) a hD k j hj;rw[show(2:Nat)^32=4294967296 by decide,hv]at this;rw[yw,ql h0,yj,hn];exact this
   have e1:(n:Int)/32=(k:Int):=by omega
   have e2:(n:Int)%32=(j:Int):=by omega
   have e4:IntKind.i64.wrap ((n:Int)/32)=(k:Int):=by rw[e1];exact jW _ (by omega)
   by_cases hk:k<a.length
   · obtain⟨ad,rfl,_,q1⟩:=h.at_ hk;have hd:=h.2.dgLt k;have e3:=mod2 (dg a k) j;have hj':(j:Int)<32:=by omega
     have hk':(k:Int)<(a.length:Int):=by omega
     have Hb:=zF hb;clear hb hn hd h hi hD;go_enter Tryz.func41,Tryz.ntmps41;go_wp2;go_ret;exact⟨du (by rw[Hb.out];exact tmod2 _ _),rfl⟩
   · have hd:dg a k=0:=km (by omega);rw[hd,Nat.zero_div]at hb;have Hb:=zF hb;have hk':¬(k:Int)<(a.length:Int):=by omega
     have hk2:(a.length:Int)≤(k:Int):=by omega
     have hkb:(k:Int)≤288230376151711743:=by omega
     clear hb hn hd h hi hD;go_enter Tryz.func41,Tryz.ntmps41;go_wp2;go_ret;rw[Hb.out];exact⟨rfl,rfl⟩
def ul (x n:Nat) (o:List Nat) (k:Nat):Prop:=o.length=n∧(∀ j,j<n→n-1-j<k→dg o j=x/2 ^(8*(n-1-j))%256)∧(∀ j,k≤n-1-j→dg o j=0)∧∀ b∈o,b<256
theorem ul.zero (x n:Nat):ul x n (List.replicate n 0) 0:=by
 refine⟨by simp,fun j _ hj=>by omega,fun j _=>?_,fun b hb=>by simp at hb;omega⟩;rw[dg,qA,List.getElem?_replicate];split<;>rfl
theorem ul.step {x n:Nat}{o:List Nat}{k b:Nat}(h:ul x n o k)(hk:k<n)(hb:x/2 ^(8*k)%256=b):ul x n (o.set (n-1-k) b) (k+1):=by
 obtain⟨h1,h2,h3,h4⟩:=h;refine⟨by simpa using h1,fun j hjn hj=>?_,fun j hj=>by rw[getD_set_ne (by omega)];exact h3 j (by omega),wy h4 (by omega)⟩;rcases qF (n-1-j) k with h|h
 · rw[getD_set_ne (by omega)];exact h2 j hjn h
 · obtain rfl:j=n-1-k:=by omega
   rw[vm (by omega),show n-1-(n-1-k)=k by omega];exact hb.symm
theorem ul.fin {x n:Nat}{o:List Nat}{k:Nat}(h:ul x n o k)(hk:∀ j,k≤j→j<n→x/2 ^(8*j)%256=0):o=bytesOf x n:=by
 obtain⟨h1,h2,h3,_⟩:=h;apply List.ext_getElem (by rw[h1,kV]);intro i h4 h5;have e:dg o i=x/2 ^(8*(n-1-i))%256:=by
  rcases qF (n-1-i) k with h|h
  · exact h2 i (by omega) h
  · rw[h3 i h,hk _ h (by omega)]
 rw[dg,jU h4]at e;rw[e];simp[bytesOf]
theorem mC (P:Nat→Prop)(A:Option Addr)(c:Nat)(x:Nat)(n:Nat)(w:World)(h:RN w P A c (digs 4294967296 x))(hP:∀ b,P b→b<w.heap.size)(hn:n≤65536)(hn':zu x≤8*n) :
 Calls Tryz.prog 61 #[.slice A (digs 4294967296 x).length c,.int .i64 (n:Int)] w fun e w'=>∃ A1,e=.returned (.tuple #[.slice A1 n n,.bool true]) ∧
  RB w' (In w.heap.size w'.heap.size) A1 n (bytesOf x n)∧Below w.heap.size w w':=by
 obtain⟨h1,h2,h3⟩:=h.cap
 have hb:=zF (dV P A c x w h)
 have hv:=zd (B:=4294967296) (by omega) x
 have hD:=wJ x
 generalize digs 4294967296 x=a at *
 have hby:=fun k j hj=>mq (m:=32) a hD k j hj
 rw[show(2:Nat)^32=4294967296 by decide,hv]at hby
 generalize zu x=k0 at *
 have hk0:(k0:Int)≤8*(n:Int):=by omega
 have Hby:=zF hby
 clear hby hv hn' hD
 have hmk:=jD (P:=Tryz.prog) 22 5 (.int .u8 0) 1 Tryz.underlying22 gn rfl .i64 .i64 n (by omega) (by omega)
 go_enter Tryz.func61,Tryz.ntmps61
 go_wp2_with fail
 refine hb.out.mono ?_
 rintro e w1 ⟨rfl,rfl⟩
 clear hb
 go_wp2
 go_loopw [7] (fun iv wr=>∃(k:Nat) (o:List Nat),iv=.int .i64 (k:Int)∧k≤n∧ul x n o k∧vQ wr w.heap.size o∧Below w.heap.size w wr) (fun iv _=>n-(intOf iv).toNat)
 case atStart=>exact⟨0,List.replicate n 0,rfl,by omega,ul.zero x n,vQ.made w n,(zl _ w).alloc (zG _) _⟩
 case round =>
  obtain⟨k,o,rfl,hk,hA,hblk,hB⟩:=hrel;obtain⟨q,r,hr,hkq⟩:∃ q r,r<4∧k=4*q+r:=⟨k/4,k%4,by omega,by omega⟩
  have e2:(k:Int)/4=(q:Int):=by omega
  have e3:(k:Int)%4=(r:Int):=by omega
  have hfin:(k=n∨a.length≤q)→RB wr (In w.heap.size wr.heap.size) (some ⟨w.heap.size,0,none⟩) n (bytesOf x n):=fun hor=>by
   have he:o=bytesOf x n:=by
    refine hA.fin fun j hj hjn=>?_;rcases hor with rfl|hor
    · omega
    · have:=Hby.out (j/4) (8*(j%4)) (by omega);rw[show 32*(j/4)+8*(j%4)=8*j by omega,km (by omega:a.length≤j/4),Nat.zero_div]at this;exact this
   have hrb:=hblk.rb (P:=In w.heap.size wr.heap.size) ⟨zG _,qr hblk⟩ hA.2.2.2 (by have:=hA.1;omega);rw[hA.1,he]at hrb;exact hrb
  have Hfin:=zF hfin;clear hfin;by_cases hlt:k<n
  · by_cases hq:q<a.length
    · obtain⟨ad,rfl,had,q1⟩:=(h.below hB hP).at_ hq;have hbv:=Hby.out q (8*r) (by omega);rw[show 32*q+8*r=8*k by omega]at hbv;obtain⟨b,hbb⟩:=eV (dg a q/2 ^(8*r)%256);rw[hbb]at hbv;have e4:=aj (dg a q) (8*r);rw[hbb]at e4;have hA':=hA.step hlt hbv;obtain⟨m,hm,e1⟩:∃ m,n-1-k=m∧(n:Int)-1-(k:Int)=(m:Int):=⟨n-1-k,rfl,by omega⟩
      rw[hm]at hA';have q3:=hblk.cell (i:=m) (by rw[hA.1];omega);have q4:=hblk.free m;have hblk':=hblk.set m b;have hB':=hB.setCell (p:=⟨w.heap.size,m,none⟩) (zG _) (.int .u8 (b:Int));have k2:(q:Int)<(a.length:Int):=by omega
      have k3:(r:Int)<4:=by omega
      have k1:(m:Int)<(n:Int):=by omega
      clear hbb hbv hA hblk hB hkq hm Hfin;go_wp2;go_roundw;case rel=>exact⟨k+1,o.set m b,by go_num,by omega,hA',hblk',hB'⟩
      case measure=>simp[intOf];omega
    · have hrb:=Hfin.out (.inr (by omega));have k2:¬(q:Int)<(a.length:Int):=by omega
      clear hA hblk hkq Hfin;go_wp2;go_ret2;exact⟨_,rfl,hrb,hB⟩
  · have hrb:=Hfin.out (.inl (by omega));clear hA hblk hkq Hfin;go_wp2;go_ret2;exact⟨_,rfl,hrb,hB⟩
def rmS (M qx qy E:Nat):Nat→Nat×Nat×Nat
 | 0=>(0,0,0)
 | k+1=>if(jn E k).2=1 then yG M (twP M (rmS M qx qy E k).1 (rmS M qx qy E k).2.1 (rmS M qx qy E k).2.2).1 (twP M (rmS M qx qy E k).1 (rmS M qx qy E k).2.1 (rmS M qx qy E k).2.2).2.1 (twP M (rmS M qx qy E k).1 (rmS M qx qy E k).2.1 (rmS M qx qy E k).2.2).2.2 qx qy else twP M (rmS M qx qy E k).1 (rmS M qx qy E k).2.1 (rmS M qx qy E k).2.2
def fM (M x y z:Nat):Option (Nat×Nat):=if z=0 then none else let iv:=(wX z M).1;let u1:=mm M iv iv;some (mm M x u1,mm M y (mm M u1 iv))
def vY (M:Nat) (bi:Bool) (qx qy E:Nat):Option (Nat×Nat):=if bi then none else fM M (rmS M qx qy E (zu E)).1 (rmS M qx qy E (zu E)).2.1 (rmS M qx qy E (zu E)).2.2
theorem pQ {m:Nat} : ∀(n s:Nat),s≤n→∀ r t u,t<m→u<m→(jp m r s t u).2<m:=by
 intro n;induction n with
 | zero =>
  intro s hs r t u ht hu;obtain rfl:s=0:=by omega
  rw[vP];exact ht
 | succ n ih =>
  intro s hs r t u ht hu;rcases zT s with rfl|h0
  · rw[vP];exact ht
  · rw[xD (by omega)];exact ih (r%s) (by have:=qL r h0;omega) s u _ hu (qL _ (by omega))
theorem tD {x m:Nat}(hm:2≤m):(wX x m).1<m:=by
 unfold wX;split
 · exact pQ (x%m) _ (zG _) _ _ _ (by omega) (by omega)
 · show 0<m;omega
def RJB (C:Crv) (X:World) (b:Nat) (p:Nat×Nat×Nat):Prop:=∃(A1 A2 A3:Option Addr) (c1 c2 c3:Nat),X.heap[b]?=some (.cells #[.slice A1 (digs 4294967296 p.1).length c1,.slice A2 (digs 4294967296 p.2.1).length c2,.slice A3 (digs 4294967296 p.2.2).length c3] 78 (0,0)) ∧
 RU X A1 c1 (digs 4294967296 p.1)∧RU X A2 c2 (digs 4294967296 p.2.1)∧RU X A3 c3 (digs 4294967296 p.2.2)∧p.1<C.M∧p.2.1<C.M∧p.2.2<C.M
theorem zDO {C:Crv}{ccs:Array Value}{An1:Option Addr}{cn1 E:Nat}{bi:Bool}{B1 B2:Option Addr}{m1 m2 qx qy:Nat}(hF:C.Fine)(h8:8<C.M)(w:World)(hc:RC w C (.agg ccs))(hn:RU w An1 cn1 (digs 4294967296 E))(hq1:RU w B1 m1 (digs 4294967296 qx))(hq2:RU w B2 m2 (digs 4294967296 qy))(hqx:bi=false→qx<C.M∧qy<C.M) :
 Calls Tryz.prog 16 #[.agg ccs,.slice An1 (digs 4294967296 E).length cn1,.agg #[.bool bi,.slice B1 (digs 4294967296 qx).length m1,.slice B2 (digs 4294967296 qy).length m2]] w fun e w'=>∃ o,e=.returned o∧RPU w' o (vY C.M bi qx qy E)∧Ext w w':=by
 obtain⟨Ap,An,Ab,Ax,Ay,cp,cn,cb,cx,cy,hccs,hP,hN,hB,hX1,hY1⟩:=hc
 injection hccs with hccs
 have hRC0:RC w C (.agg ccs):=⟨Ap,An,Ab,Ax,Ay,cp,cn,cb,cx,cy,by rw[hccs],hP,hN,hB,hX1,hY1⟩
 obtain⟨W0,hW0⟩:=eW (((w.alloc (.cells ccs 30)).alloc (.cells #[.bool bi,.slice B1 (digs 4294967296 qx).length m1,.slice B2 (digs 4294967296 qy).length m2] 45)).alloc (.cells #[.bool false,.slice none 0 0,.slice none 0 0] 45))
 obtain⟨q,hq⟩:=eV w.heap.size
 have hE0:Ext w W0:=by rw[hW0];exact((zO _ _).trans (zO _ _)).trans (zO _ _)
 obtain⟨hcb,hqb,hrb,hz0⟩:=aw w (.cells ccs 30) (.cells #[.bool bi,.slice B1 (digs 4294967296 qx).length m1,.slice B2 (digs 4294967296 qy).length m2] 45) (.cells #[.bool false,.slice none 0 0,.slice none 0 0] 45)
 rw[←hW0,hq]at hcb hqb hrb hz0
 have t0:=zQ hqb 0
 have cP:=zQ hcb 0
 rw[hccs]at cP
 simp only[zR,zi]at t0 cP
 have hRC:=zF (hRC0.ext hE0)
 have Hccs:=zF (show ccs.size=6 by rw[hccs];rfl)
 have HRP:=zF (zL hP hE0)
 have HX4:=zF (zL hq1 hE0)
 have HX5:=zF (zL hq2 hE0)
 have HN:=zF (zL hn hE0)
 have HF:=zF hF
 have H8:=zF h8
 have hM0:0<C.M:=by omega
 have HE0:=zF hE0
 have Hz0:=zF hz0
 clear hRC0 hccs hP hN hB hX1 hY1 hF h8 hE0 hz0 hq1 hq2 hn
 cases bi
 case true =>
  rw[show vY C.M true qx qy E=none from rfl];go_enter Tryz.func16,Tryz.ntmps16;go_upto_region 1 with fail;rw[←hW0];have Hq:=zF hq;clear hW0 hq;obtain⟨z0,z1,z2,f0,f1,f2⟩:=jG hrb;go_wp2;exact cD rfl rfl rfl (xW hrb _ _ _) ⟨_,rfl,rfl,xq HE0.out (by have:=Hq.out;omega) _ _ _⟩
 case false =>
  obtain⟨hqx1,hqy1⟩:=hqx rfl;have hqxl:=zF hqx1;have hqyl:=zF hqy1;clear hqx1 hqy1 hqx;obtain⟨nb,hnb⟩:=eV (zu E);rw[show vY C.M false qx qy E=fM C.M (rmS C.M qx qy E nb).1 (rmS C.M qx qy E nb).2.1 (rmS C.M qx qy E nb).2.2 by rw[←hnb];rfl];have hnb2:nb≤64000000:=by
   have h1:=HN.out.cap;rw[←hnb];refine zK (fT (k:=32*(digs 4294967296 E).length) ?_) (by omega);have:=jt (kF (B:=4294967296) (by omega) E);rw[zd (by omega)]at this;rw[kr];exact this
  obtain⟨res,hres0⟩:=eV (fM C.M (rmS C.M qx qy E nb).1 (rmS C.M qx qy E nb).2.1 (rmS C.M qx qy E nb).2.2);rw[hres0];have Hres:=zF hres0;have Hnb:=zF hnb;clear hnb hres0;go_enter Tryz.func16,Tryz.ntmps16;go_upto_region 1 with fail;rw[←hW0];have Hq:=zF hq;have HW0:=zF hW0;clear hW0 hq;obtain⟨b7,hb7⟩:=eV W0.heap.size;have g7:=zS W0 (.cells #[.slice none 0 0,.slice none 0 0,.slice none 0 0] 78);have hA7:=zO W0 (.cells #[.slice none 0 0,.slice none 0 0,.slice none 0 0] 78);rw[hb7]at g7;have hz7:(W0.alloc (.cells #[.slice none 0 0,.slice none 0 0,.slice none 0 0] 78)).heap.size=b7+1:=by rw[qB,hb7]
  go_upto_region 4 with fail;clear t0;generalize hW5:W0.alloc (.cells #[.slice none 0 0,.slice none 0 0,.slice none 0 0] 78)=W5 at *;have hbits:=dV _ An1 cn1 E W5 (zL HN.out hA7);rw[Hnb.out]at hbits;have Hbits:=zF hbits;have hq7:q+3≤b7:=by have:=Hz0.out;omega
  have HE5:=zF (HE0.out.trans hA7);have HA7:=zF hA7;have Hb7:=zF hb7;have hJ0:RJB C W5 b7 (rmS C.M qx qy E 0):=⟨none,none,none,0,0,0,by rw[show rmS C.M qx qy E 0=(0,0,0)from rfl,qV];exact g7,RN.nil0 _,RN.nil0 _,RN.nil0 _,hM0,hM0,hM0⟩
  have hw0:IntKind.i64.wrap ((nb:Int)-1)=(nb:Int)-1:=jW _ (by omega);clear hbits hA7 hW5 g7 hb7;have Hcb:=zF hcb;have HcP:=zF cP;have Hqb:=zF hqb;have Hrb:=zF hrb;clear cP;go_wp2_with (go_at_call 39;refine Hbits.out.mono ?_;rintro e w5 ⟨rfl,rfl⟩);clear hw0;go_loopw [8] (fun iv wr=>∃(k:Nat) (z:Int),k≤nb∧iv=.int .i64 z∧z=(nb:Int)-1-(k:Int)∧RJB C wr b7 (rmS C.M qx qy E k)∧Below b7 W5 wr) (fun iv _=>(intOf iv+1).toNat);case atStart=>exact⟨0,_,by omega,rfl,by omega,hJ0,zl _ _⟩
  case round =>
   obtain⟨k,z,hk,rfl,hz,hJ,hBr⟩:=hrel;have hWr:Ext W0 wr:=kG HA7.out (Below.mono hBr (Nat.le_of_eq Hb7.out));have HWr:=zF hWr;have hcw:=hWr.at_ hcb;have hqw:=hWr.at_ hqb;have hrw:=hWr.at_ hrb;have hRCw:=zF (hRC.out.ext hWr);have HBr:=zF hBr;clear hWr;obtain⟨E1,E2,E3,d1,d2,d3,hbl,g1,g2,g3,g4,g5,g6⟩:=hJ;have hzr:=qr hbl;by_cases hlt:k<nb
   · have k1:(0:Int)≤z:=by omega
     obtain⟨so,hso⟩:=eV (rmS C.M qx qy E k);have hstep:rmS C.M qx qy E (k+1)=if(jn E k).2=1 then yG C.M (twP C.M so.1 so.2.1 so.2.2).1 (twP C.M so.1 so.2.1 so.2.2).2.1 (twP C.M so.1 so.2.1 so.2.2).2.2 qx qy else twP C.M so.1 so.2.1 so.2.2:=by rw[←hso];rfl
     have hbo:(yw E z:Nat)=(jn E k).2:=by
      rw[yw,ql (by omega),jn,Hnb.out,show z.toNat=nb-1-k by omega]
     have hbt2:(jn E k).2<2:=qL _ (by omega);rw[hso]at hbl g1 g2 g3 g4 g5 g6;obtain⟨bt,hbt⟩:=eV ((jn E k).2);rw[hbt]at hstep hbo hbt2;have Hstep:=zF hstep;have Hbo:=zF hbo;have G1:=zF g1;have G2:=zF g2;have G3:=zF g3;have G4:=zF g4;have G5:=zF g5;have G6:=zF g6;have hzz:IntKind.i64.wrap (z-1)=z-1:=jW _ (by omega);have Hzz:=zF hzz;have Hz:=zF hz;clear hstep hbo g1 g2 g3 g4 g5 g6 hso hbt hz hBr hzz hcb hqb hrb hrw;go_upto_region 7 with fail
     refine zN 3 [0,0,3,7] [] (fun j f X=>match j with
      | 0=>f 0=.agg ccs
      | 1=>f 1=.agg #[.slice E1 (digs 4294967296 so.1).length d1,.slice E2 (digs 4294967296 so.2.1).length d2,.slice E3 (digs 4294967296 so.2.2).length d3]
      | 2=>∃ o,f 2=o∧JN X C o (twP C.M so.1 so.2.1 so.2.2)
      | _=>True) (by kernel_rfl) [(22,0),(23,1),(24,2)] (by kernel_rfl) ?_
     refine lV0 1 2 hcw (by rw[Hccs.out];exact qp) ?_;refine lV0 2 1 hbl uD ?_;refine qI 3 0 (fun f=>#[f 0,f 1]) (F':=40) (fun f X hX hR=>?_) ?_
     · have e0:f 0=_:=hR.out 0 rfl;have e1:f 1=_:=hR.out 1 rfl;simp only[e0,e1];refine(rE (p:=so) HF.out H8.out X (hRCw.out.ext hX) ⟨E1,E2,E3,d1,d2,d3,rfl,zL G1.out hX,zL G2.out hX,zL G3.out hX,G4.out,G5.out,G6.out⟩).mono ?_;rintro e w2 ⟨o,rfl,hj,hB⟩;exact⟨o,rfl,hB,fun Y hY=>⟨_,rfl,hj.ext hY⟩⟩
     refine yF ⟨fun f X hX hR hal hap=>?_⟩;obtain⟨vo,(e2:f 2=_),jo⟩:=hR 2 (by decide);simp only[yZ,e2];clear hR hal hap e2;obtain⟨D1,D2,D3,c1,c2,c3,ev,f1,f2,f3,f4,f5,f6⟩:=jo;subst ev;refine zP (fun K hK=>⟨zU (by kernel_rfl) (jJ (cs':=#[.slice D1 (digs 4294967296 (twP C.M so.1 so.2.1 so.2.2).1).length c1,.slice D2 (digs 4294967296 (twP C.M so.1 so.2.1 so.2.2).2.1).length c2,.slice D3 (digs 4294967296 (twP C.M so.1 so.2.1 so.2.2).2.2).length c3]) (t:=78) 78 (.tmp 7) (.tmp 24) rfl rfl rfl rfl (hX.at_ hbl) uD rfl (fu _ _ _ _ _ _ _ _ _) (fun Y hY1 hY2 hY3=>hK.out _ _ ?_))⟩);refine zH ?_;obtain⟨tw,htw⟩:=eV (twP C.M so.1 so.2.1 so.2.2);rw[htw]at Hstep hY1 f1 f2 f3 f4 f5 f6;have F1:=zF (f1.offJ hY2 (hX.at_ hbl) (by kernel_rfl));have F2:=zF (f2.offJ hY2 (hX.at_ hbl) (by kernel_rfl));have F3:=zF (f3.offJ hY2 (hX.at_ hbl) (by kernel_rfl));have F4:=zF f4;have F5:=zF f5;have F6:=zF f6;have HB2:=zF ((HBr.out.trans (Below.mono hX (by omega))).trans (hY2.below (zG _) (by have:=hX.bsize;omega)));have hW2:Ext W0 Y:=kG HA7.out (Below.mono HB2.out (Nat.le_of_eq Hb7.out));have hbY:=hY1;have zY:=qr hY1;have HW2:=zF hW2;have hbitY:=ov _ An1 cn1 E z Y (zL HN.out hW2) (by have:=Hz.out;omega);rw[Hbo.out]at hbitY;have HbitY:=zF hbitY;clear f1 f2 f3 f4 f5 f6 hX hY1 hY2 hY3 hbl hcw hqw hW2 hbitY htw;rename World=>V;by_cases hb1:bt=1
     · have hst:=zF (show rmS C.M qx qy E (k+1)=yG C.M tw.1 tw.2.1 tw.2.2 qx qy by rw[Hstep.out,qg hb1]);subst hb1;have hcV:=HW2.out.at_ (show W0.heap[q]?=some (.cells ccs 30 (0,0))from Hcb.out);have hqV:=HW2.out.at_ (show W0.heap[q+1]?=some (.cells #[.bool false,.slice B1 (digs 4294967296 qx).length m1,.slice B2 (digs 4294967296 qy).length m2] 45 (0,0))from Hqb.out);go_upto_region 9 with(go_at_call 41;refine HbitY.out.mono ?_;rintro e w5 ⟨rfl,rfl⟩)
       refine zN 4 [0,0,0,7,15] [] (fun j f X=>match j with
        | 0=>f 0=.agg ccs
        | 1=>f 1=.agg #[.slice D1 (digs 4294967296 tw.1).length c1,.slice D2 (digs 4294967296 tw.2.1).length c2,.slice D3 (digs 4294967296 tw.2.2).length c3]
        | 2=>f 2=.agg #[.bool false,.slice B1 (digs 4294967296 qx).length m1,.slice B2 (digs 4294967296 qy).length m2]
        | 3=>∃ o,f 3=o∧JN X C o (yG C.M tw.1 tw.2.1 tw.2.2 qx qy)
        | _=>True) (by kernel_rfl) [(29,0),(30,1),(31,2),(32,3)] (by kernel_rfl) ?_
       refine lV0 1 3 hcV (by rw[Hccs.out];exact qp) ?_;refine lV0 2 2 hbY uD ?_;refine lV0 3 1 hqV dI ?_;refine qI 4 0 (fun f=>#[f 0,f 1,f 2]) (F':=42) (fun f X hX hR=>?_) ?_
       · have e0:f 0=_:=hR.out 0 rfl;have e1:f 1=_:=hR.out 1 rfl;have e2:f 2=_:=hR.out 2 rfl;simp only[e0,e1,e2];refine(zCL (p:=tw) HF.out H8.out X (hRC.out.ext (HW2.out.trans hX)) ⟨D1,D2,D3,c1,c2,c3,rfl,zL F1.out hX,zL F2.out hX,zL F3.out hX,F4.out,F5.out,F6.out⟩ (zL HX4.out (HW2.out.trans hX)) (zL HX5.out (HW2.out.trans hX)) hqxl.out hqyl.out).mono ?_;rintro e w2 ⟨o,rfl,hj,hB⟩;exact⟨o,rfl,hB,fun Y hY=>⟨_,rfl,hj.ext hY⟩⟩
       refine yF ⟨fun f X hX hR hal hap=>?_⟩;obtain⟨vo,(e3:f 3=_),jo⟩:=hR 3 (by decide);simp only[yZ,e3];clear hR hal hap e3;obtain⟨H1,H2,H3,i1,i2,i3,ev,f1,f2,f3,f4,f5,f6⟩:=jo;subst ev;refine zP (fun K hK=>⟨zU (by kernel_rfl) (jJ (cs':=#[.slice H1 (digs 4294967296 (yG C.M tw.1 tw.2.1 tw.2.2 qx qy).1).length i1,.slice H2 (digs 4294967296 (yG C.M tw.1 tw.2.1 tw.2.2 qx qy).2.1).length i2,.slice H3 (digs 4294967296 (yG C.M tw.1 tw.2.1 tw.2.2 qx qy).2.2).length i3]) (t:=78) 78 (.tmp 7) (.tmp 32) rfl rfl rfl rfl (hX.at_ hbY) uD rfl (fu _ _ _ _ _ _ _ _ _) (fun Y hY1 hY2 hY3=>hK.out _ _ ?_))⟩);refine zH ?_;have hR2:RJB C Y b7 (rmS C.M qx qy E (k+1)):=by rw[hst.out];exact⟨H1,H2,H3,i1,i2,i3,hY1,f1.offJ hY2 (hX.at_ hbY) (by kernel_rfl),f2.offJ hY2 (hX.at_ hbY) (by kernel_rfl),f3.offJ hY2 (hX.at_ hbY) (by kernel_rfl),f4,f5,f6⟩
       have HR2:=zF hR2;have HB3:=zF ((HB2.out.trans (Below.mono hX (by omega))).trans (hY2.below (zG _) (by have:=hX.bsize;omega)));clear hR2 f1 f2 f3 f4 f5 f6 hX hY1 hY2 hY3 hbY hcV hqV;have hzz:=Hzz.out;go_wp2;refine⟨⟨k+1,z-1,by omega,rfl,by have:=Hz.out;omega,HR2.out,HB3.out⟩,?_⟩;simp[intOf];omega
     · obtain rfl:bt=0:=by omega
       have hst:=zF (show rmS C.M qx qy E (k+1)=tw by rw[Hstep.out,ql hb1]);have hzz:=Hzz.out;go_wp2_with (go_at_call 41;refine HbitY.out.mono ?_;rintro e w5 ⟨rfl,rfl⟩);refine⟨⟨k+1,z-1,by omega,rfl,by have:=Hz.out;omega,by rw[hst.out];exact⟨D1,D2,D3,c1,c2,c3,hbY,F1.out,F2.out,F3.out,F4.out,F5.out,F6.out⟩,HB2.out⟩,?_⟩;simp[intOf];omega
   · obtain rfl:k=nb:=by omega
     have k1:¬(0:Int)≤z:=by omega
     obtain⟨so,hso⟩:=eV (rmS C.M qx qy E k);obtain⟨sx,sy,sz⟩:=so;rw[hso]at hbl g1 g2 g3 g4 g5 g6;simp only at hbl g1 g2 g3 g4 g5 g6;have Hr:=zF (show fM C.M sx sy sz=res by rw[←Hres.out,hso]);have s0:=zQ hbl 0;have s1:=zQ hbl 1;have s2:=zQ hbl 2;have cPw:=HWr.out.cell HcP.out;simp only[zR,zi,qo]at s0 s1 s2;have HS1:=zF g1;have HS2:=zF g2;have HS3:=zF g3;have hsx:=zF g4;have hsy:=zF g5;have hsz:=zF g6;have HEw:=zF (HE0.out.trans HWr.out);replace HRP:=zF (zL HRP.out HWr.out);replace hRC:=hRCw;have hE:=zX wr;clear g1 g2 g3 g4 g5 g6 hbl hso hz hBr hcb hqb hrb hqw;by_cases hz0:sz=0
     · obtain rfl:res=none:=by rw[←Hr.out,fM,qg hz0]
       replace hz0:=zF hz0;go_upto_region 10 with fail
       refine zN 4 [0,1,3,7] [] (fun j f X=>match j with
        | 0=>f 0=.pointer (some ⟨b7,2,none⟩)
        | 1=>f 1=.slice E3 (digs 4294967296 sz).length d3
        | 2=>f 2=.int .i64 ((digs 4294967296 sz).length:Int)
        | 3=>f 3=.bool true
        | _=>True) (by kernel_rfl) [(33,0),(34,1),(35,2),(36,3)] (by kernel_rfl) ?_
       refine zJ 1 3 ?_;refine qK 2 2 0 (hE.cell s2) ?_;refine zt 3 1 [(33,0),(34,1)] (fun f X hX hR K hK=>?_) ?_
       · have e1:f 1=_:=hR.out 1 rfl;simp only[yZ,e1];refine⟨?_⟩;go_simp;exact qd hK (s:=by simp only[yZ,e1])
       refine zt 4 0 [(33,0),(34,1),(35,2)] (fun f X hX hR K hK=>?_) ?_
       · have e2:f 2=_:=hR.out 2 rfl;have hz1:decide (((digs 4294967296 sz).length:Int)=0)=true:=xQ hz0.out;have hz2:decide ((digs 4294967296 sz).length=0)=true:=xP hz0.out;have hz4:((((digs 4294967296 sz).length:Nat):Int)==0)=true:=xR hz0.out;simp only[yZ,e2];refine⟨?_⟩;go_simp;exact qd hK (s:=by simp only[yZ,e2])
       refine yF ⟨fun f X hX hR hal hap=>?_⟩;have e3:f 3=_:=hR 3 (by decide);simp only[yZ,e3];clear hR hal hap e3;refine zH ?_;replace hE:=hE.trans hX;clear hX  ;rename World=>X10_k;have hb1:=hE.at_ hrw;obtain⟨z0,z1,z2,f0,f1,f2⟩:=jG hb1;go_wp2;exact cD rfl rfl rfl (xW hb1 _ _ _) ⟨_,rfl,rfl,xq (HEw.out.trans hE) (by have:=Hq.out;omega) _ _ _⟩
     · obtain⟨iv,hiv⟩:=eV ((wX sz C.M).1);obtain⟨ib,hib⟩:=eV ((wX sz C.M).2);have hivl:=zF (show iv<C.M by rw[←hiv];exact tD (by have:=HF.out.three;omega));have Hiv:=zF hiv;have Hib:=zF hib;obtain⟨u1,dN⟩:=eV (mm C.M iv iv);have L_u1:=zF (show u1<C.M by rw[←dN];exact kR hM0 _ _);have E_u1:=zF dN;clear dN;obtain⟨u2,dM⟩:=eV (mm C.M sx u1);have L_u2:=zF (show u2<C.M by rw[←dM];exact kR hM0 _ _);have E_u2:=zF dM;clear dM;obtain⟨u3,e_u3⟩:=eV (mm C.M u1 iv);have L_u3:=zF (show u3<C.M by rw[←e_u3];exact kR hM0 _ _);have E_u3:=zF e_u3;clear e_u3;obtain⟨u4,e_u4⟩:=eV (mm C.M sy u3);have L_u4:=zF (show u4<C.M by rw[←e_u4];exact kR hM0 _ _);have E_u4:=zF e_u4;clear e_u4;obtain rfl:res=some (u2,u4):=by rw[←Hr.out,fM,ql hz0];simp only[Hiv.out,E_u1.out,E_u2.out,E_u3.out,E_u4.out]
       clear hiv hib;replace hz0:=zF hz0;go_upto_region 10 with fail
       refine zN 4 [0,1,3,7] [] (fun j f X=>match j with
        | 0=>f 0=.pointer (some ⟨b7,2,none⟩)
        | 1=>f 1=.slice E3 (digs 4294967296 sz).length d3
        | 2=>f 2=.int .i64 ((digs 4294967296 sz).length:Int)
        | 3=>f 3=.bool false
        | _=>True) (by kernel_rfl) [(33,0),(34,1),(35,2),(36,3)] (by kernel_rfl) ?_
       refine zJ 1 3 ?_;refine qK 2 2 0 (hE.cell s2) ?_;refine zt 3 1 [(33,0),(34,1)] (fun f X hX hR K hK=>?_) ?_
       · have e1:f 1=_:=hR.out 1 rfl;simp only[yZ,e1];refine⟨?_⟩;go_simp;exact qd hK (s:=by simp only[yZ,e1])
       refine zt 4 0 [(33,0),(34,1),(35,2)] (fun f X hX hR K hK=>?_) ?_
       · have e2:f 2=_:=hR.out 2 rfl;have hz1:decide (((digs 4294967296 sz).length:Int)=0)=false:=wS hz0.out;have hz2:decide ((digs 4294967296 sz).length=0)=false:=wR hz0.out;have hz4:((((digs 4294967296 sz).length:Nat):Int)==0)=false:=wT hz0.out;simp only[yZ,e2];refine⟨?_⟩;go_simp;exact qd hK (s:=by simp only[yZ,e2])
       refine yF ⟨fun f X hX hR hal hap=>?_⟩;have e3:f 3=_:=hR 3 (by decide);simp only[yZ,e3];clear hR hal hap e3;refine zH ?_;replace hE:=hE.trans hX;clear hX  ;rename World=>X10_k;go_upto_region 12 with fail
       refine zN 10 [0,1,0,4,15,31,63,63,127,511] [] (fun j f X=>match j with
        | 0=>f 0=.pointer (some ⟨b7,2,none⟩)
        | 1=>f 1=.slice E3 (digs 4294967296 sz).length d3
        | 2=>f 2=.pointer (some ⟨q,0,none⟩)
        | 3=>f 3=.slice Ap (digs 4294967296 C.M).length cp
        | 4=>∃ A1 c1,f 4=.tuple #[.slice A1 (digs 4294967296 iv).length c1,.bool ib]∧RU X A1 c1 (digs 4294967296 iv)
        | 5=>∃ A1 c1,f 5=.tuple #[.slice A1 (digs 4294967296 iv).length c1,.bool ib]∧RU X A1 c1 (digs 4294967296 iv)
        | 6=>∃ A1 c1,f 6=.slice A1 (digs 4294967296 iv).length c1∧RU X A1 c1 (digs 4294967296 iv)
        | 7=>f 7=.bool ib
        | 8=>∃ A1 c1,f 8=.slice A1 (digs 4294967296 iv).length c1∧RU X A1 c1 (digs 4294967296 iv)
        | 9=>f 9=.bool ib
        | _=>True) (by kernel_rfl) [(39,0),(40,1),(41,2),(42,3),(43,4),(38,5),(44,6),(45,7),(9,8),(10,9)] (by kernel_rfl) ?_
       refine zJ 1 9 ?_;refine qK 2 8 0 (hE.cell s2) ?_;refine zJ 3 7 ?_;refine qK 4 6 2 (hE.cell cPw) ?_;refine qI 5 5 (fun f=>#[f 1,f 3]) (F':=43) (fun f X hX hR=>?_) ?_
       · have e1:f 1=_:=hR.out 1 rfl;have e3:f 3=_:=hR.out 3 rfl;simp only[e1,e3];refine(cX E3 Ap d3 cp sz C.M X (zL HS3.out (hE.trans hX)) (zL HRP.out (hE.trans hX)) (by have:=HF.out.len' hsz.out;omega) (by have:=HF.out.len;omega) (by have:=HF.out.three;omega)).mono ?_;rw[Hiv.out,Hib.out];rintro e w2 ⟨A1,c1,rfl,hO,hB⟩;exact⟨_,rfl,hB,fun Y hY=>⟨A1,c1,rfl,zL hO hY⟩⟩
       refine zt 6 4 [(39,0),(40,1),(41,2),(42,3),(43,4)] (fun f X hX hR K hK=>?_) ?_
       · obtain⟨A4,c4,(e4:f 4=_),o4⟩:=hR.out 4 rfl;simp only[yZ,e4];refine⟨?_⟩;go_simp;exact hK.out _ _ _ (by simp only[yZ,e4]) (zX _) trivial (fun Y hY=>⟨A4,c4,rfl,zL o4 hY⟩)
       refine zt 7 3 [(39,0),(40,1),(41,2),(42,3),(43,4),(38,5),(45,7)] (fun f X hX hR K hK=>?_) ?_
       · obtain⟨A5,c5,(e5:f 5=_),o5⟩:=hR.out 5 rfl;simp only[yZ,e5];refine⟨?_⟩;go_simp;exact hK.out _ _ _ (by simp only[yZ,e5]) (zX _) trivial (fun Y hY=>⟨A5,c5,rfl,zL o5 hY⟩)
       refine zt 8 2 [(39,0),(40,1),(41,2),(42,3),(43,4),(38,5),(44,6),(9,8)] (fun f X hX hR K hK=>?_) ?_
       · obtain⟨A5,c5,(e5:f 5=_),o5⟩:=hR.out 5 rfl;simp only[yZ,e5];refine⟨?_⟩;go_simp;exact qd hK (s:=by simp only[yZ,e5])
       refine zt 9 1 [(39,0),(40,1),(41,2),(42,3),(43,4),(38,5),(44,6),(45,7)] (fun f X hX hR K hK=>?_) ?_
       · obtain⟨A6,c6,(e6:f 6=_),o6⟩:=hR.out 6 rfl;simp only[yZ,e6];refine⟨?_⟩;go_simp;exact hK.out _ _ _ (by simp only[yZ,e6]) (zX _) trivial (fun Y hY=>⟨A6,c6,rfl,zL o6 hY⟩)
       refine qN 10 0 7 ?_;refine yF ⟨fun f X hX hR hal hap=>?_⟩;obtain⟨A4,c4,(e4:f 4=_),o4⟩:=hR 4 (by decide);obtain⟨A5,c5,(e5:f 5=_),o5⟩:=hR 5 (by decide);obtain⟨A6,c6,(e6:f 6=_),o6⟩:=hR 6 (by decide);obtain⟨A8,c8,(e8:f 8=_),o8⟩:=hR 8 (by decide);simp only[yZ,e4,e5,e6,e8];clear hR hal hap e4 e5 e6 e8;refine zH ?_;replace hE:=hE.trans hX;have N9:=zF o8;clear hX o4 o5 o6 o8;rename World=>X12;go_upto_region 13 with fail
       refine zN 5 [0,0,0,7,15] [] (fun j f X=>match j with
        | 0=>f 0=.agg ccs
        | 1=>f 1=.slice A8 (digs 4294967296 iv).length c8
        | 2=>f 2=.slice A8 (digs 4294967296 iv).length c8
        | 3=>∃ A1 c1,f 3=.slice A1 (digs 4294967296 u1).length c1∧RU X A1 c1 (digs 4294967296 u1)
        | 4=>∃ A1 c1,f 4=.slice A1 (digs 4294967296 u1).length c1∧RU X A1 c1 (digs 4294967296 u1)
        | _=>True) (by kernel_rfl) [(46,0),(47,1),(48,2),(49,3),(11,4)] (by kernel_rfl) ?_
       refine lV0 1 4 (hE.at_ hcw) (by rw[Hccs.out];exact qp) ?_;refine zJ 2 3 ?_;refine zJ 3 2 ?_;refine rc 4 1 0 1 2 (fun _ _ hX h=>⟨_,_,h,(zL N9.out hX)⟩) (fun _ _ hX h=>⟨_,_,h,(zL N9.out hX)⟩) (fun X hX _ _ _ _ h h'=>jg X HF.out (hRC.out.ext (hE.trans hX)) h h' hivl.out hivl.out) E_u1.out ?_;refine zt 5 0 [(46,0),(47,1),(48,2),(49,3)] (fun f X hX hR K hK=>?_) ?_
       · obtain⟨A13_3,c13_3,(e3:f 3=_),o13_3⟩:=hR.out 3 rfl;simp only[yZ,e3];refine⟨?_⟩;go_simp;exact hK.out _ _ _ (by simp only[yZ,e3]) (zX _) trivial (fun Y hY=>⟨A13_3,c13_3,rfl,zL o13_3 hY⟩)
       refine yF ⟨fun f X hX hR hal hap=>?_⟩;obtain⟨A13_3,c13_3,(e3:f 3=_),o13_3⟩:=hR 3 (by decide);obtain⟨A13_4,c13_4,(e4:f 4=_),o13_4⟩:=hR 4 (by decide);simp only[yZ,e3,e4];clear hR hal hap e3 e4;refine zH ?_;replace hE:=hE.trans hX;replace N9:=zF (zL N9.out hX);have N11:=zF o13_4;clear hX o13_3 o13_4;rename World=>X13_k;have hb1:=hE.at_ hrw;go_upto_region 14 with fail
       refine zh (by kernel_rfl) 14 [0,0,2,0,15,0,0,64,0,0,0,1823,4095,8191,16383] [] (fun j f X=>match j with
        | 0=>f 0=.agg ccs
        | 1=>f 1=.pointer (some ⟨b7,0,none⟩)
        | 2=>f 2=.slice E1 (digs 4294967296 sx).length d1
        | 3=>f 3=.slice A13_4 (digs 4294967296 u1).length c13_4
        | 4=>∃ A1 c1,f 4=.slice A1 (digs 4294967296 u2).length c1∧RU X A1 c1 (digs 4294967296 u2)
        | 5=>f 5=.agg ccs
        | 6=>f 6=.pointer (some ⟨b7,1,none⟩)
        | 7=>f 7=.slice E2 (digs 4294967296 sy).length d2
        | 8=>f 8=.agg ccs
        | 9=>f 9=.slice A13_4 (digs 4294967296 u1).length c13_4
        | 10=>f 10=.slice A8 (digs 4294967296 iv).length c8
        | 11=>∃ A1 c1,f 11=.slice A1 (digs 4294967296 u3).length c1∧RU X A1 c1 (digs 4294967296 u3)
        | 12=>∃ A1 c1,f 12=.slice A1 (digs 4294967296 u4).length c1∧RU X A1 c1 (digs 4294967296 u4)
        | 13=>∃ A1 c1 A2 c2,f 13=.agg #[.bool false,.slice A1 (digs 4294967296 u2).length c1,.slice A2 (digs 4294967296 u4).length c2]∧RU X A1 c1 (digs 4294967296 u2)∧RU X A2 c2 (digs 4294967296 u4)
        | _=>True) (by kernel_rfl) [(50,0),(51,1),(52,2),(53,3),(54,4),(55,5),(56,6),(57,7),(58,8),(59,9),(60,10),(61,11),(62,12),(63,13)] (by kernel_rfl) ?_
       refine lV0 1 13 (hE.at_ hcw) (by rw[Hccs.out];exact qp) ?_;refine zJ 2 12 ?_;refine qK 3 11 1 (hE.cell s0) ?_;refine zJ 4 10 ?_;refine rc 5 9 0 2 3 (fun _ _ hX h=>⟨_,_,h,(zL HS1.out (hE.trans hX))⟩) (fun _ _ hX h=>⟨_,_,h,(zL N11.out hX)⟩) (fun X hX _ _ _ _ h h'=>jg X HF.out (hRC.out.ext (hE.trans hX)) h h' hsx.out L_u1.out) E_u2.out ?_;refine lV0 6 8 (hE.at_ hcw) (by rw[Hccs.out];exact qp) ?_;refine zJ 7 7 ?_;refine qK 8 6 6 (hE.cell s1) ?_;refine lV0 9 5 (hE.at_ hcw) (by rw[Hccs.out];exact qp) ?_;refine zJ 10 4 ?_;refine zJ 11 3 ?_;refine rc 12 2 8 9 10 (fun _ _ hX h=>⟨_,_,h,(zL N11.out hX)⟩) (fun _ _ hX h=>⟨_,_,h,(zL N9.out hX)⟩) (fun X hX _ _ _ _ h h'=>jg X HF.out (hRC.out.ext (hE.trans hX)) h h' L_u1.out hivl.out) E_u3.out ?_;refine rc 13 1 5 7 11 (fun _ _ hX h=>⟨_,_,h,(zL HS2.out (hE.trans hX))⟩) (fun _ _ _ h=>h) (fun X hX _ _ _ _ h h'=>jg X HF.out (hRC.out.ext (hE.trans hX)) h h' hsy.out L_u3.out) E_u4.out ?_;refine zt 14 0 [(50,0),(51,1),(52,2),(53,3),(54,4),(55,5),(56,6),(57,7),(58,8),(59,9),(60,10),(61,11),(62,12)] (fun f X hX hR K hK=>?_) ?_
       · obtain⟨A14_4,c14_4,(e4:f 4=_),o14_4⟩:=hR.out 4 rfl;obtain⟨A14_12,c14_12,(e12:f 12=_),o14_12⟩:=hR.out 12 rfl;simp only[yZ,e4,e12];refine⟨?_⟩;go_simp;exact hK.out _ _ _ (by simp only[yZ,e4,e12]) (zX _) trivial (fun Y hY=>⟨_,_,_,_,rfl,zL o14_4 hY,zL o14_12 hY⟩)
       refine yF ⟨fun f X hX hR hal hap=>?_⟩;obtain⟨A14_4,c14_4,(e4:f 4=_),o14_4⟩:=hR 4 (by decide);obtain⟨A14_11,c14_11,(e11:f 11=_),o14_11⟩:=hR 11 (by decide);obtain⟨A14_12,c14_12,(e12:f 12=_),o14_12⟩:=hR 12 (by decide);obtain⟨Ax1,cx1,Ay1,cy1,(e13:f 13=_),ox1,oy1⟩:=hR 13 (by decide);simp only[yZ,e4,e11,e12,e13];clear hR hal hap e4 e11 e12 e13;refine zP (fun K hK=>⟨zU (by kernel_rfl) (jJ (cs':=#[.bool false,.slice Ax1 (digs 4294967296 u2).length cx1,.slice Ay1 (digs 4294967296 u4).length cy1]) (t:=45) 45 (.tmp 6) (.tmp 63) rfl rfl rfl rfl (hX.at_ hb1) dI rfl (yT _ _ _ _ _ _ _) (fun Y hY1 hY2 hY3=>hK.out _ _ ?_))⟩);refine zH ?_;go_wp2;exact cD rfl rfl rfl hY1 ⟨_,rfl,⟨_,_,_,_,rfl,ox1.offJ hY2 (hX.at_ hb1) (by kernel_rfl),oy1.offJ hY2 (hX.at_ hb1) (by kernel_rfl)⟩,hY2.ext (HEw.out.trans (hE.trans hX)) (by have:=Hq.out;omega)⟩
end Go.Proofs.YtaemogcomplhiaaGreatDoor
namespace Go.Proofs.YtaemogcomplhiaaGreatDoor
namespace Gl
section
variable {M:Nat} [NeZero M] {b:Fin M}
theorem wC (x y:Nat):ph (p:=M) (mm M x y)=ph x*ph y:=by rw[mm,vI,xX]
theorem bA (x y:Nat):ph (p:=M) (am M x y)=ph x+ph y:=by rw[am,vI,yV]
theorem yp (x y:Nat):ph (p:=M) (sm M x y)=ph x-ph y:=by
 rw[sm,vI,dA (by have:=qL y (wv (p:=M));omega),yV,uZ,vI];grind
theorem x8 (x y:Nat):sm M x y<M:=qL _ wv
theorem kR (x y:Nat):mm M x y<M:=qL _ wv
theorem pB {x:Nat}(hx:x<M):ph (p:=M) x=0↔x=0:=by rw[yo,zy hx]
def RpN (J:Nat×Nat×Nat) (P:Pt M):Prop:=Rp (ph J.1) (ph J.2.1) (ph J.2.2) P
theorem RpN.zero (x y:Nat):RpN (M:=M) (x,y,0) none:=Or.inl ⟨ph0,rfl⟩
theorem RpN.of_zero {J:Nat×Nat×Nat}{P:Pt M}(h:RpN J P)(hz:J.2.2%M=0):P=none:=h.none_iff.1 (yo.2 hz)
theorem sH (h:Cv ivp b){x y z:Nat}{P:Pt M}(hr:RpN (x,y,z) P)(hP:On b P):RpN (gO M x y z) (ad ivp P P):=by
 refine h.dbl hr hP rfl ?_ ?_ ?_
 · simp only[gO,wC,bA,yp];rw[show(ph (p:=M) 3)=3 from rfl];grind
 · simp only[gO,wC,bA,yp];rw[show(ph (p:=M) 3)=3 from rfl];grind
 · simp only[gO,wC,bA,yp];grind
theorem Rp.split {X Y Z:Fin M}{P:Pt M}(h:Rp X Y Z P)(hz:Z≠0):∃ x y,P=some (x,y)∧X=x*(Z*Z)∧Y=y*(Z*Z*Z):=h.elim (fun e=>absurd e.1 hz) (·.2)
theorem zCp (h:Cv ivp b){x1 y1 z1 x2 y2 z2:Nat}{P Q:Pt M}(hr:RpN (x1,y1,z1) P)(hs:RpN (x2,y2,z2) Q)(hP:On b P)(hQ:On b Q)(hz1:¬ z1%M=0)(hz2:¬ z2%M=0):RpN (gj M x1 y1 z1 x2 y2 z2) (ad ivp P Q):=by
 have n1:ph (p:=M) z1≠0:=fun e=>hz1 (yo.1 e);have n2:ph (p:=M) z2≠0:=fun e=>hz2 (yo.1 e);obtain⟨px,py,rfl,e1,e2⟩:=Rp.split hr n1;obtain⟨qx,qy,rfl,e3,e4⟩:=Rp.split hs n2;obtain⟨a1,a2,a3⟩:=h.add (X':=ph (gj M x1 y1 z1 x2 y2 z2).1) (Y':=ph (gj M x1 y1 z1 x2 y2 z2).2.1) (Z':=ph (gj M x1 y1 z1 x2 y2 z2).2.2) n1 n2 e1 e2 e3 e4 hP hQ rfl rfl rfl rfl;have c1:∀ u3 u4:Nat,ph (p:=M) u3=ph x1*(ph z2*ph z2)→ph (p:=M) u4=ph x2*(ph z1*ph z1)→(sm M u4 u3%M=0↔px=qx):=fun u3 u4 g3 g4=>by rw[←a1,←g3,←g4,←yo,yp]
 have c2:∀ u6 u8:Nat,ph (p:=M) u6=ph y1*(ph z2*ph z2*ph z2)→ph (p:=M) u8=ph y2*(ph z1*ph z1*ph z1)→(sm M u8 u6%M=0↔py=qy):=fun u6 u8 g6 g8=>by rw[←a2,←g6,←g8,←yo,yp]
 have d1:=c1 (mm M x1 (mm M z2 z2)) (mm M x2 (mm M z1 z1)) (by simp only[wC]) (by simp only[wC]);have d2:=c2 (mm M y1 (mm M (mm M z2 z2) z2)) (mm M y2 (mm M (mm M z1 z1) z1)) (by simp only[wC]) (by simp only[wC]);clear c1 c2;by_cases hx:px=qx
 · by_cases hy:py=qy
   · subst hx hy;have e:gj M x1 y1 z1 x2 y2 z2=gO M x1 y1 z1:=by
      simp only[gj];rw[qg (d1.2 rfl),qg (d2.2 rfl)]
     rw[e];exact sH h hr hP
   · subst hx;have e:gj M x1 y1 z1 x2 y2 z2=(1,1,0):=by
      simp only[gj];rw[qg (d1.2 rfl),ql (fun g=>hy (d2.1 g))]
     rw[e,zBX hy];exact RpN.zero _ _
 · have hn:¬ sm M (mm M x2 (mm M z1 z1)) (mm M x1 (mm M z2 z2))%M=0:=fun g=>hx (d1.1 g);refine a3 (fun g=>hx (a1.1 g)) ?_ ?_ ?_
   · simp only[gj];rw[ql hn];simp only[wC,bA,yp]
   · simp only[gj];rw[ql hn];simp only[wC,bA,yp]
   · simp only[gj];rw[ql hn];simp only[wC,yp]
theorem sO (h:Cv ivp b){p q:Nat×Nat×Nat}{P Q:Pt M}(hr:RpN p P)(hs:RpN q Q)(hP:On b P)(hQ:On b Q):RpN (uo M p q) (ad ivp P Q):=by
 unfold uo bV;by_cases h1:p.2.2%M=0
 · rw[qg h1,hr.of_zero h1];exact hs
 · rw[ql h1];by_cases h2:q.2.2%M=0
   · rw[qg h2,hs.of_zero h2,sP];exact hr
   · rw[ql h2];exact zCp h hr hs hP hQ h1 h2
theorem zCY (h:Cv ivp b){p:Nat×Nat×Nat}{P:Pt M}(hr:RpN p P)(hP:On b P):RpN (gh M p) (ad ivp P P):=sH h hr hP
theorem rG (h:Cv ivp b){p:Nat×Nat×Nat}{P:Pt M}(hr:RpN p P)(hP:On b P):∀ k,RpN (od M p k) (nm ivp P k)
 | 0=>RpN.zero _ _
 | 1=>hr
 | k+2=>sO h (rG h hr hP (k+1)) hr (h.on_nm hP _) hP
theorem rX (h:Cv ivp b){p:Nat×Nat×Nat}{P:Pt M}(hr:RpN p P)(hP:On b P)(E:Nat):∀ k,k≤zu E→∃ a,RpN (kI M p E k).1 (nm ivp P a)∧kM E k=a+(kI M p E k).2
 | 0,_=>⟨0,RpN.zero _ _,by rw[ur];rfl⟩
 | k + 1, hk => by
   obtain⟨a,h1,h2⟩:=rX h hr hP E k (by omega);have hd:=zCY h h1 (h.on_nm hP a);rw[←h.nm_two hP]at hd;have ht:=ym (E:=E) (k:=k) (by omega);simp only[kI];split
   · refine⟨2*a+(2*(kI M p E k).2+(jn E k).2),?_,?_⟩
     · rw[h.nm_add hP];exact sO h hd (rG h hr hP _) (h.on_nm hP _) (h.on_nm hP _)
     · show kM E (k+1)=_+0;omega
   · exact⟨2*a,hd,by show kM E (k+1)=2*a+(2*(kI M p E k).2+(jn E k).2);omega⟩
theorem zAr (M:Nat)(p:Nat×Nat×Nat)(E:Nat):(kI M p E (zu E)).2=0:=by
 obtain⟨n,hn⟩:=eV (zu E);rw[hn];match n with
 | 0=>rfl
 | k + 1 =>
   simp only[kI];rw[qg (by show(zu E-1-k)%4=0;rw[hn,show k+1-1-k=0 by omega])]
theorem zAq (h:Cv ivp b){p:Nat×Nat×Nat}{P:Pt M}(hr:RpN p P)(hP:On b P)(E:Nat):RpN (kI M p E (zu E)).1 (nm ivp P E):=by
 obtain⟨a,h1,h2⟩:=rX h hr hP E _ (zG _);rw[go,zAr]at h2;obtain rfl:E=a:=h2;exact h1
theorem t7 (h:Cv ivp b){x y z:Nat}{P:Pt M}(hr:RpN (x,y,z) P)(hP:On b P)(_hy:y<M)(hz:z<M):RpN (twP M x y z) (ad ivp P P)∧(twP M x y z).2.1<M∧(twP M x y z).2.2<M:=by
 unfold twP;have hM:0<M:=wv;by_cases h1:z=0
 · rw[qg h1];have:=hr.of_zero (by show z%M=0;rw[h1];exact kL _);subst this;exact⟨RpN.zero _ _,hM,hM⟩
 · rw[ql h1];have n1:ph (p:=M) z≠0:=fun e=>h1 ((pB hz).1 e);by_cases h2:y=0
   · exfalso;obtain⟨px,py,rfl,e1,e2⟩:=Rp.split hr n1;have:ph (p:=M) y=0:=by rw[h2];exact ph0
     rw[show ph (x,y,z).2.1=ph (p:=M) y from rfl,this]at e2;exact h.nz (h.y0 hP) (h.nz (h.nz n1 n1) n1) e2.symm
   · rw[ql h2];refine⟨h.dbl hr hP rfl ?_ ?_ ?_,x8 _ _,kR _ _⟩
     · simp only[wC,bA,yp];rw[show(ph (p:=M) 3)=3 from rfl,show(ph (p:=M) 4)=4 from rfl];grind
     · simp only[wC,bA,yp];rw[show(ph (p:=M) 3)=3 from rfl,show(ph (p:=M) 4)=4 from rfl,show(ph (p:=M) 8)=8 from rfl]
     · simp only[wC];rw[show(ph (p:=M) 2)=2 from rfl];grind
theorem zCM (h:Cv ivp b){x y z qx qy:Nat}{P:Pt M}(hr:RpN (x,y,z) P)(hP:On b P)(hQ:Oc b (ph qx) (ph qy))(hy:y<M)(hz:z<M)(hqy:qy<M)(h1M:1<M):RpN (yG M x y z qx qy) (ad ivp P (some (ph qx,ph qy)))∧(yG M x y z qx qy).2.1<M∧(yG M x y z qx qy).2.2<M:=by
 have hM:0<M:=wv;unfold yG;by_cases h1:z=0
 · rw[qg h1];have:=hr.of_zero (by show z%M=0;rw[h1];exact kL _);subst this;exact⟨Rp.up h.one _ _,hqy,h1M⟩
 · rw[ql h1];have n1:ph (p:=M) z≠0:=fun e=>h1 ((pB hz).1 e);obtain⟨px,py,rfl,e1,e2⟩:=Rp.split hr n1;have c0:∀ u v:Nat,(sm M u v=0↔ph (p:=M) u-ph v=0):=fun u v=>by rw[←yp,pB (x8 u v)]
   obtain⟨a1,a2,a3⟩:=h.add (X1:=ph x) (Y1:=ph y) (Z1:=ph z) (X2:=ph qx) (Y2:=ph qy) (Z2:=1) (x2:=ph qx) (y2:=ph qy) (X':=ph (yG M x y z qx qy).1) (Y':=ph (yG M x y z qx qy).2.1) (Z':=ph (yG M x y z qx qy).2.2) n1 h.one e1 e2 (by grind) (by grind) hP hQ rfl rfl rfl rfl;have d1:sm M (mm M qx (mm M z z)) x=0↔px=ph qx:=by
    rw[←a1,c0];simp only[wC];rw[show ph (p:=M) x*(1*1)=ph x by grind]
   have d2:sm M (mm M qy (mm M (mm M z z) z)) y=0↔py=ph qy:=by
    rw[←a2,c0];simp only[wC];rw[show ph (p:=M) y*(1*1*1)=ph y by grind]
   simp only;by_cases hx:px=ph qx
   · rw[qg (d1.2 hx)];by_cases hyy:py=ph qy
     · rw[qg (d2.2 hyy)];subst hx hyy;exact t7 h hr hP hy hz
     · rw[ql (fun g=>hyy (d2.1 g))];subst hx;rw[zBX hyy];exact⟨RpN.zero _ _,hM,hM⟩
   · have hn:¬ sm M (mm M qx (mm M z z)) x=0:=fun g=>hx (d1.1 g);rw[ql hn];refine⟨?_,x8 _ _,kR _ _⟩
     have em:yG M x y z qx qy=(sm M (sm M (sm M (mm M (sm M (mm M qy (mm M (mm M z z) z)) y) (sm M (mm M qy (mm M (mm M z z) z)) y)) (mm M (mm M (sm M (mm M qx (mm M z z)) x) (sm M (mm M qx (mm M z z)) x)) (sm M (mm M qx (mm M z z)) x))) (mm M x (mm M (sm M (mm M qx (mm M z z)) x) (sm M (mm M qx (mm M z z)) x)))) (mm M x (mm M (sm M (mm M qx (mm M z z)) x) (sm M (mm M qx (mm M z z)) x))),
      sm M (mm M (sm M (mm M qy (mm M (mm M z z) z)) y) (sm M (mm M x (mm M (sm M (mm M qx (mm M z z)) x) (sm M (mm M qx (mm M z z)) x))) (sm M (sm M (sm M (mm M (sm M (mm M qy (mm M (mm M z z) z)) y) (sm M (mm M qy (mm M (mm M z z) z)) y)) (mm M (mm M (sm M (mm M qx (mm M z z)) x) (sm M (mm M qx (mm M z z)) x)) (sm M (mm M qx (mm M z z)) x))) (mm M x (mm M (sm M (mm M qx (mm M z z)) x) (sm M (mm M qx (mm M z z)) x)))) (mm M x (mm M (sm M (mm M qx (mm M z z)) x) (sm M (mm M qx (mm M z z)) x)))))) (mm M y (mm M (mm M (sm M (mm M qx (mm M z z)) x) (sm M (mm M qx (mm M z z)) x)) (sm M (mm M qx (mm M z z)) x))),mm M z (sm M (mm M qx (mm M z z)) x)):=by
      unfold yG;rw[ql h1];simp only;rw[ql hn]
     rw[em]at a3;refine a3 (fun g=>hx (a1.1 g)) ?_ ?_ ?_
     · simp only[wC,yp];clear a1 a2 a3 d1 d2 e1 e2 em;grind
     · simp only[wC,yp];clear a1 a2 a3 d1 d2 e1 e2 em;grind
     · simp only[wC,yp];clear a1 a2 a3 d1 d2 e1 e2 em;grind
theorem zAN (h:Cv ivp b){qx qy:Nat}(hQ:Oc b (ph qx) (ph qy))(hqy:qy<M)(h1M:1<M)(E:Nat):∀ k,k≤zu E→RpN (M:=M) (rmS M qx qy E k) (nm ivp (some (ph qx,ph qy)) (kM E k))∧(rmS M qx qy E k).2.1<M∧(rmS M qx qy E k).2.2<M
 | 0,_=>⟨by rw[ur];exact RpN.zero _ _,wv,wv⟩
 | k + 1, hk => by
   obtain⟨g1,g2,g3⟩:=zAN h hQ hqy h1M E k (by omega);have hP:On b (some (ph qx,ph qy)):=hQ;obtain⟨d1,d2,d3⟩:=t7 h g1 (h.on_nm hP _) g2 g3;rw[←h.nm_two hP]at d1;have ht:=ym (E:=E) (k:=k) (by omega);have hb:(jn E k).2<2:=qL _ (by omega);simp only[rmS];split
   · rename_i hb1;rw[ht,hb1];exact zCM h d1 (h.on_nm hP _) hQ d2 d3 hqy h1M
   · rename_i hb1;rw[ht,show(jn E k).2=0 by omega];exact⟨d1,d2,d3⟩
def ge (P:Pt M):Option (Nat×Nat):=P.map fun q=>(q.1.val,q.2.val)
def toP (bi:Bool) (x y:Nat):Pt M:=if bi then none else some (ph x,ph y)
omit [NeZero M]in
theorem zCH {P:Pt M}{q:Nat×Nat}(h:ge P=some q):q.1<M∧q.2<M:=by
 match P with
 | none=>exact absurd h (by simp[ge])
 | some (x, y) =>
   have:(x.val,y.val)=q:=by simpa[ge]using h
   subst this;exact⟨x.isLt,y.isLt⟩
theorem zAA {P:Pt M} : toP (ge P).isNone ((ge P).elim 0 (·.1)) ((ge P).elim 0 (·.2))=P:=by
 match P with
 | none=>rfl
 | some (x,y)=>show some (ph x.val,ph y.val)=_;rw[gV,gV]
omit [NeZero M]in
theorem zDu {z:Nat}(hz:¬ z%M=0):¬ M∣z:=fun h=>hz (Nat.mod_eq_zero_of_dvd h)
theorem zBF (hp:Pm.qb M){J:Nat×Nat×Nat}{P:Pt M}(hr:RpN J P):yu M J=ge P:=by
 unfold yu bQ;by_cases h1:J.2.2%M=0
 · rw[qg h1,hr.of_zero h1];rfl
 · rw[ql h1];have n1:ph (p:=M) J.2.2≠0:=fun e=>h1 (yo.1 e);obtain⟨x,y,rfl,-,-⟩:=Rp.split hr n1;have hv:ph (p:=M) J.2.2*ph (J.2.2 ^(M-2))=1:=by
    have:=Pm.rk hp (zDu h1);rw[←vI (J.2.2 ^(M-2)),←xX,←vI (J.2.2*_),this];exact ph1
   obtain⟨b1,b2⟩:=Rp.back hr hv;show some (_,_)=some (x.val,y.val);have e1:ph (p:=M) (mm M J.1 (mm M (J.2.2 ^(M-2)) (J.2.2 ^(M-2))))=x:=by simp only[wC];exact b1
   have e2:ph (p:=M) (mm M J.2.1 (mm M (mm M (J.2.2 ^(M-2)) (J.2.2 ^(M-2))) (J.2.2 ^(M-2))))=y:=by simp only[wC];exact b2
   rw[←e1,←e2,wz,wz]
theorem pP (x:Nat):∀(n r s t u:Nat),s≤n→ph (p:=M) r=ph t*ph x→ph (p:=M) s=ph u*ph x→(jp M r s t u).1=Nat.gcd r s∧ph (p:=M) (jp M r s t u).1=ph (jp M r s t u).2*ph x:=by
 intro n;induction n with
 | zero =>
   intro r s t u hs h1 h2;obtain rfl:s=0:=by omega
   rw[vP,Nat.gcd_zero_right];exact⟨rfl,h1⟩
 | succ n ih =>
   intro r s t u hs h1 h2;rcases zT s with rfl|h0
   · rw[vP,Nat.gcd_zero_right];exact⟨rfl,h1⟩
   · rw[xD (by omega)];have hr:ph (p:=M) (r%s)=ph ((t+M-r/s*u%M)%M)*ph x:=by
       have hd:=jY r s;have e1:ph (p:=M) r=ph s*ph (r/s)+ph (r%s):=by rw[←xX,←yV,hd]
       rw[vI,dA (by have:=qL (r/s*u) (wv (p:=M));omega),yV,uZ,vI,xX];clear ih hd;grind
     obtain⟨g1,g2⟩:=ih s (r%s) u _ (by have:=qL r h0;omega) h2 hr;refine⟨?_,g2⟩;rw[g1,Nat.gcd_comm r s];rw[Nat.gcd_comm s (r%s),←Nat.gcd_rec]
theorem zDz (hp:Pm.qb M){z:Nat}(hz:¬ z%M=0):ph (p:=M) z*ph (wX z M).1=1:=by
 obtain⟨g1,g2⟩:=pP (M:=M) z (z%M) M (z%M) 0 1 (zG _) (by rw[uZ,ph0];grind) (by rw[vI,ph1];grind);have hg:Nat.gcd M (z%M)=1:=hp.coprime (fun hd=>hz (by have:=Nat.eq_zero_of_dvd_of_lt hd (qL _ wv);exact this));rw[hg]at g1;unfold wX;rw[qg g1];rw[g1,ph1]at g2;show ph z*ph (jp M M (z%M) 0 1).2=1;rw[g2];grind
theorem zAR (hp:Pm.qb M){J:Nat×Nat×Nat}{P:Pt M}(hr:RpN J P)(hz:J.2.2<M):fM M J.1 J.2.1 J.2.2=ge P:=by
 unfold fM;by_cases h1:J.2.2=0
 · rw[qg h1,hr.of_zero (by rw[h1];exact kL _)];rfl
 · rw[ql h1];have n0:¬ J.2.2%M=0:=by rwa [zy hz]
   have n1:ph (p:=M) J.2.2≠0:=fun e=>n0 (yo.1 e);obtain⟨x,y,rfl,-,-⟩:=Rp.split hr n1;have hv:=zDz hp n0;obtain⟨iv,hiv⟩:=eV ((wX J.2.2 M).1);rw[hiv]at hv ⊢;obtain⟨b1,b2⟩:=Rp.back hr hv;show some (_,_)=some (x.val,y.val);have e1:ph (p:=M) (mm M J.1 (mm M iv iv))=x:=by simp only[wC];exact b1
   have e2:ph (p:=M) (mm M J.2.1 (mm M (mm M iv iv) iv))=y:=by simp only[wC];exact b2
   have f1:=congrArg Fin.val e1;have f2:=congrArg Fin.val e2;rw[wz,zy (kR _ _)]at f1 f2;rw[←f1,←f2]
theorem zDH (h1:(1:Fin M)≠0)(bi:Bool)(x y:Nat):RpN (M:=M) (upP bi x y) (toP bi x y):=by
 cases bi
 · exact Rp.up h1 _ _
 · exact RpN.zero _ _
theorem zDs (hp:Pm.qb M)(h:Cv ivp b){bi:Bool}{x y:Nat}(hP:On b (toP bi x y))(E:Nat):yu M (kI M (upP bi x y) E (zu E)).1=ge (M:=M) (nm ivp (toP bi x y) E) :=
 zBF hp (zAq h (zDH h.one bi x y) hP E)
theorem rW (n:Nat):nm ivp (none:Pt M) n=none:=by
 induction n with
 | zero=>rfl
 | succ n ih=>show ad ivp (nm ivp none n) none=none;rw[ih];rfl
theorem fI (hp:Pm.qb M)(h:Cv ivp b){bi:Bool}{x y:Nat}(hP:On b (toP bi x y))(hy:bi=false→y<M)(E:Nat):vY M bi x y E=ge (M:=M) (nm ivp (toP bi x y) E):=by
 unfold vY;cases bi
 · obtain⟨h1,h2,h3⟩:=zAN h hP (hy rfl) hp.two E _ (zG _);rw[go]at h1;exact zAR hp h1 h3
 · show none=ge (nm ivp none E);rw[rW];rfl
theorem zDh {bb:Nat}(hb:b=ph bb){x y:Nat}(h:onB M bb x y=true):Oc b (ph x) (ph y):=by
 unfold onB at h;rw[ji,ji]at h;have e:=congrArg (ph (p:=M)) (ws h.2);rw[vI,xX,vI,yV,vI,dA (by have:=qL (3*x) (wv (p:=M));omega),yV,uZ,vI,xX,vI,xX,vI,xX]at e;rw[show(ph (p:=M) 3)=3 from rfl]at e;unfold Oc;rw[e,hb];grind
theorem mM {bb:Nat}(hb:b=ph bb){bi:Bool}{x y:Nat}(h:bi=false→onB M bb x y=true):On b (toP bi x y):=by
 cases bi
 · exact zDh hb (h rfl)
 · trivial
end
end Gl
end Go.Proofs.YtaemogcomplhiaaGreatDoor
namespace Go.Proofs.YtaemogcomplhiaaGreatDoor
open Gl
theorem IsC.cv {c:Int}{C:Crv}(h:IsC c C):∃ _:NeZero C.M,Pm.qb C.M∧Cv (p:=C.M) ivp (ph C.bb):=by
 rcases h with⟨_,rfl⟩|⟨_,rfl⟩
 · have e:kU.M=115792089210356248762697446949407573530086143415290314195533631308867097853951:=by decide +kernel
   have eb:kU.bb=41058363725152142129326129780047268409114441015993725554835256314039467401291:=by decide +kernel
   rw[e,eb];exact⟨⟨by decide⟩,Pm.p256,zC8 Pm.p256 (by decide) zBt⟩
 · have e:bT.M=39402006196394479212279040100143613805079739270465446667948293404245721771496870329047266088258938001861606973112319:=by decide +kernel
   have eb:bT.bb=27580193559959705877849011840389048093056905856361568521428707301988689241309860865136260764883745107765439761230575:=by decide +kernel
   rw[e,eb];exact⟨⟨by decide⟩,Pm.p384,zC8 Pm.p384 (by decide) zBs⟩
theorem cA {C:Crv}{bi:Bool}{x y:Nat}(ho:onQ C bi x y=true):bi=false→onB C.M C.bb x y=true:=by
 rintro rfl;exact ho
theorem dG {c:Int}{C:Crv}(hC:IsC c C){bi:Bool}{x y E:Nat}(ho:onQ C bi x y=true)(hE:zu E≤4096):yY C bi x y E=some (vY C.M bi x y E):=by
 obtain⟨_,hp,hv⟩:=hC.cv;have h1:=cA ho;have hP:=mM (M:=C.M) (b:=ph C.bb) rfl h1;unfold yY;rw[qg ho,qg hE,zDs hp hv hP,fI hp hv hP (fun hb=>(bF (h1 hb)).2)]
theorem zDf {M:Nat}[NeZero M]{bb x y:Nat}(hx:x<M)(hy:y<M)(h:Oc (p:=M) (ph bb) (ph x) (ph y)):onB M bb x y=true:=by
 unfold onB;rw[qZ hx,qZ hy];refine qZ ?_;have e:ph (p:=M) (y*y)=ph ((x*x%M*x%M+M-3*x%M)%M+bb):=by
  rw[xX,yV,vI,dA (by have:=qL (3*x) (wv (p:=M));omega),yV,uZ,vI,xX,vI,xX,vI,xX];rw[show(ph (p:=M) 3)=3 from rfl];unfold Oc at h;rw[h];grind
 exact congrArg Fin.val e
theorem zAg {C:Crv}[NeZero C.M]{P:Pt C.M}(h:On (ph C.bb) P):onQ C (ge P).isNone ((ge P).elim 0 (·.1)) ((ge P).elim 0 (·.2))=true:=by
 match P with
 | none=>rfl
 | some (x,y)=>exact zDf x.isLt y.isLt (by show Oc (ph C.bb) (ph x.val) (ph y.val);rw[gV,gV];exact h)
theorem zAf {c:Int}{C:Crv}(hC:IsC c C){bi:Bool}{x y E:Nat}{S:Option (Nat×Nat)}(ho:onQ C bi x y=true)(hS:vY C.M bi x y E=S):onQ C S.isNone (S.elim 0 (·.1)) (S.elim 0 (·.2))=true:=by
 obtain⟨_,hp,hv⟩:=hC.cv;have h1:=cA ho;have hP:=mM (M:=C.M) (b:=ph C.bb) rfl h1;rw[fI hp hv hP (fun hb=>(bF (h1 hb)).2)]at hS;subst hS;exact zAg (hv.on_nm hP E)
theorem aR {M:Nat}{P:Pt M}(h:ge P=none):P=none:=by
 match P with
 | none=>rfl
 | some _=>exact absurd h (by simp[ge])
end Go.Proofs.YtaemogcomplhiaaGreatDoor
namespace Go.Proofs.YtaemogcomplhiaaGreatDoor
def frc {α:Type} (n:Nat) (f:Nat→α):α:=Nat.rec (f 0) (fun m _=>f (m+1)) n
theorem zD1 {α:Type}(n:Nat)(f:Nat→α):frc n f=f n:=by cases n<;>rfl
def sw (M qx qy E:Nat):Nat→(Nat→Nat→Nat→Bool)→Bool
  | 0,f=>f 0 0 0
  | k + 1, f => sw M qx qy E k fun x y z =>
    frc (twP M x y z).1 fun x1=>frc (twP M x y z).2.1 fun y1=>frc (twP M x y z).2.2 fun z1 =>
      if(jn E k).2=1 then frc (yG M x1 y1 z1 qx qy).1 fun x2=>frc (yG M x1 y1 z1 qx qy).2.1 fun y2=>frc (yG M x1 y1 z1 qx qy).2.2 fun z2=>f x2 y2 z2
      else f x1 y1 z1
theorem rQ (M qx qy E:Nat):∀ k f,sw M qx qy E k f=f (rmS M qx qy E k).1 (rmS M qx qy E k).2.1 (rmS M qx qy E k).2.2
 | 0,f=>rfl
 | k + 1, f => by
   simp only[sw,rmS];rw[rQ M qx qy E k];simp only[zD1];split<;>rfl
theorem zDc {M x y n:Nat}(h:sw M x y n (zu n) (fun _ _ z=>z==0)=true):vY M false x y n=none:=by
 rw[rQ]at h;unfold vY fM;rw[ql (by decide),qg (eq_of_beq h)]
theorem IsC.base_on {c:Int}{C:Crv}(h:IsC c C):onQ C false (val 18446744073709551616 C.xl) (val 18446744073709551616 C.yl)=true:=by
 rcases h with⟨_,rfl⟩|⟨_,rfl⟩<;>kernel_rfl
theorem zDe:sw 115792089210356248762697446949407573530086143415290314195533631308867097853951 48439561293906451759052585252797914202762949526041747995844080717082404635286 36134250956749795798585127919587881956611106672985015071877198253568414405109 115792089210356248762697446949407573529996955224135760342422259061068512044369 256 (fun _ _ z=>z==0)=true:=by kernel_rfl
theorem zDd:sw 39402006196394479212279040100143613805079739270465446667948293404245721771496870329047266088258938001861606973112319 26247035095799689268623156744566981891852923491109213387815615900925518854738050089022388053975719786650872476732087 8325710961489029985546751289520108179287853048861315594709205902480503199884419224438643760392947333078086511627871 39402006196394479212279040100143613805079739270465446667946905279627659399113263569398956308152294913554433653942643 384 (fun _ _ z=>z==0)=true:=by kernel_rfl
theorem IsC.ord {c:Int}{C:Crv}(h:IsC c C):vY C.M false (val 18446744073709551616 C.xl) (val 18446744073709551616 C.yl) (val 18446744073709551616 C.nl)=none:=by
 refine zDc ?_;rcases h with⟨_,rfl⟩|⟨_,rfl⟩
 · have e1:kU.M=115792089210356248762697446949407573530086143415290314195533631308867097853951:=by decide +kernel
   have e2:val 18446744073709551616 kU.xl=48439561293906451759052585252797914202762949526041747995844080717082404635286:=by decide +kernel
   have e3:val 18446744073709551616 kU.yl=36134250956749795798585127919587881956611106672985015071877198253568414405109:=by decide +kernel
   have e4:val 18446744073709551616 kU.nl=115792089210356248762697446949407573529996955224135760342422259061068512044369:=by decide +kernel
   have e5:zu 115792089210356248762697446949407573529996955224135760342422259061068512044369=256:=by decide +kernel
   rw[e1,e2,e3,e4,e5];exact zDe
 · have e1:bT.M=39402006196394479212279040100143613805079739270465446667948293404245721771496870329047266088258938001861606973112319:=by decide +kernel
   have e2:val 18446744073709551616 bT.xl=26247035095799689268623156744566981891852923491109213387815615900925518854738050089022388053975719786650872476732087:=by decide +kernel
   have e3:val 18446744073709551616 bT.yl=8325710961489029985546751289520108179287853048861315594709205902480503199884419224438643760392947333078086511627871:=by decide +kernel
   have e4:val 18446744073709551616 bT.nl=39402006196394479212279040100143613805079739270465446667946905279627659399113263569398956308152294913554433653942643:=by decide +kernel
   have e5:zu 39402006196394479212279040100143613805079739270465446667946905279627659399113263569398956308152294913554433653942643=384:=by decide +kernel
   rw[e1,e2,e3,e4,e5];exact zDd
namespace Pm
theorem zB9:qb 155317:=jd (k:=394) (by decide) (by kernel_rfl) (by decide)
theorem pJ:qb 191039911:=kC (q:=155317) (a:=2) (k:=28) (by decide) zB9 (by kernel_rfl) (by kernel_rfl) (by kernel_rfl) (by kernel_rfl) (by decide)
theorem o3023:qb 3023:=jd (k:=54) (by decide) (by kernel_rfl) (by decide)
theorem np:qb 208150935158385979:=yU (q:=191039911) (s:=3023) (a:=2) (k:=58) (by decide) pJ o3023 (by decide) (by kernel_rfl) (by kernel_rfl) (by kernel_rfl) (by kernel_rfl) (by kernel_rfl) (by kernel_rfl) (by decide)
theorem nj:qb 2624747550333869278416773953:=kC (q:=208150935158385979) (a:=2) (k:=92) (by decide) np (by kernel_rfl) (by kernel_rfl) (by kernel_rfl) (by kernel_rfl) (by decide)
theorem zCA:qb 104471:=jd (k:=323) (by decide) (by kernel_rfl) (by decide)
theorem zAl:qb 3969899:=kC (q:=104471) (a:=2) (k:=22) (by decide) zCA (by kernel_rfl) (by kernel_rfl) (by kernel_rfl) (by kernel_rfl) (by decide)
theorem nu:qb 1002328039319:=kC (q:=3969899) (a:=2) (k:=40) (by decide) zAl (by kernel_rfl) (by kernel_rfl) (by kernel_rfl) (by kernel_rfl) (by decide)
theorem n256:qb 115792089210356248762697446949407573529996955224135760342422259061068512044369:=yU (q:=2624747550333869278416773953) (s:=1002328039319) (a:=2) (k:=256) (by decide) nj nu (by decide) (by kernel_rfl) (by kernel_rfl) (by kernel_rfl) (by kernel_rfl) (by kernel_rfl) (by kernel_rfl) (by decide)
theorem o233:qb 233:=jd (k:=15) (by decide) (by kernel_rfl) (by decide)
theorem o73:qb 73:=jd (k:=8) (by decide) (by kernel_rfl) (by decide)
theorem pI:qb 272109983:=yU (q:=233) (s:=73) (a:=2) (k:=29) (by decide) o233 o73 (by decide) (by kernel_rfl) (by kernel_rfl) (by kernel_rfl) (by kernel_rfl) (by kernel_rfl) (by kernel_rfl) (by decide)
theorem br:qb 228572385721:=kC (q:=272109983) (a:=2) (k:=38) (by decide) pI (by kernel_rfl) (by kernel_rfl) (by kernel_rfl) (by kernel_rfl) (by decide)
theorem nk:qb 23314383343543:=kC (q:=228572385721) (a:=2) (k:=45) (by decide) br (by kernel_rfl) (by kernel_rfl) (by kernel_rfl) (by kernel_rfl) (by decide)
theorem nZ:qb 426632512014427833817:=kC (q:=23314383343543) (a:=2) (k:=69) (by decide) nk (by kernel_rfl) (by kernel_rfl) (by kernel_rfl) (by kernel_rfl) (by decide)
theorem ns:qb 1495199339761412565498084319:=kC (q:=426632512014427833817) (a:=2) (k:=91) (by decide) nZ (by kernel_rfl) (by kernel_rfl) (by kernel_rfl) (by kernel_rfl) (by decide)
theorem nr:qb 17942392077136950785977011829:=kC (q:=1495199339761412565498084319) (a:=2) (k:=94) (by decide) ns (by kernel_rfl) (by kernel_rfl) (by kernel_rfl) (by kernel_rfl) (by decide)
theorem o881:qb 881:=jd (k:=29) (by decide) (by kernel_rfl) (by decide)
theorem o311:qb 311:=jd (k:=17) (by decide) (by kernel_rfl) (by decide)
theorem zAk:qb 9863677:=yU (q:=881) (s:=311) (a:=2) (k:=24) (by decide) o881 o311 (by decide) (by kernel_rfl) (by kernel_rfl) (by kernel_rfl) (by kernel_rfl) (by kernel_rfl) (by kernel_rfl) (by decide)
theorem nf:qb 37344768852931:=kC (q:=9863677) (a:=2) (k:=46) (by decide) zAk (by kernel_rfl) (by kernel_rfl) (by kernel_rfl) (by kernel_rfl) (by decide)
theorem nY:qb 55942463741690639:=kC (q:=37344768852931) (a:=2) (k:=56) (by decide) nf (by kernel_rfl) (by kernel_rfl) (by kernel_rfl) (by kernel_rfl) (by decide)
theorem nt:qb 1059392654943455286185473617842338478315215895509773412096307:=yU (q:=17942392077136950785977011829) (s:=55942463741690639) (a:=2) (k:=200) (by decide) nr nY (by decide) (by kernel_rfl) (by kernel_rfl) (by kernel_rfl) (by kernel_rfl) (by kernel_rfl) (by kernel_rfl) (by decide)
theorem ni:qb 3055465788140352002733946906144561090641249606160407884365391979704929268480326390471:=kC (q:=1059392654943455286185473617842338478315215895509773412096307) (a:=2) (k:=281) (by decide) nt (by kernel_rfl) (by kernel_rfl) (by kernel_rfl) (by kernel_rfl) (by decide)
theorem n384:qb 39402006196394479212279040100143613805079739270465446667946905279627659399113263569398956308152294913554433653942643:=kC (q:=3055465788140352002733946906144561090641249606160407884365391979704929268480326390471) (a:=2) (k:=384) (by decide) ni (by kernel_rfl) (by kernel_rfl) (by kernel_rfl) (by kernel_rfl) (by decide)
end Pm
end Go.Proofs.YtaemogcomplhiaaGreatDoor
namespace Go.Proofs.YtaemogcomplhiaaGreatDoor.Ec
open Gl
theorem zDl {p:Nat}[NeZero p]{iv:Fin p→Fin p}{b:Fin p}(h:Cv iv b){P:Pt p}(hP:On b P)(hn:∀ n,nm iv (none:Pt p) n=none)(m n:Nat):nm iv P m=none→nm iv P n=none→nm iv P (Nat.gcd m n)=none:=by
 refine Nat.gcd.induction (P:=fun m n=>nm iv P m=none→nm iv P n=none→nm iv P (Nat.gcd m n)=none) m n (fun n _ h2=>by rw[Nat.gcd_zero_left];exact h2) (fun m n _ ih h1 h2=>?_);rw[Nat.gcd_rec];refine ih ?_ h1;have e:=h.nm_add hP (m*(n/m)) (n%m);rw[jY,h2,h.nm_mul hP,h1,hn]at e;exact e.symm
theorem cR {c:Int}{C:Crv}(hC:IsC c C){x y k:Nat}{R:Nat×Nat}(ho:onQ C false x y=true)(hR:vY C.M false x y k=some R)(E:Nat):vY C.M false R.1 R.2 E=vY C.M false x y (k*E):=by
 obtain⟨_,hp,hv⟩:=hC.cv;have h1:=cA ho;have hG:=mM (M:=C.M) (b:=ph C.bb) rfl h1;have hl:false=false→y<C.M:=fun hb=>(bF (h1 hb)).2;rw[fI hp hv hG hl]at hR ⊢;have hPo:=hv.on_nm hG k;rw[hv.nm_mul hG];generalize nm ivp (toP (M:=C.M) false x y) k=P at *;have e:=zAA (P:=P);rw[hR]at e;have e:toP (M:=C.M) false R.1 R.2=P:=e;rw[fI hp hv (by rw[e];exact hPo) (fun _=>(zCH hR).2),e]
theorem su {c:Int}{C:Crv}(hC:IsC c C):Pm.qb (val 18446744073709551616 C.nl):=by
 rcases hC with⟨_,rfl⟩|⟨_,rfl⟩
 · have e4:val 18446744073709551616 kU.nl=115792089210356248762697446949407573529996955224135760342422259061068512044369:=by decide +kernel
   rw[e4];exact Pm.n256
 · have e4:val 18446744073709551616 bT.nl=39402006196394479212279040100143613805079739270465446667946905279627659399113263569398956308152294913554433653942643:=by decide +kernel
   rw[e4];exact Pm.n384
theorem oD {c:Int}{C:Crv}(hC:IsC c C){j:Nat}(hj:0<j)(hn:j<val 18446744073709551616 C.nl):∃ P:Nat×Nat,vY C.M false (val 18446744073709551616 C.xl) (val 18446744073709551616 C.yl) j=some P∧onQ C false P.1 P.2=true:=by
 have ho:=hC.base_on;have hO:=hC.ord;have hpr:=su hC;generalize val 18446744073709551616 C.nl=n at *;generalize val 18446744073709551616 C.xl=x at *;generalize val 18446744073709551616 C.yl=y at *;match hR:vY C.M false x y j with
 | some P=>exact⟨P,rfl,zAf hC ho hR⟩
 | none =>
   exfalso;obtain⟨_,hp,hv⟩:=hC.cv;have h1:=cA ho;have hG:=mM (M:=C.M) (b:=ph C.bb) rfl h1;have hl:false=false→y<C.M:=fun hb=>(bF (h1 hb)).2;rw[fI hp hv hG hl]at hO hR;have hg:=zDl hv hG rW n j (aR hO) (aR hR);rw[hpr.coprime (fun hd=>by have:=Nat.le_of_dvd hj hd;omega)]at hg;have e:nm ivp (toP (M:=C.M) false x y) 1=toP false x y:=rfl;rw[e]at hg;exact absurd hg (by simp[toP])
theorem pk {c:Int}{C:Crv}(hC:IsC c C){j k:Nat}{P Q:Nat×Nat}(hP:vY C.M false (val 18446744073709551616 C.xl) (val 18446744073709551616 C.yl) j=some P)(hQ:vY C.M false (val 18446744073709551616 C.xl) (val 18446744073709551616 C.yl) k=some Q) :
 vY C.M false P.1 P.2 k=vY C.M false Q.1 Q.2 j:=by
 rw[cR hC hC.base_on hP,cR hC hC.base_on hQ,zj]
end Go.Proofs.YtaemogcomplhiaaGreatDoor.Ec
namespace Go.Proofs.YtaemogcomplhiaaGreatDoor.Ec
open Go.RowKit Go.Shelf
attribute [local go_sem] Oper.semAt_some
theorem pX {x:Nat}(h:0<x):0<(digs 4294967296 x).length:=by
 rcases zT (digs 4294967296 x).length with h0|h0
 · have h1:=qQ h0;have h2:=zd (B:=4294967296) (by decide) x;rw[h1]at h2;simp[val]at h2;omega
 · exact h0
theorem zAM {c:Int}{C:Crv}(hC:IsU c C)(P:Nat→Prop)(A:Option Addr)(cap x:Nat)(w:World)(h:RN w P A cap (digs 4294967296 x))(hP:∀ b,P b→b<w.heap.size) :
 Calls Tryz.prog 14 #[.int .i64 c,.slice A (digs 4294967296 x).length cap] w fun e w'=>e=.returned (.bool (kY C x))∧Ext w w':=by
 have HO:=zF (rN hC w)
 have HX:=zF (fun X (hX:Ext w X)=>(show RN X P A cap (digs 4294967296 x)from h.below hX hP))
 have hs0:C.size=0→kY C x=false:=fun hz=>by
  rcases hC with hC|⟨_,_,rfl⟩
  · have:=hC.fine.pos;omega
  · simp[kY,c0]
 have hx0:x=0→kY C x=false:=fun hz=>by subst hz;simp[kY]
 have hxp:0<x→kY C x=decide (vJ x (val 18446744073709551616 C.nl)<0):=fun hz=>by
  unfold kY vJ;rw[qZ hz,Bool.true_and];by_cases h1:x<val 18446744073709551616 C.nl
  · rw[qg h1,qZ h1];rfl
  · rw[ql h1,jF h1];split<;>rfl
 have hl0:(digs 4294967296 x).length=0→x=0:=fun hz=>by
  rcases zT x with h0|h0
  · exact h0
  · have:=pX h0;omega
 have HXl:=zF (show x=0→(digs 4294967296 x).length=0 from fun hz=>by subst hz;rw[qV];rfl)
 have HC:=zF (fun X (hX:Ext w X) A' c'=>fun(h2:RU X A' c' (digs 4294967296 (val 18446744073709551616 C.nl)))=>wV P (fun b=>b<X.heap.size) A A' cap c' x (val 18446744073709551616 C.nl) X (h.below hX hP) h2)
 obtain⟨m,hm⟩:=eV (kY C x)
 rw[hm]at hs0 hx0 hxp ⊢
 have HS0:=zF hs0
 have HX0:=zF hx0
 have HXp:=zF hxp
 have HL0:=zF hl0
 clear h hP hC hm hs0 hx0 hxp hl0 HX
 go_enter Tryz.func14,Tryz.ntmps14
 go_wp2_with fail
 refine HO.out.mono ?_
 rintro e w1 ⟨v,rfl,⟨Ap,An,Ab,Ax,Ay,cp,cn,cb,cx,cy,rfl,h1,h2,h3,h4,h5⟩,hE1⟩
 obtain⟨l1,hl1⟩:=eV ((digs 4294967296 C.M).length)
 obtain⟨l2,hl2⟩:=eV ((digs 4294967296 (val 18446744073709551616 C.nl)).length)
 obtain⟨l3,hl3⟩:=eV ((digs 4294967296 C.bb).length)
 obtain⟨l4,hl4⟩:=eV ((digs 4294967296 (val 18446744073709551616 C.xl)).length)
 obtain⟨l5,hl5⟩:=eV ((digs 4294967296 (val 18446744073709551616 C.yl)).length)
 obtain⟨sz,hsz⟩:=eV C.size
 obtain⟨lx,hlx⟩:=eV ((digs 4294967296 x).length)
 have hA:=zO w1 (.cells #[.slice Ap l1 cp,.slice An l2 cn,.slice Ab l3 cb,.slice Ax l4 cx,.slice Ay l5 cy,.int .i64 (sz:Int)] 30)
 have hq:=zS w1 (.cells #[.slice Ap l1 cp,.slice An l2 cn,.slice Ab l3 cb,.slice Ax l4 cx,.slice Ay l5 cy,.int .i64 (sz:Int)] 30)
 have HE:=zF (jb hE1 hA)
 have HC2:=HC.out _ (jb hE1 hA) An cn (h2.up hA)
 rw[hl2,hlx]at HC2
 have HCm:=zF HC2
 rw[hl1,hl2,hl3,hl4,hl5,hsz,hlx]
 rw[hsz]at HS0
 rw[hlx]at HL0 HXl
 obtain⟨b,hb⟩:=eV w1.heap.size
 rw[hb]at hq
 have Hb:=zF hb
 have q5:=zQ hq 5
 have q1:=zQ hq 1
 simp only[zR,zi,qo]at q5 q1
 clear h1 h2 h3 h4 h5 hE1 hA hl1 hl2 hl3 hl4 hl5 hsz hlx HC2 hq hb HC HO
 go_upto_region 2 with fail
 rw[Hb.out]
 generalize w1.alloc (.cells #[.slice Ap l1 cp,.slice An l2 cn,.slice Ab l3 cb,.slice Ax l4 cx,.slice Ay l5 cy,.int .i64 (sz:Int)] 30)=W1 at *
 by_cases g0:sz=0
 · have hm:=HS0.out g0;subst g0 hm;have k0:¬(0:Int)<((0:Nat):Int):=by omega
   go_wp2;go_ret;exact⟨rfl,HE.out⟩
 have k0:(0:Int)<(sz:Int):=by omega
 by_cases g1:lx=0
 · have hm:=HX0.out (HL0.out g1);subst g1 hm;have k1:¬(0:Int)<((0:Nat):Int):=by omega
   clear g0;go_wp2;go_ret;exact⟨rfl,HE.out⟩
 have k1:(0:Int)<(lx:Int):=by omega
 have hm:=HXp.out (by rcases zT x with h|h;exact absurd (HXl.out h) g1;exact h)
 have Hm:=zF hm
 clear g0 g1 hm
 go_wp2_with fail
 refine HCm.out.mono ?_
 rintro e w2 ⟨rfl,d,rfl⟩
 have HE2:=zF (jb HE.out (kW W1 d))
 generalize vJ x (val 18446744073709551616 C.nl)=z at *
 go_wp2
 go_ret
 exact⟨by rw[Hm.out];rfl,HE2.out⟩
theorem mG {w:World}{b:Bool}{p1 p2:Value} : ∃(W0:World) (q:Nat),w.alloc (.cells #[.bool b,p1,p2] 33)=W0∧w.heap.size=q∧W0.heap[q]?=some (.cells #[.bool b,p1,p2] 33 (0,0))∧Ext w W0 :=
 ⟨_,_,rfl,rfl,zS w _,zO _ _⟩
theorem se {c:Int}{C:Crv}(hC:IsU c C){A:Option Addr}{cap k:Nat}{l:List Nat}{bi:Bool}{p p1 p2:Value}(w:World)(h:RU w A cap l)(hv:val 18446744073709551616 l=k)(hk:kY C k=false)(hp:p=.agg #[.bool bi,p1,p2]) :
 Calls Tryz.prog 25 #[.int .i64 c,.slice A l.length cap,p] w fun e w'=>e=.returned (.tuple #[.slice none 0 0,.int .i64 7])∧Ext w w':=by
 subst hp
 obtain⟨W0,q,hW0,hq,hq0,hE0⟩:=mG (w:=w) (b:=bi) (p1:=p1) (p2:=p2)
 have hm:=uN hC _ A cap l W0 (zL h hE0) (fun _ h=>h)
 rw[hv,hk]at hm
 obtain⟨n,hn⟩:=eV l.length
 rw[hn]at hm ⊢
 have HM:=zF hm
 have HE0:=zF hE0
 clear hm hE0 h hv hk hq0 hn
 go_enter Tryz.func25,Tryz.ntmps25
 go_upto_region 1 with fail
 clear hW0 hq
 go_wp2_with fail
 refine HM.out.mono ?_
 rintro e w1 ⟨rfl,E1⟩
 have HE1:=zF (HE0.out.trans E1)
 clear E1
 go_wp2
 go_ret2
 exact⟨rfl,HE1.out⟩
theorem og {c:Int}{C:Crv}(hC:IsC c C){A:Option Addr}{cap k:Nat}{l:List Nat}{p p1 p2:Value}(w:World)(h:RU w A cap l)(hv:val 18446744073709551616 l=k)(hk:kY C k=true)(hp:p=.agg #[.bool true,p1,p2]) :
 Calls Tryz.prog 25 #[.int .i64 c,.slice A l.length cap,p] w fun e w'=>e=.returned (.tuple #[.slice none 0 0,.int .i64 32])∧Ext w w':=by
 subst hp
 obtain⟨W0,q,hW0,hq,hq0,hE0⟩:=mG (w:=w) (b:=true) (p1:=p1) (p2:=p2)
 have hm:=uN (.inl hC) _ A cap l W0 (zL h hE0) (fun _ h=>h)
 rw[hv,hk]at hm
 obtain⟨n,hn⟩:=eV l.length
 rw[hn]at hm ⊢
 have HM:=zF hm
 have HE0:=zF hE0
 clear hm hE0 h hv hk hn
 go_enter Tryz.func25,Tryz.ntmps25
 go_upto_region 1 with fail
 clear hW0 hq
 go_wp2_with fail
 refine HM.out.mono ?_
 rintro e w1 ⟨rfl,E1⟩
 have hq1:=E1.at_ hq0
 obtain⟨z0,z1,z2,f0,f1,f2⟩:=jG hq1
 have HE1:=zF (HE0.out.trans E1)
 clear E1 hq1 hq0
 go_wp2
 go_ret2
 exact⟨rfl,HE1.out⟩
theorem cO {c:Int}{C:Crv}(hC:IsC c C){A:Option Addr}{cap k x y:Nat}{l:List Nat}{p:Value}{S:Option (Nat×Nat)}(w:World)(h:RU w A cap l)(hv:val 18446744073709551616 l=k)(hk:kY C k=true)(hp:APt w p false x y)(ho:onQ C false x y=true)(hS:yY C false x y k=some S)(hb:zu (S.elim 0 (·.1))≤8*C.size) :
 Calls Tryz.prog 25 #[.int .i64 c,.slice A l.length cap,p] w fun e w'=>∃ A1,e=.returned (.tuple #[.slice A1 C.size C.size,.int .i64 0])∧RB w' (fun q=>q<w'.heap.size) A1 C.size (bytesOf (S.elim 0 (·.1)) C.size)∧Ext w w':=by
 obtain⟨p1,p2,rfl⟩:=fm hp
 obtain⟨t,ht⟩:=eV C.size
 have ht2:t≤48:=by rw[←ht];exact hC.fine.small
 obtain⟨W0,q,hW0,hq,hq0,hE0⟩:=mG (w:=w) (b:=false) (p1:=p1) (p2:=p2)
 have hm:=uN (.inl hC) _ A cap l W0 (zL h hE0) (fun _ h=>h)
 rw[hv,hk]at hm
 have HM:=zF hm
 have HMu:=zF (fun X (hX:Ext W0 X)=>oA hC X ((hp.ext hE0).ext hX) (zL (zL h hE0) hX) hv)
 simp only[hS]at HMu
 have HOn:=zF (fun X (hX:Ext W0 X)=>zCy hC X ((hp.ext hE0).ext hX))
 rw[ho]at HOn
 have HSz:=zF (fun X=>fv hC X)
 rw[ht]at HSz hb ⊢
 obtain⟨n,hn⟩:=eV l.length
 rw[hn]at HM HMu ⊢
 obtain⟨x0,hx0⟩:=eV (S.elim 0 (·.1))
 rw[hx0]at hb ⊢
 have Hx0:=zF hx0
 have HE0:=zF hE0
 have HB:=zF hb
 have Ht:=zF ht2
 clear hm hE0 h hv hk hn hp ho hS hb hC ht ht2 hx0
 go_enter Tryz.func25,Tryz.ntmps25
 go_upto_region 1 with fail
 clear hW0 hq
 go_wp2_with fail
 refine HM.out.mono ?_
 rintro e w1 ⟨rfl,E1⟩
 have hq1:=E1.at_ hq0
 obtain⟨z0,z1,z2,f0,f1,f2⟩:=jG hq1
 have HE1:=zF E1
 clear E1 hq0 HM
 go_wp2_with fail
 refine(HOn.out w1 HE1.out).mono ?_
 rintro e w2 ⟨rfl,E2⟩
 have hq2:=E2.at_ hq1
 have HE2:=zF (HE1.out.trans E2)
 clear z0 z1 z2 f0 f1 f2 E2 hq1 HE1 HOn
 obtain⟨z0,z1,z2,f0,f1,f2⟩:=jG hq2
 clear hq2
 go_wp2_with fail
 refine(HMu.out w2 HE2.out).mono ?_
 rintro e w3 ⟨o,rfl,hv,E3⟩
 rw[show(some S).join=S from rfl]at hv
 obtain⟨Ax,Ay,cx,cy,rfl,rx,ry⟩:=hv.pn
 rw[Hx0.out]at rx ⊢
 obtain⟨lx,hlx⟩:=eV ((digs 18446744073709551616 x0).length)
 obtain⟨ly,hly⟩:=eV ((digs 18446744073709551616 (S.elim 0 (·.2))).length)
 rw[hlx,hly]
 obtain⟨w4,g,hw4,hg,hq4,hA4⟩:=mG (w:=w3) (b:=S.isNone) (p1:=.slice Ax lx cx) (p2:=.slice Ay ly cy)
 have HE4:=zF (HE0.out.trans (HE2.out.trans (E3.trans hA4)))
 have RX:=zF (zL rx hA4)
 have Hlx:=zF hlx
 clear rx ry hlx hly E3 hA4 hv HMu HE2 z0 z1 z2 f0 f1 f2
 generalize S.isNone=sb at *
 go_upto_region 6 with fail
 clear hw4 hg
 obtain⟨y0,y1,y2,q0,q1,q2⟩:=jG hq4
 clear hq4
 refine zh (by kernel_rfl) 10 [0,1,0,4,15,31,63,63,127,511] [] (fun j f X=>match j with
  | 0=>f 0=.pointer (some ⟨g,1,none⟩)
  | 1=>f 1=.slice Ax lx cx
  | 2=>f 2=.int .i64 c
  | 3=>f 3=.int .i64 (t:Int)
  | 4=>∃ A,f 4=.tuple #[.slice A t t,.bool true]∧RB X (fun q=>q<X.heap.size) A t (bytesOf x0 t)
  | 5=>∃ A,f 5=.tuple #[.slice A t t,.bool true]∧RB X (fun q=>q<X.heap.size) A t (bytesOf x0 t)
  | 6=>∃ A,f 6=.slice A t t∧RB X (fun q=>q<X.heap.size) A t (bytesOf x0 t)
  | 7=>f 7=.bool true
  | 8=>∃ A,f 8=.slice A t t∧RB X (fun q=>q<X.heap.size) A t (bytesOf x0 t)
  | 9=>f 9=.bool true
  | _=>True) (by kernel_rfl) [(34,0),(35,1),(36,2),(37,3),(38,4),(33,5),(39,6),(40,7),(10,8),(11,9)] (by kernel_rfl) ?_
 refine zJ 1 9 ?_
 refine qK 2 8 0 y1 ?_
 refine zJ 3 7 ?_
 refine qI 4 6 (fun f=>#[f 2]) (F':=29) (fun f X hX hR=>?_) ?_
 · have e2:f 2=_:=hR.out 2 rfl;simp only[e2];refine(HSz.out X).mono ?_;rintro e w2 ⟨rfl,hB⟩;exact⟨(.int .i64 (t:Int)),rfl,hB,fun Y hY=>rfl⟩
 refine qI 5 5 (fun f=>#[f 1,f 3]) (F':=60) (fun f X hX hR=>?_) ?_
 · have e1:f 1=_:=hR.out 1 rfl;obtain e3:f 3=.int .i64 (t:Int):=hR.out 3 rfl;simp only[e1,e3];refine(me (n:=t) X (zL RX.out hX) (zK Ht.out (by decide)) HB.out Hlx.out).mono ?_;rintro e w2 ⟨A,rfl,h,hB⟩;exact⟨(.tuple #[.slice A t t,.bool true]),rfl,hB,fun Y hY=>⟨A,rfl,RB.upE h hY⟩⟩
 refine zt 6 4 [(34,0),(35,1),(36,2),(37,3),(38,4)] (fun f X hX hR K hK=>?_) ?_
 · obtain⟨A4,(e4:f 4=_),r4⟩:=hR.out 4 rfl;simp only[yZ,e4];refine⟨?_⟩;go_simp;exact hK.out _ _ _ (by simp only[yZ,e4]) (zX _) trivial (fun Y hY=>⟨A4,rfl,RB.upE r4 hY⟩)
 refine zt 7 3 [(34,0),(35,1),(36,2),(37,3),(38,4),(33,5),(40,7)] (fun f X hX hR K hK=>?_) ?_
 · obtain⟨A5,(e5:f 5=_),r5⟩:=hR.out 5 rfl;simp only[yZ,e5];refine⟨?_⟩;go_simp;exact hK.out _ _ _ (by simp only[yZ,e5]) (zX _) trivial (fun Y hY=>⟨A5,rfl,RB.upE r5 hY⟩)
 refine zt 8 2 [(34,0),(35,1),(36,2),(37,3),(38,4),(33,5),(39,6),(10,8)] (fun f X hX hR K hK=>?_) ?_
 · obtain⟨A5,(e5:f 5=_),r5⟩:=hR.out 5 rfl;simp only[yZ,e5];refine⟨?_⟩;go_simp;exact qd hK (s:=by simp only[yZ,e5])
 refine zt 9 1 [(34,0),(35,1),(36,2),(37,3),(38,4),(33,5),(39,6),(40,7)] (fun f X hX hR K hK=>?_) ?_
 · obtain⟨A6,(e6:f 6=_),r6⟩:=hR.out 6 rfl;simp only[yZ,e6];refine⟨?_⟩;go_simp;exact hK.out _ _ _ (by simp only[yZ,e6]) (zX _) trivial (fun Y hY=>⟨A6,rfl,RB.upE r6 hY⟩)
 refine qN 10 0 7 ?_
 refine yF ⟨fun f X hX hR hal hap=>?_⟩
 obtain e3:f 3=.int .i64 (t:Int):=hR 3 (by decide)
 obtain⟨A4,(e4:f 4=_),r4⟩:=hR 4 (by decide)
 obtain⟨A5,(e5:f 5=_),r5⟩:=hR 5 (by decide)
 obtain⟨A6,(e6:f 6=_),r6⟩:=hR 6 (by decide)
 obtain⟨A8,(e8:f 8=_),r8⟩:=hR 8 (by decide)
 simp only[yZ,e3,e4,e5,e6,e8]
 clear hR hal hap e3 e4 e5 e6 e8
 refine zH ?_
 have HX:=zF (HE4.out.trans hX)
 have R8:=zF r8
 clear r4 r5 r6 r8 hX y0 y1 y2 q0 q1 q2
 go_wp2
 go_ret2
 exact⟨A8,rfl,R8.out,HX.out⟩
theorem zAG {W:World}{g:Nat}{ty:TypeId}{x0 x1 x2 x3 x4 x5:Value}(h:W.heap[g]?=some (.cells #[x0,x1,x2,x3,x4,x5] ty (0,0))) :
 W.cell? ⟨g,0,none⟩=some x0∧W.cell? ⟨g,1,none⟩=some x1∧W.cell? ⟨g,2,none⟩=some x2∧W.cell? ⟨g,3,none⟩=some x3∧W.cell? ⟨g,4,none⟩=some x4∧W.cell? ⟨g,5,none⟩=some x5 :=
 ⟨zQ h 0,zQ h 1,zQ h 2,zQ h 3,zQ h 4,zQ h 5⟩
theorem zAL {w:World}{b:Bool}{p1 p2:Value} : ∃(W0:World) (q:Nat),w.alloc (.cells #[.bool b,p1,p2] 45)=W0∧w.heap.size=q∧W0.heap[q]?=some (.cells #[.bool b,p1,p2] 45 (0,0))∧Ext w W0 :=
 ⟨_,_,rfl,rfl,zS w _,zO _ _⟩
theorem zAT {w:World}{x0 x1 x2 x3 x4 x5:Value} : ∃(W0:World) (q:Nat),w.alloc (.cells #[x0,x1,x2,x3,x4,x5] 30)=W0∧w.heap.size=q∧W0.heap[q]?=some (.cells #[x0,x1,x2,x3,x4,x5] 30 (0,0))∧Ext w W0 :=
 ⟨_,_,rfl,rfl,zS w _,zO _ _⟩
theorem nE {W:World}{C:Crv}{v:Value}{t:Nat}(h:RC W C v)(ht:C.size=t):∃ A1 l1 c1 A2 l2 c2 A3 l3 c3 A4 l4 c4 A5 l5 c5,v=.agg #[.slice A1 l1 c1,.slice A2 l2 c2,.slice A3 l3 c3,.slice A4 l4 c4,.slice A5 l5 c5,.int .i64 (t:Int)]:=by
 subst ht;obtain⟨Ap,An',Ab,Ax,Ay,cp,cn,cb',cx,cy,rfl,_⟩:=h;exact⟨_,_,_,_,_,_,_,_,_,_,_,_,_,_,_,rfl⟩
theorem cS {c:Int}{C:Crv}(hC:IsU c C){A:Option Addr}{ca x lx:Nat}{m:Bool}(w:World)(h:RU w A ca (digs 4294967296 x))(hlx:(digs 4294967296 x).length=lx)(hm:kY C x=m) :
 Calls Tryz.prog 14 #[.int .i64 c,.slice A lx ca] w fun e w'=>e=.returned (.bool m)∧Ext w w':=by
 subst hlx hm
 exact zAM hC _ A ca x w h (fun _ h=>h)
theorem zAU {A:Option Addr}{ca x n lx:Nat}(w:World)(h:RU w A ca (digs 4294967296 x))(hn:n≤65536)(hx:zu x≤8*n)(hlx:(digs 4294967296 x).length=lx) :
 Calls Tryz.prog 61 #[.slice A lx ca,.int .i64 (n:Int)] w fun e w'=>∃ A1,e=.returned (.tuple #[.slice A1 n n,.bool true])∧RB w' (fun q=>q<w'.heap.size) A1 n (bytesOf x n)∧Ext w w':=by
 subst hlx
 refine(mC _ A ca x n w h (fun _ h=>h) hn hx).mono ?_
 rintro e w' ⟨A1,rfl,r,B⟩
 exact⟨A1,rfl,r.mono fun q hq=>hq.2,B⟩
theorem om {c:Int}{C:Crv}(hC:IsC c C){ccs:Array Value}{A B1 B2:Option Addr}{ca k lk m1 m2 x y lx ly:Nat}{S:Option (Nat×Nat)}(w:World)(hc:RC w C (.agg ccs))(hn:RU w A ca (digs 4294967296 k))(hx:RU w B1 m1 (digs 4294967296 x))(hy:RU w B2 m2 (digs 4294967296 y))(ho:onQ C false x y=true)(hlk:(digs 4294967296 k).length=lk)(hlx:(digs 4294967296 x).length=lx)(hly:(digs 4294967296 y).length=ly)(hS:vY C.M false x y k=S) :
 Calls Tryz.prog 16 #[.agg ccs,.slice A lk ca,.agg #[.bool false,.slice B1 lx m1,.slice B2 ly m2]] w fun e w'=>∃ o,e=.returned o∧RPv w' o S.isNone (S.elim 0 (·.1)) (S.elim 0 (·.2))∧Ext w w':=by
 subst hlk hlx hly hS
 have h8:8<C.M:=by
  rcases hC with⟨_,rfl⟩|⟨_,rfl⟩<;>decide +kernel
 refine(zDO hC.fine h8 w hc hn hx hy (fun _=>mN ho rfl)).mono ?_
 rintro e w' ⟨o,rfl,h,E⟩
 exact⟨o,rfl,h.pv,E⟩
theorem nB {c:Int}{C:Crv}(hC:IsC c C){A Bx By:Option Addr}{cap k x y bx cy lk lx ly:Nat}{S:Option (Nat×Nat)}(w:World)(h:RU w A cap (digs 4294967296 k))(hk:kY C k=true)(hx:RU w Bx bx (digs 4294967296 x))(hy:RU w By cy (digs 4294967296 y))(ho:onQ C false x y=true)(hS:vY C.M false x y k=S)(hb:zu (S.elim 0 (·.1))≤8*C.size)(hlk:(digs 4294967296 k).length=lk)(hlx:(digs 4294967296 x).length=lx)(hly:(digs 4294967296 y).length=ly) :
 Calls Tryz.prog 26 #[.int .i64 c,.slice A lk cap,.agg #[.bool false,.slice Bx lx bx,.slice By ly cy]] w fun e w'=>∃ A1,e=.returned (.tuple #[.slice A1 C.size C.size,.int .i64 0])∧RB w' (fun q=>q<w'.heap.size) A1 C.size (bytesOf (S.elim 0 (·.1)) C.size)∧Ext w w':=by
 obtain⟨t,ht⟩:=eV C.size
 have ht2:t≤48:=by rw[←ht];exact hC.fine.small
 rw[ht]at hb ⊢
 obtain⟨x0,hx0⟩:=eV (S.elim 0 (·.1))
 obtain⟨y0',hy0'⟩:=eV (S.elim 0 (·.2))
 rw[hx0]at hb ⊢
 obtain⟨W0,q,hW0,hq,hq0,hE0⟩:=zAL (w:=w) (b:=false) (p1:=.slice Bx lx bx) (p2:=.slice By ly cy)
 have HMa:=zF (fun X (hX:Ext W0 X)=>cS (.inl hC) X (zL (zL h hE0) hX) hlk hk)
 have HMu:=zF (fun X (hX:Ext W0 X) cs (hc:RC X C (.agg cs))=>om hC X hc (zL (zL h hE0) hX) (zL (zL hx hE0) hX) (zL (zL hy hE0) hX) ho hlk hlx hly hS)
 have HOn:=zF (fun X (hX:Ext W0 X) v (hc:RC X C v)=>sh hC.fine Bx By bx cy x y false X hc (zL (zL hx hE0) hX) (zL (zL hy hE0) hX))
 rw[hlx,hly,show(false||onB C.M C.bb x y)=onQ C false x y from rfl,ho]at HOn
 rw[hx0,hy0']at HMu
 have HOf:=zF (rO hC W0)
 have HE0:=zF hE0
 have HB:=zF (And.intro hb ht2)
 have Ht:=zF ht
 generalize S.isNone=sb at *
 clear h hk hx hy ho hS hb hlk hlx hly ht ht2 hE0 hC hx0 hy0'
 go_enter Tryz.func26,Tryz.ntmps26
 go_upto_region 1 with fail
 clear hW0 hq
 go_wp2_with fail
 refine HOf.out.mono ?_
 rintro e w1 ⟨v,rfl,hrc,E1⟩
 obtain⟨B1,l1,k1,B2,l2,k2,B3,l3,k3,B4,l4,k4,B5,l5,k5,rfl⟩:=nE hrc Ht.out
 obtain⟨w2,g2,hw2,hg2,hq2,A2⟩:=zAT (w:=w1) (x0:=.slice B1 l1 k1) (x1:=.slice B2 l2 k2) (x2:=.slice B3 l3 k3) (x3:=.slice B4 l4 k4) (x4:=.slice B5 l5 k5) (x5:=.int .i64 (t:Int))
 have hE2:=E1.trans A2
 have hq0':=hE2.at_ hq0
 have hrc2:=hrc.ext A2
 have HE2:=zF hE2
 clear E1 A2 hE2 hrc hq0 HOf
 go_upto_region 2 with fail
 clear hw2 hg2
 go_wp2_with fail
 refine(HMa.out w2 HE2.out).mono ?_
 rintro e w3 ⟨rfl,E3⟩
 have hq3:=E3.at_ hq2
 have hp3:=E3.at_ hq0'
 have hrc3:=hrc2.ext E3
 have HE3:=zF (HE2.out.trans E3)
 clear hq2 hq0' hrc2 E3 HE2 HMa
 obtain⟨z0,z1,z2,z3,z4,z5⟩:=zAG hq3
 obtain⟨y0,y1,y2,f0,f1,f2⟩:=jG hp3
 have HO3:=zF (HOn.out w3 HE3.out _ hrc3)
 clear HOn
 go_wp2_with fail
 refine HO3.out.mono ?_
 rintro e w4 ⟨rfl,E4⟩
 have hq4:=E4.at_ hq3
 have hp4:=E4.at_ hp3
 have hrc4:=hrc3.ext E4
 have HE4:=zF (HE3.out.trans E4)
 clear hq3 hp3 hrc3 E4 HE3 HO3 z0 z1 z2 z3 z4 z5 y0 y1 y2 f0 f1 f2
 obtain⟨z0,z1,z2,z3,z4,z5⟩:=zAG hq4
 obtain⟨y0,y1,y2,f0,f1,f2⟩:=jG hp4
 have HM4:=zF (HMu.out w4 HE4.out _ hrc4)
 clear HMu
 go_wp2_with fail
 refine HM4.out.mono ?_
 rintro e w5 ⟨o,rfl,⟨Ax,Ay,cx,cz,rfl,rx,ry⟩,E5⟩
 obtain⟨mx,hmx⟩:=eV ((digs 4294967296 x0).length)
 obtain⟨my,hmy⟩:=eV ((digs 4294967296 y0').length)
 rw[hmx,hmy]
 obtain⟨w6,g6,hw6,hg6,hq6,A6⟩:=zAL (w:=w5) (b:=sb) (p1:=.slice Ax mx cx) (p2:=.slice Ay my cz)
 have hq7:=(E5.trans A6).at_ hq4
 have HE6:=zF (HE4.out.trans (E5.trans A6))
 have HBy:=zF (zAU (n:=t) w6 (zL rx A6) (zK HB.out.2 (by decide)) HB.out.1 hmx)
 clear hq4 hp4 hrc4 E5 A6 rx ry hmx hmy HE4 HM4 z0 z1 z2 z3 z4 z5 y0 y1 y2 f0 f1 f2
 go_upto_region 7 with fail
 clear hw6 hg6
 obtain⟨z0,z1,z2,z3,z4,z5⟩:=zAG hq7
 obtain⟨y0,y1,y2,f0,f1,f2⟩:=jG hq6
 clear hq7 hq6
 go_wp2_with fail
 refine HBy.out.mono ?_
 rintro e w7 ⟨A7,rfl,r7,E7⟩
 have R7:=zF r7
 have HE7:=zF (HE0.out.trans (HE6.out.trans E7))
 clear r7 E7 HE6 HBy z0 z1 z2 z3 z4 z5 y0 y1 y2 f0 f1 f2
 go_wp2
 go_ret2
 exact⟨A7,rfl,R7.out,HE7.out⟩
end Go.Proofs.YtaemogcomplhiaaGreatDoor.Ec
namespace Go.Proofs.YtaemogcomplhiaaGreatDoor
open Go.RowKit
def aq (A B:Option Addr) (m n:Nat):Prop:=∀ a b,A=some a→B=some b→0<m→0<n→a.block<b.block
theorem OB.apart {X Y:World}{base:Nat}{A B:Option Addr}{c d:Nat}{l m:List Nat}(h:OB X base A c l)(k:OB Y X.heap.size B d m):aq A B l.length m.length:=by
 intro a b e1 e2 h1 h2;obtain⟨g,cur,e,_,hg,_⟩:=h.2.2.2 h1;obtain⟨g',cur',e',hg',_,_⟩:=k.2.2.2 h2;rw[e1]at e;rw[e2]at e';injection e with e;injection e' with e'
 subst e e';exact zI (qr hg) hg'
theorem OB.ext {X Y:World}{base:Nat}{A:Option Addr}{c:Nat}{l:List Nat}(h:OB X base A c l)(hE:Ext X Y):OB Y base A c l:=h.below hE (zG _)
theorem rto_n {p:Value}{bi:Bool}{x y:Nat}(w:World)(hp:RPv w p bi x y):Calls Tryz.prog 23 #[p] w fun e w'=>∃ A B c d,e=.returned (.agg #[.bool bi,.slice A (digs 18446744073709551616 x).length c,.slice B (digs 18446744073709551616 y).length d]) ∧
 OB w' w.heap.size A c (digs 18446744073709551616 x)∧OB w' w.heap.size B d (digs 18446744073709551616 y)∧aq A B (digs 18446744073709551616 x).length (digs 18446744073709551616 y).length∧Ext w w':=by
 obtain⟨A1,A2,c1,c2,rfl,hx,hy⟩:=hp
 obtain⟨W0,hW0⟩:=eW ((w.alloc (.cells #[.bool bi,.slice A1 (digs 4294967296 x).length c1,.slice A2 (digs 4294967296 y).length c2] 45)).alloc (.cells #[.bool false,.slice none 0 0,.slice none 0 0] 33))
 obtain⟨q,hq⟩:=eV w.heap.size
 have hE0:Ext w W0:=by rw[hW0];exact(zO _ _).trans (zO _ _)
 obtain⟨h1,h2,hz0⟩:=wL w (.cells #[.bool bi,.slice A1 (digs 4294967296 x).length c1,.slice A2 (digs 4294967296 y).length c2] 45) (.cells #[.bool false,.slice none 0 0,.slice none 0 0] 33)
 rw[←hW0,hq]at h1 h2 hz0
 have p0:=zQ h1 0
 have p1:=zQ h1 1
 have p2:=zQ h1 2
 simp only[zR,zi,qo]at p0 p1 p2
 have Hx:=zF (zL hx hE0)
 have Hy:=zF (zL hy hE0)
 have HE0:=zF hE0
 clear hx hy hE0 hz0 h1
 go_enter Tryz.func23,Tryz.ntmps23
 go_upto_region 1 with fail
 rw[←hW0]
 have Hq:=zF hq
 clear hW0 hq
 refine zh (by kernel_rfl) 9 [0,1,0,4,12,0,32,124,255,511] [] (fun j f X=>match j with
  | 0=>f 0=.pointer (some ⟨q,0,none⟩)
  | 1=>f 1=.bool bi
  | 2=>f 2=.pointer (some ⟨q,1,none⟩)
  | 3=>f 3=.slice A1 (digs 4294967296 x).length c1
  | 4=>∃ A c,f 4=.slice A (digs 18446744073709551616 x).length c∧OB X W0.heap.size A c (digs 18446744073709551616 x)
  | 5=>f 5=.pointer (some ⟨q,2,none⟩)
  | 6=>f 6=.slice A2 (digs 4294967296 y).length c2
  | 7=>∃ A c,f 7=.slice A (digs 18446744073709551616 y).length c∧OB X W0.heap.size A c (digs 18446744073709551616 y)∧∀ B d,f 4=.slice B (digs 18446744073709551616 x).length d→aq B A (digs 18446744073709551616 x).length (digs 18446744073709551616 y).length
  | 8=>∃ A B c d,f 8=.agg #[.bool bi,.slice A (digs 18446744073709551616 x).length c,.slice B (digs 18446744073709551616 y).length d]∧OB X W0.heap.size A c (digs 18446744073709551616 x)∧OB X W0.heap.size B d (digs 18446744073709551616 y)∧aq A B (digs 18446744073709551616 x).length (digs 18446744073709551616 y).length
  | _=>True) (by kernel_rfl) [(3,0),(4,1),(5,2),(6,3),(7,4),(8,5),(9,6),(10,7),(11,8)] (by kernel_rfl) ?_
 refine zJ 1 8 ?_
 refine qK 2 7 0 p0 ?_
 refine zJ 3 6 ?_
 refine qK 4 5 2 p1 ?_
 refine qI 5 4 (fun f=>#[f 3]) (F':=47) (fun f X hX hR=>?_) ?_
 · have e3:f 3=_:=hR.out 3 rfl;simp only[e3];refine(t8 _ A1 c1 x X (zL Hx.out hX) (fun _ h=>h)).mono ?_;rintro e w2 ⟨A,c,rfl,h,hB⟩;exact⟨(.slice A (digs 18446744073709551616 x).length c),rfl,hB,fun Y hY=>⟨A,c,rfl,(h.mono hX.bsize).ext hY⟩⟩
 refine zJ 6 3 ?_
 refine qK 7 2 5 p2 ?_
 refine zt 8 1 [(3,0),(4,1),(5,2),(6,3),(7,4),(8,5),(9,6)] (fun f X hX hR K hK=>?_) ?_
 · have e6:f 6=_:=hR.out 6 rfl;obtain⟨A4,c4,(e4:f 4=_),h4⟩:=hR.out 4 rfl;have E4:=zF e4;clear e4;simp only[yZ,e6];refine⟨?_⟩;go_simp;refine(t8 _ A2 c2 y X (zL Hy.out hX) (fun _ h=>h)).mono ?_;rintro e w2 ⟨A,c,rfl,h,hB⟩;refine hK.out _ (.slice A (digs 18446744073709551616 y).length c) _ (by simp only[yZ,e6]) hB trivial (fun Y hY=>⟨A,c,rfl,(h.mono hX.bsize).ext hY,fun B d e=>?_⟩);obtain⟨rfl,_⟩:A4=B∧c4=d:=by have e':f 4=.slice B (digs 18446744073709551616 x).length d:=e;rw[E4.out]at e';injection e' with a1 a2 a3;exact⟨a1,a3⟩
   exact h4.apart h
 refine zt 9 0 [(3,0),(4,1),(5,2),(6,3),(7,4),(8,5),(9,6),(10,7)] (fun f X hX hR K hK=>?_) ?_
 · have e1:f 1=_:=hR.out 1 rfl;obtain⟨A4,c4,(e4:f 4=_),h4⟩:=hR.out 4 rfl;obtain⟨A7,c7,e7,h7,k7⟩:∃ A c,f 7=.slice A (digs 18446744073709551616 y).length c∧OB X W0.heap.size A c (digs 18446744073709551616 y)∧∀ B d,f 4=.slice B (digs 18446744073709551616 x).length d→aq B A (digs 18446744073709551616 x).length (digs 18446744073709551616 y).length:=hR.out 7 rfl;simp only[yZ,e1,e4,e7];refine⟨?_⟩;go_simp;exact hK.out _ (.agg #[.bool bi,.slice A4 (digs 18446744073709551616 x).length c4,.slice A7 (digs 18446744073709551616 y).length c7]) _ (by simp only[yZ,e1,e4,e7]) (zX _) trivial (fun Y hY=>⟨A4,A7,c4,c7,rfl,h4.ext hY,h7.ext hY,k7 A4 c4 e4⟩)
 refine yF ⟨fun f X hX hR hal hap=>?_⟩
 obtain⟨A4,c4,(e4:f 4=_),h4⟩:=hR 4 (by decide)
 obtain⟨A7,c7,e7,h7,k7⟩:∃ A c,f 7=.slice A (digs 18446744073709551616 y).length c∧OB X W0.heap.size A c (digs 18446744073709551616 y)∧∀ B d,f 4=.slice B (digs 18446744073709551616 x).length d→aq B A (digs 18446744073709551616 x).length (digs 18446744073709551616 y).length:=hR 7 (by decide)
 obtain⟨A8,B8,c8,d8,(e8:f 8=_),h8,k8,K8⟩:=hR 8 (by decide)
 simp only[yZ,e4,e7,e8]
 clear hR hal hap e4 e7 e8
 refine zP (fun K hK=>⟨zU (by kernel_rfl) (jJ (cs':=#[.bool bi,.slice A8 (digs 18446744073709551616 x).length c8,.slice B8 (digs 18446744073709551616 y).length d8]) (t:=33) 33 (.tmp 2) (.tmp 11) rfl rfl rfl rfl (hX.at_ h2) va rfl (yT _ _ _ _ _ _ _) (fun Y hY1 hY2 hY3=>hK.out _ _ ?_))⟩)
 refine zH ?_
 go_wp2
 exact aW rfl rfl rfl hY1 ⟨_,_,_,_,rfl,(h8.just hY2 (hX.at_ h2) (by decide)).mono HE0.out.bsize,(k8.just hY2 (hX.at_ h2) (by decide)).mono HE0.out.bsize,K8,hY2.ext (HE0.out.trans hX) (by have:=Hq.out;omega)⟩
end Go.Proofs.YtaemogcomplhiaaGreatDoor
namespace Go.Proofs.YtaemogcomplhiaaGreatDoor.Ec
open Go.RowKit Go.Shelf
open Sha
attribute [local go_sem] Oper.semAt_some
theorem zC3 (P:Nat→Prop)(A:Option Addr)(c:Nat)(l:List Nat){t:List Nat}{n m:Nat}(w:World)(h:RL w P A c l)(hn:l.length=n)(ht:l.take 6=t)(hm:t.length=m) :
 Calls Tryz.prog 8 #[.slice A n c] w fun e w'=>∃ A1 c1,e=.returned (.slice A1 m c1)∧RU w' A1 c1 t∧Ext w w':=by
 have hc:=zCZ P A c l 6 w h (by omega)
 rw[ht,hn,hm]at hc
 have HC:=zF hc
 clear hc h hn ht hm
 go_enter Tryz.func8,Tryz.ntmps8
 go_wp2_with fail
 refine HC.out.mono ?_
 rintro e w2 ⟨A1,c1,rfl,o,E⟩
 have HO:=zF o
 have HE:=zF E
 clear o E HC
 go_wp2
 go_ret
 exact⟨A1,c1,rfl,HO.out.ru,HE.out⟩
theorem zA5 {A:Option Addr}{c n x lx:Nat}{l:List Nat}(w:World)(h:RU w A c l)(hn:l.length=n)(hl:n<100000)(hx:val 18446744073709551616 l=x)(hlx:(digs 4294967296 x).length=lx) :
 Calls Tryz.prog 13 #[.slice A n c] w fun e w'=>∃ A1 c1,e=.returned (.slice A1 lx c1)∧RU w' A1 c1 (digs 4294967296 x)∧Ext w w':=by
 subst hn hx hlx
 refine(vS _ A c l w h (fun _ h=>h) hl).mono ?_
 rintro e w' ⟨A1,c1,rfl,o,E⟩
 exact⟨A1,c1,rfl,o.ru,E⟩
theorem dw {C:Crv}{v:Value}{x y lx ly:Nat}(w:World)(hc:RC w C v)(hx:val 18446744073709551616 C.xl=x)(hy:val 18446744073709551616 C.yl=y)(hlx:(digs 4294967296 x).length=lx)(hly:(digs 4294967296 y).length=ly) :
 Calls Tryz.prog 17 #[v] w fun e w'=>∃ A a B b,e=.returned (.agg #[.bool false,.slice A lx a,.slice B ly b])∧RU w' A a (digs 4294967296 x)∧RU w' B b (digs 4294967296 y)∧Ext w w':=by
 subst hlx hly hx hy
 refine(zBw w hc).mono ?_
 rintro e w' ⟨o,rfl,⟨A,B,a,b,rfl,h1,h2⟩,E⟩
 exact⟨A,a,B,b,rfl,h1,h2,E⟩
theorem rM {A B:Option Addr}{a b x y lx ly:Nat}(w:World)(hx:RU w A a (digs 4294967296 x))(hy:RU w B b (digs 4294967296 y))(hlx:(digs 4294967296 x).length=lx)(hly:(digs 4294967296 y).length=ly) :
 Calls Tryz.prog 23 #[.agg #[.bool false,.slice A lx a,.slice B ly b]] w fun e w'=>∃ v1 v2,e=.returned (.agg #[.bool false,v1,v2])∧APt w' (.agg #[.bool false,v1,v2]) false x y∧Ext w w':=by
 subst hlx hly
 refine(rto_n w ⟨A,B,a,b,rfl,hx,hy⟩).mono ?_
 rintro e w' ⟨A',B',c,d,rfl,o1,o2,-,E⟩
 exact⟨_,_,rfl,⟨A',B',c,d,_,_,rfl,o1.ru,o2.ru,zd (by omega) _,zd (by omega) _⟩,E⟩
theorem bI {C:Crv}{x:Nat}(h:kY C x=true):0<x∧x<val 18446744073709551616 C.nl:=by
 unfold kY at h;rw[ji]at h;exact⟨ws h.1,ws h.2⟩
theorem zAx {c:Int}{C:Crv}(hU:IsU c C){x:Nat}(h:kY C x=true):IsC c C:=by
 rcases hU with h1|⟨_,_,rfl⟩
 · exact h1
 · simp[kY,c0]at h
theorem bJ {c:Int}{C:Crv}(hC:IsC c C){x:Nat}(h:kY C x=true):zu x≤4096:=by
 have h1:=bI h;have h2:val 18446744073709551616 C.nl<2^4096:=by
  rcases hC with⟨_,rfl⟩|⟨_,rfl⟩<;>decide +kernel
 exact fT (Nat.lt_trans h1.2 h2)
theorem oI {c:Int}{C:Crv}(hC:IsC c C){bi:Bool}{x y E:Nat}{S:Option (Nat×Nat)}(ho:onQ C bi x y=true)(hS:vY C.M bi x y E=S):zu (S.elim 0 (·.1))≤8*C.size:=by
 have h:=zAf hC ho hS;have hF:=hC.fine;cases S with
 | none =>
  show zu 0≤_;rw[wW];exact vr _
 | some p =>
  have h2:=(mN h rfl).1;refine fT (zI (Nat.lt_trans h2 hF.room) ?_);rw[show(256:Nat)=2^8 from rfl,←kr];exact zG _
theorem dR {c:Int}{C:Crv}(hU:IsU c C){A:Option Addr}{cap k n:Nat}{l:List Nat}{p1 p2:Value}{m:Bool}(w:World)(h:RU w A cap l)(hn:l.length=n)(hv:val 18446744073709551616 l=k)(hk:kY C k=m)(hp:APt w (.agg #[.bool false,p1,p2]) false (val 18446744073709551616 C.xl) (val 18446744073709551616 C.yl)) :
 Calls Tryz.prog 25 #[.int .i64 c,.slice A n cap,.agg #[.bool false,p1,p2]] w fun e w'=>∃(vs:Value) (rv:Int),e=.returned (.tuple #[vs,.int .i64 rv])∧(rv==0)=m∧Ext w w':=by
 subst hn
 cases m
 · refine(se hU w h hv hk rfl).mono ?_;rintro e w' ⟨rfl,E⟩;exact⟨_,7,rfl,rfl,E⟩
 · have hC:=zAx hU hk;refine(cO hC w h hv hk hp hC.base_on (dG hC hC.base_on (bJ hC hk)) (oI hC hC.base_on rfl)).mono ?_;rintro e w' ⟨A1,rfl,-,E⟩;exact⟨_,0,rfl,rfl,E⟩
theorem m9 {c:Int}{C:Crv}(hC:IsC c C){A:Option Addr}{cap k x y n t z:Nat}{l:List Nat}{p:Value}{S:Option (Nat×Nat)}(w:World)(h:RU w A cap l)(hn:l.length=n)(hv:val 18446744073709551616 l=k)(hk:kY C k=true)(hp:APt w p false x y)(ho:onQ C false x y=true)(hS:yY C false x y k=some S)(hz:S.elim 0 (·.1)=z)(hb:zu z≤8*t)(ht:C.size=t) :
 Calls Tryz.prog 25 #[.int .i64 c,.slice A n cap,p] w fun e w'=>∃ A1,e=.returned (.tuple #[.slice A1 t t,.int .i64 0])∧RB w' (fun q=>q<w'.heap.size) A1 t (bytesOf z t)∧Ext w w':=by
 subst hn ht hz
 exact cO hC w h hv hk hp ho hS hb
theorem sg {c:Int}{C:Crv}(hC:IsC c C){A Bx By:Option Addr}{cap k x y bx cy lk lx ly t z:Nat}{S:Option (Nat×Nat)}(w:World)(h:RU w A cap (digs 4294967296 k))(hk:kY C k=true)(hx:RU w Bx bx (digs 4294967296 x))(hy:RU w By cy (digs 4294967296 y))(ho:onQ C false x y=true)(hS:vY C.M false x y k=S)(hz:S.elim 0 (·.1)=z)(hb:zu z≤8*t)(ht:C.size=t)(hlk:(digs 4294967296 k).length=lk)(hlx:(digs 4294967296 x).length=lx)(hly:(digs 4294967296 y).length=ly) :
 Calls Tryz.prog 26 #[.int .i64 c,.slice A lk cap,.agg #[.bool false,.slice Bx lx bx,.slice By ly cy]] w fun e w'=>∃ A1,e=.returned (.tuple #[.slice A1 t t,.int .i64 0])∧RB w' (fun q=>q<w'.heap.size) A1 t (bytesOf z t)∧Ext w w':=by
 subst ht hz
 exact nB hC w h hk hx hy ho hS hb hlk hlx hly
theorem oe {c:Int}{P:Nat→Prop}{A B:Option Addr}{ca cb:Nat}{l r:List Nat}(w:World)(hk:KW w)(hx:RL w P A ca l)(hy:RL w P B cb r)(hP:∀ q,P q→q<w.heap.size) :
 Calls Tryz.prog 5 #[.int .i64 c,.slice A l.length ca,.slice B r.length cb] w fun e w'=>e=.returned (.bool true)∧Ext w w':=by
 obtain⟨C,hU⟩:=isU c
 obtain⟨kx,hkx⟩:=eV (l.take 6)
 obtain⟨ky,hky⟩:=eV (r.take 6)
 obtain⟨n2,hn2⟩:=eV kx.length
 obtain⟨n3,hn3⟩:=eV ky.length
 have hlx:n2<100000:=by rw[←hn2,←hkx,zo];omega
 have hly:n3<100000:=by rw[←hn3,←hky,zo];omega
 obtain⟨x,hvx⟩:=eV (val 18446744073709551616 kx)
 obtain⟨y,hvy⟩:=eV (val 18446744073709551616 ky)
 obtain⟨mx,hmx⟩:=eV ((digs 4294967296 x).length)
 obtain⟨my,hmy⟩:=eV ((digs 4294967296 y).length)
 obtain⟨ll,hll⟩:=eV l.length
 obtain⟨lr,hlr⟩:=eV r.length
 obtain⟨xb,hxb⟩:=eV (val 18446744073709551616 C.xl)
 obtain⟨yb,hyb⟩:=eV (val 18446744073709551616 C.yl)
 obtain⟨bx,hbx⟩:=eV ((digs 4294967296 xb).length)
 obtain⟨bY,hby⟩:=eV ((digs 4294967296 yb).length)
 have HBg:=zF (oP w hk)
 have H2:=zF (fun X (hX:Ext w X)=>zC3 P A ca l X (hx.below hX hP) hll hkx hn2)
 have H3:=zF (fun X (hX:Ext w X)=>zC3 P B cb r X (hy.below hX hP) hlr hky hn3)
 have HF2:=zF (fun X A' c' (h:RU X A' c' kx)=>zA5 X h hn2 hlx hvx hmx)
 have HF3:=zF (fun X A' c' (h:RU X A' c' ky)=>zA5 X h hn3 hly hvy hmy)
 rw[hll,hlr]
 have HU:=zF hU
 have HN:=zF (And.intro hn2 hn3)
 have HV:=zF (And.intro hvx hvy)
 have HM:=zF (And.intro hmx hmy)
 have HB:=zF (And.intro hxb (And.intro hyb (And.intro hbx hby)))
 obtain⟨m1,hm1⟩:=eV (kY C x)
 obtain⟨m2,hm2⟩:=eV (kY C y)
 have Hm1:=zF hm1
 have Hm2:=zF hm2
 clear hk hx hy hP hU hkx hky hlx hly hvx hvy hll hlr hmx hmy hn2 hn3 hxb hyb hbx hby hm1 hm2
 go_enter Tryz.func5,Tryz.ntmps5
 go_upto_region 2 with(go_at_call 6;refine HBg.out.mono ?_;rintro e w1 ⟨rfl,E1⟩)
 have HE1:=zF E1
 clear E1 HBg
 go_wp2_with fail
 refine(H2.out w1 HE1.out).mono ?_
 rintro e w2 ⟨A2,c2,rfl,r2,E2⟩
 have HE2:=zF (HE1.out.trans E2)
 go_wp2_with fail
 refine(H3.out w2 HE2.out).mono ?_
 rintro e w3 ⟨A3,c3,rfl,r3,E3⟩
 have HE3:=zF (HE2.out.trans E3)
 have HS:=zF (fun X (hX:Ext w3 X)=>And.intro (zL r2 (E3.trans hX)) (zL r3 hX))
 clear H2 H3 HE1 HE2 r2 r3 E2 E3
 have HG:=zF (HF2.out w3 A2 c2 (HS.out w3 (zX _)).1)
 clear HF2
 go_wp2_with fail
 refine HG.out.mono ?_
 rintro e w4 ⟨A4,c4,rfl,r4,E4⟩
 have HE4:=zF (HE3.out.trans E4)
 replace HS:=zF (fun X (hX:Ext w4 X)=>And.intro (zL r4 hX) (HS.out X (E4.trans hX)))
 clear HE3 r4 E4 HG
 have HG:=zF (HF3.out w4 A3 c3 (HS.out w4 (zX _)).2.2)
 clear HF3
 go_wp2_with fail
 refine HG.out.mono ?_
 rintro e w5 ⟨A5,c5,rfl,r5,E5⟩
 have HE5:=zF (HE4.out.trans E5)
 replace HS:=zF (fun X (hX:Ext w5 X)=>And.intro (zL r5 hX) (HS.out X (E5.trans hX)))
 clear HE4 r5 E5 HG
 obtain⟨t,Ht⟩:=eG C.size
 have HOf:=zF (rN HU.out w5)
 go_wp2_with fail
 refine HOf.out.mono ?_
 rintro e w6 ⟨v,rfl,hrc,E6⟩
 obtain⟨B1,l1,k1,B2,l2,k2,B3,l3,k3,B4,l4,k4,B5,l5,k5,rfl⟩:=nE hrc Ht.out
 obtain⟨w7,g7,hw7,hg7,hq7,A7⟩:=zAT (w:=w6) (x0:=.slice B1 l1 k1) (x1:=.slice B2 l2 k2) (x2:=.slice B3 l3 k3) (x3:=.slice B4 l4 k4) (x4:=.slice B5 l5 k5) (x5:=.int .i64 (t:Int))
 have HE7:=zF (HE5.out.trans (E6.trans A7))
 have hrc7:=hrc.ext A7
 replace HS:=zF (fun X (hX:Ext w7 X)=>And.intro (Ext.at_ hX hq7) (And.intro (hrc7.ext hX) (HS.out X (E6.trans (A7.trans hX)))))
 clear hrc hrc7 hq7 E6 A7 HE5 HOf
 go_upto_region 5 with fail
 clear hw7 hg7
 obtain⟨-,-,ry,rx,-,-⟩:=HS.out w7 (zX _)
 have HY1:=zF (cS HU.out w7 rx HM.out.1 Hm1.out)
 have HY2:=zF (fun X (hX:Ext w7 X)=>cS HU.out X (zL ry hX) HM.out.2 Hm2.out)
 clear rx ry
 cases m1
 · clear HY2;go_wp2_with fail;refine HY1.out.mono ?_;rintro e w8 ⟨rfl,E8⟩;have HE8:=zF (HE7.out.trans E8);replace HS:=zF (fun X (hX:Ext w8 X)=>HS.out X (E8.trans hX));clear E8 HY1 HE7;obtain⟨hq,hrc,-⟩:=HS.out w8 (zX _);obtain⟨z0,z1,z2,z3,z4,z5⟩:=zAG hq;have HBa:=zF (dw w8 hrc HB.out.1 HB.out.2.1 HB.out.2.2.1 HB.out.2.2.2);clear hq hrc;go_wp2_with fail;refine HBa.out.mono ?_;rintro e x1 ⟨D1,d1,D2,d2,rfl,q1,q2,F1⟩;have HTo:=zF (rM x1 q1 q2 HB.out.2.2.1 HB.out.2.2.2);have HX1:=zF (HE8.out.trans F1);replace HS:=zF (fun X (hX:Ext x1 X)=>HS.out X (F1.trans hX));clear q1 q2 F1 HBa z0 z1 z2 z3 z4 z5 HE8;go_wp2_with fail;refine HTo.out.mono ?_;rintro e x2 ⟨v1,v2,rfl,hp,F2⟩;rw[←HB.out.1,←HB.out.2.1]at hp;obtain⟨-,-,-,rx,r2,-⟩:=HS.out x2 F2;have HSh:=zF (dR HU.out x2 r2 HN.out.1 HV.out.1 Hm1.out hp);have HX2:=zF (HX1.out.trans F2);replace HS:=zF (fun X (hX:Ext x2 X)=>HS.out X (F2.trans hX));clear hp F2 rx r2 HTo HX1;go_wp2_with fail;refine HSh.out.mono ?_;rintro e x3 ⟨vs,rv,rfl,hrv,F3⟩;obtain⟨-,-,-,rx,-⟩:=HS.out x3 F3;have HMy:=zF (cS HU.out x3 rx HM.out.1 Hm1.out);have HX3:=zF (HX2.out.trans F3);clear F3 rx HSh HX2 HS;go_wp2_with fail;refine HMy.out.mono ?_;rintro e x4 ⟨rfl,F4⟩;have HX4:=zF (HX3.out.trans F4);clear F4 HMy;go_wp2;go_ret;exact⟨rfl,HX4.out⟩
 cases m2
 · go_wp2_with fail;refine HY1.out.mono ?_;rintro e w8' ⟨rfl,E8'⟩;go_wp2_with fail;refine(HY2.out w8' E8').mono ?_;rintro e w8 ⟨rfl,E8⟩;have HE8:=zF (HE7.out.trans (E8'.trans E8));replace HS:=zF (fun X (hX:Ext w8 X)=>HS.out X (E8'.trans (E8.trans hX)));clear E8 E8' HY1 HY2 HE7;obtain⟨hq,hrc,-⟩:=HS.out w8 (zX _);obtain⟨z0,z1,z2,z3,z4,z5⟩:=zAG hq;have HBa:=zF (dw w8 hrc HB.out.1 HB.out.2.1 HB.out.2.2.1 HB.out.2.2.2);clear hq hrc;go_wp2_with fail;refine HBa.out.mono ?_;rintro e x1 ⟨D1,d1,D2,d2,rfl,q1,q2,F1⟩;have HTo:=zF (rM x1 q1 q2 HB.out.2.2.1 HB.out.2.2.2);have HX1:=zF (HE8.out.trans F1);replace HS:=zF (fun X (hX:Ext x1 X)=>HS.out X (F1.trans hX));clear q1 q2 F1 HBa z0 z1 z2 z3 z4 z5 HE8;go_wp2_with fail;refine HTo.out.mono ?_;rintro e x2 ⟨v1,v2,rfl,hp,F2⟩;rw[←HB.out.1,←HB.out.2.1]at hp;obtain⟨-,-,-,rx,r2,-⟩:=HS.out x2 F2;have HSh:=zF (dR HU.out x2 r2 HN.out.1 HV.out.1 Hm1.out hp);have HX2:=zF (HX1.out.trans F2);replace HS:=zF (fun X (hX:Ext x2 X)=>HS.out X (F2.trans hX));clear hp F2 rx r2 HTo HX1;go_wp2_with fail;refine HSh.out.mono ?_;rintro e x3 ⟨vs,rv,rfl,hrv,F3⟩;obtain⟨-,-,-,rx,-⟩:=HS.out x3 F3;have HMy:=zF (cS HU.out x3 rx HM.out.1 Hm1.out);have HX3:=zF (HX2.out.trans F3);clear F3 rx HSh HX2 HS;go_wp2_with fail;refine HMy.out.mono ?_;rintro e x4 ⟨rfl,F4⟩;have HX4:=zF (HX3.out.trans F4);clear F4 HMy;go_wp2;go_ret;exact⟨rfl,HX4.out⟩
 go_wp2_with fail
 refine HY1.out.mono ?_
 rintro e w8' ⟨rfl,E8'⟩
 have HY3:=zF (HY2.out w8' E8')
 have HE8':=zF (HE7.out.trans E8')
 replace HS:=zF (fun X (hX:Ext w8' X)=>HS.out X (E8'.trans hX))
 clear E8' HY1 HY2 HE7
 go_upto_region 8 with(go_at_call 14;refine HY3.out.mono ?_;rintro e w8 ⟨rfl,E8⟩)
 have HE8:=zF (HE8'.out.trans E8)
 replace HS:=zF (fun X (hX:Ext w8 X)=>HS.out X (E8.trans hX))
 clear E8 HY3 HE8'
 have hC:=zAx HU.out Hm1.out
 obtain⟨⟨px,py⟩,hP,hPo⟩:=oD hC (bI Hm1.out).1 (bI Hm1.out).2
 obtain⟨⟨qx,qy⟩,hQ,hQo⟩:=oD hC (bI Hm2.out).1 (bI Hm2.out).2
 have hbo:=pk hC hP hQ
 simp only at hPo hQo hbo
 have hbn:=hC.base_on
 rw[HB.out.1,HB.out.2.1]at hP hQ hbn
 obtain⟨S,hS⟩:=eV (vY C.M false qx qy x)
 rw[hS]at hbo
 have hfb:=oI hC hQo hS
 have Hm4:=zF (And.intro (dG hC hQo (bJ hC Hm1.out)) (dG hC hPo (bJ hC Hm2.out)))
 rw[hS,hbo]at Hm4
 obtain⟨lpx,hlpx⟩:=eV ((digs 4294967296 px).length)
 obtain⟨lpy,hlpy⟩:=eV ((digs 4294967296 py).length)
 obtain⟨lqx,hlqx⟩:=eV ((digs 4294967296 qx).length)
 obtain⟨lqy,hlqy⟩:=eV ((digs 4294967296 qy).length)
 have HC:=zF hC
 have HL:=zF (And.intro (And.intro hlpx hlpy) (And.intro hlqx hlqy))
 have HO:=zF (And.intro hPo hQo)
 have HR:=zF (And.intro hS hfb)
 have HPQ:=zF (And.intro hP (And.intro hQ hbn))
 clear hC hP hPo hQ hQo hbo hbn hS hfb hlpx hlpy hlqx hlqy
 have HX:=zF (fun X (hX:Ext w8 X)=>(HS.out X hX).1)
 have HRC:=zF (fun X (hX:Ext w8 X)=>(HS.out X hX).2.1)
 have Hmx:=zF (fun X (hX:Ext w8 X)=>(HS.out X hX).2.2.2.1)
 have Hmy:=zF (fun X (hX:Ext w8 X)=>(HS.out X hX).2.2.1)
 refine zh (by kernel_rfl) 12 [0,0,0,4,15,0,0,0,159,511,0,0,4095,8191] [10,11] (fun j f X=>match j with
  | 0=>f 0=.agg #[.slice B1 l1 k1,.slice B2 l2 k2,.slice B3 l3 k3,.slice B4 l4 k4,.slice B5 l5 k5,.int .i64 (t:Int)]
  | 1=>f 1=.slice A4 mx c4
  | 2=>f 2=.agg #[.slice B1 l1 k1,.slice B2 l2 k2,.slice B3 l3 k3,.slice B4 l4 k4,.slice B5 l5 k5,.int .i64 (t:Int)]
  | 3=>∃ A a B b,f 3=.agg #[.bool false,.slice A bx a,.slice B bY b]∧RU X A a (digs 4294967296 xb)∧RU X B b (digs 4294967296 yb)
  | 4=>∃ A a B b,f 4=.agg #[.bool false,.slice A lpx a,.slice B lpy b]∧RU X A a (digs 4294967296 px)∧RU X B b (digs 4294967296 py)
  | 5=>f 5=.agg #[.slice B1 l1 k1,.slice B2 l2 k2,.slice B3 l3 k3,.slice B4 l4 k4,.slice B5 l5 k5,.int .i64 (t:Int)]
  | 6=>f 6=.slice A5 my c5
  | 7=>f 7=.agg #[.slice B1 l1 k1,.slice B2 l2 k2,.slice B3 l3 k3,.slice B4 l4 k4,.slice B5 l5 k5,.int .i64 (t:Int)]
  | 8=>∃ A a B b,f 8=.agg #[.bool false,.slice A bx a,.slice B bY b]∧RU X A a (digs 4294967296 xb)∧RU X B b (digs 4294967296 yb)
  | 9=>∃ A a B b,f 9=.agg #[.bool false,.slice A lqx a,.slice B lqy b]∧RU X A a (digs 4294967296 qx)∧RU X B b (digs 4294967296 qy)
  | 10=>∃ b,f 10=.pointer (some ⟨b,0,none⟩)∧w8.heap.size≤b∧X.heap[b]?=some (.cells #[.bool false,.slice none 0 0,.slice none 0 0] 45 (0,0))
  | 11=>∃ b,f 11=.pointer (some ⟨b,0,none⟩)∧w8.heap.size≤b∧X.heap[b]?=some (.cells #[.bool false,.slice none 0 0,.slice none 0 0] 45 (0,0))
  | _=>True) (by kernel_rfl) [(62,0),(63,1),(64,2),(65,3),(66,4),(67,5),(68,6),(69,7),(70,8),(71,9),(13,10),(14,11)] (by kernel_rfl) ?_
 refine zt 1 11 [(63,1),(64,2),(65,3),(67,5),(68,6),(69,7),(13,10),(14,11)] (fun f X hX hR K hK=>?_) ?_
 · simp only[yZ];refine⟨zU (by kernel_rfl) (kB (v:=.agg #[.slice B1 l1 k1,.slice B2 l2 k2,.slice B3 l3 k3,.slice B4 l4 k4,.slice B5 l5 k5,.int .i64 (t:Int)]) (t:=30) 30 (.tmp 10) rfl rfl (HX.out X hX) Tryz.underlying30 rfl qp rfl ?_)⟩;exact qd hK (s:=by simp only[yZ])
 refine zJ 2 10 ?_
 refine zt 3 9 [(62,0),(63,1),(67,5),(68,6),(69,7),(13,10),(14,11)] (fun f X hX hR K hK=>?_) ?_
 · simp only[yZ];refine⟨zU (by kernel_rfl) (kB (v:=.agg #[.slice B1 l1 k1,.slice B2 l2 k2,.slice B3 l3 k3,.slice B4 l4 k4,.slice B5 l5 k5,.int .i64 (t:Int)]) (t:=30) 30 (.tmp 10) rfl rfl (HX.out X hX) Tryz.underlying30 rfl qp rfl ?_)⟩;exact qd hK (s:=by simp only[yZ])
 refine qI 4 8 (fun f=>#[f 2]) (F':=17) (fun f X hX hR=>?_) ?_
 · have e2:f 2=_:=hR.out 2 rfl;simp only[e2];refine(dw X (HRC.out X hX) HB.out.1 HB.out.2.1 HB.out.2.2.1 HB.out.2.2.2).mono ?_;rintro e w2 ⟨A,a,B,b,rfl,h1,h2,hB⟩;exact⟨(.agg #[.bool false,.slice A bx a,.slice B bY b]),rfl,hB,fun Y hY=>⟨A,a,B,b,rfl,zL h1 hY,zL h2 hY⟩⟩
 refine qI 5 7 (fun f=>#[f 0,f 1,f 3]) (F':=16) (fun f X hX hR=>?_) ?_
 · have e0:f 0=_:=hR.out 0 rfl;have e1:f 1=_:=hR.out 1 rfl;obtain⟨D3,a3,F3,b3,(e3:f 3=_),r3,s3⟩:=hR.out 3 rfl;simp only[e0,e1,e3];have hr:=om HC.out X (HRC.out X hX) (Hmx.out X hX) r3 s3 HPQ.out.2.2 HM.out.1 HB.out.2.2.1 HB.out.2.2.2 HPQ.out.1;refine hr.mono ?_;rintro e w2 ⟨o,rfl,⟨A,B,a,b,rfl,h1,h2⟩,hB⟩;rw[show(Option.elim (some (px,py)) 0 (·.1))=px from rfl]at h1 ⊢;rw[show(Option.elim (some (px,py)) 0 (·.2))=py from rfl]at h2 ⊢;rw[HL.out.1.1,HL.out.1.2];exact⟨(.agg #[.bool false,.slice A lpx a,.slice B lpy b]),rfl,hB,fun Y hY=>⟨A,a,B,b,rfl,zL h1 hY,zL h2 hY⟩⟩
 refine zt 6 6 [(62,0),(63,1),(64,2),(65,3),(66,4),(68,6),(69,7),(70,8),(13,10),(14,11)] (fun f X hX hR K hK=>?_) ?_
 · simp only[yZ];refine⟨zU (by kernel_rfl) (kB (v:=.agg #[.slice B1 l1 k1,.slice B2 l2 k2,.slice B3 l3 k3,.slice B4 l4 k4,.slice B5 l5 k5,.int .i64 (t:Int)]) (t:=30) 30 (.tmp 10) rfl rfl (HX.out X hX) Tryz.underlying30 rfl qp rfl ?_)⟩;exact qd hK (s:=by simp only[yZ])
 refine zJ 7 5 ?_
 refine zt 8 4 [(62,0),(63,1),(64,2),(65,3),(66,4),(67,5),(68,6),(13,10),(14,11)] (fun f X hX hR K hK=>?_) ?_
 · simp only[yZ];refine⟨zU (by kernel_rfl) (kB (v:=.agg #[.slice B1 l1 k1,.slice B2 l2 k2,.slice B3 l3 k3,.slice B4 l4 k4,.slice B5 l5 k5,.int .i64 (t:Int)]) (t:=30) 30 (.tmp 10) rfl rfl (HX.out X hX) Tryz.underlying30 rfl qp rfl ?_)⟩;exact qd hK (s:=by simp only[yZ])
 refine qI 9 3 (fun f=>#[f 7]) (F':=17) (fun f X hX hR=>?_) ?_
 · have e7:f 7=_:=hR.out 7 rfl;simp only[e7];refine(dw X (HRC.out X hX) HB.out.1 HB.out.2.1 HB.out.2.2.1 HB.out.2.2.2).mono ?_;rintro e w2 ⟨A,a,B,b,rfl,h1,h2,hB⟩;exact⟨(.agg #[.bool false,.slice A bx a,.slice B bY b]),rfl,hB,fun Y hY=>⟨A,a,B,b,rfl,zL h1 hY,zL h2 hY⟩⟩
 refine qI 10 2 (fun f=>#[f 5,f 6,f 8]) (F':=16) (fun f X hX hR=>?_) ?_
 · have e5:f 5=_:=hR.out 5 rfl;have e6:f 6=_:=hR.out 6 rfl;obtain⟨D8,a8,F8,b8,(e8:f 8=_),r8,s8⟩:=hR.out 8 rfl;simp only[e5,e6,e8];have hr:=om HC.out X (HRC.out X hX) (Hmy.out X hX) r8 s8 HPQ.out.2.2 HM.out.2 HB.out.2.2.1 HB.out.2.2.2 HPQ.out.2.1;refine hr.mono ?_;rintro e w2 ⟨o,rfl,⟨A,B,a,b,rfl,h1,h2⟩,hB⟩;rw[show(Option.elim (some (qx,qy)) 0 (·.1))=qx from rfl]at h1 ⊢;rw[show(Option.elim (some (qx,qy)) 0 (·.2))=qy from rfl]at h2 ⊢;rw[HL.out.2.1,HL.out.2.2];exact⟨(.agg #[.bool false,.slice A lqx a,.slice B lqy b]),rfl,hB,fun Y hY=>⟨A,a,B,b,rfl,zL h1 hY,zL h2 hY⟩⟩
 refine kK 11 1 ?_
 refine kK 12 0 ?_
 refine yF ⟨fun f X hX hR hal hap=>?_⟩
 obtain⟨D3,a3,F3,b3,(e3:f 3=_),r3,s3⟩:=hR 3 (by decide)
 obtain⟨D4,a4,F4,b4,(e4:f 4=_),r4,s4⟩:=hR 4 (by decide)
 obtain⟨D8,a8,F8,b8,(e8:f 8=_),r8,s8⟩:=hR 8 (by decide)
 obtain⟨D9,a9,F9,b9,(e9:f 9=_),r9,s9⟩:=hR 9 (by decide)
 obtain⟨bz10,(e10:f 10=_),lz10,hz10⟩:=hR 10 (by decide)
 obtain⟨bz11,(e11:f 11=_),lz11,hz11⟩:=hR 11 (by decide)
 have nz11_10:bz11≠bz10:=fun e=>hap 11 10 (by decide) (by decide) rfl rfl (by decide) (by rw[e11,e10,e])
 simp only[yZ,e3,e4,e8,e9,e10,e11]
 clear hR hal hap e3 e4 e8 e9 e10 e11
 refine zP (fun K hK=>⟨zU (by kernel_rfl) (jJ (cs':=#[.bool false,.slice D4 lpx a4,.slice F4 lpy b4]) (t:=45) 45 (.tmp 13) (.tmp 66) rfl rfl rfl rfl hz10 dI rfl (yT _ _ _ _ _ _ _) (fun Y1 h11 h12 h13=>hK.out _ _ ?_))⟩)
 refine zP (fun K hK=>⟨zU (by kernel_rfl) (jJ (cs':=#[.bool false,.slice D9 lqx a9,.slice F9 lqy b9]) (t:=45) 45 (.tmp 14) (.tmp 71) rfl rfl rfl rfl (h12.at_ nz11_10 hz11) dI rfl (yT _ _ _ _ _ _ _) (fun Y2 h21 h22 h23=>hK.out _ _ ?_))⟩)
 refine zH ?_
 have hY1:Ext w8 Y1:=h12.ext hX lz10
 have hEY:Ext w8 Y2:=h22.ext hY1 lz11
 have hp5:=h22.at_ (xO nz11_10) h11
 have hq5:=h21
 have off1:=fun {A:Option Addr} {c:Nat} {l:List Nat} (h:RU X A c l)=>(RN.offJ h h12 hz10 (by kernel_rfl)).offJ h22 (h12.at_ nz11_10 hz11) (by kernel_rfl)
 have hpx:=off1 r4
 have hpy:=off1 s4
 have hqx:=off1 r9
 have hqy:=off1 s9
 obtain⟨bp,hbp⟩:=eV bz10
 obtain⟨bq,hbq⟩:=eV bz11
 rw[hbp]at hp5 ⊢
 rw[hbq]at hq5 ⊢
 have HE9:=zF (HE8.out.trans hEY)
 replace HS:=zF (fun X (hX:Ext Y2 X)=>And.intro (Ext.at_ hX hp5) (And.intro (zL hpx hX) (And.intro (zL hpy hX) (And.intro (Ext.at_ hX hq5) (And.intro (zL hqx hX) (And.intro (zL hqy hX) (HS.out X (hEY.trans hX))))))))
 clear off1 r3 s3 r4 s4 r8 s8 r9 s9 h11 h12 h13 h21 h22 h23 hY1 hX hEY hp5 hq5 hpx hpy hqx hqy hz10 hz11 lz10 lz11 nz11_10 hbp hbq HX HRC Hmx Hmy HE8
 obtain⟨z,hz⟩:=eV (S.elim 0 (·.1))
 have hzb:=HR.out.2
 rw[hz,Ht.out]at hzb
 have HZ:=zF (And.intro hz hzb)
 clear hz hzb
 obtain⟨hp,px1,py1,hq,qx1,qy1,-,-,-,-,k2,k3⟩:=HS.out Y2 (zX _)
 obtain⟨y0,y1,y2,f0,f1,f2⟩:=jG hq
 have HTo:=zF (rM Y2 qx1 qy1 HL.out.2.1 HL.out.2.2)
 clear hp px1 py1 hq qx1 qy1 k2 k3
 go_wp2_with fail
 refine HTo.out.mono ?_
 rintro e Y2a ⟨v1q,v2q,rfl,hap,G1⟩
 obtain⟨-,-,-,-,-,-,-,-,-,-,k2,k3⟩:=HS.out Y2a G1
 have HSh:=zF (m9 HC.out Y2a k2 HN.out.1 HV.out.1 Hm1.out hap HO.out.2 Hm4.out.1 HZ.out.1 HZ.out.2 Ht.out)
 replace HE9:=zF (HE9.out.trans G1)
 replace HS:=zF (fun X (hX:Ext Y2a X)=>HS.out X (G1.trans hX))
 clear hap k2 k3 G1 HTo y0 y1 y2 f0 f1 f2
 go_wp2_with fail
 refine HSh.out.mono ?_
 rintro e Y2b ⟨Sq,rfl,rsq,G2⟩
 replace HE9:=zF (HE9.out.trans G2)
 have HB1:=zF (fun X (hX:Ext Y2b X)=>RB.upE rsq hX)
 replace HS:=zF (fun X (hX:Ext Y2b X)=>HS.out X (G2.trans hX))
 clear G2 HSh rsq
 obtain⟨hp,px1,py1,hq,qx1,qy1,-,-,-,-,k2,k3⟩:=HS.out Y2b (zX _)
 obtain⟨y0,y1,y2,f0,f1,f2⟩:=jG hp
 have HTo:=zF (rM Y2b px1 py1 HL.out.1.1 HL.out.1.2)
 clear hp px1 py1 hq qx1 qy1 k2 k3
 go_wp2_with fail
 refine HTo.out.mono ?_
 rintro e Y2ba ⟨v1p,v2p,rfl,hap,G1⟩
 obtain⟨-,-,-,-,-,-,-,-,-,-,k2,k3⟩:=HS.out Y2ba G1
 have HSh:=zF (m9 HC.out Y2ba k3 HN.out.2 HV.out.2 Hm2.out hap HO.out.1 Hm4.out.2 HZ.out.1 HZ.out.2 Ht.out)
 replace HE9:=zF (HE9.out.trans G1)
 replace HS:=zF (fun X (hX:Ext Y2ba X)=>HS.out X (G1.trans hX))
 replace HB1:=zF (fun X (hX:Ext Y2ba X)=>HB1.out X (G1.trans hX))
 clear hap k2 k3 G1 HTo y0 y1 y2 f0 f1 f2
 go_wp2_with fail
 refine HSh.out.mono ?_
 rintro e Y2bb ⟨Sp,rfl,rsp,G2⟩
 replace HE9:=zF (HE9.out.trans G2)
 have HB2:=zF (fun X (hX:Ext Y2bb X)=>And.intro (RB.upE rsp hX) (HB1.out X (G2.trans hX)))
 replace HS:=zF (fun X (hX:Ext Y2bb X)=>HS.out X (G2.trans hX))
 clear G2 HSh rsp HB1
 obtain⟨-,-,-,hq,qx1,qy1,-,-,-,xx,-⟩:=HS.out Y2bb (zX _)
 obtain⟨y0,y1,y2,f0,f1,f2⟩:=jG hq
 have HSr:=zF (sg HC.out Y2bb xx Hm1.out qx1 qy1 HO.out.2 HR.out.1 HZ.out.1 HZ.out.2 Ht.out HM.out.1 HL.out.2.1 HL.out.2.2)
 clear hq qx1 qy1 xx
 go_wp2_with fail
 refine HSr.out.mono ?_
 rintro e u1 ⟨Sr,rfl,rsr,G2⟩
 replace HE9:=zF (HE9.out.trans G2)
 have HB3:=zF (fun X (hX:Ext u1 X)=>And.intro (RB.upE rsr hX) (HB2.out X (G2.trans hX)))
 obtain⟨-,-,-,-,-,-,-,-,-,-,k2,-⟩:=HS.out u1 G2
 have HSi:=og HC.out (p1:=.slice none 0 0) (p2:=.slice none 0 0) u1 k2 HV.out.1 Hm1.out rfl
 rw[HN.out.1]at HSi
 have HSi:=zF HSi
 clear G2 HSr rsr HB2 k2 HS y0 y1 y2 f0 f1 f2
 go_wp2_with fail
 refine HSi.out.mono ?_
 rintro e u2 ⟨rfl,G2⟩
 replace HE9:=zF (HE9.out.trans G2)
 obtain⟨s1,s2,s3⟩:=HB3.out u2 G2
 have t1:=s1.str (P:=Tryz.prog) 22 5 9 Tryz.underlying22 Tryz.underlying5 Tryz.underlying9
 have t2:=s2.str (P:=Tryz.prog) 22 5 9 Tryz.underlying22 Tryz.underlying5 Tryz.underlying9
 have t3:=s3.str (P:=Tryz.prog) 22 5 9 Tryz.underlying22 Tryz.underlying5 Tryz.underlying9
 have hbl:(bytesOf z t).length=t:=kV _ _
 rw[hbl]at t1 t2 t3
 clear s1 s2 s3 G2 HB3 HSi hbl
 go_wp2
 go_ret
 exact⟨rfl,HE9.out⟩
end Go.Proofs.YtaemogcomplhiaaGreatDoor.Ec
namespace Go.Proofs.YtaemogcomplhiaaGreatDoor
open Go.ChangeShapes Go.WideShapes Go.ChangeAt Go.RowKit
open Sha
theorem gK:Tryz.prog.globalNamed "bailey/hashes.k" = some 3:=by kernel_rfl
theorem tK:(Tryz.prog.globals[3]?).map (·.type)=some 211:=by kernel_rfl
def kOk (n:Nat) (i:Nat):Bool:=decide (n<18446744073709551616∧n/4294967296=(wd kk i).toNat)
theorem k_all:(List.range 64).all (fun i=>match(Rows.laid_bailey_hashes_k (H:=Unit))with | .agg l=>(match l[i]? with|some (.lit (.int .u64 n))=>decide (0≤n)&&kOk n.toNat i|_=>false)|_=>false)=true:=by decide +kernel
theorem zB8 {W:World}(h:laidMetH Tryz.prog [("bailey/hashes.k", Rows.laid_bailey_hashes_k)] W):KW W:=by
 rw[MakeChecks.laidMetH_plain _ _ _ (by kernel_rfl)]at h;obtain⟨ps,⟨g0,t0,cs0,f0,p0,q0,hg0,ht0,hv0,hd0,_⟩,_,_⟩:=h;obtain rfl:=jX (gK.symm.trans hg0);obtain rfl:=jX (tK.symm.trans ht0);obtain⟨xs,m,rfl,hx,hlen,hn,hel⟩:=DataW.trod_array Tryz.underlying211 hd0;have c1:Tryz.prog.cellsOf 65=1:=by kernel_rfl
 intro i hi;have hi80:i<xs.length:=by omega
 have h0:=hel i (by omega);rw[qO hi80]at h0;obtain⟨k,e1,e2,_⟩:=DataW.trod_int Tryz.underlying65 h0;rw[c1,jO]at e1;have hall:=List.all_eq_true.1 k_all i (List.mem_range.2 hi);have hx1:=congrArg (fun z:DataW Unit×List MemPlace=>z.1) hx;simp only at hx1;rw[hx1]at hall;simp only[List.getElem?_map,qO hi80,yM,e2,ji,kOk,decide_eq_true_eq]at hall;obtain⟨k0,k1,k2⟩:=hall;have hc:cs0[i]?=some (.int .u64 k):=by
  have:(cs0.toList.drop i)[0]?=some (Value.int .u64 k):=by
   have h2:=congrArg (fun l:List Value=>l[0]?) e1;simpa using h2
  simpa using this
 refine⟨k.toNat,?_,k1,k2⟩;rw[World.var?_cell hg0 hv0 i,hc,Int.toNat_of_nonneg k0]
theorem zBH (os:Os)(args:Array Value):laidMetH Tryz.prog [("bailey/hashes.k", Rows.laid_bailey_hashes_k)] ((World.doorLaid Tryz.prog 14 os).forCall (fun _ _=>0) ⟨#[],args,[]⟩).memory :=
 laidMetH_of_parts3 (fuel:=8) (laidMet_of_run' 8 (by kernel_rfl) (by kernel_rfl)) (by kernel_rfl) (by kernel_rfl)
end Go.Proofs.YtaemogcomplhiaaGreatDoor
namespace Go.Proofs.YtaemogcomplhiaaGreatDoor.ecdsaShared
open Go.ChangeShapes Go.WideShapes Go.ChangeAt Go.RowKit
theorem own:ownKnob Tryz.prog.godebug=none:=by kernel_rfl
theorem laidOut:laidOutB Tryz.prog=true:=by kernel_rfl
theorem lifted (os:Os)(started:os.Started)(H:Type)(enc:TypeId×Value→H) :
 ReturnsInHanded {} Tryz.checked os 5 .any (fun w args=>(Rows.ecdsaSharedSpec.pre enc Tryz.prog Tryz.f5 Rows.ecdsaSharedRow.domain false w args∧laidMetH Tryz.prog [("bailey/hashes.k", Rows.laid_bailey_hashes_k)] w)∧sizedMet enc Tryz.prog Tryz.f5 (OpenSpec.ofChange Rows.ecdsaSharedSpec) false w args) (Rows.ecdsaSharedSpec.post enc Tryz.prog Tryz.f5 false true false false):=by
 refine returnsInHanded_of_change_and (C:=Tryz.checked) (X:=fun w _=>laidMetH Tryz.prog [("bailey/hashes.k", Rows.laid_bailey_hashes_k)] w) (fun _ _ _ hh h=>h.of_heap hh) own started (by kernel_rfl) Tryz.func5
  (ChangeSpec.witness_shaped (enc:=enc) (C:=Tryz.checked) (os:=os) (X:=fun w _=>laidMetH Tryz.prog [("bailey/hashes.k", Rows.laid_bailey_hashes_k)] w) false (World.doorLaid Tryz.prog 14 os) #[.int .i64 0,.slice none 0 0,.slice none 0 0] 8 rfl (World.shaped_of_RefB (by kernel_rfl) (by kernel_rfl)) (by kernel_rfl) (by kernel_rfl) (by kernel_rfl) (zBH os _)) ?_
 intro W base args ds gs before hval0 hW hcnd hsz0 hL _
 have hk:KW W:=zB8 hL
 have hval:∀(j:Nat) t v,Tryz.f5.params[j]?=some t→args[j]?=some v→Value.okWide Tryz.prog W .any base t v:=hval0
 have hsz:(DataW.weightsEach Tryz.prog (Tryz.f5.params.toList++Rows.ecdsaSharedSpec.plain.varTypes Tryz.prog) (ds++gs)).all (· ≤ reachBytes)=true:=hsz0
 have hW':=hW
 obtain⟨p,q,hA0,hV,rfl,hfz,hnd⟩:=hW
 have hA:DataW.TrodAll enc Tryz.prog W 0 (fun _=>true) true Tryz.f5.params.toList args.toList ds p:=hA0
 rw[Tryz.params5]at hA hval hsz
 obtain⟨v0,vs0,d0,ds0,p0,q0,hargs,rfl,rfl,h0,r0⟩:=trodAll_cons hA
 obtain⟨v1,vs1,d1,ds1,p1,q1,rfl,rfl,rfl,h1,r1⟩:=trodAll_cons r0
 obtain⟨v2,vs2,d2,ds2,p2,q2,rfl,rfl,rfl,h2,r2⟩:=trodAll_cons r1
 obtain⟨rfl,rfl,rfl⟩:=trodAll_nil r2
 obtain rfl:args=#[v0,v1,v2]:=by cases args;simp_all
 obtain⟨rfl,rfl⟩:=trodVars_none hV
 have k0:=h0
 have lt0:∀ x∈p0,x.block<W.heap.size:=by obtain⟨m,hm⟩:=k0;exact DataW.trod_lt m _ _ _ hm
 have k1:=h1
 have lt1:∀ x∈p1,x.block<W.heap.size:=by obtain⟨m,hm⟩:=k1;exact DataW.trod_lt m _ _ _ hm
 have k2:=h2
 have lt2:∀ x∈p2,x.block<W.heap.size:=by obtain⟨m,hm⟩:=k2;exact DataW.trod_lt m _ _ _ hm
 have fit:∀(j:Nat) (t:TypeId) (d:DataW H),[3,24,24][j]?=some t→[d0,d1,d2][j]?=some d→Fits t d:=fun j t d ht hd k hk=>by
  have:=List.all_eq_true.1 hsz k (DataW.weights_mem_each (ts:=[3,24,24]) (ds:=[d0,d1,d2]) ht hd k hk);simpa using this
 obtain⟨n0,hv0,_,_,wf0⟩:=open_int Tryz.underlying3 (hval 0 3 v0 rfl rfl) h0
 obtain⟨a1,len1,cap1,e1⟩:=okWide_slice Tryz.underlying24 (hval 1 24 v1 rfl rfl)
 obtain⟨A1,c1,l1,hv1,hR1⟩:∃ A c l,v1=.slice A (List.length l) c∧RL W (fun b=>b<W.heap.size) A c l:=by
  obtain⟨fuel,hf⟩:=h1;rw[e1]at hf ⊢;exact aO hf (fit 1 _ _ rfl rfl)
 obtain⟨a2,len2,cap2,e2⟩:=okWide_slice Tryz.underlying24 (hval 2 24 v2 rfl rfl)
 obtain⟨A2,c2,l2,hv2,hR2⟩:∃ A c l,v2=.slice A (List.length l) c∧RL W (fun b=>b<W.heap.size) A c l:=by
  obtain⟨fuel,hf⟩:=h2;rw[e2]at hf ⊢;exact aO hf (fit 2 _ _ rfl rfl)
 clear hA0 hval0
 subst hv0 hv1 hv2
 refine(Ec.oe W hk hR1 hR2 (fun b hb=>hb)).mono fun e W' ⟨he,bel⟩=>?_
 subst he
 exact⟨_,rfl,_,_,_,[],_,[],hW',trodAll_mk1 (shut_bool Tryz.underlying4 _),(trodAll_cons_mk (Below.trod laidOut (by kernel_rfl) (ws (by kernel_rfl)) k0 bel lt0) (trodAll_cons_mk (Below.trod laidOut (by kernel_rfl) (ws (by kernel_rfl)) k1 bel lt1) (trodAll_cons_mk (Below.trod laidOut (by kernel_rfl) (ws (by kernel_rfl)) k2 bel lt2) trodAll_mk0))),rfl,bel.frame _,fun h=>by cases h⟩
theorem over:Rows.ecdsaSharedRow.holds Tryz.pinned (OpenSpec.ofChange Rows.ecdsaSharedSpec) :=
 OpenClaim.holds_of_wide 5 Tryz.f5 rfl rfl rfl rfl rfl rfl rfl ⟨rfl,rfl,rfl,rfl,rfl⟩ rfl rfl rfl rfl rfl (by kernel_rfl) Tryz.func5 (by kernel_rfl)
  (ws (by kernel_rfl)) (by unfold Func.isWrapper;first|(rw[qg (by decide +kernel)];kernel_rfl)|(rw[ql (by decide +kernel)];exact⟨rfl,rfl⟩))
  (fun os started H enc _=>lifted os started H enc)
theorem proved:Rows.EcdsaSharedCardSaid :=
 Claim7.holds_tied_plain_at .later [] [.data] true (true, "2cc479aca2d1c54a50a894e31983f67afc0930d5eb9c22e5e88b2be8849c30a5") false over (fun _ h=>by cases h) (by kernel_rfl) (fun _ h=>by cases h) ecdsaShared_row_tie rfl ⟨rfl,rfl⟩ (by kernel_rfl) rfl
  (fun f fn hf hfn => by
   obtain rfl:f=5:=jX ((show Tryz.prog.funcNamed "bailey/baileylaw10.EcdsaShared" = some 5 by kernel_rfl).symm.trans hf)|>.symm
   obtain rfl:fn=Tryz.f5:=(jX (Tryz.func5.symm.trans hfn)).symm
   exact⟨by kernel_rfl,fun j t ht=>by
    rw[Tryz.params5]at ht
    have hm:t∈[3,24,24]:=by simpa using Array.mem_of_getElem? ht
    have hall:([3,24,24].all fun u=>!Tryz.prog.wantsStandIn u)=true:=by kernel_rfl
    exact(show Tryz.prog.wantsStandIn t=false by simpa using List.all_eq_true.1 hall t hm)⟩)
  (by kernel_rfl)
#print axioms proved
end Go.Proofs.YtaemogcomplhiaaGreatDoor.ecdsaShared
