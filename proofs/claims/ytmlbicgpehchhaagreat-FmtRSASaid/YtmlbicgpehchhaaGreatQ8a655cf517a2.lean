/- Laws that the proof rests on. -/
import Derived.Test.YtmlbicgpehchhaaGreatQ99f28a84fee3
set_option maxRecDepth 100000
set_option maxHeartbeats 16000000
namespace Go.Proofs.YtmlbicgpehchhaaGreat
open Go.RowKit
attribute [local go_sem] Oper.semAt_some
def NR (w:World) (A:Option Addr) (c x:Nat):Prop:=RU w A c (digs 4294967296 x)∧(digs 4294967296 x).length<20000
theorem NR.ext {w X:World}{A:Option Addr}{c x:Nat}(h:NR w A c x) (hE:Ext w X):NR X A c x:=⟨h.1.up hE,h.2⟩
def RKr (w:World) (v:Value) (n e d p q:Nat):Prop:=∃ (A0 A1 A2 A3 A4:Option Addr) (c0 c1 c2 c3 c4:Nat),
 v=.agg #[.slice A0 (digs 4294967296 n).length c0,.slice A1 (digs 4294967296 e).length c1,.slice A2 (digs 4294967296 d).length c2,.slice A3 (digs 4294967296 p).length c3,.slice A4 (digs 4294967296 q).length c4]∧NR w A0 c0 n∧NR w A1 c1 e∧NR w A2 c2 d∧NR w A3 c3 p∧NR w A4 c4 q
theorem RKr.ext {w X:World}{v:Value}{n e d p q:Nat}(h:RKr w v n e d p q) (hE:Ext w X):RKr X v n e d p q:=by
 obtain ⟨A0,A1,A2,A3,A4,c0,c1,c2,c3,c4,rfl,h0,h1,h2,h3,h4⟩:=h;exact ⟨A0,A1,A2,A3,A4,c0,c1,c2,c3,c4,rfl,h0.ext hE,h1.ext hE,h2.ext hE,h3.ext hE,h4.ext hE⟩
theorem aP {A A':Option Addr}{c c' x y:Nat}{w:World}(h:RU w A c (digs 4294967296 x)) (h':RU w A' c' (digs 4294967296 y)) :
 Calls Tryz.prog 104 #[.slice A (digs 4294967296 x).length c,.slice A' (digs 4294967296 y).length c'] w fun e w'=>e=.returned (.int .i64 (jo x y))∧Ext w w':=by
 refine (vW _ _ A A' c c' x y w h h').mono ?_
 rintro e w' ⟨rfl,n,rfl⟩
 exact ⟨rfl,qR (zO _ w) n⟩
theorem zCZ {A:Option Addr}{c x:Nat}{w:World}(h:RU w A c (digs 4294967296 x)) :
 Calls Tryz.prog 92 #[.slice A (digs 4294967296 x).length c] w fun e w'=>e=.returned (.int .i64 (zo x:Int))∧Ext w w':=by
 refine (we _ A c x w h).mono ?_
 rintro e w' ⟨rfl,rfl⟩
 exact ⟨rfl,zy w⟩
theorem zCa {A:Option Addr}{c x:Nat}{w:World}(h:RU w A c (digs 4294967296 x)) :
 Calls Tryz.prog 94 #[.slice A (digs 4294967296 x).length c,.int .i64 0] w fun e w'=>e=.returned (.int .u64 ((x % 2:Nat):Int))∧Ext w w':=by
 refine (fH _ A c x 0 w h (by omega)).mono ?_
 rintro e w' ⟨rfl,rfl⟩
 exact ⟨by rw [yp],zy w⟩
theorem zCY (x:Nat) (w:World) (hx:x<18446744073709551616) :
 Calls Tryz.prog 78 #[.int .u64 (x:Int)] w fun e w'=>∃ A' c',e=.returned (.slice A' (digs 4294967296 x).length c')∧RU w' A' c' (digs 4294967296 x)∧Ext w w':=by
 refine (kW x w hx).mono ?_
 rintro e w' ⟨A,c,rfl,hO,hB⟩
 exact ⟨A,c,rfl,hO.ru,hB⟩
theorem zCG {A A':Option Addr}{c c' x y:Nat}{w:World}(h:NR w A c x) (h':NR w A' c' y) :
 Calls Tryz.prog 127 #[.slice A (digs 4294967296 x).length c,.slice A' (digs 4294967296 y).length c'] w fun e w'=>∃ A1 c1,e=.returned (.slice A1 (digs 4294967296 (x*y)).length c1)∧RU w' A1 c1 (digs 4294967296 (x*y))∧Ext w w':=by
 refine (fF _ _ A A' c c' x y w h.1 h'.1 jq jq (by have:=h.2;omega) (by have:=h'.2;omega)).mono ?_
 rintro e w' ⟨A1,c1,rfl,hO,hB⟩
 exact ⟨A1,c1,rfl,hO.ru,hB⟩
theorem mW {A A':Option Addr}{c c' x:Nat}{w:World}(h:NR w A c x) (h':RU w A' c' (digs 4294967296 1)) (h1:1≤x) :
 Calls Tryz.prog 80 #[.slice A (digs 4294967296 x).length c,.slice A' (digs 4294967296 1).length c'] w fun e w'=>∃ A1 c1,e=.returned (.slice A1 (digs 4294967296 (x - 1)).length c1)∧RU w' A1 c1 (digs 4294967296 (x - 1))∧Ext w w':=by
 refine (fD _ _ A A' c c' x 1 w h.1 h' jq jq (by have:=h.2;omega) h1).mono ?_
 rintro e w' ⟨A1,c1,rfl,hO,hB⟩
 exact ⟨A1,c1,rfl,hO.ru,hB⟩
theorem zCs {x y:Nat} : decide (jo x y≤(0:Int))=decide (x≤y):=by
 rcases jb x y with h | h | h <;> rw [h.2] <;> simp <;> omega
theorem bW {x y j k:Nat}(hx:(digs 4294967296 x).length≤j) (hy:(digs 4294967296 y).length≤k):(digs 4294967296 (x*y)).length≤j+k:=by
 refine qp (by omega) ?_;have b:∀ {z n:Nat},(digs 4294967296 z).length≤n→z<4294967296 ^ n:=fun {z n} h=>by
  have h1:=jf (kQ (B:=4294967296) (by omega) z);rw [zc (by omega)] at h1;exact zR h1 (qF (by omega) h)
 rw [qI];exact Nat.mul_lt_mul'' (b hx) (b hy)
theorem mR {v:Value}{n e d p q:Nat}(w:World) (hk:RKr w v n e d p q) :
 Calls Tryz.prog 77 #[v] w fun ev w'=>ev=.returned (.bool (vOf n e d p q))∧Ext w w':=by
 obtain ⟨A0,A1,A2,A3,A4,c0,c1,c2,c3,c4,rfl,h0,h1,h2,h3,h4⟩:=hk
 obtain ⟨dn,hdn⟩:=eV ((digs 4294967296 n).length)
 obtain ⟨de,hde⟩:=eV ((digs 4294967296 e).length)
 obtain ⟨dd,hdd⟩:=eV ((digs 4294967296 d).length)
 obtain ⟨dp,hdp⟩:=eV ((digs 4294967296 p).length)
 obtain ⟨dq,hdq⟩:=eV ((digs 4294967296 q).length)
 rw [hdn,hde,hdd,hdp,hdq]
 obtain ⟨W0,hW0⟩:=eW (w.alloc (.cells #[.slice A0 dn c0,.slice A1 de c1,.slice A2 dd c2,.slice A3 dp c3,.slice A4 dq c4] 51))
 obtain ⟨s,hs⟩:=eV w.heap.size
 have hq0:=zP w (.cells #[.slice A0 dn c0,.slice A1 de c1,.slice A2 dd c2,.slice A3 dp c3,.slice A4 dq c4] 51)
 have hE:Ext w W0:=by rw [hW0];exact zb _ _
 rw [←hW0,hs] at hq0
 have HN:=fun X (hX:Ext W0 X)=>h0.ext (zI hE hX)
 have HEe:=fun X (hX:Ext W0 X)=>h1.ext (zI hE hX)
 have HD:=fun X (hX:Ext W0 X)=>h2.ext (zI hE hX)
 have HPp:=fun X (hX:Ext W0 X)=>h3.ext (zI hE hX)
 have HQ:=fun X (hX:Ext W0 X)=>h4.ext (zI hE hX)
 have HE0:=zF hE
 have Hs:=zF hs
 have Hq0:=zF hq0
 obtain ⟨V,hV⟩:=eV (vOf n e d p q)
 rw [hV]
 obtain ⟨nb,hnb⟩:=eV (zo n)
 obtain ⟨r2,hr2⟩:=eV (e % 2)
 obtain ⟨z3,hz3⟩:=eV (jo p q)
 obtain ⟨z4,hz4⟩:=eV (jo d n)
 obtain ⟨z5,hz5⟩:=eV (jo e n)
 obtain ⟨z7,hz7⟩:=eV (jo e 2)
 obtain ⟨z9,hz9⟩:=eV (jo (p*q) n)
 obtain ⟨dm,hdm⟩:=eV ((digs 4294967296 (p*q)).length)
 obtain ⟨dx,hdx⟩:=eV ((digs 4294967296 (e*d)).length)
 obtain ⟨two,htwo⟩:=eV ((digs 4294967296 2).length)
 obtain ⟨b1,hb1⟩:=eV (decide ((nb:Int)<256))
 obtain ⟨b2,hb2⟩:=eV (decide ((4096:Int)<(nb:Int)))
 obtain ⟨b3,hb3⟩:∃ b,(z3==0)=b:=⟨_,rfl⟩
 obtain ⟨b4,hb4⟩:=eV (decide ((0:Int)≤z4))
 obtain ⟨b5,hb5⟩:=eV (decide ((0:Int)≤z5))
 obtain ⟨b6,hb6⟩:∃ b,(((r2:Nat):Int)==0)=b:=⟨_,rfl⟩
 obtain ⟨b7,hb7⟩:=eV (decide (z7≤(0:Int)))
 obtain ⟨b9,hb9⟩:∃ b,(z9 != 0)=b:=⟨_,rfl⟩
 have e3:b3=decide (p=q):=by rw [←hb3,←hz3,zCK]
 have e4:b4=decide (n≤d):=by rw [←hb4,←hz4,ms]
 have e5:b5=decide (n≤e):=by rw [←hb5,←hz5,ms]
 have e7:b7=decide (e≤2):=by rw [←hb7,←hz7,zCs]
 have e9:b9=decide (p*q≠n):=by rw [←hb9,←hz9,zBB]
 have hv:V=(!b1 && !b2 && !b3 && !b4 && !b5 && !b6 && !b7 && decide (p*q=n) && yI p && yI q && decide (e*d % (p - 1)=1) && decide (e*d % (q - 1)=1)):=by
  rw [←hV,e3,e4,e5,e7,←hb1,←hb2,←hb6];unfold vOf;rw [hnb];congr 5;have hr:r2=0∨r2=1:=by omega
  have x1:decide (256≤nb)=!decide ((nb:Int)<256):=by
   by_cases h:nb<256
   · rw [qb (by omega),qX (by omega:(nb:Int)<256)];rfl
   · rw [qX (by omega),qb (by omega)];rfl
  have x2:decide (nb≤4096)=!decide ((4096:Int)<(nb:Int)):=by
   by_cases h:4096<nb
   · rw [qb (by omega),qX (by omega:(4096:Int)<(nb:Int))];rfl
   · rw [qX (by omega),qb (by omega)];rfl
  have x4:decide (d<n)=!decide (n≤d):=by by_cases h:n≤d <;> simp [h] <;> omega
  have x5:decide (e<n)=!decide (n≤e):=by by_cases h:n≤e <;> simp [h] <;> omega
  have x6:(decide (e % 2=1) && decide (2≤zo e))=(!(((r2:Nat):Int)==0) && !decide (e≤2)):=by
   rcases hr with h | h
   · rw [hr2,h];rfl
   · rw [hr2,h];have:decide (2≤zo e)=!decide (e≤2):=by
      by_cases he:e≤2
      · have h1:e=1:=by omega
        subst h1;decide
      · have:=aZ (N:=e) (by omega);simp [he,this]
     rw [this];rfl
  rw [x1,x2,x4,x5];simp only [Bool.and_assoc];rw [x6];simp
 have hlx:dx<40000:=by rw [←hdx];have y1:=bW (x:=e) (y:=d) (zH _) (zH _);have y2:=h1.2;have y3:=h2.2;omega
 have HBn:=zF (fun X (hX:Ext W0 X)=>(hnb▸hdn▸zCZ (HN X hX).1:Calls Tryz.prog 92 #[.slice A0 dn c0] X fun e w'=>e=.returned (.int .i64 (nb:Int))∧Ext X w'))
 have HC1:=zF (fun X (hX:Ext W0 X)=>(hz3▸hdp▸hdq▸aP (HPp X hX).1 (HQ X hX).1:Calls Tryz.prog 104 #[.slice A3 dp c3,.slice A4 dq c4] X fun e w'=>e=.returned (.int .i64 z3)∧Ext X w'))
 have HMu:=zF (fun X (hX:Ext W0 X)=>(hdm▸hdp▸hdq▸zCG (HPp X hX) (HQ X hX):Calls Tryz.prog 127 #[.slice A3 dp c3,.slice A4 dq c4] X fun e w'=>∃ A1 c1,e=.returned (.slice A1 dm c1)∧RU w' A1 c1 (digs 4294967296 (p*q))∧Ext X w'))
 have HCm:=zF (fun X (hX:Ext W0 X) (A1:Option Addr) (c1:Nat) (h:RU X A1 c1 (digs 4294967296 (p*q)))=>(hz9▸hdm▸hdn▸aP h (HN X hX).1:Calls Tryz.prog 104 #[.slice A1 dm c1,.slice A0 dn c0] X fun e w'=>e=.returned (.int .i64 z9)∧Ext X w'))
 have HT0:=zF (fun X (hX:Ext W0 X)=>(hr2▸hde▸zCa (HEe X hX).1:Calls Tryz.prog 94 #[.slice A1 de c1,.int .i64 0] X fun e w'=>e=.returned (.int .u64 (r2:Int))∧Ext X w'))
 have HOf:=zF (fun X=>(htwo▸zCY 2 X (by omega):Calls Tryz.prog 78 #[.int .u64 2] X fun e w'=>∃ A' c',e=.returned (.slice A' two c')∧RU w' A' c' (digs 4294967296 2)∧Ext X w'))
 have HC2:=zF (fun X (hX:Ext W0 X) (A':Option Addr) (c':Nat) (h:RU X A' c' (digs 4294967296 2))=>(hz7▸hde▸htwo▸aP (HEe X hX).1 h:Calls Tryz.prog 104 #[.slice A1 de c1,.slice A' two c'] X fun e w'=>e=.returned (.int .i64 z7)∧Ext X w'))
 have HC5:=zF (fun X (hX:Ext W0 X)=>(hz5▸hde▸hdn▸aP (HEe X hX).1 (HN X hX).1:Calls Tryz.prog 104 #[.slice A1 de c1,.slice A0 dn c0] X fun e w'=>e=.returned (.int .i64 z5)∧Ext X w'))
 have HC4:=zF (fun X (hX:Ext W0 X)=>(hz4▸hdd▸hdn▸aP (HD X hX).1 (HN X hX).1:Calls Tryz.prog 104 #[.slice A2 dd c2,.slice A0 dn c0] X fun e w'=>e=.returned (.int .i64 z4)∧Ext X w'))
 have HPr:=zF (fun X (hX:Ext W0 X) (hb:zo p≤4096)=>(hdp▸dP X (HPp X hX).1 (HPp X hX).2 hb:Calls Tryz.prog 128 #[.slice A3 dp c3] X fun e w'=>e=.returned (.bool (xe p))∧Ext X w'))
 have HPs:=zF (fun X (hX:Ext W0 X) (hb:zo q≤4096)=>(hdq▸dP X (HQ X hX).1 (HQ X hX).2 hb:Calls Tryz.prog 128 #[.slice A4 dq c4] X fun e w'=>e=.returned (.bool (xe q))∧Ext X w'))
 have HMx:=zF (fun X (hX:Ext W0 X)=>(hdx▸hde▸hdd▸zCG (HEe X hX) (HD X hX):Calls Tryz.prog 127 #[.slice A1 de c1,.slice A2 dd c2] X fun e' w'=>∃ A1 c1,e'=.returned (.slice A1 dx c1)∧RU w' A1 c1 (digs 4294967296 (e*d))∧Ext X w'))
 have HCo:=zF (fun (X:World) (A A':Option Addr) (c c' x:Nat) (h:RU X A c (digs 4294967296 x)) (h':RU X A' c' (digs 4294967296 1))=>aP h h')
 have HSp':=fun X (hX:Ext W0 X) (A':Option Addr) (c':Nat) (h':RU X A' c' (digs 4294967296 1)) (h1:1≤p)=>(hdp▸mW (HPp X hX) h' h1:Calls Tryz.prog 80 #[.slice A3 dp c3,.slice A' (digs 4294967296 1).length c'] X fun e w'=>∃ A1 c1,e=.returned (.slice A1 (digs 4294967296 (p - 1)).length c1)∧RU w' A1 c1 (digs 4294967296 (p - 1))∧Ext X w')
 have HSq':=fun X (hX:Ext W0 X) (A':Option Addr) (c':Nat) (h':RU X A' c' (digs 4294967296 1)) (h1:1≤q)=>(hdq▸mW (HQ X hX) h' h1:Calls Tryz.prog 80 #[.slice A4 dq c4,.slice A' (digs 4294967296 1).length c'] X fun e w'=>∃ A1 c1,e=.returned (.slice A1 (digs 4294967296 (q - 1)).length c1)∧RU w' A1 c1 (digs 4294967296 (q - 1))∧Ext X w')
 have HSp0:=zF HSp'
 have HSq0:=zF HSq'
 have HLx:=zF hdx
 have Hlx:Hid ((digs 4294967296 (e*d)).length<40000):=zF (by rw [hdx];exact hlx)
 have Hv:=zF hv
 have Hnb:=zF hnb
 have He9:=zF e9
 have Hg1:=zF hb1
 have Hg2:=zF hb2
 have Hg3:=zF hb3
 have Hg4:=zF hb4
 have Hg5:=zF hb5
 have Hg6:=zF hb6
 have Hg7:=zF hb7
 have Hg9:=zF hb9
 clear h0 h1 h2 h3 h4 hE hs hV hnb hr2 hz3 hz4 hz5 hz7 hz9 e3 e4 e5 e7 e9 hv hq0 HN HEe HD HPp HQ HSp' HSq' hlx hdn hde hdd hdp hdq hdm hdx htwo hb1 hb2 hb3 hb4 hb5 hb6 hb7 hb9
 go_enter Tryz.func77,Tryz.ntmps77
 go_upto_region 1 with fail
 rw [←hW0,Hs.out]
 clear hW0
 have HE:=zF (zy W0)
 obtain ⟨y0,y1,y2,y3,y4⟩:=jO Hq0.out
 go_wp2_with fail
 refine (HBn.out _ HE.out).mono ?_
 rintro e9 w9 ⟨rfl,hx⟩
 replace HE:=zF (zI HE.out hx)
 clear hx y0 y1 y2 y3 y4
 go_upto_region 2 with fail
 go_wp2_with fail
 refine (zCY 1 _ (by omega)).mono ?_
 rintro e9 w10 ⟨A5,c5,rfl,hr5,hx⟩
 replace HE:=zF (zI HE.out hx)
 have HR4:=zF hr5
 clear hx hr5
 obtain ⟨y0,y1,y2,y3,y4⟩:=jO (jQ HE.out Hq0.out)
 have HSp:=zF (fun X (hX:Ext W0 X) (A':Option Addr) (c':Nat) (h':RU X A' c' (digs 4294967296 1)) (h1:1≤p)=>HSp0.out X hX A' c' h' h1)
 have HSq:=zF (fun X (hX:Ext W0 X) (A':Option Addr) (c':Nat) (h':RU X A' c' (digs 4294967296 1)) (h1:1≤q)=>HSq0.out X hX A' c' h' h1)
 clear HSp0 HSq0
 rename World=>V2
 go_upto_region 3 with fail
 cases b1
 rotate_left
 · have hV:V=false:=by rw [Hv.out];simp
   subst hV
   refine z8 (by kernel_rfl) 25 [0,1,3,7,15,31,63,127,255,127,639,2047,4095,8191,16383,32767,65535,32767,163839,524287,32767,1081343,4194303,8388607,16777215] [] (fun j f X=>match j with
    | 0=>f 0=.int .i64 (nb:Int)
    | 1=>f 1=.bool true
    | 2=>f 2=.bool true
    | 3=>f 3=undef
    | 4=>f 4=undef
    | 5=>f 5=.bool true
    | 6=>f 6=.bool true
    | 7=>f 7=undef
    | 8=>f 8=undef
    | 9=>f 9=undef
    | 10=>f 10=undef
    | 11=>f 11=undef
    | 12=>f 12=undef
    | 13=>f 13=.bool true
    | 14=>f 14=.bool true
    | 15=>f 15=undef
    | 16=>f 16=undef
    | 17=>f 17=undef
    | 18=>f 18=undef
    | 19=>f 19=undef
    | 20=>f 20=undef
    | 21=>f 21=undef
    | 22=>f 22=undef
    | 23=>f 23=undef
    | 24=>f 24=.bool true
    | _=>True) (by kernel_rfl) [(12,0),(13,1),(14,2),(15,3),(16,4),(17,5),(18,6),(19,7),(20,8),(21,9),(22,10),(23,11),(24,12),(25,13),(26,14),(27,15),(28,16),(29,17),(30,18),(31,19),(32,20),(33,21),(34,22),(35,23),(36,24)] (by kernel_rfl) ?_
   refine zf 1 24 ?_;refine qH 2 23 [(12,0)] (fun f X hX hR K hK=>?_) ?_
   · have e0:f 0=_:=hR.out 0 rfl;have g1:=Hg1.out;simp only [yZ,e0];refine ⟨?_⟩;go_simp;exact jA hK (s:=by simp only [yZ,e0])
   refine qM 3 22 1 ?_;refine qT 4 21 2 ?_;refine qT 5 20 2 ?_;refine jj 6 19 2 4 ?_;refine qM 7 18 5 ?_;refine qT 8 17 6 ?_;refine qT 9 16 6 ?_;refine qT 10 15 6 ?_;refine qT 11 14 6 ?_;refine qT 12 13 6 ?_;refine qT 13 12 6 ?_;refine jj 14 11 6 12 ?_;refine qM 15 10 13 ?_;refine qT 16 9 14 ?_;refine qT 17 8 14 ?_;refine qT 18 7 14 ?_;refine qT 19 6 14 ?_;refine qT 20 5 14 ?_;refine qT 21 4 14 ?_;refine qT 22 3 14 ?_;refine qT 23 2 14 ?_;refine qT 24 1 14 ?_;refine jj 25 0 14 23 ?_;refine yF ⟨fun f X hX hR hal hap=>?_⟩;have e24:f 24=_:=hR 24 (by decide);simp only [yZ,e24];clear hR hal hap e24;refine zU ?_;go_wp2;go_ret;exact ⟨rfl,zI HE0.out (zI HE.out hX)⟩
 cases b2
 rotate_left
 · have hV:V=false:=by rw [Hv.out];simp
   subst hV
   refine z8 (by kernel_rfl) 25 [0,1,3,7,15,31,63,127,255,127,639,2047,4095,8191,16383,32767,65535,32767,163839,524287,32767,1081343,4194303,8388607,16777215] [] (fun j f X=>match j with
    | 0=>f 0=.int .i64 (nb:Int)
    | 1=>f 1=.bool false
    | 2=>f 2=.bool false
    | 3=>f 3=.int .i64 (nb:Int)
    | 4=>f 4=.bool true
    | 5=>f 5=.bool true
    | 6=>f 6=.bool true
    | 7=>f 7=undef
    | 8=>f 8=undef
    | 9=>f 9=undef
    | 10=>f 10=undef
    | 11=>f 11=undef
    | 12=>f 12=undef
    | 13=>f 13=.bool true
    | 14=>f 14=.bool true
    | 15=>f 15=undef
    | 16=>f 16=undef
    | 17=>f 17=undef
    | 18=>f 18=undef
    | 19=>f 19=undef
    | 20=>f 20=undef
    | 21=>f 21=undef
    | 22=>f 22=undef
    | 23=>f 23=undef
    | 24=>f 24=.bool true
    | _=>True) (by kernel_rfl) [(12,0),(13,1),(14,2),(15,3),(16,4),(17,5),(18,6),(19,7),(20,8),(21,9),(22,10),(23,11),(24,12),(25,13),(26,14),(27,15),(28,16),(29,17),(30,18),(31,19),(32,20),(33,21),(34,22),(35,23),(36,24)] (by kernel_rfl) ?_
   refine zf 1 24 ?_;refine qH 2 23 [(12,0)] (fun f X hX hR K hK=>?_) ?_
   · have e0:f 0=_:=hR.out 0 rfl;have g1:=Hg1.out;simp only [yZ,e0];refine ⟨?_⟩;go_simp;exact jA hK (s:=by simp only [yZ,e0])
   refine qM 3 22 1 ?_;refine qM 4 21 2 ?_;refine qH 5 20 [(12,0),(13,1),(14,2),(15,3)] (fun f X hX hR K hK=>?_) ?_
   · have e2:f 2=_:=hR.out 2 rfl;have e3:f 3=_:=hR.out 3 rfl;have g2:=Hg2.out;simp only [yZ,e2,e3];refine ⟨zZ (by kernel_rfl) ?_⟩;go_simp;exact jA hK (s:=by simp only [yZ,e2,e3])
   refine jj 6 19 2 4 ?_;refine qM 7 18 5 ?_;refine qT 8 17 6 ?_;refine qT 9 16 6 ?_;refine qT 10 15 6 ?_;refine qT 11 14 6 ?_;refine qT 12 13 6 ?_;refine qT 13 12 6 ?_;refine jj 14 11 6 12 ?_;refine qM 15 10 13 ?_;refine qT 16 9 14 ?_;refine qT 17 8 14 ?_;refine qT 18 7 14 ?_;refine qT 19 6 14 ?_;refine qT 20 5 14 ?_;refine qT 21 4 14 ?_;refine qT 22 3 14 ?_;refine qT 23 2 14 ?_;refine qT 24 1 14 ?_;refine jj 25 0 14 23 ?_;refine yF ⟨fun f X hX hR hal hap=>?_⟩;have e24:f 24=_:=hR 24 (by decide);simp only [yZ,e24];clear hR hal hap e24;refine zU ?_;go_wp2;go_ret;exact ⟨rfl,zI HE0.out (zI HE.out hX)⟩
 cases b3
 rotate_left
 · have hV:V=false:=by rw [Hv.out];simp
   subst hV
   refine z8 (by kernel_rfl) 25 [0,1,3,7,15,31,63,127,255,127,639,2047,4095,8191,16383,32767,65535,32767,163839,524287,32767,1081343,4194303,8388607,16777215] [] (fun j f X=>match j with
    | 0=>f 0=.int .i64 (nb:Int)
    | 1=>f 1=.bool false
    | 2=>f 2=.bool false
    | 3=>f 3=.int .i64 (nb:Int)
    | 4=>f 4=.bool false
    | 5=>f 5=.bool false
    | 6=>f 6=.bool false
    | 7=>f 7=.pointer (some ⟨s,3,none⟩)
    | 8=>f 8=.slice A3 dp c3
    | 9=>f 9=.pointer (some ⟨s,4,none⟩)
    | 10=>f 10=.slice A4 dq c4
    | 11=>f 11=.int .i64 z3
    | 12=>f 12=.bool true
    | 13=>f 13=.bool true
    | 14=>f 14=.bool true
    | 15=>f 15=undef
    | 16=>f 16=undef
    | 17=>f 17=undef
    | 18=>f 18=undef
    | 19=>f 19=undef
    | 20=>f 20=undef
    | 21=>f 21=undef
    | 22=>f 22=undef
    | 23=>f 23=undef
    | 24=>f 24=.bool true
    | _=>True) (by kernel_rfl) [(12,0),(13,1),(14,2),(15,3),(16,4),(17,5),(18,6),(19,7),(20,8),(21,9),(22,10),(23,11),(24,12),(25,13),(26,14),(27,15),(28,16),(29,17),(30,18),(31,19),(32,20),(33,21),(34,22),(35,23),(36,24)] (by kernel_rfl) ?_
   refine zf 1 24 ?_;refine qH 2 23 [(12,0)] (fun f X hX hR K hK=>?_) ?_
   · have e0:f 0=_:=hR.out 0 rfl;have g1:=Hg1.out;simp only [yZ,e0];refine ⟨?_⟩;go_simp;exact jA hK (s:=by simp only [yZ,e0])
   refine qM 3 22 1 ?_;refine qM 4 21 2 ?_;refine qH 5 20 [(12,0),(13,1),(14,2),(15,3)] (fun f X hX hR K hK=>?_) ?_
   · have e2:f 2=_:=hR.out 2 rfl;have e3:f 3=_:=hR.out 3 rfl;have g2:=Hg2.out;simp only [yZ,e2,e3];refine ⟨zZ (by kernel_rfl) ?_⟩;go_simp;exact jA hK (s:=by simp only [yZ,e2,e3])
   refine jj 6 19 2 4 ?_;refine qM 7 18 5 ?_;refine qM 8 17 6 ?_;refine qH 9 16 [(12,0),(13,1),(14,2),(15,3),(16,4),(17,5),(18,6),(19,7),(21,9),(22,10)] (fun f X hX hR K hK=>?_) ?_
   · have e6:f 6=_:=hR.out 6 rfl;have e7:f 7=_:=hR.out 7 rfl;have x0:=hX.cell y3;simp only [yZ,e6,e7];refine ⟨zZ (by kernel_rfl) ?_⟩;go_simp;exact jA hK (s:=by simp only [yZ,e6,e7])
   refine qM 10 15 6 ?_;refine qH 11 14 [(12,0),(13,1),(14,2),(15,3),(16,4),(17,5),(18,6),(19,7),(20,8),(21,9)] (fun f X hX hR K hK=>?_) ?_
   · have e6:f 6=_:=hR.out 6 rfl;have e9:f 9=_:=hR.out 9 rfl;have x0:=hX.cell y4;simp only [yZ,e6,e9];refine ⟨zZ (by kernel_rfl) ?_⟩;go_simp;exact jA hK (s:=by simp only [yZ,e6,e9])
   refine wj 12 13 6 (fun f=>#[f 8,f 10]) (F':=104) (fun f X hX hR=>?_) ?_
   · have e8:f 8=_:=hR.out 8 rfl;have e10:f 10=_:=hR.out 10 rfl;simp only [e8,e10];refine (HC1.out X (zI HE.out hX)).mono ?_;rintro e w' ⟨rfl,hB⟩;exact ⟨(.int .i64 z3),rfl,hB,fun _ _=>rfl⟩
   refine qH 13 12 [(12,0),(13,1),(14,2),(15,3),(16,4),(17,5),(18,6),(19,7),(20,8),(21,9),(22,10),(23,11)] (fun f X hX hR K hK=>?_) ?_
   · have e6:f 6=_:=hR.out 6 rfl;have e11:f 11=_:=hR.out 11 rfl;have g3:=Hg3.out;simp only [yZ,e6,e11];refine ⟨zZ (by kernel_rfl) ?_⟩;go_simp;exact jA hK (s:=by simp only [yZ,e6,e11])
   refine jj 14 11 6 12 ?_;refine qM 15 10 13 ?_;refine qT 16 9 14 ?_;refine qT 17 8 14 ?_;refine qT 18 7 14 ?_;refine qT 19 6 14 ?_;refine qT 20 5 14 ?_;refine qT 21 4 14 ?_;refine qT 22 3 14 ?_;refine qT 23 2 14 ?_;refine qT 24 1 14 ?_;refine jj 25 0 14 23 ?_;refine yF ⟨fun f X hX hR hal hap=>?_⟩;have e24:f 24=_:=hR 24 (by decide);simp only [yZ,e24];clear hR hal hap e24;refine zU ?_;go_wp2;go_ret;exact ⟨rfl,zI HE0.out (zI HE.out hX)⟩
 refine z8 (by kernel_rfl) 25 [0,1,3,7,15,31,63,127,255,127,639,2047,4095,8191,16383,32767,65535,32767,163839,524287,32767,1081343,4194303,8388607,16777215] [] (fun j f X=>match j with
  | 0=>f 0=.int .i64 (nb:Int)
  | 1=>f 1=.bool false
  | 2=>f 2=.bool false
  | 3=>f 3=.int .i64 (nb:Int)
  | 4=>f 4=.bool false
  | 5=>f 5=.bool false
  | 6=>f 6=.bool false
  | 7=>f 7=.pointer (some ⟨s,3,none⟩)
  | 8=>f 8=.slice A3 dp c3
  | 9=>f 9=.pointer (some ⟨s,4,none⟩)
  | 10=>f 10=.slice A4 dq c4
  | 11=>f 11=.int .i64 z3
  | 12=>f 12=.bool false
  | 13=>f 13=.bool false
  | 14=>f 14=.bool false
  | 15=>f 15=.pointer (some ⟨s,3,none⟩)
  | 16=>f 16=.slice A3 dp c3
  | 17=>f 17=.pointer (some ⟨s,4,none⟩)
  | 18=>f 18=.slice A4 dq c4
  | 19=>∃ A c,f 19=.slice A dm c∧RU X A c (digs 4294967296 (p*q))
  | 20=>f 20=.pointer (some ⟨s,0,none⟩)
  | 21=>f 21=.slice A0 dn c0
  | 22=>f 22=.int .i64 z9
  | 23=>f 23=.bool b9
  | 24=>f 24=.bool b9
  | _=>True) (by kernel_rfl) [(12,0),(13,1),(14,2),(15,3),(16,4),(17,5),(18,6),(19,7),(20,8),(21,9),(22,10),(23,11),(24,12),(25,13),(26,14),(27,15),(28,16),(29,17),(30,18),(31,19),(32,20),(33,21),(34,22),(35,23),(36,24)] (by kernel_rfl) ?_
 refine zf 1 24 ?_
 refine qH 2 23 [(12,0)] (fun f X hX hR K hK=>?_) ?_
 · have e0:f 0=_:=hR.out 0 rfl;have g1:=Hg1.out;simp only [yZ,e0];refine ⟨?_⟩;go_simp;exact jA hK (s:=by simp only [yZ,e0])
 refine qM 3 22 1 ?_
 refine qM 4 21 2 ?_
 refine qH 5 20 [(12,0),(13,1),(14,2),(15,3)] (fun f X hX hR K hK=>?_) ?_
 · have e2:f 2=_:=hR.out 2 rfl;have e3:f 3=_:=hR.out 3 rfl;have g2:=Hg2.out;simp only [yZ,e2,e3];refine ⟨zZ (by kernel_rfl) ?_⟩;go_simp;exact jA hK (s:=by simp only [yZ,e2,e3])
 refine jj 6 19 2 4 ?_
 refine qM 7 18 5 ?_
 refine qM 8 17 6 ?_
 refine qH 9 16 [(12,0),(13,1),(14,2),(15,3),(16,4),(17,5),(18,6),(19,7),(21,9),(22,10)] (fun f X hX hR K hK=>?_) ?_
 · have e6:f 6=_:=hR.out 6 rfl;have e7:f 7=_:=hR.out 7 rfl;have x0:=hX.cell y3;simp only [yZ,e6,e7];refine ⟨zZ (by kernel_rfl) ?_⟩;go_simp;exact jA hK (s:=by simp only [yZ,e6,e7])
 refine qM 10 15 6 ?_
 refine qH 11 14 [(12,0),(13,1),(14,2),(15,3),(16,4),(17,5),(18,6),(19,7),(20,8),(21,9)] (fun f X hX hR K hK=>?_) ?_
 · have e6:f 6=_:=hR.out 6 rfl;have e9:f 9=_:=hR.out 9 rfl;have x0:=hX.cell y4;simp only [yZ,e6,e9];refine ⟨zZ (by kernel_rfl) ?_⟩;go_simp;exact jA hK (s:=by simp only [yZ,e6,e9])
 refine wj 12 13 6 (fun f=>#[f 8,f 10]) (F':=104) (fun f X hX hR=>?_) ?_
 · have e8:f 8=_:=hR.out 8 rfl;have e10:f 10=_:=hR.out 10 rfl;simp only [e8,e10];refine (HC1.out X (zI HE.out hX)).mono ?_;rintro e w' ⟨rfl,hB⟩;exact ⟨(.int .i64 z3),rfl,hB,fun _ _=>rfl⟩
 refine qH 13 12 [(12,0),(13,1),(14,2),(15,3),(16,4),(17,5),(18,6),(19,7),(20,8),(21,9),(22,10),(23,11)] (fun f X hX hR K hK=>?_) ?_
 · have e6:f 6=_:=hR.out 6 rfl;have e11:f 11=_:=hR.out 11 rfl;have g3:=Hg3.out;simp only [yZ,e6,e11];refine ⟨zZ (by kernel_rfl) ?_⟩;go_simp;exact jA hK (s:=by simp only [yZ,e6,e11])
 refine jj 14 11 6 12 ?_
 refine qM 15 10 13 ?_
 refine qM 16 9 14 ?_
 refine qH 17 8 [(12,0),(13,1),(14,2),(15,3),(16,4),(17,5),(18,6),(19,7),(20,8),(21,9),(22,10),(23,11),(24,12),(25,13),(26,14),(27,15),(29,17),(30,18),(32,20),(33,21)] (fun f X hX hR K hK=>?_) ?_
 · have e14:f 14=_:=hR.out 14 rfl;have e15:f 15=_:=hR.out 15 rfl;have x0:=hX.cell y3;simp only [yZ,e14,e15];refine ⟨zZ (by kernel_rfl) ?_⟩;go_simp;exact jA hK (s:=by simp only [yZ,e14,e15])
 refine qM 18 7 14 ?_
 refine qH 19 6 [(12,0),(13,1),(14,2),(15,3),(16,4),(17,5),(18,6),(19,7),(20,8),(21,9),(22,10),(23,11),(24,12),(25,13),(26,14),(27,15),(28,16),(29,17),(32,20),(33,21)] (fun f X hX hR K hK=>?_) ?_
 · have e14:f 14=_:=hR.out 14 rfl;have e17:f 17=_:=hR.out 17 rfl;have x0:=hX.cell y4;simp only [yZ,e14,e17];refine ⟨zZ (by kernel_rfl) ?_⟩;go_simp;exact jA hK (s:=by simp only [yZ,e14,e17])
 refine wj 20 5 14 (fun f=>#[f 16,f 18]) (F':=127) (fun f X hX hR=>?_) ?_
 · have e16:f 16=_:=hR.out 16 rfl;have e18:f 18=_:=hR.out 18 rfl;simp only [e16,e18];refine (HMu.out X (zI HE.out hX)).mono ?_;rintro e w' ⟨Ax,cx,rfl,hr,hB⟩;exact ⟨(.slice Ax dm cx),rfl,hB,fun Y hY=>⟨Ax,cx,rfl,qm hr hY⟩⟩
 refine qM 21 4 14 ?_
 refine qH 22 3 [(12,0),(13,1),(14,2),(15,3),(16,4),(17,5),(18,6),(19,7),(20,8),(21,9),(22,10),(23,11),(24,12),(25,13),(26,14),(27,15),(28,16),(29,17),(30,18),(31,19),(32,20)] (fun f X hX hR K hK=>?_) ?_
 · have e14:f 14=_:=hR.out 14 rfl;have e20:f 20=_:=hR.out 20 rfl;have x0:=hX.cell y0;simp only [yZ,e14,e20];refine ⟨zZ (by kernel_rfl) ?_⟩;go_simp;exact jA hK (s:=by simp only [yZ,e14,e20])
 refine wj 23 2 14 (fun f=>#[f 19,f 21]) (F':=104) (fun f X hX hR=>?_) ?_
 · obtain ⟨A19,c19,(e19:f 19=_),r19⟩:=hR.out 19 rfl;have e21:f 21=_:=hR.out 21 rfl;simp only [e19,e21];refine (HCm.out X (zI HE.out hX) _ _ r19).mono ?_;rintro e w' ⟨rfl,hB⟩;exact ⟨(.int .i64 z9),rfl,hB,fun _ _=>rfl⟩
 refine qH 24 1 [(12,0),(13,1),(14,2),(15,3),(16,4),(17,5),(18,6),(19,7),(20,8),(21,9),(22,10),(23,11),(24,12),(25,13),(26,14),(27,15),(28,16),(29,17),(30,18),(31,19),(32,20),(33,21),(34,22)] (fun f X hX hR K hK=>?_) ?_
 · have e14:f 14=_:=hR.out 14 rfl;have e22:f 22=_:=hR.out 22 rfl;have g9:=Hg9.out;simp only [yZ,e14,e22];refine ⟨zZ (by kernel_rfl) ?_⟩;go_simp;exact jA hK (s:=by simp only [yZ,e14,e22])
 refine jj 25 0 14 23 ?_
 refine yF ⟨fun f X hX hR hal hap=>?_⟩
 obtain ⟨A19,c19,(e19:f 19=_),r19⟩:=hR 19 (by decide)
 have e24:f 24=_:=hR 24 (by decide)
 simp only [yZ,e19,e24]
 clear hR hal hap e19 e24
 refine zU ?_
 replace HE:=zF (zI HE.out hX)
 replace HR4:=zF (qm HR4.out hX)
 clear hX r19 y0 y1 y2 y3 y4
 rename World=>V5
 obtain ⟨y0,y1,y2,y3,y4⟩:=jO (jQ HE.out Hq0.out)
 cases b9
 rotate_left
 · have hne:¬ p*q=n:=by have:=He9.out;simpa using this.symm
   have hV:V=false:=by rw [Hv.out];simp [hne]
   subst hV;go_wp2;go_ret;exact ⟨rfl,zI HE0.out HE.out⟩
 have hpq:p*q=n:=by have:=He9.out;simpa using this.symm
 have hn0:0<n:=Nat.pos_of_ne_zero fun e=>by have h1:=Hnb.out;have h2:=Hg1.out;rw [e,ka] at h1;rw [←h1] at h2;simp at h2
 have hbn:=yP hpq hn0
 rw [Hnb.out] at hbn
 have hb4:nb≤4096:=by have:=Hg2.out;have:=of_decide_eq_false this;omega
 obtain ⟨pp,hpp⟩:=eV (yI p)
 obtain ⟨pq,hpq'⟩:=eV (yI q)
 have HPp5:=zF (fun X (hX:Ext W0 X)=>(hpp▸cM (by omega:zo p≤4096)▸HPr.out X hX (by omega):Calls Tryz.prog 128 #[.slice A3 dp c3] X fun e w'=>e=.returned (.bool pp)∧Ext X w'))
 have HQ5:=zF (fun X (hX:Ext W0 X)=>(hpq'▸cM (by omega:zo q≤4096)▸HPs.out X hX (by omega):Calls Tryz.prog 128 #[.slice A4 dq c4] X fun e w'=>e=.returned (.bool pq)∧Ext X w'))
 have hv2:=Hv.out
 rw [hpp,hpq',qX hpq] at hv2
 have h2p:pp=true→2≤p:=fun h=>by rw [h] at hpp;exact uU hpp
 have h2q:pq=true→2≤q:=fun h=>by rw [h] at hpq';exact uU hpq'
 replace Hv:=zF hv2
 have H2p:=zF h2p
 have H2q:=zF h2q
 clear hpq hn0 hbn hb4 hpp hpq' hv2 h2p h2q
 go_upto_region 5 with fail
 go_wp2_with fail
 refine (HPp5.out _ HE.out).mono ?_
 rintro e9 w9 ⟨rfl,hx⟩
 replace HE:=zF (zI HE.out hx)
 replace HR4:=zF (qm HR4.out hx)
 clear hx y0 y1 y2 y3 y4
 obtain ⟨y0,y1,y2,y3,y4⟩:=jO (jQ HE.out Hq0.out)
 cases pp
 · have hV:V=false:=by rw [Hv.out];simp
   subst hV;go_wp2;go_ret;exact ⟨rfl,zI HE0.out HE.out⟩
 go_wp2_with fail
 refine (HQ5.out _ HE.out).mono ?_
 rintro e9 w9 ⟨rfl,hx⟩
 replace HE:=zF (zI HE.out hx)
 replace HR4:=zF (qm HR4.out hx)
 clear hx y0 y1 y2 y3 y4
 obtain ⟨y0,y1,y2,y3,y4⟩:=jO (jQ HE.out Hq0.out)
 cases pq
 · have hV:V=false:=by rw [Hv.out];simp
   subst hV;go_wp2;go_ret;exact ⟨rfl,zI HE0.out HE.out⟩
 have Hp1:=zF (H2p.out (by first | trivial | rfl))
 have Hq1:=zF (H2q.out (by first | trivial | rfl))
 clear H2p H2q HPp5 HQ5
 rename World=>V7
 go_upto_region 7 with fail
 cases b6
 rotate_left
 · have hV:V=false:=by rw [Hv.out];simp
   subst hV
   refine z8 (by kernel_rfl) 27 [0,1,3,7,15,31,63,31,255,511,1023,2047,4095,8191,4095,20479,65535,131071,262143,524287,1048575,2097151,1048575,5242879,16777215,33554431,67108863] [] (fun j f X=>match j with
    | 0=>f 0=.pointer (some ⟨s,1,none⟩)
    | 1=>f 1=.slice A1 de c1
    | 2=>f 2=.int .u64 (r2:Int)
    | 3=>f 3=.bool true
    | 4=>f 4=.bool true
    | 5=>f 5=undef
    | 6=>f 6=undef
    | 7=>f 7=undef
    | 8=>f 8=undef
    | 9=>f 9=undef
    | 10=>f 10=.bool true
    | 11=>f 11=.bool true
    | 12=>f 12=undef
    | 13=>f 13=undef
    | 14=>f 14=undef
    | 15=>f 15=undef
    | 16=>f 16=undef
    | 17=>f 17=undef
    | 18=>f 18=.bool true
    | 19=>f 19=.bool true
    | 20=>f 20=undef
    | 21=>f 21=undef
    | 22=>f 22=undef
    | 23=>f 23=undef
    | 24=>f 24=undef
    | 25=>f 25=undef
    | 26=>f 26=.bool true
    | _=>True) (by kernel_rfl) [(47,0),(48,1),(49,2),(50,3),(51,4),(52,5),(53,6),(54,7),(55,8),(56,9),(57,10),(58,11),(59,12),(60,13),(61,14),(62,15),(63,16),(64,17),(65,18),(66,19),(67,20),(68,21),(69,22),(70,23),(71,24),(72,25),(73,26)] (by kernel_rfl) ?_
   refine zf 1 26 ?_;refine q9 2 25 0 y1 ?_;refine qJ 3 24 (fun f=>#[f 1,Value.int IntKind.i64 0]) (F':=94) (fun f X hX hR=>?_) ?_
   · have e1:f 1=_:=hR.out 1 rfl;simp only [e1];refine (HT0.out X (zI HE.out hX)).mono ?_;rintro e w' ⟨rfl,hB⟩;exact ⟨(.int .u64 (r2:Int)),rfl,hB,fun _ _=>rfl⟩
   refine qH 4 23 [(47,0),(48,1),(49,2)] (fun f X hX hR K hK=>?_) ?_
   · have e2:f 2=_:=hR.out 2 rfl;have g6:=Hg6.out;simp only [yZ,e2];refine ⟨?_⟩;go_simp;exact jA hK (s:=by simp only [yZ,e2])
   refine qM 5 22 3 ?_;refine qT 6 21 4 ?_;refine qT 7 20 4 ?_;refine qT 8 19 4 ?_;refine qT 9 18 4 ?_;refine qT 10 17 4 ?_;refine jj 11 16 4 9 ?_;refine qM 12 15 10 ?_;refine qT 13 14 11 ?_;refine qT 14 13 11 ?_;refine qT 15 12 11 ?_;refine qT 16 11 11 ?_;refine qT 17 10 11 ?_;refine qT 18 9 11 ?_;refine jj 19 8 11 17 ?_;refine qM 20 7 18 ?_;refine qT 21 6 19 ?_;refine qT 22 5 19 ?_;refine qT 23 4 19 ?_;refine qT 24 3 19 ?_;refine qT 25 2 19 ?_;refine qT 26 1 19 ?_;refine jj 27 0 19 25 ?_;refine yF ⟨fun f X hX hR hal hap=>?_⟩;have e26:f 26=_:=hR 26 (by decide);simp only [yZ,e26];clear hR hal hap e26;refine zU ?_;go_wp2;go_ret;exact ⟨rfl,zI HE0.out (zI HE.out hX)⟩
 cases b7
 rotate_left
 · have hV:V=false:=by rw [Hv.out];simp
   subst hV
   refine z8 (by kernel_rfl) 27 [0,1,3,7,15,31,63,31,255,511,1023,2047,4095,8191,4095,20479,65535,131071,262143,524287,1048575,2097151,1048575,5242879,16777215,33554431,67108863] [] (fun j f X=>match j with
    | 0=>f 0=.pointer (some ⟨s,1,none⟩)
    | 1=>f 1=.slice A1 de c1
    | 2=>f 2=.int .u64 (r2:Int)
    | 3=>f 3=.bool false
    | 4=>f 4=.bool false
    | 5=>f 5=.pointer (some ⟨s,1,none⟩)
    | 6=>f 6=.slice A1 de c1
    | 7=>∃ A c,f 7=.slice A two c∧RU X A c (digs 4294967296 2)
    | 8=>f 8=.int .i64 z7
    | 9=>f 9=.bool true
    | 10=>f 10=.bool true
    | 11=>f 11=.bool true
    | 12=>f 12=undef
    | 13=>f 13=undef
    | 14=>f 14=undef
    | 15=>f 15=undef
    | 16=>f 16=undef
    | 17=>f 17=undef
    | 18=>f 18=.bool true
    | 19=>f 19=.bool true
    | 20=>f 20=undef
    | 21=>f 21=undef
    | 22=>f 22=undef
    | 23=>f 23=undef
    | 24=>f 24=undef
    | 25=>f 25=undef
    | 26=>f 26=.bool true
    | _=>True) (by kernel_rfl) [(47,0),(48,1),(49,2),(50,3),(51,4),(52,5),(53,6),(54,7),(55,8),(56,9),(57,10),(58,11),(59,12),(60,13),(61,14),(62,15),(63,16),(64,17),(65,18),(66,19),(67,20),(68,21),(69,22),(70,23),(71,24),(72,25),(73,26)] (by kernel_rfl) ?_
   refine zf 1 26 ?_;refine q9 2 25 0 y1 ?_;refine qJ 3 24 (fun f=>#[f 1,Value.int IntKind.i64 0]) (F':=94) (fun f X hX hR=>?_) ?_
   · have e1:f 1=_:=hR.out 1 rfl;simp only [e1];refine (HT0.out X (zI HE.out hX)).mono ?_;rintro e w' ⟨rfl,hB⟩;exact ⟨(.int .u64 (r2:Int)),rfl,hB,fun _ _=>rfl⟩
   refine qH 4 23 [(47,0),(48,1),(49,2)] (fun f X hX hR K hK=>?_) ?_
   · have e2:f 2=_:=hR.out 2 rfl;have g6:=Hg6.out;simp only [yZ,e2];refine ⟨?_⟩;go_simp;exact jA hK (s:=by simp only [yZ,e2])
   refine qM 5 22 3 ?_;refine qM 6 21 4 ?_;refine qH 7 20 [(47,0),(48,1),(49,2),(50,3),(51,4),(52,5),(54,7)] (fun f X hX hR K hK=>?_) ?_
   · have e4:f 4=_:=hR.out 4 rfl;have e5:f 5=_:=hR.out 5 rfl;have x0:=hX.cell y1;simp only [yZ,e4,e5];refine ⟨zZ (by kernel_rfl) ?_⟩;go_simp;exact jA hK (s:=by simp only [yZ,e4,e5])
   refine wj 8 19 4 (fun _=>#[Value.int IntKind.u64 2]) (F':=78) (fun f X hX hR=>?_) ?_
   · refine (HOf.out X).mono ?_;rintro e w' ⟨Ax,cx,rfl,hr,hB⟩;exact ⟨(.slice Ax two cx),rfl,hB,fun Y hY=>⟨Ax,cx,rfl,qm hr hY⟩⟩
   refine wj 9 18 4 (fun f=>#[f 6,f 7]) (F':=104) (fun f X hX hR=>?_) ?_
   · have e6:f 6=_:=hR.out 6 rfl;obtain ⟨A7,c7,(e7:f 7=_),r7⟩:=hR.out 7 rfl;simp only [e6,e7];refine (HC2.out X (zI HE.out hX) _ _ r7).mono ?_;rintro e w' ⟨rfl,hB⟩;exact ⟨(.int .i64 z7),rfl,hB,fun _ _=>rfl⟩
   refine qH 10 17 [(47,0),(48,1),(49,2),(50,3),(51,4),(52,5),(53,6),(54,7),(55,8)] (fun f X hX hR K hK=>?_) ?_
   · have e4:f 4=_:=hR.out 4 rfl;have e8:f 8=_:=hR.out 8 rfl;have g7:=Hg7.out;simp only [yZ,e4,e8];refine ⟨zZ (by kernel_rfl) ?_⟩;go_simp;exact jA hK (s:=by simp only [yZ,e4,e8])
   refine jj 11 16 4 9 ?_;refine qM 12 15 10 ?_;refine qT 13 14 11 ?_;refine qT 14 13 11 ?_;refine qT 15 12 11 ?_;refine qT 16 11 11 ?_;refine qT 17 10 11 ?_;refine qT 18 9 11 ?_;refine jj 19 8 11 17 ?_;refine qM 20 7 18 ?_;refine qT 21 6 19 ?_;refine qT 22 5 19 ?_;refine qT 23 4 19 ?_;refine qT 24 3 19 ?_;refine qT 25 2 19 ?_;refine qT 26 1 19 ?_;refine jj 27 0 19 25 ?_;refine yF ⟨fun f X hX hR hal hap=>?_⟩;obtain ⟨A7,c7,(e7:f 7=_),r7⟩:=hR 7 (by decide);have e26:f 26=_:=hR 26 (by decide);simp only [yZ,e7,e26];clear hR hal hap e7 e26;refine zU ?_;go_wp2;go_ret;exact ⟨rfl,zI HE0.out (zI HE.out hX)⟩
 cases b5
 rotate_left
 · have hV:V=false:=by rw [Hv.out];simp
   subst hV
   refine z8 (by kernel_rfl) 27 [0,1,3,7,15,31,63,31,255,511,1023,2047,4095,8191,4095,20479,65535,131071,262143,524287,1048575,2097151,1048575,5242879,16777215,33554431,67108863] [] (fun j f X=>match j with
    | 0=>f 0=.pointer (some ⟨s,1,none⟩)
    | 1=>f 1=.slice A1 de c1
    | 2=>f 2=.int .u64 (r2:Int)
    | 3=>f 3=.bool false
    | 4=>f 4=.bool false
    | 5=>f 5=.pointer (some ⟨s,1,none⟩)
    | 6=>f 6=.slice A1 de c1
    | 7=>∃ A c,f 7=.slice A two c∧RU X A c (digs 4294967296 2)
    | 8=>f 8=.int .i64 z7
    | 9=>f 9=.bool false
    | 10=>f 10=.bool false
    | 11=>f 11=.bool false
    | 12=>f 12=.pointer (some ⟨s,1,none⟩)
    | 13=>f 13=.slice A1 de c1
    | 14=>f 14=.pointer (some ⟨s,0,none⟩)
    | 15=>f 15=.slice A0 dn c0
    | 16=>f 16=.int .i64 z5
    | 17=>f 17=.bool true
    | 18=>f 18=.bool true
    | 19=>f 19=.bool true
    | 20=>f 20=undef
    | 21=>f 21=undef
    | 22=>f 22=undef
    | 23=>f 23=undef
    | 24=>f 24=undef
    | 25=>f 25=undef
    | 26=>f 26=.bool true
    | _=>True) (by kernel_rfl) [(47,0),(48,1),(49,2),(50,3),(51,4),(52,5),(53,6),(54,7),(55,8),(56,9),(57,10),(58,11),(59,12),(60,13),(61,14),(62,15),(63,16),(64,17),(65,18),(66,19),(67,20),(68,21),(69,22),(70,23),(71,24),(72,25),(73,26)] (by kernel_rfl) ?_
   refine zf 1 26 ?_;refine q9 2 25 0 y1 ?_;refine qJ 3 24 (fun f=>#[f 1,Value.int IntKind.i64 0]) (F':=94) (fun f X hX hR=>?_) ?_
   · have e1:f 1=_:=hR.out 1 rfl;simp only [e1];refine (HT0.out X (zI HE.out hX)).mono ?_;rintro e w' ⟨rfl,hB⟩;exact ⟨(.int .u64 (r2:Int)),rfl,hB,fun _ _=>rfl⟩
   refine qH 4 23 [(47,0),(48,1),(49,2)] (fun f X hX hR K hK=>?_) ?_
   · have e2:f 2=_:=hR.out 2 rfl;have g6:=Hg6.out;simp only [yZ,e2];refine ⟨?_⟩;go_simp;exact jA hK (s:=by simp only [yZ,e2])
   refine qM 5 22 3 ?_;refine qM 6 21 4 ?_;refine qH 7 20 [(47,0),(48,1),(49,2),(50,3),(51,4),(52,5),(54,7)] (fun f X hX hR K hK=>?_) ?_
   · have e4:f 4=_:=hR.out 4 rfl;have e5:f 5=_:=hR.out 5 rfl;have x0:=hX.cell y1;simp only [yZ,e4,e5];refine ⟨zZ (by kernel_rfl) ?_⟩;go_simp;exact jA hK (s:=by simp only [yZ,e4,e5])
   refine wj 8 19 4 (fun _=>#[Value.int IntKind.u64 2]) (F':=78) (fun f X hX hR=>?_) ?_
   · refine (HOf.out X).mono ?_;rintro e w' ⟨Ax,cx,rfl,hr,hB⟩;exact ⟨(.slice Ax two cx),rfl,hB,fun Y hY=>⟨Ax,cx,rfl,qm hr hY⟩⟩
   refine wj 9 18 4 (fun f=>#[f 6,f 7]) (F':=104) (fun f X hX hR=>?_) ?_
   · have e6:f 6=_:=hR.out 6 rfl;obtain ⟨A7,c7,(e7:f 7=_),r7⟩:=hR.out 7 rfl;simp only [e6,e7];refine (HC2.out X (zI HE.out hX) _ _ r7).mono ?_;rintro e w' ⟨rfl,hB⟩;exact ⟨(.int .i64 z7),rfl,hB,fun _ _=>rfl⟩
   refine qH 10 17 [(47,0),(48,1),(49,2),(50,3),(51,4),(52,5),(53,6),(54,7),(55,8)] (fun f X hX hR K hK=>?_) ?_
   · have e4:f 4=_:=hR.out 4 rfl;have e8:f 8=_:=hR.out 8 rfl;have g7:=Hg7.out;simp only [yZ,e4,e8];refine ⟨zZ (by kernel_rfl) ?_⟩;go_simp;exact jA hK (s:=by simp only [yZ,e4,e8])
   refine jj 11 16 4 9 ?_;refine qM 12 15 10 ?_;refine qM 13 14 11 ?_;refine qH 14 13 [(47,0),(48,1),(49,2),(50,3),(51,4),(52,5),(53,6),(54,7),(55,8),(56,9),(57,10),(58,11),(59,12),(61,14),(62,15)] (fun f X hX hR K hK=>?_) ?_
   · have e11:f 11=_:=hR.out 11 rfl;have e12:f 12=_:=hR.out 12 rfl;have x0:=hX.cell y1;simp only [yZ,e11,e12];refine ⟨zZ (by kernel_rfl) ?_⟩;go_simp;exact jA hK (s:=by simp only [yZ,e11,e12])
   refine qM 15 12 11 ?_;refine qH 16 11 [(47,0),(48,1),(49,2),(50,3),(51,4),(52,5),(53,6),(54,7),(55,8),(56,9),(57,10),(58,11),(59,12),(60,13),(61,14)] (fun f X hX hR K hK=>?_) ?_
   · have e11:f 11=_:=hR.out 11 rfl;have e14:f 14=_:=hR.out 14 rfl;have x0:=hX.cell y0;simp only [yZ,e11,e14];refine ⟨zZ (by kernel_rfl) ?_⟩;go_simp;exact jA hK (s:=by simp only [yZ,e11,e14])
   refine wj 17 10 11 (fun f=>#[f 13,f 15]) (F':=104) (fun f X hX hR=>?_) ?_
   · have e13:f 13=_:=hR.out 13 rfl;have e15:f 15=_:=hR.out 15 rfl;simp only [e13,e15];refine (HC5.out X (zI HE.out hX)).mono ?_;rintro e w' ⟨rfl,hB⟩;exact ⟨(.int .i64 z5),rfl,hB,fun _ _=>rfl⟩
   refine qH 18 9 [(47,0),(48,1),(49,2),(50,3),(51,4),(52,5),(53,6),(54,7),(55,8),(56,9),(57,10),(58,11),(59,12),(60,13),(61,14),(62,15),(63,16)] (fun f X hX hR K hK=>?_) ?_
   · have e11:f 11=_:=hR.out 11 rfl;have e16:f 16=_:=hR.out 16 rfl;have g5:=Hg5.out;simp only [yZ,e11,e16];refine ⟨zZ (by kernel_rfl) ?_⟩;go_simp;exact jA hK (s:=by simp only [yZ,e11,e16])
   refine jj 19 8 11 17 ?_;refine qM 20 7 18 ?_;refine qT 21 6 19 ?_;refine qT 22 5 19 ?_;refine qT 23 4 19 ?_;refine qT 24 3 19 ?_;refine qT 25 2 19 ?_;refine qT 26 1 19 ?_;refine jj 27 0 19 25 ?_;refine yF ⟨fun f X hX hR hal hap=>?_⟩;obtain ⟨A7,c7,(e7:f 7=_),r7⟩:=hR 7 (by decide);have e26:f 26=_:=hR 26 (by decide);simp only [yZ,e7,e26];clear hR hal hap e7 e26;refine zU ?_;go_wp2;go_ret;exact ⟨rfl,zI HE0.out (zI HE.out hX)⟩
 refine z8 (by kernel_rfl) 27 [0,1,3,7,15,31,63,31,255,511,1023,2047,4095,8191,4095,20479,65535,131071,262143,524287,1048575,2097151,1048575,5242879,16777215,33554431,67108863] [] (fun j f X=>match j with
  | 0=>f 0=.pointer (some ⟨s,1,none⟩)
  | 1=>f 1=.slice A1 de c1
  | 2=>f 2=.int .u64 (r2:Int)
  | 3=>f 3=.bool false
  | 4=>f 4=.bool false
  | 5=>f 5=.pointer (some ⟨s,1,none⟩)
  | 6=>f 6=.slice A1 de c1
  | 7=>∃ A c,f 7=.slice A two c∧RU X A c (digs 4294967296 2)
  | 8=>f 8=.int .i64 z7
  | 9=>f 9=.bool false
  | 10=>f 10=.bool false
  | 11=>f 11=.bool false
  | 12=>f 12=.pointer (some ⟨s,1,none⟩)
  | 13=>f 13=.slice A1 de c1
  | 14=>f 14=.pointer (some ⟨s,0,none⟩)
  | 15=>f 15=.slice A0 dn c0
  | 16=>f 16=.int .i64 z5
  | 17=>f 17=.bool false
  | 18=>f 18=.bool false
  | 19=>f 19=.bool false
  | 20=>f 20=.pointer (some ⟨s,2,none⟩)
  | 21=>f 21=.slice A2 dd c2
  | 22=>f 22=.pointer (some ⟨s,0,none⟩)
  | 23=>f 23=.slice A0 dn c0
  | 24=>f 24=.int .i64 z4
  | 25=>f 25=.bool b4
  | 26=>f 26=.bool b4
  | _=>True) (by kernel_rfl) [(47,0),(48,1),(49,2),(50,3),(51,4),(52,5),(53,6),(54,7),(55,8),(56,9),(57,10),(58,11),(59,12),(60,13),(61,14),(62,15),(63,16),(64,17),(65,18),(66,19),(67,20),(68,21),(69,22),(70,23),(71,24),(72,25),(73,26)] (by kernel_rfl) ?_
 refine zf 1 26 ?_
 refine q9 2 25 0 y1 ?_
 refine qJ 3 24 (fun f=>#[f 1,Value.int IntKind.i64 0]) (F':=94) (fun f X hX hR=>?_) ?_
 · have e1:f 1=_:=hR.out 1 rfl;simp only [e1];refine (HT0.out X (zI HE.out hX)).mono ?_;rintro e w' ⟨rfl,hB⟩;exact ⟨(.int .u64 (r2:Int)),rfl,hB,fun _ _=>rfl⟩
 refine qH 4 23 [(47,0),(48,1),(49,2)] (fun f X hX hR K hK=>?_) ?_
 · have e2:f 2=_:=hR.out 2 rfl;have g6:=Hg6.out;simp only [yZ,e2];refine ⟨?_⟩;go_simp;exact jA hK (s:=by simp only [yZ,e2])
 refine qM 5 22 3 ?_
 refine qM 6 21 4 ?_
 refine qH 7 20 [(47,0),(48,1),(49,2),(50,3),(51,4),(52,5),(54,7)] (fun f X hX hR K hK=>?_) ?_
 · have e4:f 4=_:=hR.out 4 rfl;have e5:f 5=_:=hR.out 5 rfl;have x0:=hX.cell y1;simp only [yZ,e4,e5];refine ⟨zZ (by kernel_rfl) ?_⟩;go_simp;exact jA hK (s:=by simp only [yZ,e4,e5])
 refine wj 8 19 4 (fun _=>#[Value.int IntKind.u64 2]) (F':=78) (fun f X hX hR=>?_) ?_
 · refine (HOf.out X).mono ?_;rintro e w' ⟨Ax,cx,rfl,hr,hB⟩;exact ⟨(.slice Ax two cx),rfl,hB,fun Y hY=>⟨Ax,cx,rfl,qm hr hY⟩⟩
 refine wj 9 18 4 (fun f=>#[f 6,f 7]) (F':=104) (fun f X hX hR=>?_) ?_
 · have e6:f 6=_:=hR.out 6 rfl;obtain ⟨A7,c7,(e7:f 7=_),r7⟩:=hR.out 7 rfl;simp only [e6,e7];refine (HC2.out X (zI HE.out hX) _ _ r7).mono ?_;rintro e w' ⟨rfl,hB⟩;exact ⟨(.int .i64 z7),rfl,hB,fun _ _=>rfl⟩
 refine qH 10 17 [(47,0),(48,1),(49,2),(50,3),(51,4),(52,5),(53,6),(54,7),(55,8)] (fun f X hX hR K hK=>?_) ?_
 · have e4:f 4=_:=hR.out 4 rfl;have e8:f 8=_:=hR.out 8 rfl;have g7:=Hg7.out;simp only [yZ,e4,e8];refine ⟨zZ (by kernel_rfl) ?_⟩;go_simp;exact jA hK (s:=by simp only [yZ,e4,e8])
 refine jj 11 16 4 9 ?_
 refine qM 12 15 10 ?_
 refine qM 13 14 11 ?_
 refine qH 14 13 [(47,0),(48,1),(49,2),(50,3),(51,4),(52,5),(53,6),(54,7),(55,8),(56,9),(57,10),(58,11),(59,12),(61,14),(62,15)] (fun f X hX hR K hK=>?_) ?_
 · have e11:f 11=_:=hR.out 11 rfl;have e12:f 12=_:=hR.out 12 rfl;have x0:=hX.cell y1;simp only [yZ,e11,e12];refine ⟨zZ (by kernel_rfl) ?_⟩;go_simp;exact jA hK (s:=by simp only [yZ,e11,e12])
 refine qM 15 12 11 ?_
 refine qH 16 11 [(47,0),(48,1),(49,2),(50,3),(51,4),(52,5),(53,6),(54,7),(55,8),(56,9),(57,10),(58,11),(59,12),(60,13),(61,14)] (fun f X hX hR K hK=>?_) ?_
 · have e11:f 11=_:=hR.out 11 rfl;have e14:f 14=_:=hR.out 14 rfl;have x0:=hX.cell y0;simp only [yZ,e11,e14];refine ⟨zZ (by kernel_rfl) ?_⟩;go_simp;exact jA hK (s:=by simp only [yZ,e11,e14])
 refine wj 17 10 11 (fun f=>#[f 13,f 15]) (F':=104) (fun f X hX hR=>?_) ?_
 · have e13:f 13=_:=hR.out 13 rfl;have e15:f 15=_:=hR.out 15 rfl;simp only [e13,e15];refine (HC5.out X (zI HE.out hX)).mono ?_;rintro e w' ⟨rfl,hB⟩;exact ⟨(.int .i64 z5),rfl,hB,fun _ _=>rfl⟩
 refine qH 18 9 [(47,0),(48,1),(49,2),(50,3),(51,4),(52,5),(53,6),(54,7),(55,8),(56,9),(57,10),(58,11),(59,12),(60,13),(61,14),(62,15),(63,16)] (fun f X hX hR K hK=>?_) ?_
 · have e11:f 11=_:=hR.out 11 rfl;have e16:f 16=_:=hR.out 16 rfl;have g5:=Hg5.out;simp only [yZ,e11,e16];refine ⟨zZ (by kernel_rfl) ?_⟩;go_simp;exact jA hK (s:=by simp only [yZ,e11,e16])
 refine jj 19 8 11 17 ?_
 refine qM 20 7 18 ?_
 refine qM 21 6 19 ?_
 refine qH 22 5 [(47,0),(48,1),(49,2),(50,3),(51,4),(52,5),(53,6),(54,7),(55,8),(56,9),(57,10),(58,11),(59,12),(60,13),(61,14),(62,15),(63,16),(64,17),(65,18),(66,19),(67,20),(69,22),(70,23)] (fun f X hX hR K hK=>?_) ?_
 · have e19:f 19=_:=hR.out 19 rfl;have e20:f 20=_:=hR.out 20 rfl;have x0:=hX.cell y2;simp only [yZ,e19,e20];refine ⟨zZ (by kernel_rfl) ?_⟩;go_simp;exact jA hK (s:=by simp only [yZ,e19,e20])
 refine qM 23 4 19 ?_
 refine qH 24 3 [(47,0),(48,1),(49,2),(50,3),(51,4),(52,5),(53,6),(54,7),(55,8),(56,9),(57,10),(58,11),(59,12),(60,13),(61,14),(62,15),(63,16),(64,17),(65,18),(66,19),(67,20),(68,21),(69,22)] (fun f X hX hR K hK=>?_) ?_
 · have e19:f 19=_:=hR.out 19 rfl;have e22:f 22=_:=hR.out 22 rfl;have x0:=hX.cell y0;simp only [yZ,e19,e22];refine ⟨zZ (by kernel_rfl) ?_⟩;go_simp;exact jA hK (s:=by simp only [yZ,e19,e22])
 refine wj 25 2 19 (fun f=>#[f 21,f 23]) (F':=104) (fun f X hX hR=>?_) ?_
 · have e21:f 21=_:=hR.out 21 rfl;have e23:f 23=_:=hR.out 23 rfl;simp only [e21,e23];refine (HC4.out X (zI HE.out hX)).mono ?_;rintro e w' ⟨rfl,hB⟩;exact ⟨(.int .i64 z4),rfl,hB,fun _ _=>rfl⟩
 refine qH 26 1 [(47,0),(48,1),(49,2),(50,3),(51,4),(52,5),(53,6),(54,7),(55,8),(56,9),(57,10),(58,11),(59,12),(60,13),(61,14),(62,15),(63,16),(64,17),(65,18),(66,19),(67,20),(68,21),(69,22),(70,23),(71,24)] (fun f X hX hR K hK=>?_) ?_
 · have e19:f 19=_:=hR.out 19 rfl;have e24:f 24=_:=hR.out 24 rfl;have g4:=Hg4.out;simp only [yZ,e19,e24];refine ⟨zZ (by kernel_rfl) ?_⟩;go_simp;exact jA hK (s:=by simp only [yZ,e19,e24])
 refine jj 27 0 19 25 ?_
 refine yF ⟨fun f X hX hR hal hap=>?_⟩
 obtain ⟨A7,c7,(e7:f 7=_),r7⟩:=hR 7 (by decide)
 have e26:f 26=_:=hR 26 (by decide)
 simp only [yZ,e7,e26]
 clear hR hal hap e7 e26
 refine zU ?_
 replace HE:=zF (zI HE.out hX)
 replace HR4:=zF (qm HR4.out hX)
 clear hX r7 y0 y1 y2 y3 y4
 obtain ⟨y0,y1,y2,y3,y4⟩:=jO (jQ HE.out Hq0.out)
 cases b4
 rotate_left
 · have hV:V=false:=by rw [Hv.out];simp
   subst hV;go_wp2;go_ret;exact ⟨rfl,zI HE0.out HE.out⟩
 obtain ⟨zp,hzp⟩:=eV (jo (e*d % (p - 1)) 1)
 obtain ⟨zq,hzq⟩:=eV (jo (e*d % (q - 1)) 1)
 obtain ⟨bp,hbp⟩:∃ b,(zp==0)=b:=⟨_,rfl⟩
 obtain ⟨bq,hbq⟩:∃ b,(zq==0)=b:=⟨_,rfl⟩
 have hV:V=(bp && bq):=by
  rw [Hv.out,←hbp,←hbq,←hzp,←hzq,gX,gX];simp
 have HV:=zF hV
 have Hzp:=zF hzp
 have Hzq:=zF hzq
 clear hV hzp hzq Hv
 go_upto_region 9 with fail
 go_wp2_with fail
 refine (HMx.out _ HE.out).mono ?_
 rintro e9 w9 ⟨Ax,cx,rfl,hrx,hB9⟩
 replace HE:=zF (zI HE.out hB9)
 replace HR4:=zF (qm HR4.out hB9)
 have HRx:=zF hrx
 clear hB9 hrx y0 y1 y2 y3 y4
 obtain ⟨y0,y1,y2,y3,y4⟩:=jO (jQ HE.out Hq0.out)
 go_upto_region 10 with fail
 go_wp2_with fail
 refine (HSp.out _ HE.out _ _ HR4.out (by have:=Hp1.out;omega)).mono ?_
 rintro e9 w9 ⟨A9,c9,rfl,hr9,hB9⟩
 replace HE:=zF (zI HE.out hB9)
 replace HR4:=zF (qm HR4.out hB9)
 replace HRx:=zF (qm HRx.out hB9)
 have hm:=kZ _ _ _ _ (e*d) (p - 1) _ HRx.out hr9 (by have:=Hlx.out;omega) (by have:=Hp1.out;omega)
 have HM:=zF hm
 clear hr9 hB9 hm y0 y1 y2 y3 y4
 obtain ⟨y0,y1,y2,y3,y4⟩:=jO (jQ HE.out Hq0.out)
 go_wp2_with fail
 rw [HLx.out] at HM
 refine HM.out.mono ?_
 rintro e9 w9 ⟨Aa,ca,rfl,hra,hB9⟩
 replace HE:=zF (zI HE.out hB9)
 replace HR4:=zF (qm HR4.out hB9)
 replace HRx:=zF (qm HRx.out hB9)
 have HRa:=zF hra
 clear hB9 HM hra y0 y1 y2 y3 y4
 obtain ⟨y0,y1,y2,y3,y4⟩:=jO (jQ HE.out Hq0.out)
 go_upto_region 11 with fail
 go_wp2_with fail
 refine (HSq.out _ HE.out _ _ HR4.out (by have:=Hq1.out;omega)).mono ?_
 rintro e9 w9 ⟨A9,c9,rfl,hr9,hB9⟩
 replace HE:=zF (zI HE.out hB9)
 replace HR4:=zF (qm HR4.out hB9)
 replace HRx:=zF (qm HRx.out hB9)
 replace HRa:=zF (qm HRa.out hB9)
 have hm:=kZ _ _ _ _ (e*d) (q - 1) _ HRx.out hr9 (by have:=Hlx.out;omega) (by have:=Hq1.out;omega)
 have HM:=zF hm
 clear hr9 hB9 hm y0 y1 y2 y3 y4
 obtain ⟨y0,y1,y2,y3,y4⟩:=jO (jQ HE.out Hq0.out)
 go_wp2_with fail
 rw [HLx.out] at HM
 refine HM.out.mono ?_
 rintro e9 w9 ⟨Ab,cb,rfl,hrb,hB9⟩
 replace HE:=zF (zI HE.out hB9)
 replace HR4:=zF (qm HR4.out hB9)
 replace HRx:=zF (qm HRx.out hB9)
 replace HRa:=zF (qm HRa.out hB9)
 have HRb:=zF hrb
 clear hB9 HM hrb y0 y1 y2 y3 y4
 obtain ⟨y0,y1,y2,y3,y4⟩:=jO (jQ HE.out Hq0.out)
 go_upto_region 12 with fail
 go_wp2_with fail
 refine (HCo.out _ _ _ _ _ _ HRa.out HR4.out).mono ?_
 rintro e9 w9 ⟨rfl,hB9⟩
 rw [Hzp.out]
 replace HE:=zF (zI HE.out hB9)
 replace HR4:=zF (qm HR4.out hB9)
 replace HRb:=zF (qm HRb.out hB9)
 clear hB9
 cases bp
 · have hV:V=false:=by rw [HV.out];rfl
   subst hV;go_wp2;go_ret;exact ⟨rfl,zI HE0.out HE.out⟩
 go_wp2_with fail
 refine (HCo.out _ _ _ _ _ _ HRb.out HR4.out).mono ?_
 rintro e9 w9 ⟨rfl,hB9⟩
 rw [Hzq.out]
 replace HE:=zF (zI HE.out hB9)
 clear hB9
 have hV:V=bq:=by rw [HV.out];simp
 subst hV
 go_wp2
 go_ret
 exact ⟨rfl,zI HE0.out HE.out⟩
end Go.Proofs.YtmlbicgpehchhaaGreat
namespace Go.Proofs.YtmlbicgpehchhaaGreat.Der
inductive DN where
 | mk (tag:Nat) (bs:List Nat) (kids:List DN)
theorem gD {α:Type}(l:List α) (d:α){i:Nat}(h:i<l.length):l.getD i d=l[i]:=by simp [zh,qO h]
def be:Nat→List Nat→Nat
 | n,[]=>n
 | n,x :: r=>be (256*n+x) r
def uC:Bool→List Nat→Bool
 | bg,[]=>bg
 | bg,x :: r=>if bg && x==128 then false else uC (decide (x<128)) r
def xt (b:List Nat):Bool:=decide (0<b.length) && uC true b
def jh (tag:Nat) (b:List Nat):Bool :=
 if tag=2 then decide (0<b.length) && decide (b.getD 0 0<128) && (decide (0<b.getD 0 0) || b.length==1 || decide (128≤b.getD 1 0))
 else if tag=3 then decide (0<b.length) && b.getD 0 0==0
 else if tag=4 then true
 else if tag=5 then b.length==0
 else if tag=6 then xt b
 else false
def fA (t n:Nat) (rest:List Nat):Option (Nat×List Nat×List Nat):=if rest.length<n then none else some (t,rest.take n,rest.drop n)
def vY:List Nat→Option (Nat×List Nat×List Nat)
  | t :: n :: rest =>
    if n<128 then fA t n rest
    else if n - 128<1∨3<n - 128∨rest.length<n - 128∨rest.getD 0 0=0 then none
    else if be 0 (rest.take (n - 128))<128 then none
    else fA t (be 0 (rest.take (n - 128))) (rest.drop (n - 128))
  | _=>none
def vL (rd:Nat→List Nat→Option (DN×List Nat×Nat)):Nat→Nat→List DN→List Nat→Option (List DN×Nat)
  | 0,left,acc,b=>if b=[] then some (acc,left) else none
  | f + 1, left, acc, b => if b = [] then some (acc, left) else match rd left b with
    | none=>none
    | some (k,r,l)=>vL rd f l (acc++[k]) r
def ji:Nat→Nat→List Nat→Option (DN×List Nat×Nat)
  | 0,_,_=>none
  | d + 1, left, b =>
    if left=0 then none
    else match vY b with
      | none=>none
      | some (t, h, r) =>
        if t≠48 then (if jh t h then some (.mk t h [],r,left - 1) else none)
        else match vL (ji d) h.length (left - 1) [] h with
          | none=>none
          | some (ks,l)=>some (.mk 48 [] ks,r,l)
theorem uu {t n:Nat}{b:List Nat}{x:Nat×List Nat×List Nat}(h:fA t n b=some x):x=(t,b.take n,b.drop n)∧n≤b.length:=by
 unfold fA at h;split at h
 · cases h
 · cases h;exact ⟨rfl,by omega⟩
theorem oX {b:List Nat}{t:Nat}{h r:List Nat}(e:vY b=some (t,h,r)):h.length+r.length+2≤b.length:=by
 unfold vY at e;split at e
 · rename_i t0 n rest;split at e
   · obtain ⟨e,hl⟩:=uu e;cases e;simp;omega
   split at e
   · cases e
   split at e
   · cases e
   obtain ⟨e,hl⟩:=uu e;simp only [Prod.mk.injEq] at e;have e1:=congrArg List.length e.2.1;have e2:=congrArg List.length e.2.2;clear e;rw [qB] at e1;rw [jC] at e2;rw [jC] at hl e1 e2;generalize be 0 (List.take (n - 128) rest)=m at *;simp only [qh];omega
 · cases e
theorem gQ:∀ {d left:Nat}{b:List Nat}{k:DN}{r:List Nat}{l:Nat},ji d left b=some (k,r,l)→r.length+2≤b.length
 | 0,_,_,_,_,_,e=>by simp [ji] at e
 | d + 1, left, b, k, r, l, e => by
   rw [ji] at e;split at e
   · cases e
   split at e
   · cases e
   rename_i t h r' hh;have:=oX hh;split at e
   · split at e
     · cases e;omega
     · cases e
   · split at e
     · cases e
     · cases e;omega
theorem ak {rd:Nat→List Nat→Option (DN×List Nat×Nat)}(hr:∀ {left b k r l},rd left b=some (k,r,l)→l<left):∀ {f left:Nat}{acc:List DN}{b:List Nat}{ks:List DN}{l:Nat},vL rd f left acc b=some (ks,l)→l≤left
 | 0, left, acc, b, ks, l, e => by
   unfold vL at e;split at e
   · cases e;exact zH _
   · cases e
 | f + 1, left, acc, b, ks, l, e => by
   unfold vL at e;split at e
   · cases e;exact zH _
   split at e
   · cases e
   rename_i k r l' hk;have:=ak hr e;have:=hr hk;omega
theorem aW:∀ {d left:Nat}{b:List Nat}{k:DN}{r:List Nat}{l:Nat},ji d left b=some (k,r,l)→l<left
 | 0,_,_,_,_,_,e=>by simp [ji] at e
 | d + 1, left, b, k, r, l, e => by
   rw [ji] at e;split at e
   · cases e
   rename_i hl;split at e
   · cases e
   split at e
   · split at e
     · cases e;omega
     · cases e
   · split at e
     · cases e
     · rename_i hk;cases e;have:=ak (rd:=ji d) (fun h=>aW h) hk;omega
theorem ab {bg:Bool}{b:List Nat}{k:Nat}(hk:k<b.length){x:Nat}(hx:b[k]=x):uC bg (b.drop k)=if bg && x==128 then false else uC (decide (x<128)) (b.drop (k+1)):=by
 rw [qa hk,hx,uC]
end Go.Proofs.YtmlbicgpehchhaaGreat.Der
namespace Go.Proofs.YtmlbicgpehchhaaGreat
open Go.RowKit
theorem Ext.drewN (w:World) (n:Nat):Ext w (w.drewN n):=qR (zO _ w) n
theorem vD {op:Oper}{a:Act}{X:World}{K:Act→World→Prop}{Q:Exit→Act→World→Prop}(ty:TypeId) (x y:Operand) (ho:op.op=.store ty x y) (hd:op.dst=none){b:Nat}{cs cs':Array Value}{t:TypeId}
 (hx:a.eval x=.pointer (some ⟨b,0,none⟩)) (hy:a.eval y=.agg cs') (hg:X.heap[b]?=some (.cells cs t (0,0))) (hi:(Tryz.prog.info? ty).map (·.size)=some cs'.size) (hold:cs.size=cs'.size) (h1:cs'.all (·.oneCell')=true)
 (hK:∀ Y,Y.heap[b]?=some (.cells cs' t (0,0))→kj b X Y→Y.heap.size=X.heap.size→K a Y):op.wp Tryz.prog a X K Q:=by
 refine wp_store_row ty x y ho b cs' hx hy t cs hg hi hold h1 ?_
 rw [hd]
 exact hK _ (Go.setRow_heap X b cs cs' t _ hg) ⟨rfl,rfl,rfl,by simp [World.setRow],fun k _ hk=>Go.setRow_other X b k cs' hk⟩ (by simp [World.setRow])
theorem vf {op:Oper}{a:Act}{X:World}{K:Act→World→Prop}{Q:Exit→Act→World→Prop}(ty:TypeId) (x:Operand) (ho:op.op=.load ty x){b:Nat}{cs:Array Value}{t:TypeId}{d:TypeDesc}(hx:a.eval x=.pointer (some ⟨b,0,none⟩)) (hg:X.heap[b]?=some (.cells cs t (0,0)))
 (hu:Tryz.prog.underlying ty=some d) (hd:d.isRow=true) (hi:(Tryz.prog.info? ty).map (·.size)=some cs.size) {v:Value} (hv:v=.agg cs) (hK:K (a.put op.dst v) X):op.wp Tryz.prog a X K Q :=
 wp_load_row ty x ho b hx t cs (0,0) d hg hu (by cases d <;> first | rfl | exact hd) hi (by rw [←hv];exact hK)
theorem kj.ext {b:Nat}{w X Y:World}(h:kj b X Y) (hE:Ext w X) (hb:w.heap.size≤b):Ext w Y:=yL hE (h.below hb hE.bsize)
theorem kj.at_ {b c:Nat}{X Y:World}{o:Obj}(h:kj b X Y) (hc:c≠b) (hx:X.heap[c]?=some o):Y.heap[c]?=some o:=(h.block c (qw hx) hc).trans hx
section
variable {Q:Exit→Act→World→Prop} {ol:List Oper} {m:Nat} {L AL:List Nat} {R:Nat→(Nat→Value)→World→Prop} {a:Act} {w:World} {F:List Oper→Prop} {k n:Nat} {o:Oper} {l:List Oper} {u:Value}
theorem nX {X:World}{b:Nat}{cs:Array Value}{t ty:TypeId}(hg:X.heap[b]?=some (.cells cs t (0,0))) (hd:(Tryz.prog.underlying ty).any (·.isRow)=true) (hi:(Tryz.prog.info? ty).map (·.size)=some cs.size):(Instr.loadAt ty (.pointer (some ⟨b,0,none⟩))).run Tryz.prog X=.ok (.agg cs) X:=by
 obtain ⟨d,hu,h2⟩:∃ d,Tryz.prog.underlying ty=some d∧d.isRow=true:=by
  cases h:Tryz.prog.underlying ty with
  | none=>rw [h] at hd;cases hd
  | some d=>rw [h] at hd;exact ⟨d,rfl,hd⟩
 unfold Instr.loadAt;simp only [vh];rw [show (Instr.sureAddr (.pointer (some ⟨b,0,none⟩))).run Tryz.prog X=.ok ⟨b,0,none⟩ X from rfl,qy];exact run_loadVar_row X b t ty cs (0,0) d hg hu (by cases d <;> first | rfl | exact h2) hi
theorem lV0 (k' n':Nat){b:Nat}{cs:Array Value}{t ty:TypeId}{x:Operand}(hg:w.heap[b]?=some (.cells cs t (0,0))) (hi:(Tryz.prog.info? ty).map (·.size)=some cs.size) (hs:Par.qz (Par.js Tryz.prog ol Q Ext m L AL R a w) F k' n' l) (hR:∀ f X,f k=.agg cs→R k (Par.kS (fun i=>L.getD i 0) k f) X:=by exact fun _ _ h=>h) (hk:k+1=k':=by rfl) (hn:n'+1=n:=by rfl) (ha:AL.contains k=false:=by kernel_rfl)
 (hw:∀ f,Region.wanted o (yielded ol.toArray (Par.put ol.toArray (Par.nd (fun i=>L.getD i 0) k) f (List.range m) a).tmps)=true:=by intro _;kernel_rfl)
 (ho:o.op=.load ty x:=by rfl) (hx:∀ f,(Par.put ol.toArray (Par.nd (fun i=>L.getD i 0) k) f (List.range m) a).eval x=.pointer (some ⟨b,0,none⟩):=by intro _;kernel_rfl) (hd:(Tryz.prog.underlying ty).any (·.isRow)=true:=by kernel_rfl):Par.qz (Par.js Tryz.prog ol Q Ext m L AL R a w) F k n (o :: l) :=
 Par.vx (fun f=>f) hs (fun _ _ _=>rfl) hR hk hn ha hw (fun f X hX=>by
  unfold execOp
  simp only [ho,vh,hx,nX (hX.at_ hg) hd hi,qy]
  rfl)
end
def OW (w:World) (base:Nat) (A:Option Addr) (c:Nat) (bs:List Nat):Prop:=w.ownsRow base 5 1 (.slice A bs.length c) bs.length (bys bs)∧∀ b∈bs,b<256
theorem zAW {w:World}{base n size:Nat}{e:TypeId}{v:Value}{cs:List Value}(h:w.ownsRow base e size v n cs) (k:Nat) (hk:v.ownBlock=some k):base≤k:=by
 rcases h.2 with ⟨rfl,rfl⟩ | ⟨g,cap,cur,rfl,hg,_⟩
 · cases hk
 · simp [Value.ownBlock] at hk;omega
theorem OW.rb {w:World}{base:Nat}{A:Option Addr}{c:Nat}{bs:List Nat}(h:OW w base A c bs) (hl:bs.length≤100000000):RB w (In base w.heap.size) A c bs:=⟨RS.of_own h.1,h.2,by omega⟩
theorem OW.lit (w:World) (b:Nat) (hb:b<256):OW (w.alloc (.cells #[.int .u8 (b:Int)] 5)) w.heap.size (some ⟨w.heap.size,0,none⟩) 1 [b] :=
 ⟨World.ownsRow_lit w #[.int .u8 (b:Int)] 1 (zH _) (by unfold maxLen;omega) rfl,by simp;exact hb⟩
theorem OW.ext {w X:World}{base:Nat}{A:Option Addr}{c:Nat}{bs:List Nat}(h:OW w base A c bs) (hE:w.grownBy X none):OW X base A c bs:=⟨zAV h.1 hE,h.2⟩
section
variable {w:World} {ops:Array Oper} {rest:List Oper} {o:Oper} {a:Act} {Q:Exit→Act→World→Prop}
theorem yr (hgd:o.guard=none) (s x:Operand) (ho:o.op=.call { callee:=.builtin .append,args:=#[s,x],argTypes:=#[34,34] }) (base:Nat){A Au:Option Addr}{c cu:Nat}{bs cs:List Nat}{B:Nat→Prop}
 (hs:a.eval s=.slice A bs.length c) (hown:OW w base A c bs) (hx:a.eval x=.slice Au cs.length cu) (hr:RB w B Au cu cs) (hl:bs.length+cs.length≤100000000) (hbase:base≤w.heap.size)
 (h:∀ A' c' w',OW w' base A' c' (bs++cs)→Below base w w'→wpList Tryz.prog ops Q rest (a.put o.dst (.slice A' (bs++cs).length c')) w'):wpList Tryz.prog ops Q (o :: rest) a w:=by
 obtain ⟨i0,hi,hz0,hz1,hz2⟩:=wM au
 refine jG w hgd s x 34 ho base 5 i0 (.int .u8 0) 1 1 Tryz.underlying34 hi hz0 hz1 hz2 rfl (by decide) _ bs.length (bys bs) hs hown.1 B Au cs.length cu (bys cs) hx hr.1 (by intro u hu;obtain ⟨b,_,rfl⟩:=List.mem_map.1 hu;rfl) (bs.length+cs.length) rfl (by unfold maxLen;omega) (by omega) hbase ?_
 intro A' c' w' h1 h2 h3
 have hlen:(bs++cs).length=bs.length+cs.length:=zt
 refine (hlen▸h A' c' w' ⟨?_,?_⟩ ?_:_)
 · rw [hlen,show bys (bs++cs)=bys bs++bys cs by simp [bys]];exact h1
 · intro b hb;rcases List.mem_append.1 hb with hb | hb
   · exact hown.2 b hb
   · exact hr.2.1 b hb
 · exact Below.grown (zO base w) h2 hbase (zAW hown.1)
end
end Go.Proofs.YtmlbicgpehchhaaGreat
namespace Go.Proofs.YtmlbicgpehchhaaGreat.Der
open Go.RowKit Go.Shelf
attribute [local go_sem] Oper.semAt_some
theorem RB.getD {w:World}{P:Nat→Prop}{A:Option Addr}{c:Nat}{bs:List Nat}(h:RB w P A c bs){i:Nat}(hi:i<bs.length):∃ ad,A=some ad∧P ad.block∧w.cell? (ad.add i)=some (.int .u8 (bs.getD i 0:Nat))∧bs.getD i 0<256:=by
 obtain ⟨ad,h1,h2,h3,h4⟩:=h.at_ hi;rw [gD _ _ hi];exact ⟨ad,h1,h2,h3,by omega⟩
theorem RB.get0 {w:World}{P:Nat→Prop}{A:Option Addr}{c:Nat}{bs:List Nat}(h:RB w P A c bs) (hi:0<bs.length):∃ ad,A=some ad∧P ad.block∧w.cell? ad=some (.int .u8 (bs.getD 0 0:Nat))∧bs.getD 0 0<256:=by
 obtain ⟨ad,h1,h2,h3,h4⟩:=RB.getD h hi;exact ⟨ad,h1,h2,by simpa [Addr.add] using h3,h4⟩
theorem RB.get1 {w:World}{P:Nat→Prop}{ad:Addr}{c:Nat}{bs:List Nat}(h:RB w P (some ad) c bs) (hi:1<bs.length):w.cell? ⟨ad.block,ad.off+1,none⟩=some (.int .u8 (bs.getD 1 0:Nat))∧bs.getD 1 0<256:=by
 obtain ⟨ad',h1,h2,h3,h4⟩:=RB.getD h hi;injection h1 with h1
 subst h1;exact ⟨by simpa [Addr.add] using h3,h4⟩
theorem zAd (P:Nat→Prop) (A:Option Addr) (c:Nat) (b:List Nat) (w:World) (h:RB w P A c b) :
 Calls Tryz.prog 193 #[.slice A b.length c] w fun e w'=>e=.returned (.bool (xt b))∧∃ d,w'=w.drewN d:=by
 obtain ⟨hlc,hc,hl⟩:=h.cap
 have H:=zF h
 obtain ⟨R,hR⟩:=eV (xt b)
 rw [hR]
 have HR:=zF hR
 clear h hR
 go_enter Tryz.func193,Tryz.ntmps193
 go_wp2
 go_loopw [3,8] (fun v i wr=>∃ (k:Nat) (bg:Bool),k≤b.length∧i=.int .i64 k∧v=.bool bg∧uC true b=uC bg (b.drop k)∧∃ d,wr=w.drewN d) (fun _ i _=>b.length - (intOf i).toNat)
 case atStart=>exact ⟨0,true,by omega,rfl,rfl,by simp,0,rfl⟩
 case round =>
  obtain ⟨k,bg,hk,rfl,rfl,hN,d,rfl⟩:=hrel;by_cases hlt:k<b.length
  · obtain ⟨ad,rfl,-,hx,hx2⟩:=(H.out.keep (w':=w.drewN d) fun _ _=>rfl).at_ hlt;obtain ⟨x,hxe⟩:=eV (b[k]);rw [hxe] at hx hx2;have HN:=zF (hN.trans (ab hlt hxe));have q1:(k:Int)<(b.length:Int):=by omega
    clear hN hxe;by_cases h1:bg=true∧x=128
    · obtain ⟨rfl,rfl⟩:=h1;have hR:false=R:=by rw [←HR.out];unfold xt;rw [HN.out];simp
      subst hR;go_wp2;go_ret;exact ⟨rfl,d,rfl⟩
    · have hN2:=zF (HN.out.trans (qA (by simpa using h1)));have g2:((x:Int)<128)=(x<128):=by simp;omega
      cases bg
      · go_wp2;go_roundw;case rel=>exact ⟨k+1,decide (x<128),by omega,by go_num,by simp [g2],hN2.out,d,rfl⟩
        case measure=>simp [intOf];omega
      · have g1:¬ (x:Int)=128:=by simp at h1;omega
        have g1':((x:Int)==128)=false:=by simpa using g1
        go_wp2;go_roundw;case rel=>exact ⟨k+1,decide (x<128),by omega,by go_num,by simp [g2],hN2.out,d,rfl⟩
        case measure=>simp [intOf];omega
  · obtain rfl:k=b.length:=by omega
    have hR:(decide (0<b.length) && bg)=R:=by rw [←HR.out];unfold xt;rw [hN];simp [uC]
    clear hN;by_cases h0:0<b.length
    · have hR':bg=R:=by simpa [h0] using hR
      subst hR';have h0':(0:Int)<(b.length:Int):=by omega
      go_wp2;go_ret;exact ⟨rfl,d,rfl⟩
    · have hR':false=R:=by simpa [h0] using hR
      subst hR';have h0':¬ (0:Int)<(b.length:Int):=by omega
      go_wp2;go_ret;exact ⟨rfl,d,rfl⟩
theorem aS (P:Nat→Prop) (A:Option Addr) (c tag:Nat) (b:List Nat) (w:World) (h:RB w P A c b) :
 Calls Tryz.prog 185 #[.int .i64 tag,.slice A b.length c] w fun e w'=>e=.returned (.bool (jh tag b))∧∃ d,w'=w.drewN d:=by
 obtain ⟨hlc,hc,hl⟩:=h.cap
 have H:=zF h
 have HN:=zF (zAd P A c b w h)
 obtain ⟨R,hR⟩:=eV (jh tag b)
 rw [hR]
 have fin:∀ {v:Bool},v=R→Ending.returned (.bool v)=Ending.returned (.bool R)∧∃ d,w=w.drewN d:=fun h=>⟨by rw [h],0,rfl⟩
 obtain ⟨n,hn⟩:=eV b.length
 rw [hn] at hlc hl HN ⊢
 have Hn:=zF hn
 clear h hn
 obtain ⟨z,hz⟩:∃ z:Int,(tag:Int)=z:=⟨_,rfl⟩
 rw [hz]
 by_cases t2:tag=2
 · subst t2;obtain rfl:z=2:=hz.symm;clear hz;unfold jh at hR;rw [qK rfl,Hn.out] at hR;by_cases h0:n=0
   · have hR':false=R:=by rw [←hR];simp [h0]
     subst h0;clear hR;subst hR';go_enter Tryz.func185,Tryz.ntmps185;go_wp2;go_ret;exact fin rfl
   have h0':(0:Int)<(n:Int):=by omega
   have h0'':0<n:=by omega
   obtain ⟨ad,rfl,-,x0,y0⟩:=RB.get0 H.out (by rw [Hn.out];omega);obtain ⟨b0,hb0⟩:=eV (b.getD 0 0);rw [hb0] at x0 y0 hR;by_cases h1:b0<128;rotate_left
   · have hR':false=R:=by rw [←hR];simp [h1]
     have h1':¬ (b0:Int)<128:=by omega
     clear hR;subst hR';go_enter Tryz.func185,Tryz.ntmps185;go_wp2;go_ret;exact fin rfl
   have h1':(b0:Int)<128:=by omega
   by_cases h2:0<b0
   · have hR':true=R:=by rw [←hR];simp [h0'',h1,h2]
     have h2':(0:Int)<(b0:Int):=by omega
     clear hR;subst hR';go_enter Tryz.func185,Tryz.ntmps185;go_wp2;go_ret;exact fin rfl
   have h2':¬ (0:Int)<(b0:Int):=by omega
   by_cases h3:n=1
   · have hR':true=R:=by rw [←hR];simp [h1,h2,h3]
     subst h3;clear hR;subst hR';go_enter Tryz.func185,Tryz.ntmps185;go_wp2;go_ret;exact fin rfl
   have h3':((n:Int)==1)=false:=beq_eq_false_iff_ne.2 (by omega);have h4:1<n:=by omega
   have h4':(1:Int)<(n:Int):=by omega
   obtain ⟨x1,y1⟩:=RB.get1 H.out (by rw [Hn.out];omega);obtain ⟨b1,hb1⟩:=eV (b.getD 1 0);rw [hb1] at x1 y1 hR;have hR':decide (128≤b1)=R:=by rw [←hR];simp [h0'',h1,h2,h3]
   by_cases h5:128≤b1
   · have h5':(128:Int)≤(b1:Int):=by omega
     have hR2:true=R:=by rw [←hR'];simp [h5]
     clear hR hR';subst hR2;go_enter Tryz.func185,Tryz.ntmps185;go_wp2;go_ret;exact fin rfl
   · have h5':¬ (128:Int)≤(b1:Int):=by omega
     have hR2:false=R:=by rw [←hR'];simp [h5]
     clear hR hR';subst hR2;go_enter Tryz.func185,Tryz.ntmps185;go_wp2;go_ret;exact fin rfl
 have t2':(z==2)=false:=beq_eq_false_iff_ne.2 (by omega)
 by_cases t3:tag=3
 · subst t3;obtain rfl:z=3:=hz.symm;clear hz;unfold jh at hR;rw [qA (by omega),qK rfl,Hn.out] at hR;by_cases h0:n=0
   · have hR':false=R:=by rw [←hR];simp [h0]
     subst h0;clear hR t2 t2';subst hR';go_enter Tryz.func185,Tryz.ntmps185;go_wp2;go_ret;exact fin rfl
   have h0':(0:Int)<(n:Int):=by omega
   have h0'':0<n:=by omega
   obtain ⟨ad,rfl,-,x0,y0⟩:=RB.get0 H.out (by rw [Hn.out];omega);obtain ⟨b0,hb0⟩:=eV (b.getD 0 0);rw [hb0] at x0 y0 hR;have hR':(b0==0)=R:=by rw [←hR];simp [h0'']
   by_cases h5:b0=0
   · subst h5;have hR2:true=R:=by rw [←hR'];simp
     clear hR hR' t2 t2';subst hR2;go_enter Tryz.func185,Tryz.ntmps185;go_wp2;go_ret;exact fin rfl
   · have h5':((b0:Int)==0)=false:=by simp;omega
     have hR2:false=R:=by rw [←hR'];simp [h5]
     clear hR hR' t2 t2';subst hR2;go_enter Tryz.func185,Tryz.ntmps185;go_wp2;go_ret;exact fin rfl
 have t3':(z==3)=false:=beq_eq_false_iff_ne.2 (by omega)
 by_cases t4:tag=4
 · subst t4;obtain rfl:z=4:=hz.symm;clear hz;have hR2:true=R:=by rw [←hR];rfl
   clear hR t2 t2' t3 t3';subst hR2;go_enter Tryz.func185,Tryz.ntmps185;go_wp2;go_ret;exact fin rfl
 have t4':(z==4)=false:=beq_eq_false_iff_ne.2 (by omega)
 by_cases t5:tag=5
 · subst t5;obtain rfl:z=5:=hz.symm;clear hz;have hR':(n==0)=R:=by rw [←hR,←Hn.out];rfl
   clear hR t2 t2' t3 t3' t4 t4';by_cases h0:n=0
   · subst h0;have hR2:true=R:=by rw [←hR'];simp
     clear hR';subst hR2;go_enter Tryz.func185,Tryz.ntmps185;go_wp2;go_ret;exact fin rfl
   · have h0':((n:Int)==0)=false:=beq_eq_false_iff_ne.2 (by omega);have hR2:false=R:=by rw [←hR'];simp [h0]
     clear hR';subst hR2;go_enter Tryz.func185,Tryz.ntmps185;go_wp2;go_ret;exact fin rfl
 have t5':(z==5)=false:=beq_eq_false_iff_ne.2 (by omega)
 by_cases t6:tag=6
 · subst t6;obtain rfl:z=6:=hz.symm;clear hz;have hR':xt b=R:=by rw [←hR];rfl
   rw [hR'] at HN;clear hR t2 t2' t3 t3' t4 t4' t5 t5' hR';go_enter Tryz.func185,Tryz.ntmps185;go_wp2_with fail;refine HN.out.mono ?_;rintro e w1 ⟨rfl,d,rfl⟩;go_wp2;go_ret;exact ⟨rfl,d,rfl⟩
 have t6':(z==6)=false:=beq_eq_false_iff_ne.2 (by omega)
 have hR2:false=R:=by rw [←hR];unfold jh;rw [qA t2,qA t3,qA t4,qA t5,qA t6]
 clear hR t2 t3 t4 t5 t6 hz
 subst hR2
 go_enter Tryz.func185,Tryz.ntmps185
 go_wp2
 go_ret
 exact fin rfl
theorem zCb (a x:Nat) (ha:a<4294967296) (hx:x<256):bits .or .i64 ((a:Int)*256) (x:Int)=((256*a+x:Nat):Int):=by
 have h1:(BitVec.ofInt 64 ((a:Int)*256)).toNat=a*256:=by
  rw [show (a:Int)*256=((a*256:Nat):Int) by omega,BitVec.ofInt_natCast,BitVec.toNat_ofNat];exact qG (by omega)
 have h2:(BitVec.ofInt 64 (x:Int)).toNat=x:=by
  rw [BitVec.ofInt_natCast,BitVec.toNat_ofNat];exact qG (by omega)
 have h3:a*256 ||| x=256*a+x:=by
  have:=Nat.shiftLeft_add_eq_or_of_lt (b:=x) (i:=8) (by omega) a;rw [Nat.shiftLeft_eq] at this;rw [←this];omega
 show IntKind.i64.wrap ((BitVec.ofInt 64 ((a:Int)*256) ||| BitVec.ofInt 64 (x:Int)).toNat:Int)=_;rw [BitVec.toNat_or,h1,h2,h3,jJ];omega
def sK (R:Option (Nat×List Nat×List Nat)) (P:Nat→Prop) (e:Ending) (w':World):Prop :=
 match R with
 | none=>e=.returned (.tuple #[.int .i64 0,.slice none 0 0,.slice none 0 0,.bool false])
 | some (t,h,r)=>∃ A1 c1 A2 c2,e=.returned (.tuple #[.int .i64 t,.slice A1 h.length c1,.slice A2 r.length c2,.bool true])∧RB w' P A1 c1 h∧RB w' P A2 c2 r∧t<256
theorem zAM {w:World}{P:Nat→Prop}{A:Option Addr}{c:Nat}{bs:List Nat}(h:RB w P A c bs){k m c':Nat}(hkm:k≤m) (hm:m≤bs.length) (hc:m - k≤c') (hc':c'≤maxLen){A':Option Addr}(hA:k<m→A'=A.map (·.add k)):RB w P A' c' ((bs.drop k).take (m - k)):=by
 have h1:=h.1.sub hkm hm hc hc' (A':=A') (by simpa using hA);have e:((bys bs).drop (k*1)).take ((m - k)*1)=bys ((bs.drop k).take (m - k)):=by simp [bys,List.map_take,List.map_drop]
 rw [e] at h1;have hl:((bs.drop k).take (m - k)).length=m - k:=by rw [qB,jC];omega
 refine ⟨by rw [hl];exact h1,fun b hb=>h.2.1 b (uQ (qW hb)),by rw [hl];have:=h.2.2;omega⟩
theorem zBV {w:World}{P:Nat→Prop}{A:Option Addr}{c:Nat}{bs:List Nat}(h:RB w P A c bs){k c':Nat}(hk:k≤bs.length) (hc:bs.length - k≤c') (hc':c'≤maxLen){A':Option Addr}(hA:k<bs.length→A'=A.map (·.add k)):RB w P A' c' (bs.drop k):=by
 have:=zAM h hk (zH _) hc hc' hA;rwa [zk (by simp)] at this
theorem yf {w:World}{P:Nat→Prop}{A:Option Addr}{c N:Nat}{b:List Nat}(h:RB w P A c b) (hN:b.length=N){k m:Nat}(hk:N=k+m):∃ A2,(∀ W,(Instr.slice 34 (.slice A N c) (some (.int .i64 (k:Int))) none none).run Tryz.prog W=.ok (.slice A2 m (c - k)) W)∧RB w P A2 (c - k) (b.drop k):=by
 obtain ⟨h1,h2,h3⟩:=h.cap;refine ⟨if c=k then A else A.map (·.add k),fun W=>?_,zBV h (by omega) (by omega) (by unfold maxLen;omega) (fun hlt=>by rw [qA (by omega)])⟩;rw [run_slice_l W 34 A N c (by kernel_rfl) .i64 (k:Int) (by omega) (by omega)];rw [show ((sizeOf (Tryz.prog.elem 34)).run Tryz.prog W)=.ok 1 W by kernel_rfl];simp only [qy,sliced,kU,jS];rw [show N - k=m by omega]
theorem cK {w:World}{P:Nat→Prop}{A:Option Addr}{c N:Nat}{b:List Nat}(h:RB w P A c b) (hN:b.length=N){k:Nat}(hk:k≤N):(∀ W,(Instr.slice 34 (.slice A N c) none (some (.int .i64 (k:Int))) none).run Tryz.prog W=.ok (.slice A k c) W)∧RB w P A c (b.take k):=by
 obtain ⟨h1,h2,h3⟩:=h.cap;refine ⟨fun W=>?_,?_⟩
 · rw [run_slice_h W 34 A N c (by kernel_rfl) .i64 (k:Int) (by omega) (by omega)];rw [show ((sizeOf (Tryz.prog.elem 34)).run Tryz.prog W)=.ok 1 W by kernel_rfl];have e:(if c=0 then A else A.map (·.add (0*1)))=A:=by
    split
    · rfl
    · cases A <;> simp [Addr.add]
   simp only [qy,sliced,kU,e,Nat.sub_zero]
 · have:=zAM h (k:=0) (m:=k) (c':=c) (A':=A) (by omega) (by omega) (by omega) (by unfold maxLen;omega) (fun _=>by cases A <;> simp [Addr.add]);simpa using this
theorem zB7 {b:List Nat}{k:Nat}(hk:k<b.length) (n:Nat):be n (b.take (k+1))=256*be n (b.take k)+b.getD k 0:=by
 have happ:∀ (l:List Nat) (n x:Nat),be n (l++[x])=256*be n l+x:=by
  intro l;induction l with
  | nil=>intro n x;rfl
  | cons y l ih=>intro n x;rw [kN,be,ih,be]
 rw [wl hk,happ,gD _ _ hk]
theorem bN {R:Option (Nat×List Nat×List Nat)}{P:Nat→Prop}{w':World}{t n m:Nat}{rest:List Nat}{A1 A2:Option Addr}{c1 c2:Nat}(hR:R=some (t,rest.take n,rest.drop n)) (hm:rest.length=m) (hn:n≤m) (ht:t<256) (h1:RB w' P A1 c1 (rest.take n)) (h2:RB w' P A2 c2 (rest.drop n)) :
 sK R P (.returned (.tuple #[.int .i64 t,.slice A1 n c1,.slice A2 (m - n) c2,.bool true])) w':=by
 subst hR
 refine ⟨A1,c1,A2,c2,?_,h1,h2,ht⟩
 rw [qB,jC,hm,qc hn]
theorem bM {t n:Nat}{rest:List Nat}(h:n<128):vY (t :: n :: rest)=fA t n rest:=qK h
theorem oZ {t n:Nat}{rest:List Nat}(h:¬ n<128) (h2:n - 128<1∨3<n - 128∨rest.length<n - 128∨rest.getD 0 0=0):vY (t :: n :: rest)=none:=(qA h).trans (qK h2)
theorem oW {t n z:Nat}{rest:List Nat}(h:¬ n<128) (h2:¬ (n - 128<1∨3<n - 128∨rest.length<n - 128∨rest.getD 0 0=0)) (hz:be 0 (rest.take (n - 128))=z) (h3:z<128):vY (t :: n :: rest)=none:=(qA h).trans ((qA h2).trans (by rw [hz,qK h3]))
theorem av {t n z:Nat}{rest:List Nat}(h:¬ n<128) (h2:¬ (n - 128<1∨3<n - 128∨rest.length<n - 128∨rest.getD 0 0=0)) (hz:be 0 (rest.take (n - 128))=z) (h3:¬ z<128):vY (t :: n :: rest)=fA t z (rest.drop (n - 128)):=(qA h).trans ((qA h2).trans (by rw [hz,qA h3]))
theorem ou {t n:Nat}{rest:List Nat}(h:rest.length<n):fA t n rest=none:=qK h
theorem mE {t n:Nat}{rest:List Nat}(h:n≤rest.length):fA t n rest=some (t,rest.take n,rest.drop n):=qA (by omega)
theorem zAt (P:Nat→Prop) (A:Option Addr) (c:Nat) (b:List Nat) (w:World) (h:RB w P A c b) (hP:∀ q,P q→q<w.heap.size) :
 Calls Tryz.prog 183 #[.slice A b.length c] w fun e w'=>sK (vY b) P e w'∧Below w.heap.size w w':=by
 obtain ⟨hlc,hc,hl⟩:=h.cap
 obtain ⟨R,hR⟩:=eV (vY b)
 rw [hR]
 by_cases hsh:b.length<2
 · have hR2:none=R:=by
    rw [←hR];rcases b with _ | ⟨x,_ | ⟨y,r⟩⟩
    · rfl
    · rfl
    · simp at hsh;omega
   subst hR2;obtain ⟨N,hN⟩:=eV b.length;rw [hN] at hsh ⊢;have hsh':(N:Int)<2:=by omega
   clear h hR hN hlc hl;go_enter Tryz.func183,Tryz.ntmps183;go_wp2;refine qS (v:=.tuple #[.int .i64 0,.slice none 0 0,.slice none 0 0,.bool false]) (by simp [results,Tryz.results183,go_sem]) rfl ?_;exact ⟨rfl,zO _ _⟩
 obtain ⟨t,n,rest,rfl⟩:∃ t n rest,b=t :: n :: rest:=by
  rcases b with _ | ⟨x,_ | ⟨y,r⟩⟩
  · simp at hsh
  · simp at hsh
  · exact ⟨x,y,r,rfl⟩
 obtain ⟨ad,rfl,-,x0,y0⟩:=RB.get0 h (by simp)
 obtain ⟨x1,y1⟩:=RB.get1 h (by simp)
 simp only [List.getD_cons_zero,List.getD_cons_succ] at x0 y0 x1 y1
 obtain ⟨m,hm⟩:=eV rest.length
 obtain ⟨N,hN⟩:=eV ((t :: n :: rest).length)
 have hNm:N=2+m:=by rw [←hN,←hm];simp;omega
 obtain ⟨A2,hs2,hr2⟩:=yf h hN (k:=2) (m:=m) hNm
 have hr2:RB w P A2 (c - 2) rest:=hr2
 obtain ⟨c2,hc2⟩:=eV (c - 2)
 rw [hc2] at hs2 hr2
 have hs2:∀ (W:World),(Instr.slice 34 (.slice (some ad) N c) (some (.int .i64 2)) none none).run Tryz.prog W=.ok (.slice A2 m c2) W:=hs2
 rw [hN] at hlc hl hsh ⊢
 have g0:¬ (N:Int)<2:=by omega
 have g1:(0:Int)<(N:Int):=by omega
 have g2:(1:Int)<(N:Int):=by omega
 have HR2:=zF hr2
 have HRe:=zF hR
 have Hm:=zF hm
 clear hR hm hN hc2 h hr2 hNm hsh
 obtain ⟨lc2,mc2,ll2⟩:=HR2.out.cap
 rw [Hm.out] at lc2 ll2
 go_enter Tryz.func183,Tryz.ntmps183
 go_wp2
 go_quiet (fail)
 have HD:=zF (qR (zO w.heap.size w) nq)
 have HR3:=zF (HR2.out.keep (w':=w.drewN nq) fun _ _=>rfl)
 have Hy0:=zF (show t<256 by omega)
 clear x0 x1 hs2 g0 g1 g2 HR2 hP
 generalize w.drewN nq=w1 at *
 by_cases hn:n<128
 · have HRn:=zF (HRe.out.symm.trans (bM hn));have hn1:¬ (128:Int)≤(n:Int):=by omega
   by_cases hmn:m<n
   · have hR:R=none:=HRn.out.trans (ou (by rw [Hm.out];exact hmn));subst hR;have hmn':(m:Int)<(n:Int):=by omega
     go_wp2;refine qS (v:=.tuple #[.int .i64 0,.slice none 0 0,.slice none 0 0,.bool false]) (by simp [results,Tryz.results183,go_sem]) rfl ?_;exact ⟨rfl,HD.out⟩
   have hmn':¬ (m:Int)<(n:Int):=by omega
   have hR:R=some (t,rest.take n,rest.drop n):=HRn.out.trans (mE (by rw [Hm.out];omega));obtain ⟨s1,q1⟩:=cK HR3.out Hm.out (k:=n) (by omega);obtain ⟨A5,s2,q2⟩:=yf HR3.out Hm.out (k:=n) (m:=m - n) (by omega);obtain ⟨c5,hc5⟩:=eV (c2 - n);rw [hc5] at s2 q2;obtain ⟨m5,hm5⟩:=eV (m - n);rw [hm5] at s2;have Q1:=zF q1;have Q2:=zF q2;have HRR:=zF hR;have Hm5:=zF hm5;clear q1 q2 hR hc5 hm5;go_wp2;go_quiet (fail);go_wp2;refine qS (v:=.tuple #[.int .i64 t,.slice A2 n c2,.slice A5 m5 c5,.bool true]) (by simp [results,Tryz.results183,go_sem]) rfl ?_;refine ⟨?_,qR HD.out _⟩;rw [←Hm5.out];exact bN HRR.out Hm.out (by omega) Hy0.out (Q1.out.keep fun _ _=>rfl) (Q2.out.keep fun _ _=>rfl)
 have hn1:(128:Int)≤(n:Int):=by omega
 obtain ⟨k,hk⟩:=eV (n - 128)
 have hk1:(n:Int) - 128=(k:Int):=by omega
 have hbd:=fun h2=>oZ (t:=t) (n:=n) (rest:=rest) hn h2
 have hlo:=fun z h2 hz h3=>oW (t:=t) (n:=n) (z:=z) (rest:=rest) hn h2 hz h3
 have hlg:=fun z h2 hz h3=>av (t:=t) (n:=n) (z:=z) (rest:=rest) hn h2 hz h3
 rw [HRe.out,hk,Hm.out] at hbd
 simp only [HRe.out,hk,Hm.out] at hlo hlg
 have HBd:=zF hbd
 have HLo:=zF hlo
 have HLg:=zF hlg
 have Hk:=zF hk
 have k128:k<128:=by omega
 clear hbd hlo hlg hn hk HRe
 by_cases k1:k<1
 · have hR:R=none:=HBd.out (.inl k1);subst hR;have k1':(k:Int)<1:=by omega
   go_wp2;refine qS (v:=.tuple #[.int .i64 0,.slice none 0 0,.slice none 0 0,.bool false]) (by simp [results,Tryz.results183,go_sem]) rfl ?_;exact ⟨rfl,HD.out⟩
 have k1':¬ (k:Int)<1:=by omega
 by_cases k3:3<k
 · have hR:R=none:=HBd.out (.inr (.inl k3));subst hR;have k3':(3:Int)<(k:Int):=by omega
   go_wp2;refine qS (v:=.tuple #[.int .i64 0,.slice none 0 0,.slice none 0 0,.bool false]) (by simp [results,Tryz.results183,go_sem]) rfl ?_;exact ⟨rfl,HD.out⟩
 have k3':¬ (3:Int)<(k:Int):=by omega
 by_cases km:m<k
 · have hR:R=none:=HBd.out (.inr (.inr (.inl km)));subst hR;have km':(m:Int)<(k:Int):=by omega
   go_wp2;refine qS (v:=.tuple #[.int .i64 0,.slice none 0 0,.slice none 0 0,.bool false]) (by simp [results,Tryz.results183,go_sem]) rfl ?_;exact ⟨rfl,HD.out⟩
 have km':¬ (m:Int)<(k:Int):=by omega
 have hm1:(0:Int)<(m:Int):=by omega
 obtain ⟨ar,rfl,-,x0,y0⟩:=RB.get0 HR3.out (by rw [Hm.out];omega)
 obtain ⟨r0,hr0⟩:=eV (rest.getD 0 0)
 rw [hr0] at x0 y0 HBd
 simp only [hr0] at HLo HLg
 by_cases k0:r0=0
 · subst k0;have hR:R=none:=HBd.out (.inr (.inr (.inr rfl)));subst hR;have x0':w1.cell? ar=some (.int .u8 0):=x0;clear x0;go_wp2;refine qS (v:=.tuple #[.int .i64 0,.slice none 0 0,.slice none 0 0,.bool false]) (by simp [results,Tryz.results183,go_sem]) rfl ?_;exact ⟨rfl,HD.out⟩
 have k0':((r0:Int)==0)=false:=beq_eq_false_iff_ne.2 (by omega)
 have hno:¬ (k<1∨3<k∨m<k∨r0=0):=by omega
 obtain ⟨s1,q1⟩:=cK HR3.out Hm.out (k:=k) (by omega)
 have Q1:=zF q1
 have Hno:=zF hno
 clear q1 hno hr0 HBd
 go_wp2
 go_loopw [7,51] (fun v i wr=>∃ j:Nat,j≤k∧i=.int .i64 j∧v=.int .i64 (be 0 (rest.take j):Nat)∧be 0 (rest.take j)<256 ^ j∧wr=w1) (fun _ i _=>k - (intOf i).toNat)
 case atStart=>exact ⟨0,by omega,rfl,rfl,by simp [be],rfl⟩
 case round =>
  obtain ⟨j,hj,rfl,rfl,hb,rfl⟩:=hrel;by_cases hlt:j<k
  · obtain ⟨ar',er,-,xj,yj⟩:=RB.getD HR3.out (i:=j) (by rw [Hm.out];omega);injection er with er
    subst er;obtain ⟨z,hz⟩:=eV (be 0 (rest.take j));have hz2:=zB7 (b:=rest) (k:=j) (by rw [Hm.out];omega) 0;obtain ⟨x,hx⟩:=eV (rest.getD j 0);rw [hx] at xj yj hz2;rw [hz] at hz2 hb ⊢;have hp:(256:Nat) ^ j≤65536:=by
     have h3:j≤2:=by omega
     exact qF (by omega) h3
    have h1:IntKind.i64.wrap ((z:Int)*256)=(z:Int)*256:=by rw [jJ];omega
    have h2:=zCb z x (by omega) (by omega);have hlt':(j:Int)<(k:Int):=by omega
    have Hz2:=zF hz2;have Hb2:=zF (show 256*z+x<256 ^ (j+1) by rw [zu];omega);clear hz hx hz2 hb hp;go_wp2;go_roundw;case rel=>exact ⟨j+1,by omega,by go_num,by rw [Hz2.out];simp,by rw [Hz2.out];exact Hb2.out,by first | trivial | rfl⟩
    case measure=>simp [intOf];omega
  · obtain rfl:j=k:=by omega
    obtain ⟨z,hz⟩:=eV (be 0 (rest.take j));rw [hz];have HLo2:=HLo.out z Hno.out hz;have HLg2:=HLg.out z Hno.out hz;have hz3:z<16777216:=by
     rw [hz] at hb;have:(256:Nat) ^ j≤256 ^ 3:=qF (by omega) (by omega);omega
    clear hz hb HLo HLg hlt hj;by_cases hz1:z<128
    · have hR:R=none:=HLo2 hz1;subst hR;have hz1':(z:Int)<128:=by omega
      clear HLo2 HLg2;go_wp2;refine qS (v:=.tuple #[.int .i64 0,.slice none 0 0,.slice none 0 0,.bool false]) (by simp [results,Tryz.results183,go_sem]) rfl ?_;exact ⟨rfl,HD.out⟩
    have hz1':¬ (z:Int)<128:=by omega
    have HRn:=zF (HLg2 hz1);clear HLo2 HLg2 s1 Q1;obtain ⟨A3,s3,q3⟩:=yf HR3.out Hm.out (k:=j) (m:=m - j) (by omega);obtain ⟨c3,hc3⟩:=eV (c2 - j);rw [hc3] at s3 q3;have hm3:(rest.drop j).length=m - j:=by rw [jC,Hm.out]
    obtain ⟨m3,hm3'⟩:=eV (m - j);rw [hm3'] at s3 hm3;obtain ⟨rest3,hr3⟩:=eV (rest.drop j);rw [hr3] at q3 hm3 HRn;have Q3:=zF q3;have Hm3:=zF hm3;obtain ⟨lc3,mc3,ll3⟩:=q3.cap;rw [hm3] at lc3 ll3;clear q3 hm3 hc3 hm3' hr3;go_upto_region 17 with fail;clear s3;by_cases hmn:m3<z
    · have hR:R=none:=HRn.out.trans (ou (by rw [Hm3.out];exact hmn));subst hR;have hmn':(m3:Int)<(z:Int):=by omega
      go_wp2;refine qS (v:=.tuple #[.int .i64 0,.slice none 0 0,.slice none 0 0,.bool false]) (by simp [results,Tryz.results183,go_sem]) rfl ?_;exact ⟨rfl,HD.out⟩
    have hmn':¬ (m3:Int)<(z:Int):=by omega
    have hR:R=some (t,rest3.take z,rest3.drop z):=HRn.out.trans (mE (by rw [Hm3.out];omega));obtain ⟨s1,q1⟩:=cK Q3.out Hm3.out (k:=z) (by omega);obtain ⟨A5,s2,q2⟩:=yf Q3.out Hm3.out (k:=z) (m:=m3 - z) (by omega);obtain ⟨c5,hc5⟩:=eV (c3 - z);rw [hc5] at s2 q2;obtain ⟨m5,hm5⟩:=eV (m3 - z);rw [hm5] at s2;have Q1:=zF q1;have Q2:=zF q2;have HRR:=zF hR;have Hm5:=zF hm5;clear q1 q2 hR hc5 hm5;go_wp2;go_quiet (fail);go_wp2;refine qS (v:=.tuple #[.int .i64 t,.slice A3 z c3,.slice A5 m5 c5,.bool true]) (by simp [results,Tryz.results183,go_sem]) rfl ?_;refine ⟨?_,qR HD.out _⟩;rw [←Hm5.out];exact bN HRR.out Hm3.out (by omega) Hy0.out (Q1.out.keep fun _ _=>rfl) (Q2.out.keep fun _ _=>rfl)
mutual
def RD (w:World) (P:Nat→Prop):DN→Value→Prop
 | .mk tag bs kids,v=>∃ A c Ak ck cs,v=.agg #[.int .i64 (tag:Int),.slice A bs.length c,.slice Ak kids.length ck]∧RB w P A c bs∧(tag=48→A=none∧c=0)∧RS w P 3 Ak kids.length ck cs∧RDs w P kids cs
def RDs (w:World) (P:Nat→Prop):List DN→List Value→Prop
 | [],cs=>cs=[]
 | k :: ks,cs=>∃ a b c rest,cs=a :: b :: c :: rest∧RD w P k (.agg #[a,b,c])∧RDs w P ks rest
end
mutual
theorem RD.keep {w w':World}{P:Nat→Prop}(hk:∀ p:Addr,P p.block→w'.cell? p=w.cell? p):∀ {t:DN}{v:Value},RD w P t v→RD w' P t v
 | .mk tag bs kids, v, h => by
   unfold RD at h ⊢;obtain ⟨A,c,Ak,ck,cs,h1,h2,h3,h4,h5⟩:=h;exact ⟨A,c,Ak,ck,cs,h1,h2.keep hk,h3,h4.keep hk,RDs.keep hk h5⟩
theorem RDs.keep {w w':World}{P:Nat→Prop}(hk:∀ p:Addr,P p.block→w'.cell? p=w.cell? p):∀ {ks:List DN}{cs:List Value},RDs w P ks cs→RDs w' P ks cs
 | [],cs,h=>by unfold RDs at h ⊢;exact h
 | k :: ks, cs, h => by
   unfold RDs at h ⊢;obtain ⟨a,b,c,rest,h1,h2,h3⟩:=h;exact ⟨a,b,c,rest,h1,RD.keep hk h2,RDs.keep hk h3⟩
end
mutual
theorem RD.mono {w:World}{P P':Nat→Prop}(hp:∀ b,P b→P' b):∀ {t:DN}{v:Value},RD w P t v→RD w P' t v
 | .mk tag bs kids, v, h => by
   unfold RD at h ⊢;obtain ⟨A,c,Ak,ck,cs,h1,h2,h3,h4,h5⟩:=h;exact ⟨A,c,Ak,ck,cs,h1,h2.mono hp,h3,h4.mono hp,RDs.mono hp h5⟩
theorem RDs.mono {w:World}{P P':Nat→Prop}(hp:∀ b,P b→P' b):∀ {ks:List DN}{cs:List Value},RDs w P ks cs→RDs w P' ks cs
 | [],cs,h=>by unfold RDs at h ⊢;exact h
 | k :: ks, cs, h => by
   unfold RDs at h ⊢;obtain ⟨a,b,c,rest,h1,h2,h3⟩:=h;exact ⟨a,b,c,rest,h1,RD.mono hp h2,RDs.mono hp h3⟩
end
theorem RDs.length {w:World}{P:Nat→Prop} : ∀ {ks:List DN}{cs:List Value},RDs w P ks cs→cs.length=ks.length*3
 | [],cs,h=>by unfold RDs at h;simp [h]
 | k :: ks, cs, h => by
   unfold RDs at h;obtain ⟨a,b,c,rest,rfl,h2,h3⟩:=h;have:=RDs.length h3;simp only [qh];omega
theorem RDs.snoc {w:World}{P:Nat→Prop}{a b c:Value}{k:DN}(hk:RD w P k (.agg #[a,b,c])):∀ {ks:List DN}{cs:List Value},RDs w P ks cs→RDs w P (ks++[k]) (cs++[a,b,c])
 | [], cs, h => by
   unfold RDs at h;subst h;show RDs w P [k] [a,b,c];unfold RDs;exact ⟨a,b,c,[],rfl,hk,by unfold RDs;rfl⟩
 | k' :: ks, cs, h => by
   unfold RDs at h;obtain ⟨a',b',c',rest,rfl,h2,h3⟩:=h;show RDs w P (k' :: (ks++[k])) _;unfold RDs;exact ⟨a',b',c',rest++[a,b,c],rfl,h2,RDs.snoc hk h3⟩
theorem RD.shape {w:World}{P:Nat→Prop}{t:DN}{v:Value}(h:RD w P t v):∃ a B1 n1 d1 B2 n2 d2,v=.agg #[.int .i64 a,.slice B1 n1 d1,.slice B2 n2 d2]:=by
 cases t;unfold RD at h;obtain ⟨A,c,Ak,ck,cs,h1,-⟩:=h;exact ⟨_,_,_,_,_,_,_,h1⟩
theorem RD.below {w w':World}{P:Nat→Prop}{t:DN}{v:Value}{B:Nat}(h:RD w P t v) (hb:Below B w w') (hB:∀ q,P q→q<B):RD w' P t v:=RD.keep (fun _ hp=>hb.cell (hB _ hp)) h
structure Bb (s g:Nat) (w w':World):Prop where
 os:w'.os=w.os
 tape:w'.tape=w.tape
 output:w'.output=w.output
 size:w.heap.size≤w'.heap.size
 block:∀ b,b<s→b≠g→w'.heap[b]?=w.heap[b]?
theorem Bb.refl (s g:Nat) (w:World):Bb s g w w:=⟨rfl,rfl,rfl,zH _,fun _ _ _=>rfl⟩
theorem Bb.trans {s g:Nat}{a b c:World}(h:Bb s g a b) (k:Bb s g b c):Bb s g a c :=
 ⟨k.os.trans h.os,k.tape.trans h.tape,k.output.trans h.output,zQ h.size k.size,fun i hi hn=>(k.block i hi hn).trans (h.block i hi hn)⟩
theorem Bb.mono {s s' g:Nat}{a b:World}(h:Bb s g a b) (hs:s'≤s):Bb s' g a b:=⟨h.os,h.tape,h.output,h.size,fun i hi hn=>h.block i (zR hi hs) hn⟩
theorem vw {s:Nat}{w w':World}(h:Below s w w') (g:Nat):Bb s g w w':=⟨h.os,h.tape,h.output,h.size,fun b hb _=>h.block b hb⟩
theorem Bb.set {s g:Nat}{a b:World}(h:Bb s g a b) (i:Nat) (v:Value):Bb s g a (b.setCell ⟨g,i,none⟩ v) :=
 ⟨h.os,h.tape,h.output,by simpa [World.setCell] using h.size,fun i hi hn=>(zN _ _ _ _ (by exact hn)).trans (h.block i hi hn)⟩
theorem Bb.setCell {s g:Nat}{a b:World}(h:Bb s g a b){p:Addr}(hp:s≤p.block) (v:Value):Bb s g a (b.setCell p v) :=
 ⟨h.os,h.tape,h.output,by simpa [World.setCell] using h.size,fun i hi hn=>(zN _ _ _ _ (by omega)).trans (h.block i hi hn)⟩
theorem Bb.alloc {s g:Nat}{a b:World}(h:Bb s g a b) (hs:s≤b.heap.size) (o:Obj):Bb s g a (b.alloc o):=h.trans (vw ((zO s b).alloc hs o) g)
theorem Bb.cell {s g:Nat}{w w':World}(h:Bb s g w w'){p:Addr}(hp:p.block<s) (hn:p.block≠g):w'.cell? p=w.cell? p:=zT (h.block _ hp hn)
theorem Bb.rb {s g:Nat}{w w':World}{P:Nat→Prop}{A:Option Addr}{c:Nat}{bs:List Nat}(h:RB w P A c bs) (hb:Bb s g w w') (hP:∀ q,P q→q<s∧q≠g):RB w' P A c bs:=h.keep fun _ hp=>hb.cell (hP _ hp).1 (hP _ hp).2
theorem ft {w:World}{g:Nat}{t:TypeId}{cs:Array Value}(h:w.heap[g]?=some (.cells cs t (0,0))) (i:Nat) (u:Value):(w.setCell ⟨g,i,none⟩ u).heap[g]?=some (.cells (cs.setIfInBounds i u) t (0,0)):=by
 simp [World.setCell,kY,h]
theorem xM {w:World}{s:Nat}{t:TypeId}{a b c:Value}(h:w.heap[s]?=some (.cells #[a,b,c] t (0,0))) (u v x:Value):(((w.setCell ⟨s,0,none⟩ u).setCell ⟨s,1,none⟩ v).setCell ⟨s,2,none⟩ x).heap[s]?=some (.cells #[u,v,x] t (0,0)):=by
 simpa using ft (ft (ft h 0 u) 1 v) 2 x
theorem rJ (P:Nat→Prop) (A:Option Addr) (c:Nat) (bs:List Nat) (w:World) (h:RB w P A c bs) (hP:∀ b,P b→b<w.heap.size) :
 Calls Tryz.prog 184 #[.slice A bs.length c] w fun e w'=>∃ A' c',e=.returned (.slice A' bs.length c')∧RB w' (In w.heap.size w'.heap.size) A' c' bs∧Below w.heap.size w w':=by
 obtain ⟨i0,hi,hz0,hz1,hz2⟩:=wM au
 have q22:∀ (w:World) (a:Option Addr) (n c n' c':Nat),(binOp .eql 34 (.slice a n c) (.slice none n' c')).run Tryz.prog w=.ok (.bool a.isNone) w:=fun w a n c n' c'=>Lib.run_eql_slice_nil w _ _ a n c n' c' Tryz.underlying34
 obtain ⟨h1,h2,h3⟩:=h.cap
 have hc0:=h.2.1
 rcases A with _ | ad
 · have hl:bs.length=0:=by
    rcases za bs.length with h0 | h0
    · exact h0
    · obtain ⟨ad,h,_⟩:=h.1.2.2.2 h0;cases h
   obtain rfl:=qC hl;clear hl;go_enter Tryz.func184,Tryz.ntmps184;go_wp2;go_ret;exact ⟨none,0,rfl,vn _ _,zO _ _⟩
 · have h':RS (w.alloc (.cells #[] 5)) P 1 (some ad) bs.length c (bys bs):=h.1.keep fun p hp=>World.cell?_alloc_lt w _ p (hP _ hp);clear h;go_enter Tryz.func184,Tryz.ntmps184;go_wp2_with (at_builtin;refine jG _ rfl _ _ 34 rfl w.heap.size 5 i0 (.int .u8 0) 1 1 Tryz.underlying34 hi hz0 hz1 hz2 rfl (by decide) _ _ _ rfl (World.ownsRow_made w #[] 0 (zH _) (j6 _) rfl) P (some ad) bs.length c (bys bs) rfl h' (by intro u hu;obtain ⟨x,_,rfl⟩:=List.mem_map.1 hu;rfl) bs.length (by omega) (by unfold maxLen;omega) (by omega) (by simp) ?_);intro A' c' w1 hown hgrow _;go_wp2;go_ret;exact ⟨A',c',rfl,⟨RS.of_own (by simpa using hown),hc0,h3⟩,((zO _ w).alloc (zH _) _).grown hgrow (by simp) (by intro k hk;simp [Value.ownBlock] at hk;omega)⟩
theorem aq:(Tryz.prog.info? 80).map (fun i=>(i.zero,i.size,i.bytes))=some (some (.agg #[.int .i64 0,.slice none 0 0,.slice none 0 0]),3,56):=by kernel_rfl
end Go.Proofs.YtmlbicgpehchhaaGreat.Der
namespace Go.Proofs.YtmlbicgpehchhaaGreat
theorem wZ:type_of% @Der.RDs.keep:=@Der.RDs.keep
end Go.Proofs.YtmlbicgpehchhaaGreat
namespace Go.Proofs.YtmlbicgpehchhaaGreat.Der
open Go.RowKit Go.Shelf
attribute [local go_sem] Oper.semAt_some
def pJ (R:Option (DN×List Nat×Nat)) (P:Nat→Prop) (g s:Nat) (e:Ending) (w':World):Prop :=
  ∃ lf : Int, w'.heap[g]? = some (.cells #[.int .i64 lf] 191 (0, 0)) ∧
    match R with
    | none=>∃ x B1 n1 d1 B2 n2 d2 v2,e=.returned (.tuple #[.agg #[.int .i64 x,.slice B1 n1 d1,.slice B2 n2 d2],v2,.bool false])
    | some (t,r,l)=>lf=(l:Int)∧∃ v A c,e=.returned (.tuple #[v,.slice A r.length c,.bool true])∧RD w' (In s w'.heap.size) t v∧RB w' P A c r
theorem yh {P:Nat→Prop}{g s n1 d1 n2 d2:Nat}{lf x:Int}{B1 B2:Option Addr}{v2:Value}{w':World}(h:w'.heap[g]?=some (.cells #[.int .i64 lf] 191 (0,0))):pJ none P g s (.returned (.tuple #[.agg #[.int .i64 x,.slice B1 n1 d1,.slice B2 n2 d2],v2,.bool false])) w':=⟨lf,h,x,B1,n1,d1,B2,n2,d2,v2,rfl⟩
theorem gT {w:World}{g s:Nat}{o:Obj}(h:w.heap[g]?=some o) (hn:g≠s) (u v x:Value):(((w.setCell ⟨s,0,none⟩ u).setCell ⟨s,1,none⟩ v).setCell ⟨s,2,none⟩ x).heap[g]?=some o :=
 (zN _ _ _ _ hn).trans ((zN _ _ _ _ hn).trans ((zN _ _ _ _ hn).trans h))
theorem aV (z n:Int) (g:Nat) (P:Nat→Prop) (A:Option Addr) (c N:Nat) (w:World) (hz:n=0∨z=16) (hn:0≤n∧n≤1024) (h:w.heap[g]?=some (.cells #[.int .i64 n] 191 (0,0))) :
 Calls Tryz.prog 153 #[.pointer (some ⟨g,0,none⟩),.slice A N c,.int .i64 z] w fun e w'=>pJ none P g w.heap.size e w'∧Bb w.heap.size g w w':=by
 have hg:=qw h
 have x0:=(zx w (.cells #[.int .i64 0,.slice none 0 0,.slice none 0 0] 80) g hg).trans h
 have y0:=zJ x0 0
 have f0:=zv x0 0
 simp at y0
 have x1:=ft x0 0 (.int .i64 (n - 1))
 have hr:=zP w (.cells #[.int .i64 0,.slice none 0 0,.slice none 0 0] 80)
 have hr1:=(zN (w.alloc (.cells #[.int .i64 0,.slice none 0 0,.slice none 0 0] 80)) ⟨g,0,none⟩ (.int .i64 (n - 1)) w.heap.size (Nat.ne_of_gt hg)).trans hr
 have hB0:Bb w.heap.size g w ((w.alloc (.cells #[.int .i64 0,.slice none 0 0,.slice none 0 0] 80)).setCell ⟨g,0,none⟩ (.int .i64 (n - 1))):=((Bb.refl w.heap.size g w).alloc (zH _) _).set 0 _
 have HB0:=zF hB0
 have Hr:=zF hr1
 have Hx1:Hid (((w.alloc (.cells #[.int .i64 0,.slice none 0 0,.slice none 0 0] 80)).setCell ⟨g,0,none⟩ (.int .i64 (n - 1))).heap[g]?=some (.cells #[.int .i64 (n - 1)] 191 (0,0))):=zF (by simpa using x1)
 have Hsz:Hid (((w.alloc (.cells #[.int .i64 0,.slice none 0 0,.slice none 0 0] 80)).setCell ⟨g,0,none⟩ (.int .i64 (n - 1))).heap.size=w.heap.size+1):=zF (by simp [World.setCell])
 obtain ⟨s,hs⟩:=eV w.heap.size
 rw [hs] at Hr HB0 Hsz hg ⊢
 have Hs:=zF hs
 clear x0 x1 h hr hr1 hB0 hs
 have z0:=zJ Hx1.out 0
 simp at z0
 by_cases h0:n - 1<0
 · go_enter Tryz.func153,Tryz.ntmps153;go_wp2;go_step3;go_upto_region 3 with fail;rw [Hs.out];generalize (w.alloc (.cells #[.int .i64 0,.slice none 0 0,.slice none 0 0] 80)).setCell ⟨g,0,none⟩ (.int .i64 (n - 1))=W1 at *;have q0:=zJ Hr.out 0;have q1:=zJ Hr.out 1;have q2:=zJ Hr.out 2;have p0:=zv Hr.out 0;have p1:=zv Hr.out 1;have p2:=zv Hr.out 2;simp only [zK,zL,zS] at q0 q1 q2;go_wp2;have r:=xM Hr.out (.int .i64 0) (.slice none 0 0) (.slice none 0 0);have r0:=zJ r 0;have r1:=zJ r 1;have r2:=zJ r 2;simp only [zK,zL,zS] at r0 r1 r2;rw [jE];refine qS (v:=.tuple #[.agg #[.int .i64 0,.slice none 0 0,.slice none 0 0],.slice none 0 0,.bool false]) (by simp [results,Tryz.results153,go_sem,r0,r1,r2]) rfl ⟨yh (gT Hx1.out (by omega) _ _ _),?_⟩;exact ((HB0.out.setCell (p:=⟨s,0,none⟩) (zH _) _).setCell (p:=⟨s,1,none⟩) (zH _) _).setCell (p:=⟨s,2,none⟩) (zH _) _
 · have hz16:z=16:=by omega
   subst hz16;go_enter Tryz.func153,Tryz.ntmps153;go_wp2;go_step3;go_upto_region 3 with fail;rw [Hs.out];generalize (w.alloc (.cells #[.int .i64 0,.slice none 0 0,.slice none 0 0] 80)).setCell ⟨g,0,none⟩ (.int .i64 (n - 1))=W1 at *;have q0:=zJ Hr.out 0;have q1:=zJ Hr.out 1;have q2:=zJ Hr.out 2;have p0:=zv Hr.out 0;have p1:=zv Hr.out 1;have p2:=zv Hr.out 2;simp only [zK,zL,zS] at q0 q1 q2;go_wp2;have r:=xM Hr.out (.int .i64 0) (.slice none 0 0) (.slice none 0 0);have r0:=zJ r 0;have r1:=zJ r 1;have r2:=zJ r 2;simp only [zK,zL,zS] at r0 r1 r2;rw [jE];refine qS (v:=.tuple #[.agg #[.int .i64 0,.slice none 0 0,.slice none 0 0],.slice none 0 0,.bool false]) (by simp [results,Tryz.results153,go_sem,r0,r1,r2]) rfl ⟨yh (gT Hx1.out (by omega) _ _ _),?_⟩;exact ((HB0.out.setCell (p:=⟨s,0,none⟩) (zH _) _).setCell (p:=⟨s,1,none⟩) (zH _) _).setCell (p:=⟨s,2,none⟩) (zH _) _
def zBq:Value→Nat
 | .slice _ n _=>n
 | _=>0
theorem pd {w w':World}{base size n:Nat}{e:TypeId}{v:Value}{xs:List Value}(h:w.ownsRow base e size v n xs) (hk:∀ k,base≤k→k<w.heap.size→w'.heap[k]?=w.heap[k]?):w'.ownsRow base e size v n xs:=by
 obtain ⟨h1,h2⟩:=h;refine ⟨h1,?_⟩;rcases h2 with h2 | ⟨g,cap,cur,e1,hg,hh,r⟩
 · exact .inl h2
 · exact .inr ⟨g,cap,cur,e1,hg,(hk g hg (qw hh)).trans hh,r⟩
theorem pc {w:World}{base size n:Nat}{e:TypeId}{v:Value}{xs:List Value}(h:w.ownsRow base e size v n xs){q:Nat}(hq:v.ownBlock=some q):base≤q∧q<w.heap.size:=by
 rcases h.2 with ⟨rfl,-⟩ | ⟨g,cap,cur,rfl,hg,hh,-⟩
 · cases hq
 · simp [Value.ownBlock] at hq;subst hq;exact ⟨hg,qw hh⟩
def Vp (b:Nat) (w:World) (v:Value) (q:Nat):Prop:=b<q∧q<w.heap.size∧some q≠v.ownBlock
theorem bH {rd:Nat→List Nat→Option (DN×List Nat×Nat)}{f left:Nat}{acc:List DN} : vL rd f left acc []=some (acc,left):=by
 cases f <;> simp [vL]
theorem tG {rd:Nat→List Nat→Option (DN×List Nat×Nat)}{f left:Nat}{acc:List DN}{b:List Nat}(hb:b≠[]) (h:rd left b=none):vL rd f left acc b=none:=by
 cases f <;> simp [vL,hb,h]
theorem bG {rd:Nat→List Nat→Option (DN×List Nat×Nat)}{f left l:Nat}{acc:List DN}{b r:List Nat}{k:DN}(hb:b≠[]) (h:rd left b=some (k,r,l)):vL rd (f+1) left acc b=vL rd f l (acc++[k]) r:=by
 rw [vL,qA hb,h]
theorem zAb {d left:Nat}{b:List Nat}(h0:left≠0) (h:vY b=none):ji (d+1) left b=none:=by rw [ji,qA h0,h]
theorem aX {d left t:Nat}{b h r:List Nat}(h0:left≠0) (hh:vY b=some (t,h,r)) (ht:t≠48):ji (d+1) left b=if jh t h then some (.mk t h [],r,left - 1) else none:=by
 rw [ji,qA h0,hh];show (if t≠48 then _ else _)=_;rw [qK ht]
def zCT (r:List Nat):Option (List DN×Nat)→Option (DN×List Nat×Nat)
 | none=>none
 | some (ks,l)=>some (.mk 48 [] ks,r,l)
theorem oE {d left:Nat}{b h r:List Nat}(h0:left≠0) (hh:vY b=some (48,h,r)):ji (d+1) left b=zCT r (vL (ji d) h.length (left - 1) [] h):=by
 rw [ji,qA h0,hh];show (if 48≠48 then _ else _)=_;rw [qA (by omega)];generalize vL (ji d) h.length (left - 1) [] h=K;cases K <;> rfl
theorem seqP {P:Nat→Prop}{g s sn:Nat}{w w':World}{l:Nat}{Ak A2:Option Addr}{ck c2:Nat}{acc:List DN}{cs:List Value}{r:List Nat}(hg:w'.heap[g]?=some (.cells #[.int .i64 (l:Int)] 191 (0,0))) (hs:s<sn) (hsz:w'.heap.size=w.heap.size) (hk:∀ q,q≠s→w'.heap[q]?=w.heap[q]?) (hown:w.ownsRow (sn+1) 80 3 (.slice Ak acc.length ck) acc.length cs) (hds:RDs w (Vp sn w (.slice Ak acc.length ck)) acc cs) (h2:RB w P A2 c2 r) (hP:∀ q,P q→q<s) :
 pJ (zCT r (some (acc,l))) P g s (.returned (.tuple #[.agg #[.int .i64 48,.slice none 0 0,.slice Ak acc.length ck],.slice A2 r.length c2,.bool true])) w':=by
 refine ⟨_,hg,rfl,_,A2,c2,rfl,?_,h2.keep fun p hp=>zT (hk _ (by have:=hP _ hp;omega))⟩
 unfold RD
 refine ⟨none,0,Ak,ck,cs,rfl,vn _ _,fun _=>⟨rfl,rfl⟩,((RS.of_own hown).keep fun p hp=>zT (hk _ (by have:=hp.1;omega))).mono fun q hq=>?_,RDs.mono (fun q hq=>?_) (wZ (fun p hp=>zT (hk _ (by have:=hp.1;omega))) hds)⟩
 · obtain ⟨q1,q2⟩:=hq;exact ⟨by omega,by omega⟩
 · obtain ⟨q1,q2,-⟩:=hq;exact ⟨by omega,by omega⟩
theorem leafP {P:Nat→Prop}{g s sz:Nat}{w w':World}{t l:Nat}{A3 A2:Option Addr}{c3 c2:Nat}{h r:List Nat}{b:Bool}(ht:t≠48) (hg:w'.heap[g]?=some (.cells #[.int .i64 (l:Int)] 191 (0,0))) (h3:RB w (In sz w.heap.size) A3 c3 h) (hs:s<sz) (hsz:w'.heap.size=w.heap.size) (hk:∀ q,q≠s→w'.heap[q]?=w.heap[q]?) (h2:RB w' P A2 c2 r) :
 pJ (if b then some (.mk t h [],r,l) else none) P g s (.returned (.tuple #[.agg #[.int .i64 (t:Int),.slice A3 h.length c3,.slice none 0 0],.slice A2 r.length c2,.bool b])) w':=by
 cases b
 · exact yh hg
 · refine ⟨_,hg,rfl,_,A2,c2,rfl,?_,h2⟩;unfold RD;refine ⟨A3,c3,none,0,[],rfl,(h3.keep fun p hp=>zT (hk _ (by have:=hp.1;omega))).mono fun q hq=>?_,fun e=>absurd e ht,RS.nil_ _ _ _,by unfold RDs;rfl⟩;obtain ⟨q1,q2⟩:=hq;exact ⟨by omega,by omega⟩
theorem zAc (d:Nat):∀ (z:Int) (left g:Nat) (P:Nat→Prop) (A:Option Addr) (c:Nat) (b:List Nat) (w:World),0≤z→z+d=16→left≤1024→w.heap[g]?=some (.cells #[.int .i64 left] 191 (0,0))→RB w P A c b→(∀ q,P q→q<w.heap.size∧q≠g) →
   Calls Tryz.prog 153 #[.pointer (some ⟨g,0,none⟩),.slice A b.length c,.int .i64 z] w fun e w'=>pJ (ji d left b) P g w.heap.size e w'∧Bb w.heap.size g w w':=by
 induction d with
 | zero =>
   intro z left g P A c b w hz0 hz hl h hb hP;rw [show ji 0 left b=none by simp [ji]];exact aV z left g P A c b.length w (.inr (by omega)) ⟨by omega,by omega⟩ h
 | succ d ih =>
 intro z left g P A c b w hz0 hz hl h hb hP;by_cases h0:left=0
 · rw [show ji (d+1) left b=none by rw [ji,qK h0]];exact aV z left g P A c b.length w (.inl (by omega)) ⟨by omega,by omega⟩ h
 obtain ⟨R,hR⟩:=eV (ji (d+1) left b);rw [hR];have HR:=zF hR;have H0:=zF h0;obtain ⟨n,hn⟩:∃ n:Int,(left:Int)=n:=⟨_,rfl⟩
 rw [hn] at h;have hn0:0<n:=by omega
 have hn1:n≤1024:=by omega
 have HN:=zF (show n - 1=((left - 1:Nat):Int) by omega);have Hl:=zF hl;have hz1:z<16:=by omega
 have HZ:=zF (show z+1+(d:Int)=16 by push_cast at hz;omega);have HP:=zF hP;have Hb:=zF hb;clear hR h0 hn hl hz hb hP;have hg:=qw h;have x0:=(zx w (.cells #[.int .i64 0,.slice none 0 0,.slice none 0 0] 80) g hg).trans h;have y0:=zJ x0 0;have f0:=zv x0 0;simp at y0;have x1:=ft x0 0 (.int .i64 (n - 1));have hr:=zP w (.cells #[.int .i64 0,.slice none 0 0,.slice none 0 0] 80);have hr1:=(zN (w.alloc (.cells #[.int .i64 0,.slice none 0 0,.slice none 0 0] 80)) ⟨g,0,none⟩ (.int .i64 (n - 1)) w.heap.size (Nat.ne_of_gt hg)).trans hr;have hB0:Bb w.heap.size g w ((w.alloc (.cells #[.int .i64 0,.slice none 0 0,.slice none 0 0] 80)).setCell ⟨g,0,none⟩ (.int .i64 (n - 1))):=((Bb.refl w.heap.size g w).alloc (zH _) _).set 0 _;have HB0:=zF hB0;have Hr:=zF hr1;have Hx1:Hid (((w.alloc (.cells #[.int .i64 0,.slice none 0 0,.slice none 0 0] 80)).setCell ⟨g,0,none⟩ (.int .i64 (n - 1))).heap[g]?=some (.cells #[.int .i64 (n - 1)] 191 (0,0))):=zF (by simpa using x1);have Hsz:Hid (((w.alloc (.cells #[.int .i64 0,.slice none 0 0,.slice none 0 0] 80)).setCell ⟨g,0,none⟩ (.int .i64 (n - 1))).heap.size=w.heap.size+1):=zF (by simp [World.setCell]);obtain ⟨s,hs⟩:=eV w.heap.size;rw [hs] at Hr HB0 Hsz hg ⊢;have Hs:=zF hs;clear x0 x1 h hr hr1 hB0 hs;have z0:=zJ Hx1.out 0;simp at z0;have hk1:¬ n - 1<0:=by omega
 have hk2:¬ 16≤z:=by omega
 go_enter Tryz.func153,Tryz.ntmps153;go_wp2;go_step3;go_upto_region 3 with fail;clear z0 f0 y0;rw [Hs.out];generalize (w.alloc (.cells #[.int .i64 0,.slice none 0 0,.slice none 0 0] 80)).setCell ⟨g,0,none⟩ (.int .i64 (n - 1))=W1 at *;have Hb1:=zF (Bb.rb Hb.out HB0.out (fun q hq=>⟨by have:=(HP.out q hq).1;have:=Hs.out;omega,(HP.out q hq).2⟩));have hP1:∀ q,P q→q<W1.heap.size:=fun q hq=>by have:=(HP.out q hq).1;have:=Hs.out;have:=Hsz.out;omega
 have HP1:=zF hP1;have HHd:=zF (zAt P A c b W1 Hb1.out hP1);clear hP1;go_wp2_with fail;refine HHd.out.mono ?_;obtain ⟨R0,hR0⟩:=eV (vY b);rw [hR0];have HR0:=zF hR0;clear hR0 HHd;rintro e w2 ⟨hH,hB2⟩;have Hr2:=zF ((hB2.block s (by have:=Hsz.out;omega)).trans Hr.out);have Hx2:=zF ((hB2.block g (by have:=Hsz.out;omega)).trans Hx1.out);have hB2':=HB0.out.trans (vw (hB2.mono (show s≤W1.heap.size by have:=Hsz.out;omega)) g);have HB2:=zF hB2';have Hsz2:=zF (show s<w2.heap.size by have:=hB2.size;have:=Hsz.out;omega);have HP2:=zF (show ∀ q,P q→q<w2.heap.size∧q≠g from fun q hq=>⟨by have:=HP1.out q hq;have:=hB2.size;omega,(HP.out q hq).2⟩);have HPs:=zF (show ∀ q,P q→q<s∧q≠g from fun q hq=>⟨by have:=(HP.out q hq).1;have:=Hs.out;omega,(HP.out q hq).2⟩);clear hB2 hB2' Hr Hx1 HB0 Hsz HP1 HP Hb Hb1;cases R0 with
 | none =>
   unfold sK at hH;subst hH;have hR:R=none:=HR.out.symm.trans (zAb H0.out HR0.out);subst hR;go_upto_region 6 with fail;have q0:=zJ Hr2.out 0;have q1:=zJ Hr2.out 1;have q2:=zJ Hr2.out 2;have p0:=zv Hr2.out 0;have p1:=zv Hr2.out 1;have p2:=zv Hr2.out 2;simp only [zK,zL,zS] at q0 q1 q2;go_wp2;have r:=xM Hr2.out (.int .i64 0) (.slice none 0 0) (.slice none 0 0);have r0:=zJ r 0;have r1:=zJ r 1;have r2:=zJ r 2;simp only [zK,zL,zS] at r0 r1 r2;rw [jE];refine qS (v:=.tuple #[.agg #[.int .i64 0,.slice none 0 0,.slice none 0 0],.slice none 0 0,.bool false]) (by simp [results,Tryz.results153,go_sem,r0,r1,r2]) rfl ⟨yh (gT Hx2.out (by omega) _ _ _),?_⟩;exact ((HB2.out.setCell (p:=⟨s,0,none⟩) (zH _) _).setCell (p:=⟨s,1,none⟩) (zH _) _).setCell (p:=⟨s,2,none⟩) (zH _) _
 | some q =>
   obtain ⟨t,h,r⟩:=q;unfold sK at hH;obtain ⟨A1,c1,A2,c2,rfl,h1,h2,ht⟩:=hH;have H1:=zF h1;have H2:=zF h2;clear h1 h2;by_cases h48:t=48;rotate_left
   · have h48':((t:Int)==48)=false:=beq_eq_false_iff_ne.2 (by omega);have hR:R=if jh t h then some (.mk t h [],r,left - 1) else none:=HR.out.symm.trans (aX H0.out HR0.out h48)
     obtain ⟨pb,hpb⟩:=eV (jh t h);rw [hpb] at hR;subst hR;have HPb:=zF hpb;have H48:=zF h48;clear hpb h48 HR HR0;go_upto_region 8 with fail;go_wp2_with fail;refine (rJ P A1 c1 h w2 H1.out (fun q hq=>(HP2.out q hq).1)).mono ?_;rintro e w3 ⟨A3,c3,rfl,hr3,hB3⟩;have Hr3:=zF hr3;have HB3:=zF hB3;have HPl:=zF (aS P A1 c1 t h w3 (H1.out.below hB3 (fun q hq=>(HP2.out q hq).1)));rw [HPb.out] at HPl;clear hr3 hB3;go_wp2_with fail;refine HPl.out.mono ?_;rintro e w4 ⟨rfl,d4,rfl⟩;have HB4:=zF (qR HB3.out d4);have Hr4:=zF (Hr3.out.keep (w':=w3.drewN d4) fun _ _=>rfl);have hsz4:(w3.drewN d4).heap.size=w3.heap.size:=rfl;rw [←hsz4] at Hr4;clear hsz4 Hr3 HB3 HPl;generalize w3.drewN d4=W4 at *;have Hq4:=zF ((HB4.out.block s Hsz2.out).trans Hr2.out);have Hx4:=zF ((HB4.out.block g (by have:=Hsz2.out;omega)).trans Hx2.out);have H24:=zF (H2.out.below HB4.out (fun q hq=>(HP2.out q hq).1));have HB5:=zF (HB2.out.trans (vw (HB4.out.mono (qt Hsz2.out)) g));have q0:=zJ Hq4.out 0;have q1:=zJ Hq4.out 1;have q2:=zJ Hq4.out 2;have p0:=zv Hq4.out 0;have p1:=zv Hq4.out 1;have p2:=zv Hq4.out 2;simp only [zK,zL,zS] at q0 q1 q2;go_wp2;have r':=xM Hq4.out (.int .i64 (t:Int)) (.slice A3 h.length c3) (.slice none 0 0);have r0:=zJ r' 0;have r1:=zJ r' 1;have r2:=zJ r' 2;simp only [zK,zL,zS] at r0 r1 r2;rw [jE];refine qS (v:=.tuple #[.agg #[.int .i64 (t:Int),.slice A3 h.length c3,.slice none 0 0],.slice A2 r.length c2,.bool pb]) (by simp [results,Tryz.results153,go_sem,r0,r1,r2]) rfl ⟨?_,?_⟩
     · refine leafP (w:=W4) (sz:=w2.heap.size) H48.out ?_ Hr4.out Hsz2.out (by simp [World.setCell]) (fun q hq=>?_) ?_
       · rw [←HN.out];exact gT Hx4.out (by omega) _ _ _
       · exact (zN _ _ _ _ hq).trans ((zN _ _ _ _ hq).trans (zN _ _ _ _ hq))
       · exact H24.out.keep fun p hp=>zT (by
           have hq:p.block≠s:=by have:=(HPs.out _ hp).1;omega
           exact (zN _ _ _ _ hq).trans ((zN _ _ _ _ hq).trans (zN _ _ _ _ hq)))
     · exact ((HB5.out.setCell (p:=⟨s,0,none⟩) (zH _) _).setCell (p:=⟨s,1,none⟩) (zH _) _).setCell (p:=⟨s,2,none⟩) (zH _) _
   subst h48;have hR:R=zCT r (vL (ji d) h.length (left - 1) [] h):=HR.out.symm.trans (oE H0.out HR0.out);obtain ⟨RK,hRK⟩:=eV (vL (ji d) h.length (left - 1) [] h);rw [hRK] at hR;subst hR;have HRK:=zF hRK;clear hRK HR HR0;have ht48:((48:Nat):Int)=48:=rfl;rw [ht48];clear ht48;obtain ⟨sn,hsn⟩:=eV w2.heap.size;rw [hsn] at Hsz2 HP2;have hn3:=zP w2 (.cells #[.int .i64 48,.slice none 0 0,.slice none 0 0] 80);rw [hsn] at hn3;have hB3:Below sn w2 (w2.alloc (.cells #[.int .i64 48,.slice none 0 0,.slice none 0 0] 80)):=(zO sn w2).alloc (by omega) _;have hz3:(w2.alloc (.cells #[.int .i64 48,.slice none 0 0,.slice none 0 0] 80)).heap.size=sn+1:=by simp;exact hsn
   have HB3:=zF hB3;have Hn3:=zF hn3;have Hz3:=zF hz3;have Hsn:=zF hsn;clear hn3 hB3 hz3 hsn;go_upto_region 10 with fail;rw [Hsn.out];generalize w2.alloc (.cells #[.int .i64 48,.slice none 0 0,.slice none 0 0] 80)=W3 at *;have Hx3:=zF ((HB3.out.block g (by have:=Hsz2.out;omega)).trans Hx2.out);rw [HN.out] at Hx3;have Hr3:=zF ((HB3.out.block s Hsz2.out).trans Hr2.out);have H13:=zF (H1.out.below HB3.out (fun q hq=>(HP2.out q hq).1));have H23:=zF (H2.out.below HB3.out (fun q hq=>(HP2.out q hq).1));have HB4:=zF (HB2.out.trans (vw (HB3.out.mono (qt Hsz2.out)) g));have H20:=zF (H2.out.keep (w':=w) fun p hp=>(HB2.out.cell (HPs.out _ hp).1 (HPs.out _ hp).2).symm);have Hl2:=zF (show left - 1+0≤1024 by have:=Hl.out;omega);clear HB2 Hx2 Hr2 H1 H2 Hsn HP2 HB3;go_step3;go_wp2;go_loopw [10] (fun v wr=>∃ (h':List Nat) (A':Option Addr) (c':Nat) (acc:List DN) (lf f:Nat) (Ak:Option Addr) (ck:Nat) (cs:List Value),v=.slice A' h'.length c'∧RB wr P A' c' h'∧wr.heap[g]?=some (.cells #[.int .i64 (lf:Int)] 191 (0,0))∧wr.heap[s]?=some (.cells #[.int .i64 0,.slice none 0 0,.slice none 0 0] 80 (0,0))∧wr.heap[sn]?=some (.cells #[.int .i64 48,.slice none 0 0,.slice Ak acc.length ck] 80 (0,0))∧wr.ownsRow (sn+1) 80 3 (.slice Ak acc.length ck) acc.length cs∧RDs wr (Vp sn wr (.slice Ak acc.length ck)) acc cs∧h'.length≤f∧vL (ji d) f lf acc h'=RK∧lf+acc.length≤1024∧Bb s g w wr∧sn+1≤wr.heap.size) (fun v _=>zBq v);case atStart =>
     exact ⟨h,A1,c1,[],left - 1,h.length,none,0,[],rfl,H13.out,Hx3.out,Hr3.out,Hn3.out,kr _ _ _ _,by unfold RDs;rfl,zH _,HRK.out,Hl2.out,HB4.out,x9 Hz3.out.symm⟩
   case round =>
     obtain ⟨h',A',c',acc,lf,f,Ak,ck,cs,rfl,hb',hx',hr',hn',hown,hds,hf,hK,hla,hB,hsz⟩:=hrel;have Hb':=zF hb';have Hx':=zF hx';have Hr':=zF hr';have Hn':=zF hn';have Hown:=zF hown;have Hds:=zF hds;have Hf:=zF hf;have HK:=zF hK;have Hla:=zF hla;have HB:=zF hB;have Hsz':=zF hsz;clear hb' hx' hr' hn' hown hds hf hK hla hB hsz H13 Hx3 Hr3 Hn3 HRK HB4 Hz3;by_cases he:h'=[]
     · subst he;have hK:=HK.out;rw [bH] at hK;subst hK;have hlen:([]:List Nat).length=0:=rfl;rw [hlen];have m0:=zJ Hn'.out 0;have m1:=zJ Hn'.out 1;have m2:=zJ Hn'.out 2;simp only [zK,zL,zS] at m0 m1 m2;have q0:=zJ Hr'.out 0;have q1:=zJ Hr'.out 1;have q2:=zJ Hr'.out 2;have p0:=zv Hr'.out 0;have p1:=zv Hr'.out 1;have p2:=zv Hr'.out 2;simp only [zK,zL,zS] at q0 q1 q2;have hs2:=Hsz2.out;have hg3:=gT Hx'.out (show g≠s by omega) (.int .i64 48) (.slice none 0 0) (.slice Ak acc.length ck);have Hg3:=zF hg3;have r':=xM Hr'.out (.int .i64 48) (.slice none 0 0) (.slice Ak acc.length ck);have H2r:=zF (Bb.rb H20.out HB.out (fun q hq=>HPs.out q hq));have Hr'':=zF r';clear hg3 r' hlen;go_wp2;have r':=Hr''.out;have r0:=zJ r' 0;have r1:=zJ r' 1;have r2:=zJ r' 2;simp only [zK,zL,zS] at r0 r1 r2;rw [jE];refine qS (v:=.tuple #[.agg #[.int .i64 48,.slice none 0 0,.slice Ak acc.length ck],.slice A2 r.length c2,.bool true]) (by simp [results,Tryz.results153,go_sem,r0,r1,r2]) rfl ⟨?_,?_⟩
       · exact seqP (w:=wr) Hg3.out hs2 (by simp [World.setCell]) (fun q hq=>(zN _ _ _ _ hq).trans ((zN _ _ _ _ hq).trans (zN _ _ _ _ hq))) Hown.out Hds.out (H2r.out.keep fun _ _=>rfl) (fun q hq=>(HPs.out q hq).1)
       · exact ((HB.out.setCell (p:=⟨s,0,none⟩) (zH _) _).setCell (p:=⟨s,1,none⟩) (zH _) _).setCell (p:=⟨s,2,none⟩) (zH _) _
     have hpos:(0:Int)<(h'.length:Int):=by
       have:=List.length_pos_iff.2 he;omega
     have He:=zF he;clear he;obtain ⟨sk,hsk⟩:=eV wr.heap.size;have hk5:=zP wr (.cells #[.int .i64 0,.slice none 0 0,.slice none 0 0] 80);rw [hsk] at hk5;have hB5:Below sk wr (wr.alloc (.cells #[.int .i64 0,.slice none 0 0,.slice none 0 0] 80)):=(zO sk wr).alloc (by omega) _;have hz5:(wr.alloc (.cells #[.int .i64 0,.slice none 0 0,.slice none 0 0] 80)).heap.size=sk+1:=by simp;exact hsk
     have HB5:=zF hB5;have Hk5:=zF hk5;have Hz5:=zF hz5;have Hsk:=zF hsk;have Hsk2:=zF (show sn+1≤sk by rw [←hsk];exact Hsz'.out);clear hk5 hB5 hz5 hsk;go_upto_region 12 with fail;rw [Hsk.out];generalize wr.alloc (.cells #[.int .i64 0,.slice none 0 0,.slice none 0 0] 80)=W5 at *;have Hx5:=zF ((HB5.out.block g (by have:=Hsz2.out;have:=Hsk2.out;omega)).trans Hx'.out);have Hr5:=zF ((HB5.out.block s (by have:=Hsz2.out;have:=Hsk2.out;omega)).trans Hr'.out);have Hn5:=zF ((HB5.out.block sn (by have:=Hsk2.out;omega)).trans Hn'.out);have HP5:=zF (show ∀ q,P q→q<W5.heap.size∧q≠g from fun q hq=>⟨by have:=(HPs.out q hq).1;have:=Hz5.out;have:=Hsk2.out;have:=Hsz2.out;omega,(HPs.out q hq).2⟩);have Hb5:=zF (Hb'.out.keep (w':=W5) fun p hp=>HB5.out.cell (by have:=(HPs.out _ hp).1;have:=Hsk2.out;have:=Hsz2.out;omega));have HB6:=zF (HB.out.trans (vw (HB5.out.mono (show s≤sk by have:=Hsk2.out;have:=Hsz2.out;omega)) g));have IH:=zF (ih (z+1) lf g P A' c' h' W5 (by omega) HZ.out (by have:=Hla.out;omega) Hx5.out Hb5.out HP5.out);clear Hx' Hr' Hn' Hb' HB;go_wp2_with fail;refine IH.out.mono ?_;rintro e w6 ⟨⟨lf2,hx6,hM⟩,hB6⟩;have hzz:=Hz5.out;have hss:=Hsk2.out;have hs2:=Hsz2.out;have Hr6:=zF ((hB6.block s (by omega) (by omega)).trans Hr5.out);have Hn6:=zF ((hB6.block sn (by omega) (by omega)).trans Hn5.out);have Hk6:=zF ((hB6.block sk (by omega) (by omega)).trans Hk5.out);have HB7:=zF (HB6.out.trans (hB6.mono (show s≤W5.heap.size by omega)));have HB56:=zF hB6;have Hx6:=zF hx6;have Hz6:=zF (show sk<w6.heap.size by have:=hB6.size;omega);clear hB6 hx6 hzz hss hs2 IH Hx5 Hr5 Hn5 Hb5 HB6;have q0:=zJ Hk6.out 0;have q1:=zJ Hk6.out 1;have q2:=zJ Hk6.out 2;have p0:=zv Hk6.out 0;have p1:=zv Hk6.out 1;have p2:=zv Hk6.out 2;simp only [zK,zL,zS] at q0 q1 q2;obtain ⟨R1,hR1⟩:=eV (ji d lf h');rw [hR1] at hM;have HR1:=zF hR1;clear hR1;cases R1 with
     | none =>
       obtain ⟨xi,B1,n1,d1,B2,n2,d2,v2,rfl⟩:=hM;have hRK:RK=none:=HK.out.symm.trans (tG He.out HR1.out);subst hRK;go_upto_region 13 with fail;have Hr7:=zF (gT Hr6.out (show s≠sk by have:=Hsk2.out;have:=Hsz2.out;omega) (.int .i64 xi) (.slice B1 n1 d1) (.slice B2 n2 d2));have Hx7:=zF (gT Hx6.out (show g≠sk by have:=Hsk2.out;have:=Hsz2.out;omega) (.int .i64 xi) (.slice B1 n1 d1) (.slice B2 n2 d2));have HB8:=zF (((HB7.out.setCell (p:=⟨sk,0,none⟩) (by have:=Hsk2.out;have:=Hsz2.out;show s≤sk;omega) (.int .i64 xi)).setCell (p:=⟨sk,1,none⟩) (by have:=Hsk2.out;have:=Hsz2.out;show s≤sk;omega) (.slice B1 n1 d1)).setCell (p:=⟨sk,2,none⟩) (by have:=Hsk2.out;have:=Hsz2.out;show s≤sk;omega) (.slice B2 n2 d2));generalize ((w6.setCell ⟨sk,0,none⟩ (.int .i64 xi)).setCell ⟨sk,1,none⟩ (.slice B1 n1 d1)).setCell ⟨sk,2,none⟩ (.slice B2 n2 d2)=W7 at *;clear q0 q1 q2 p0 p1 p2;have q0:=zJ Hr7.out 0;have q1:=zJ Hr7.out 1;have q2:=zJ Hr7.out 2;have p0:=zv Hr7.out 0;have p1:=zv Hr7.out 1;have p2:=zv Hr7.out 2;simp only [zK,zL,zS] at q0 q1 q2;go_wp2;have r:=xM Hr7.out (.int .i64 0) (.slice none 0 0) (.slice none 0 0);have r0:=zJ r 0;have r1:=zJ r 1;have r2:=zJ r 2;simp only [zK,zL,zS] at r0 r1 r2;rw [jE];refine qS (v:=.tuple #[.agg #[.int .i64 0,.slice none 0 0,.slice none 0 0],.slice none 0 0,.bool false]) (by simp [results,Tryz.results153,go_sem,r0,r1,r2]) rfl ⟨yh (gT Hx7.out (by have:=Hsz2.out;omega) _ _ _),?_⟩;exact ((HB8.out.setCell (p:=⟨s,0,none⟩) (zH _) _).setCell (p:=⟨s,1,none⟩) (zH _) _).setCell (p:=⟨s,2,none⟩) (zH _) _
     | some q =>
       obtain ⟨k,r',l'⟩:=q;obtain ⟨rfl,v,A6,c6,rfl,hRD,hRB⟩:=hM;obtain ⟨xi,B1,n1,d1,B2,n2,d2,rfl⟩:=hRD.shape;cases f with
       | zero=>exact absurd (qC (by have:=Hf.out;omega)) He.out
       | succ f =>
       have HK2:=zF ((bG He.out HR1.out).symm.trans HK.out);have Hf2:=zF (show r'.length≤f by have:=gQ HR1.out;have:=Hf.out;omega);have Hla2:=zF (show l'+(acc++[k]).length≤1024 by rw [zt];simp;have:=aW HR1.out;have:=Hla.out;omega);have Hal:=zF (show acc.length≤1024 by have:=Hla.out;omega);have Hlen:=zF (show zBq (.slice A6 r'.length c6)<zBq (.slice A' h'.length c') by have:=gQ HR1.out;simp only [zBq];omega);have hwr:=Hsk.out;have hzz:=Hz5.out;have hss:=Hsk2.out;have hs2:=Hsz2.out;have hz6:=Hz6.out;go_upto_region 13 with fail;have Hk7:=zF (xM Hk6.out (.int .i64 xi) (.slice B1 n1 d1) (.slice B2 n2 d2));have Hr7:=zF (gT Hr6.out (show s≠sk by omega) (.int .i64 xi) (.slice B1 n1 d1) (.slice B2 n2 d2));have Hx7:=zF (gT Hx6.out (show g≠sk by omega) (.int .i64 xi) (.slice B1 n1 d1) (.slice B2 n2 d2));have Hn7:=zF (gT Hn6.out (show sn≠sk by omega) (.int .i64 xi) (.slice B1 n1 d1) (.slice B2 n2 d2));have Hz7:=zF (show (((w6.setCell ⟨sk,0,none⟩ (.int .i64 xi)).setCell ⟨sk,1,none⟩ (.slice B1 n1 d1)).setCell ⟨sk,2,none⟩ (.slice B2 n2 d2)).heap.size=w6.heap.size by simp [World.setCell]);have hk7:∀ q,q≠sk→(((w6.setCell ⟨sk,0,none⟩ (.int .i64 xi)).setCell ⟨sk,1,none⟩ (.slice B1 n1 d1)).setCell ⟨sk,2,none⟩ (.slice B2 n2 d2)).heap[q]?=w6.heap[q]?:=fun q hq=>(zN _ _ _ _ hq).trans ((zN _ _ _ _ hq).trans (zN _ _ _ _ hq));have hk7':∀ q,q<sk→q≠g→(((w6.setCell ⟨sk,0,none⟩ (.int .i64 xi)).setCell ⟨sk,1,none⟩ (.slice B1 n1 d1)).setCell ⟨sk,2,none⟩ (.slice B2 n2 d2)).heap[q]?=wr.heap[q]?:=fun q hq hqg=>(hk7 q (by omega)).trans ((HB56.out.block q (by omega) hqg).trans (HB5.out.block q hq));have HB8:=zF (((HB7.out.setCell (p:=⟨sk,0,none⟩) (by show s≤sk;omega) (.int .i64 xi)).setCell (p:=⟨sk,1,none⟩) (by show s≤sk;omega) (.slice B1 n1 d1)).setCell (p:=⟨sk,2,none⟩) (by show s≤sk;omega) (.slice B2 n2 d2));have HRD7:=zF (RD.keep (w':=((w6.setCell ⟨sk,0,none⟩ (.int .i64 xi)).setCell ⟨sk,1,none⟩ (.slice B1 n1 d1)).setCell ⟨sk,2,none⟩ (.slice B2 n2 d2)) (fun p hp=>zT (hk7 _ (by have:=hp.1;omega))) hRD);have HRB7:=zF (hRB.keep (w':=((w6.setCell ⟨sk,0,none⟩ (.int .i64 xi)).setCell ⟨sk,1,none⟩ (.slice B1 n1 d1)).setCell ⟨sk,2,none⟩ (.slice B2 n2 d2)) fun p hp=>zT (hk7 _ (by have:=(HPs.out _ hp).1;omega)));have Hown7:=zF (pd (w':=((w6.setCell ⟨sk,0,none⟩ (.int .i64 xi)).setCell ⟨sk,1,none⟩ (.slice B1 n1 d1)).setCell ⟨sk,2,none⟩ (.slice B2 n2 d2)) Hown.out fun q h1 h2=>hk7' q (by omega) (by omega));have Hds7:=zF (wZ (w':=((w6.setCell ⟨sk,0,none⟩ (.int .i64 xi)).setCell ⟨sk,1,none⟩ (.slice B1 n1 d1)).setCell ⟨sk,2,none⟩ (.slice B2 n2 d2)) (fun p hp=>zT (hk7' _ (by have:=hp.2.1;omega) (by have:=hp.1;omega))) Hds.out);have Hlt:=zF (fun q=>pc (q:=q) Hown.out);generalize ((w6.setCell ⟨sk,0,none⟩ (.int .i64 xi)).setCell ⟨sk,1,none⟩ (.slice B1 n1 d1)).setCell ⟨sk,2,none⟩ (.slice B2 n2 d2)=W7 at *;clear hk7 hk7' hRD hRB q0 q1 q2 p0 p1 p2 Hk6 Hr6 Hx6 Hn6 HB7 Hown Hds HK Hf Hla HB56 HB5 Hk5;clear hwr hzz hss hs2 hz6;go_upto_region 14 with fail;have m2:=zJ Hn7.out 2;have k0:=zJ Hk7.out 0
       have k1:=zJ Hk7.out 1;have k2:=zJ Hk7.out 2;simp only [zK,zL,zS] at m2 k0 k1 k2;obtain ⟨i0,hi,hzr,hzs,hzb⟩:=wM aq;have Hz8:=zF (show (W7.alloc (.cells #[(.int .i64 xi),(.slice B1 n1 d1),(.slice B2 n2 d2)] 80)).heap.size=w6.heap.size+1 by simp;exact Hz7.out);have hr8:=jM (w:=W7) (P:=fun _=>True) #[(.int .i64 xi),(.slice B1 n1 d1),(.slice B2 n2 d2)] 80 3 1 rfl (by unfold maxLen;omega) trivial;have Hown8:=zF (pd (w':=W7.alloc (.cells #[(.int .i64 xi),(.slice B1 n1 d1),(.slice B2 n2 d2)] 80)) Hown7.out fun q h1 h2=>zx _ _ _ h2);have hb8:∀ q,q<W7.heap.size→(W7.alloc (.cells #[(.int .i64 xi),(.slice B1 n1 d1),(.slice B2 n2 d2)] 80)).heap[q]?=W7.heap[q]?:=fun q hq=>zx _ _ _ hq;have Hb8:=zF hb8;have Hr8:=zF hr8;clear hb8 hr8;go_wp2_with (at_builtin;refine jG _ rfl _ _ 78 rfl (sn+1) 80 i0 (.agg #[.int .i64 0,.slice none 0 0,.slice none 0 0]) 3 56 Tryz.underlying78 hi hzr hzs hzb rfl (by decide) _ _ _ rfl Hown8.out (fun _=>True) (some ⟨W7.heap.size,0,none⟩) 1 1 [(.int .i64 xi),(.slice B1 n1 d1),(.slice B2 n2 d2)] rfl Hr8.out (by intro u hu;simp only [ya,xT,or_false] at hu;rcases hu with rfl | rfl | rfl <;> rfl) (acc.length+1) rfl (by have:=Hal.out;unfold maxLen;omega) (by have:=Hal.out;omega) (by have:=Hz8.out;have:=Hz6.out;have:=Hsk2.out;omega) ?_);intro A9 c9 w9 hown9 hgrow9 hor9;have hss:=Hsk2.out;have hs2:=Hsz2.out;have hz6:=Hz6.out;have hz8:=Hz8.out;have hwr:=Hsk.out;have hzz:=Hz5.out;have hlt:=Hlt.out;have hz7:=Hz7.out;have hne:∀ q,q<sn+1→some q≠(Value.slice Ak acc.length ck).ownBlock:=fun q hq e=>by have:=(hlt q e.symm).1;omega
       have h9:∀ q,q<W7.heap.size→some q≠(Value.slice Ak acc.length ck).ownBlock→w9.heap[q]?=W7.heap[q]?:=fun q hq hqo=>(hgrow9.block q (by rw [hz8];omega) hqo).trans (Hb8.out q hq);have hz9:=hgrow9.size;have Hn9:=zF ((h9 sn (by omega) (hne _ (by omega))).trans Hn7.out);have Hx9:=zF ((h9 g (by omega) (hne _ (by omega))).trans Hx7.out);have Hr9:=zF ((h9 s (by omega) (hne _ (by omega))).trans Hr7.out);have HRB9:=zF (HRB7.out.keep (w':=w9) fun p hp=>zT (h9 _ (by have:=(HPs.out _ hp).1;omega) (hne _ (by have:=(HPs.out _ hp).1;omega))));have hkk:∀ q,In W5.heap.size w6.heap.size q→q<W7.heap.size∧some q≠(Value.slice Ak acc.length ck).ownBlock:=fun q hq=>⟨by have:=hq.2;omega,fun e=>by have:=(hlt q e.symm).2;have:=hq.1;omega⟩
       have Hds9:=zF (RDs.snoc (RD.mono (P':=Vp sn w9 (.slice A9 (acc.length+1) c9)) (fun q hq=>⟨by have:=hq.1;omega,by have:=hq.2;omega,fun e=>by
           rcases hor9 with h | h
           · exact (hkk q hq).2 (e.trans h)
           · rw [h] at e;injection e with e;have:=hq.2;omega⟩) (RD.keep (w':=w9) (fun p hp=>zT (h9 _ (hkk _ hp).1 (hkk _ hp).2)) HRD7.out))
         (RDs.mono (P':=Vp sn w9 (.slice A9 (acc.length+1) c9)) (fun q hq=>⟨hq.1,by have:=hq.2.1;omega,fun e=>by
           rcases hor9 with h | h
           · exact hq.2.2 (e.trans h)
           · rw [h] at e;injection e with e;have:=hq.2.1;omega⟩) (wZ (w':=w9) (fun p hp=>zT (h9 _ (by have:=hp.2.1;omega) hp.2.2)) Hds7.out)))
       have HB9:=zF (HB8.out.trans (vw (⟨hgrow9.os,hgrow9.tape,hgrow9.output,by omega,fun q hq=>h9 q (by omega) (hne _ (by omega))⟩:Below s W7 w9) g));have Hsz9:=zF (show sn+1≤w9.heap.size by omega);have Hown9:=zF hown9;clear hown9 hgrow9 hor9 hss hs2 hz6 hz8 hwr hzz hlt hz7 hne h9 hz9 hkk HRB7 HRD7 Hds7 Hown7 Hown8 Hr8 Hb8 HB8 Hr7 Hx7 Hn7 m2 k0 k1 k2 Hk7 Hz7 Hz8 Hlt;have n0:=zJ Hn9.out 0;have n1':=zJ Hn9.out 1;have n2':=zJ Hn9.out 2;have f2:=zv Hn9.out 2;simp only [zK,zL,zS] at n0 n1' n2';have hst:∀ q,q≠sn→(w9.setCell ⟨sn,2,none⟩ (.slice A9 (acc.length+1) c9)).heap[q]?=w9.heap[q]?:=fun q hq=>zN _ _ _ _ hq;have Hst:=zF hst;have Hz10:=zF (show (w9.setCell ⟨sn,2,none⟩ (.slice A9 (acc.length+1) c9)).heap.size=w9.heap.size by simp [World.setCell]);have Hn10:=zF (show (w9.setCell ⟨sn,2,none⟩ (.slice A9 (acc.length+1) c9)).heap[sn]?=some (.cells #[.int .i64 48,.slice none 0 0,.slice A9 (acc.length+1) c9] 80 (0,0)) by simpa using ft Hn9.out 2 (.slice A9 (acc.length+1) c9));have Hal2:=zF (show (acc++[k]).length=acc.length+1 by simp);clear hst;go_wp2;go_roundw;case rel =>
         have hs2:=Hsz2.out;refine ⟨r',A6,c6,acc++[k],l',f,A9,c9,cs++[.int .i64 xi,.slice B1 n1 d1,.slice B2 n2 d2],rfl,HRB9.out.keep (fun p hp=>zT (Hst.out _ (by have:=(HPs.out _ hp).1;omega))),(Hst.out g (by omega)).trans Hx9.out,(Hst.out s (by omega)).trans Hr9.out,?_,?_,?_,Hf2.out,HK2.out,Hla2.out,HB9.out.setCell (by show s≤sn;omega) _,by rw [Hz10.out];exact Hsz9.out⟩
         · rw [Hal2.out];exact Hn10.out
         · rw [Hal2.out];exact pd Hown9.out fun q h1 h2=>Hst.out q (by omega)
         · rw [Hal2.out];exact RDs.mono (fun q hq=>⟨hq.1,by rw [Hz10.out];exact hq.2.1,hq.2.2⟩) (wZ (fun p hp=>zT (Hst.out _ (by have:=hp.1;omega))) Hds9.out)
       case measure=>exact Hlen.out
def vr (b:List Nat):Option (DN×Nat) :=
 match ji 16 1024 b with
 | none=>none
 | some (t,r,_)=>if 65536<b.length - r.length then none else some (t,b.length - r.length)
def zBJ (R:Option (DN×Nat)) (s:Nat) (e:Ending) (w':World):Prop :=
 match R with
 | none=>e=.returned (.tuple #[.agg #[.int .i64 0,.slice none 0 0,.slice none 0 0],.int .i64 0,.bool false])
 | some (t,n)=>∃ v,e=.returned (.tuple #[v,.int .i64 (n:Int),.bool true])∧RD w' (In s w'.heap.size) t v
theorem zCE {w:World}{s:Nat}{t:TypeId}{a b c:Value}(h:w.heap[s]?=some (.cells #[a,b,c] t (0,0))) (u v x:Value) (o:Obj):((((w.setCell ⟨s,0,none⟩ u).setCell ⟨s,1,none⟩ v).setCell ⟨s,2,none⟩ x).alloc o).heap[s]?=some (.cells #[u,v,x] t (0,0)) :=
 (zx _ _ _ (qw (xM h u v x))).trans (xM h u v x)
theorem ot (P:Nat→Prop) (A:Option Addr) (c:Nat) (b:List Nat) (w:World) (hb:RB w P A c b) (hP:∀ q,P q→q<w.heap.size) :
   Calls Tryz.prog 112 #[.slice A b.length c] w fun e w'=>zBJ (vr b) w.heap.size e w'∧Below w.heap.size w w':=by
 obtain ⟨R,hR⟩:=eV (vr b);rw [hR];obtain ⟨hlc,hc,hl⟩:=hb.cap;have hB:=((zO w.heap.size w).alloc (zH _) (.cells #[.int .i64 0,.slice none 0 0,.slice none 0 0] 80)).alloc (by simp) (.cells #[.int .i64 1024] 191);have h0:=(zx (w.alloc (.cells #[.int .i64 0,.slice none 0 0,.slice none 0 0] 80)) (.cells #[.int .i64 1024] 191) w.heap.size (by simp)).trans (zP w _);have h1:=zP (w.alloc (.cells #[.int .i64 0,.slice none 0 0,.slice none 0 0] 80)) (.cells #[.int .i64 1024] 191);rw [qL] at h1;have hz:((w.alloc (.cells #[.int .i64 0,.slice none 0 0,.slice none 0 0] 80)).alloc (.cells #[.int .i64 1024] 191)).heap.size=w.heap.size+2:=by simp
 have hb1:=hb.below hB hP;have HB:=zF hB;have H0:=zF h0;have H1:=zF h1;have Hz:=zF hz;have Hb1:=zF hb1;have HR:=zF hR;clear hB h0 h1 hz hb1 hR hb;go_enter Tryz.func112,Tryz.ntmps112;go_wp2_with fail;obtain ⟨s,hs⟩:=eV w.heap.size;rw [hs] at HB H0 H1 Hz ⊢;have Hs:=zF hs;clear hs;generalize (w.alloc (.cells #[.int .i64 0,.slice none 0 0,.slice none 0 0] 80)).alloc (.cells #[.int .i64 1024] 191)=W1 at *;have HP:=zF (show ∀ q,P q→q<s from fun q hq=>by have:=hP q hq;have:=Hs.out;omega);clear hP;refine (zAc 16 0 1024 (s+1) P A c b W1 (by omega) (by omega) (by omega) H1.out Hb1.out (fun q hq=>by have:=HP.out q hq;have:=Hz.out;exact ⟨by omega,by omega⟩)).mono ?_;obtain ⟨R0,hR0⟩:=eV (ji 16 1024 b);rw [hR0];have HR0:=zF hR0;clear hR0;rintro e w2 ⟨⟨lf,-,hN⟩,hB2⟩;have h2:=(hB2.block s (by have:=Hz.out;omega) (by omega)).trans H0.out;have hB3:Below s w w2:=HB.out.trans ⟨hB2.os,hB2.tape,hB2.output,hB2.size,fun q hq=>hB2.block q (by have:=Hz.out;omega) (by omega)⟩;have H2:=zF h2;have HB3:=zF hB3;have Hlt:=zF (show s+2≤w2.heap.size by have:=Hz.out;have:=hB2.size;omega);clear h2 hB3 hB2 H0 H1 HB;cases R0 with
 | none =>
   obtain ⟨xi,B1,n1,d1,B2,n2,d2,v2,rfl⟩:=hN;have hR:R=none:=by rw [←HR.out];unfold vr;rw [HR0.out]
   subst hR;have hn2:=(zx w2 (.cells #[.int .i64 xi,.slice B1 n1 d1,.slice B2 n2 d2] 80) s (by have:=Hlt.out;omega)).trans H2.out;have HB4:=zF (HB3.out.alloc (by have:=Hlt.out;omega) (.cells #[.int .i64 xi,.slice B1 n1 d1,.slice B2 n2 d2] 80));go_upto_region 3 with fail;have q0:=zJ hn2 0;have q1:=zJ hn2 1;have q2:=zJ hn2 2;have p0:=zv hn2 0;have p1:=zv hn2 1;have p2:=zv hn2 2;simp only [zK,zL,zS] at q0 q1 q2;generalize w2.alloc (.cells #[.int .i64 xi,.slice B1 n1 d1,.slice B2 n2 d2] 80)=W4 at *;go_wp2;have r:=xM hn2 (.int .i64 0) (.slice none 0 0) (.slice none 0 0);have r0:=zJ r 0;have r1:=zJ r 1;have r2:=zJ r 2;simp only [zK,zL,zS] at r0 r1 r2;refine qS (v:=.tuple #[.agg #[.int .i64 0,.slice none 0 0,.slice none 0 0],.int .i64 0,.bool false]) (by simp [results,Tryz.results112,go_sem,r0,r1,r2]) rfl ⟨rfl,?_⟩;rw [Hs.out];exact ((HB4.out.setCell (p:=⟨s,0,none⟩) (zH _) _).setCell (p:=⟨s,1,none⟩) (zH _) _).setCell (p:=⟨s,2,none⟩) (zH _) _
 | some q =>
   obtain ⟨t,r,l⟩:=q;obtain ⟨-,v,A6,c6,rfl,hRD,-⟩:=hN;obtain ⟨xi,B1,n1,d1,B2,n2,d2,rfl⟩:=hRD.shape;have hn2:=(zx w2 (.cells #[.int .i64 xi,.slice B1 n1 d1,.slice B2 n2 d2] 80) s (by have:=Hlt.out;omega)).trans H2.out;have hk4:=zP w2 (.cells #[.int .i64 xi,.slice B1 n1 d1,.slice B2 n2 d2] 80);have HB4:=zF (HB3.out.alloc (by have:=Hlt.out;omega) (.cells #[.int .i64 xi,.slice B1 n1 d1,.slice B2 n2 d2] 80));have HRD4:=zF (RD.keep (w':=w2.alloc (.cells #[.int .i64 xi,.slice B1 n1 d1,.slice B2 n2 d2] 80)) (fun p hp=>zT (zx _ _ _ hp.2)) hRD);have Hz4:=zF (show (w2.alloc (.cells #[.int .i64 xi,.slice B1 n1 d1,.slice B2 n2 d2] 80)).heap.size=w2.heap.size+1 by simp);have Hln:=zF (gQ HR0.out);have HR2:Hid (R=if 65536<b.length - r.length then none else some (t,b.length - r.length)):=zF (by rw [←HR.out];unfold vr;rw [HR0.out]);obtain ⟨N,hN⟩:=eV b.length;obtain ⟨M,hM⟩:=eV r.length;rw [hN] at hlc hl ⊢;rw [hN,hM] at Hln HR2;rw [hM];clear hRD HR HR0 hN hM;have k1:IntKind.i64.wrap ((N:Int) - (M:Int))=(N:Int) - (M:Int):=by have:=Hln.out;rw [jJ];omega
   have g0:(0:Int)≤(N:Int) - (M:Int):=by have:=Hln.out;omega
   go_upto_region 3 with fail;obtain ⟨s4,hs4⟩:=eV w2.heap.size;rw [hs4] at hk4 Hz4 Hlt HRD4 ⊢;clear hs4;generalize w2.alloc (.cells #[.int .i64 xi,.slice B1 n1 d1,.slice B2 n2 d2] 80)=W4 at *;have q0:=zJ hn2 0;have q1:=zJ hn2 1;have q2:=zJ hn2 2;have p0:=zv hn2 0;have p1:=zv hn2 1;have p2:=zv hn2 2;simp only [zK,zL,zS] at q0 q1 q2;by_cases h6:65536<N - M
   · have hR:R=none:=HR2.out.trans (qK h6);subst hR;have k2:(65536:Int)<(N:Int) - (M:Int):=by omega
     go_wp2;have r:=xM hn2 (.int .i64 0) (.slice none 0 0) (.slice none 0 0);have r0:=zJ r 0;have r1:=zJ r 1;have r2:=zJ r 2;simp only [zK,zL,zS] at r0 r1 r2;refine qS (v:=.tuple #[.agg #[.int .i64 0,.slice none 0 0,.slice none 0 0],.int .i64 0,.bool false]) (by simp [results,Tryz.results112,go_sem,r0,r1,r2]) rfl ⟨rfl,?_⟩;rw [Hs.out];exact ((HB4.out.setCell (p:=⟨s,0,none⟩) (zH _) _).setCell (p:=⟨s,1,none⟩) (zH _) _).setCell (p:=⟨s,2,none⟩) (zH _) _
   · have hR:R=some (t,N - M):=HR2.out.trans (qA h6);subst hR;have k2:¬ (65536:Int)<(N:Int) - (M:Int):=by omega
     have m0:=zJ hk4 0;have m1:=zJ hk4 1;have m2:=zJ hk4 2;simp only [zK,zL,zS] at m0 m1 m2;have Hk:=zF (show ((N:Int) - (M:Int))=((N - M:Nat):Int) by have:=Hln.out;omega);have Hset:=zF (xM hn2 (.int .i64 xi) (.slice B1 n1 d1) (.slice B2 n2 d2));clear hn2 hk4;go_wp2;have r:=Hset.out;have r0:=zJ r 0;have r1:=zJ r 1;have r2:=zJ r 2;simp only [zK,zL,zS] at r0 r1 r2;refine qS (v:=.tuple #[.agg #[.int .i64 xi,.slice B1 n1 d1,.slice B2 n2 d2],.int .i64 ((N:Int) - (M:Int)),.bool true]) (by simp [results,Tryz.results112,go_sem,r0,r1,r2]) rfl ⟨⟨_,by rw [Hk.out],?_⟩,?_⟩
     · rw [Hs.out];exact RD.mono (P:=In W1.heap.size s4) (fun q hq=>⟨by have:=hq.1;have:=Hz.out;omega,by have:=hq.2;have:=Hz4.out;simp [World.setCell];omega⟩) (RD.keep (fun p hp=>zT (have hq:p.block≠s:=by have:=hp.1;have:=Hz.out;omega
         (zN _ _ _ _ hq).trans ((zN _ _ _ _ hq).trans (zN _ _ _ _ hq)))) HRD4.out)
     · rw [Hs.out];exact ((HB4.out.setCell (p:=⟨s,0,none⟩) (zH _) _).setCell (p:=⟨s,1,none⟩) (zH _) _).setCell (p:=⟨s,2,none⟩) (zH _) _
def rN (R:Option (DN×Nat)) (N s:Nat) (e:Ending) (w':World):Prop :=
 match R with
 | none=>e=.returned (.tuple #[.agg #[.int .i64 0,.slice none 0 0,.slice none 0 0],.bool false])
 | some (t,n)=>∃ v,e=.returned (.tuple #[v,.bool (n==N)])∧RD w' (In s w'.heap.size) t v
theorem ag (P:Nat→Prop) (A:Option Addr) (c:Nat) (b:List Nat) (w:World) (hb:RB w P A c b) (hP:∀ q,P q→q<w.heap.size) :
   Calls Tryz.prog 68 #[.slice A b.length c] w fun e w'=>rN (vr b) b.length w.heap.size e w'∧Below w.heap.size w w':=by
 have hB:=(zO w.heap.size w).alloc (zH _) (.cells #[.int .i64 0,.slice none 0 0,.slice none 0 0] 80);have h0:=zP w (.cells #[.int .i64 0,.slice none 0 0,.slice none 0 0] 80);have hz:(w.alloc (.cells #[.int .i64 0,.slice none 0 0,.slice none 0 0] 80)).heap.size=w.heap.size+1:=by simp
 have hb1:=hb.below hB hP;have HC:=zF (ot P A c b _ hb1 (fun q hq=>by have:=hP q hq;omega));obtain ⟨R,hR⟩:=eV (vr b);rw [hR] at HC ⊢;have HB:=zF hB;have H0:=zF h0;have Hz:=zF hz;obtain ⟨N,hN⟩:=eV b.length;rw [hN] at HC ⊢;clear hB h0 hz hb1 hb hR hN;go_enter Tryz.func68,Tryz.ntmps68;go_wp2_with fail;obtain ⟨s,hs⟩:=eV w.heap.size;rw [hs] at HB H0 Hz ⊢;have Hs:=zF hs;clear hs;refine HC.out.mono ?_;clear HC;generalize w.alloc (.cells #[.int .i64 0,.slice none 0 0,.slice none 0 0] 80)=W1 at *;rintro e w2 ⟨hRd,hB2⟩;have h2:=(hB2.block s (by have:=Hz.out;omega)).trans H0.out;have hlt:s<w2.heap.size:=by have:=Hz.out;have:=hB2.size;omega
 have HB3:=zF (HB.out.trans (hB2.mono (by have:=Hz.out;omega)));have H2:=zF h2;have Hlt:=zF hlt;clear h2 hB2 H0 hlt;cases R with
 | none =>
   unfold zBJ at hRd;subst hRd;have hn2:=(zx w2 (.cells #[.int .i64 0,.slice none 0 0,.slice none 0 0] 80) s Hlt.out).trans H2.out;have hk4:=zP w2 (.cells #[.int .i64 0,.slice none 0 0,.slice none 0 0] 80);have HB4:=zF (HB3.out.alloc (qt Hlt.out) (.cells #[.int .i64 0,.slice none 0 0,.slice none 0 0] 80));go_upto_region 2 with fail;generalize w2.alloc (.cells #[.int .i64 0,.slice none 0 0,.slice none 0 0] 80)=W4 at *;obtain ⟨s4,hs4⟩:=eV w2.heap.size;rw [hs4] at hk4 Hlt ⊢;clear hs4;have m0:=zJ hk4 0;have m1:=zJ hk4 1;have m2:=zJ hk4 2;simp only [zK,zL,zS] at m0 m1 m2;have q0:=zJ hn2 0;have q1:=zJ hn2 1;have q2:=zJ hn2 2;have p0:=zv hn2 0;have p1:=zv hn2 1;have p2:=zv hn2 2;simp only [zK,zL,zS] at q0 q1 q2;have Hset:=zF (xM hn2 (.int .i64 0) (.slice none 0 0) (.slice none 0 0));clear hn2 hk4;go_wp2;have r:=Hset.out;have r0:=zJ r 0;have r1:=zJ r 1;have r2:=zJ r 2;simp only [zK,zL,zS] at r0 r1 r2;refine qS (v:=.tuple #[.agg #[.int .i64 0,.slice none 0 0,.slice none 0 0],.bool false]) (by simp [results,Tryz.results68,go_sem,r0,r1,r2]) rfl ⟨rfl,?_⟩;rw [Hs.out];exact ((HB4.out.setCell (p:=⟨s,0,none⟩) (zH _) _).setCell (p:=⟨s,1,none⟩) (zH _) _).setCell (p:=⟨s,2,none⟩) (zH _) _
 | some q =>
   obtain ⟨t,n⟩:=q;unfold zBJ at hRd;obtain ⟨v,rfl,hRD⟩:=hRd;obtain ⟨xi,B1,n1,d1,B2,n2,d2,rfl⟩:=hRD.shape;have hn2:=(zx w2 (.cells #[.int .i64 xi,.slice B1 n1 d1,.slice B2 n2 d2] 80) s Hlt.out).trans H2.out;have hk4:=zP w2 (.cells #[.int .i64 xi,.slice B1 n1 d1,.slice B2 n2 d2] 80);have HB4:=zF (HB3.out.alloc (qt Hlt.out) (.cells #[.int .i64 xi,.slice B1 n1 d1,.slice B2 n2 d2] 80));have HRD4:=zF (RD.keep (w':=w2.alloc (.cells #[.int .i64 xi,.slice B1 n1 d1,.slice B2 n2 d2] 80)) (fun p hp=>zT (zx _ _ _ hp.2)) hRD);have Hz4:=zF (show (w2.alloc (.cells #[.int .i64 xi,.slice B1 n1 d1,.slice B2 n2 d2] 80)).heap.size=w2.heap.size+1 by simp);clear hRD;go_upto_region 2 with fail;obtain ⟨s4,hs4⟩:=eV w2.heap.size;rw [hs4] at hk4 Hz4 Hlt HRD4 ⊢;clear hs4;generalize w2.alloc (.cells #[.int .i64 xi,.slice B1 n1 d1,.slice B2 n2 d2] 80)=W4 at *;have m0:=zJ hk4 0;have m1:=zJ hk4 1;have m2:=zJ hk4 2;simp only [zK,zL,zS] at m0 m1 m2;have q0:=zJ hn2 0;have q1:=zJ hn2 1;have q2:=zJ hn2 2;have p0:=zv hn2 0;have p1:=zv hn2 1;have p2:=zv hn2 2;simp only [zK,zL,zS] at q0 q1 q2;have Hset:=zF (xM hn2 (.int .i64 xi) (.slice B1 n1 d1) (.slice B2 n2 d2));obtain ⟨bb,hbb⟩:∃ bb,(n==N)=bb:=⟨_,rfl⟩
   have hbi:((n:Int)==(N:Int))=bb:=by rw [←hbb,wh];simp;omega
   have Hbb:=zF hbb;clear hn2 hk4 hbb;go_wp2;have r:=Hset.out;have r0:=zJ r 0;have r1:=zJ r 1;have r2:=zJ r 2;simp only [zK,zL,zS] at r0 r1 r2;refine qS (v:=.tuple #[.agg #[.int .i64 xi,.slice B1 n1 d1,.slice B2 n2 d2],.bool bb]) (by simp [results,Tryz.results68,go_sem,r0,r1,r2]) rfl ⟨⟨_,by rw [Hbb.out],?_⟩,?_⟩
   · rw [Hs.out]
     exact RD.mono (P:=In W1.heap.size s4) (fun q hq=>⟨by have:=hq.1;have:=Hz.out;omega,by have:=hq.2;have:=Hz4.out;simp [World.setCell];omega⟩) (RD.keep (fun p hp=>zT (have hq:p.block≠s:=by have:=hp.1;have:=Hz.out;omega
         (zN _ _ _ _ hq).trans ((zN _ _ _ _ hq).trans (zN _ _ _ _ hq)))) HRD4.out)
   · rw [Hs.out];exact ((HB4.out.setCell (p:=⟨s,0,none⟩) (zH _) _).setCell (p:=⟨s,1,none⟩) (zH _) _).setCell (p:=⟨s,2,none⟩) (zH _) _
def up7:Nat→Nat→List Nat→List Nat
 | 0,_,out=>out
 | f+1,n,out=>if n=0 then out else up7 f (n / 128) ((128+n % 128) :: out)
def uZ (n:Nat):List Nat:=up7 9 (n / 128) [n % 128]
def ww (l:List Int):List Nat:=uZ (40*(l.getD 0 0).toNat+(l.getD 1 0).toNat)++((l.drop 2).flatMap fun z=>uZ z.toNat)
theorem rQ:∀ (f n:Nat) (out:List Nat),(up7 f n out).length≤out.length+f
 | 0,_,_=>zH _
 | f + 1, n, out => by
   rw [up7];split
   · omega
   · have:=rQ f (n / 128) ((128+n % 128) :: out);simp at this;omega
theorem pE (n:Nat):(uZ n).length≤10:=by
 have:=rQ 9 (n / 128) [n % 128];simpa [uZ] using this
theorem zCc (x:Nat):bits .or .i64 ((x:Int) % 128) 128=((128+x % 128:Nat):Int):=by
 have h1:(BitVec.ofInt 64 ((x:Int) % 128)).toNat=x % 128:=by
  rw [show (x:Int) % 128=((x % 128:Nat):Int) by omega,BitVec.ofInt_natCast,BitVec.toNat_ofNat];exact qG (by omega)
 have h2:(BitVec.ofInt 64 (128:Int)).toNat=128:=by decide
 have h3:x % 128 ||| 128=128+x % 128:=by
  have:=Nat.shiftLeft_add_eq_or_of_lt (b:=x % 128) (i:=7) (by omega) 1;rw [Nat.shiftLeft_eq] at this;rw [Nat.or_comm];rw [←this]
 show IntKind.i64.wrap ((BitVec.ofInt 64 ((x:Int) % 128) ||| BitVec.ofInt 64 (128:Int)).toNat:Int)=_;rw [BitVec.toNat_or,h1,h2,h3,jJ];omega
theorem sI (z:Int):∃ b:Nat,b<256∧z % 256=(b:Int):=⟨(z % 256).toNat,by omega,by omega⟩
theorem kw {w:World}{base b':Nat}{A:Option Addr}{c:Nat}{bs:List Nat}(h:OW w base A c bs) (hb:b'≤base):OW w b' A c bs:=by
 obtain ⟨⟨h1,h2⟩,h3⟩:=h;refine ⟨⟨h1,?_⟩,h3⟩;rcases h2 with h2 | ⟨g,cap,cur,e,hg,r⟩
 · exact .inl h2
 · exact .inr ⟨g,cap,cur,e,by omega,r⟩
theorem bX (n:Nat) (w:World) (hn:n<268435456) :
 Calls Tryz.prog 177 #[.int .i64 n] w fun e w'=>∃ A c,e=.returned (.slice A (uZ n).length c)∧OW w' w.heap.size A c (uZ n)∧Below w.heap.size w w':=by
 obtain ⟨R,hR⟩:=eV (uZ n)
 rw [hR]
 have HR:=zF hR
 clear hR
 obtain ⟨b0,hb0,he0⟩:=sI (bits .and .i64 (n:Int) 127)
 have Hb0:=zF (show b0=n % 128 by rw [i64_and127] at he0;omega)
 have hO:=zF (OW.lit w b0 hb0)
 go_enter Tryz.func177,Tryz.ntmps177
 go_wp2
 go_loopw [0,3] (fun v s wr=>∃ (x:Nat) (A:Option Addr) (c:Nat) (bs:List Nat),v=.int .i64 (x:Int)∧s=.slice A bs.length c∧OW wr w.heap.size A c bs∧0<bs.length∧bs.length≤10∧x<128 ^ (10 - bs.length)∧up7 (10 - bs.length) x bs=R∧Below w.heap.size w wr) (fun v _ _=>(intOf v).toNat)
 case atStart=>exact ⟨n / 128,_,1,[b0],by simp,rfl,hO.out,by simp,by simp,by simp;omega,by rw [Hb0.out];exact HR.out,(zO _ w).alloc (zH _) _⟩
 case round =>
  clear hO he0 hb0;obtain ⟨x,A,c,bs,rfl,rfl,hO,h0,hl,hx,hup,hB⟩:=hrel;have HUp:=zF hup;clear hup;by_cases hx0:0<x
  · obtain ⟨b,hb,hbe⟩:=sI (bits .or .i64 (bits .and .i64 (x:Int) 127) 128);have Hbe:=zF (show b=128+x % 128 by rw [i64_and127,zCc x] at hbe;omega);have hl9:bs.length≤9:=by
     rcases zz 9 bs.length with h | h
     · have:bs.length=10:=by omega
       rw [this] at hx;simp at hx;omega
     · exact h
    have hx':x / 128<128 ^ (10 - (bs.length+1)):=by
     rw [show 10 - bs.length=10 - (bs.length+1)+1 by omega,zu] at hx;exact qV (by rw [zj];exact hx)
    have HX:=zF hx';have HUp2:=zF (show up7 (10 - (bs.length+1)) (x / 128) (b :: bs)=R by rw [Hbe.out,←HUp.out,show 10 - bs.length=10 - (bs.length+1)+1 by omega,up7,qA (by omega)]);have hs:=hB.size;have HO:=zF (OW.lit wr b hb);have HR:=zF ((hO.rb (by omega)).below ((zO _ wr).alloc (zH _) (.cells #[.int .u8 (b:Int)] 5)) fun q hq=>hq.2);have hi:(0:Int)<(x:Int):=by omega
    clear hx hx' hO;go_wp2_with (at_builtin;refine yr rfl (.tmp 18) (.tmp 19) rfl wr.heap.size (bs:=[b]) rfl HO.out rfl HR.out (by simp;omega) (by simp) ?_;intro A2 c2 w2 hw2 hb2);have HB:=zF ((hB.alloc hs (.cells #[.int .u8 (b:Int)] 5)).trans (hb2.mono hs));go_roundw;case rel=>exact ⟨x / 128,A2,c2,b :: bs,by simp,rfl,kw hw2 hs,by simp,by simp;omega,by simpa using HX.out,by simpa using HUp2.out,HB.out⟩
    case measure=>simp [intOf];omega
  · have hx0':x=0:=by omega
    subst hx0';go_wp2;go_ret;have hRb:bs=R:=by rw [←HUp.out];cases 10 - bs.length <;> simp [up7]
    subst hRb;exact ⟨A,c,rfl,hO,hB⟩
def RZ (w:World) (P:Nat→Prop) (A:Option Addr) (c:Nat) (l:List Int):Prop:=RS w P 1 A l.length c (l.map fun x=>.int .i64 x)
theorem RZ.keep {w w':World}{P:Nat→Prop}{A:Option Addr}{c:Nat}{l:List Int}(h:RZ w P A c l) (hk:∀ p:Addr,P p.block→w'.cell? p=w.cell? p):RZ w' P A c l:=RS.keep h hk
theorem RZ.below {w w':World}{P:Nat→Prop}{A:Option Addr}{c:Nat}{l:List Int}{B:Nat}(h:RZ w P A c l) (hb:Below B w w') (hB:∀ b,P b→b<B):RZ w' P A c l:=RS.below h hb hB
theorem RZ.at_ {w:World}{P:Nat→Prop}{A:Option Addr}{c:Nat}{l:List Int}(h:RZ w P A c l){i:Nat}(hi:i<l.length):∃ ad,A=some ad∧P ad.block∧w.cell? (ad.add i)=some (.int .i64 (l.getD i 0)):=by
 obtain ⟨h1,h2,h3,h4⟩:=h;obtain ⟨ad,rfl,hb,hc⟩:=h4 (by omega);exact ⟨ad,rfl,hb,hc _ _ (by simp [zh,qO hi])⟩
end Go.Proofs.YtmlbicgpehchhaaGreat.Der
namespace Go.Proofs.YtmlbicgpehchhaaGreat
open Go
namespace Par
def xX (o:Oper):Bool:=match o.op with | .defer _=>false | _=>true
theorem me {o:Oper}(h:xX o=true) (c:Call):o.op≠.defer c:=fun e=>by simp [xX,e] at h
def aY (Q:Exit→Act→World→Prop):Exit→Act→World→Prop:=fun e a w=>e≠.outgrown∧Q e a w
section
variable {P:Program} {ops:Array Oper} {Q:Exit→Act→World→Prop} {md:Region.Mode} {l n:Nat}
theorem oD:¬ LetsOut (aY Q):=fun ⟨_,_,h,_⟩=>h rfl
theorem pg {o:Oper}{a:Act}{w:World}{K:Act→World→Prop}(hd:xX o=true) (hh:o.wp P a w K Q):o.wpIn (Fence.wide.inRound l) n P a w K Q:=by
 refine ⟨fun _ _=>trivial,?_⟩;rw [Oper.semAt_eq _ _ _ (me hd)];unfold Oper.wp at hh;generalize (execOp a.eval o).run P w=r at *;cases r with
 | ok x w' =>
   cases x <;> simp only [Oper.upon,Oper.uponIn] at hh ⊢;case enter f args=>exact ⟨(fun h=>by cases h),(callsIn_wide (n:=n - 1)).2 hh⟩
   case row r args=>exact ⟨(fun h=>by cases h),fun c cs _=>let ⟨v,w'',r,s⟩:=hh c cs;⟨v,w'',r,stepsIn_wide.2 s⟩⟩
   all_goals first | exact hh | exact hh.elim
 | halt x w'=>cases x <;> simp only [Oper.upon,Oper.uponIn] at hh ⊢ <;> exact hh
theorem n5 (hd:∀ (i:Nat) o,ops[i]?=some o→xX o=true) (hq:¬ LetsOut Q){i:Nat}{K K':Act→World→Prop}(hK:∀ a w,K a w→K' a w){a:Act}{w:World}(hh:wpOp P ops Q i K a w) :
 wpOpIn (Fence.wide.inRound l) n P ops Q i K' a w:=by
 unfold wpOp at hh
 unfold wpOpIn
 split
 · rename_i h;simp only [h] at hh;exact hK _ _ hh
 · rename_i o h;simp only [h] at hh;split
   · rename_i hw;simp only [hw,if_true] at hh;rcases hh with hh | hh
     · exact Oper.wpIn_mono hK (pg (hd _ _ h) hh)
     · exact absurd hh.2 hq
   · rename_i hw;simp only [hw] at hh;exact ⟨fun _ _=>trivial,hK _ _ hh⟩
theorem mK (hd:∀ (i:Nat) o,ops[i]?=some o→xX o=true) (hq:¬ LetsOut Q):∀ (fuel:Nat) (listed:Array Bool) (a:Act) (w:World),wpAny P md ops Q fuel listed a w→wpAnyIn (Fence.wide.inRound l) n P md ops Q fuel listed a w
 | 0,_,_,_,h=>h
 | fuel+1,_,_,_,h=>⟨h.1,fun i hi=>n5 hd hq (fun a' w' h'=>mK hd hq fuel _ a' w' h') (h.2 i hi)⟩
theorem aU (hd:∀ (i:Nat) o,ops[i]?=some o→xX o=true) (hq:¬ LetsOut Q):∀ (k:List Nat) (a:Act) (w:World),wpOps P ops Q k a w→wpOpsIn (Fence.wide.inRound l) n P ops Q k a w
 | [],_,_,h=>h
 | i :: k, a, w, h => by
   rw [wpOpsIn_cons];refine n5 (K:=wpOps P ops Q k) hd hq (fun a' w' h'=>aU hd hq k a' w' h') ?_;unfold wpOps at h;unfold wpOp;exact h
theorem dc {ol:List Oper}(h:ol.all xX=true) (i:Nat) (o:Oper) (ho:ol.toArray[i]?=some o):xX o=true:=by
 rw [zK] at ho;exact List.all_eq_true.1 h o (List.mem_of_getElem? ho)
theorem oh {c:Code}{a:Act}{w:World}(h:c.wpIn (Fence.wide.inRound l) n P (aY Q) a w):c.wpIn (Fence.wide.inRound l) n P Q a w:=wpIn_mono h fun _ _ _ h=>h.2
theorem br {ol:List Oper}{id:Nat}{a:Act}{w:World}(hm:P.follows .mixedOrders=true) (m:Nat) (L AL:List Nat) (R:Nat→(Nat→Value)→World→Prop) (hok:ok ol.toArray (fun i=>L.getD i 0) m=true) (pl:List (Nat×Nat)) (hpl:sel ol.toArray (fun _=>true) (List.range m)=pl) (hd:ol.all xX=true)
 (hstep:qz (js P ol (aY Q) Ext m L AL R a w) (Fin P ol (aY Q) Ext m L AL R pl a w) 0 m ol):(Code.region id ol.toArray true).wpIn (Fence.wide.inRound l) n P Q a w :=
 oh (wpIn_region_any hm (mK (dc hd) oD _ _ _ _ (cC zy (fun _ _ _=>zI) (fun _ _=>Ext.bsize) (Ext.drew w) m L AL R hok pl hpl hstep)))
theorem uI {ol:List Oper}{id:Nat}{a:Act}{w:World}(m:Nat) (L AL:List Nat) (R:Nat→(Nat→Value)→World→Prop) (hok:ok ol.toArray (fun i=>L.getD i 0) m=true) (pl:List (Nat×Nat)) (hpl:sel ol.toArray (fun _=>true) (List.range m)=pl) (hd:ol.all xX=true)
 (hstep:qz (js P ol (aY Q) Ext m L AL R a w) (Fin P ol (aY Q) Ext m L AL R pl a w) 0 m ol):(Code.region id ol.toArray false).wpIn (Fence.wide.inRound l) n P Q a w:=by
 refine oh (wpIn_region (aU (dc hd) oD _ _ _ ?_))
 have h:=cC zy (fun _ _ _=>zI) (fun _ _=>Ext.bsize) (zy w) m L AL R hok pl hpl hstep
 rw [aH] at h
 rw [List.range_eq_range']
 exact pF (ok.form hok) _ 0 a w (by omega) h
end
end Par
end Go.Proofs.YtmlbicgpehchhaaGreat
