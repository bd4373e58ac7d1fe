/- What limb.Mul computes. -/
import Derived.Test.YtendnkpiidhogaaGreatQ69313cd0f46f
import Derived.Lib.BitFns
import Derived.Lib.ItoaNum
import Derived.Deep.CutBlock
import Derived.IntWalk
import Derived.Laws.Bits64b
import Derived.WalkMore
set_option maxRecDepth 100000
set_option maxHeartbeats 16000000
namespace Go.Proofs.YtendnkpiidhogaaGreat
open Go.RowKit
theorem mul64_at (x y hi lo:Nat) (hx:x<18446744073709551616) (hy:y<18446744073709551616) (hl:lo<18446744073709551616) (he:lo+18446744073709551616*hi=x*y) (w:World) :
 Calls Tryz.prog 163 #[.int .u64 (x:Int),.int .u64 (y:Int)] w fun e w'=>e=.returned (.tuple #[.int .u64 (hi:Int),.int .u64 (lo:Int)])∧w=w' :=
 (Tryz.bits_Mul64 x y hx hy w).mono fun e w' ⟨h1, h2⟩ => by
  rw [←he,show (lo+18446744073709551616*hi) / 18446744073709551616=hi by omega,show (lo+18446744073709551616*hi) % 18446744073709551616=lo by omega] at h1
  exact ⟨h1,h2.symm⟩
theorem mul_round (x y u c:Nat) (hx:x<18446744073709551616) (hy:y<18446744073709551616) (hu:u<18446744073709551616) (hc:c<18446744073709551616) :
    ∃ hi lo s1 c1 s2 c2 : Nat, lo < 18446744073709551616 ∧ lo + 18446744073709551616 * hi = x * y ∧ s1 < 18446744073709551616 ∧ s1 + 18446744073709551616 * c1 = lo + u + 0 ∧ s2 < 18446744073709551616 ∧ s2 + 18446744073709551616 * c2 = s1 + c + 0 ∧
      c1≤1∧c2≤1∧hi+c1<18446744073709551616∧hi+c1+c2<18446744073709551616∧s2+18446744073709551616*(hi+c1+c2)=x*y+u+c:=by
  have hb:=mul_bound hx hy hu hc
  refine ⟨x*y / 18446744073709551616,x*y % 18446744073709551616,(x*y % 18446744073709551616+u) % 18446744073709551616,(x*y % 18446744073709551616+u) / 18446744073709551616,
    ((x*y % 18446744073709551616+u) % 18446744073709551616+c) % 18446744073709551616,((x*y % 18446744073709551616+u) % 18446744073709551616+c) / 18446744073709551616,?_⟩
  generalize x*y=p at *
  omega
theorem mul_any (P P':Nat→Prop) (A A':Option Addr) (c c':Nat) (a b:List Nat) (w:World) (h:RN w P A c a) (h':RN w P' A' c' b) (hP:∀ b,P b→b<w.heap.size) (hP':∀ b,P' b→b<w.heap.size) (hl:a.length<100000) (hl':b.length<100000) :
 Calls Tryz.prog 129 #[.slice A a.length c,.slice A' b.length c'] w fun e w'=>∃ A1 c1,e=.returned (.slice A1 (digs 18446744073709551616 (val 18446744073709551616 a*val 18446744073709551616 b)).length c1) ∧
  OB w' w.heap.size A1 c1 (digs 18446744073709551616 (val 18446744073709551616 a*val 18446744073709551616 b))∧Below w.heap.size w w':=by
 have ta:=Lib.hid (trim_any P A c a w h)
 have tb:=Lib.hid (trim_any P' A' c' b w h')
 have la:=digs_length_le (B:=18446744073709551616) (by omega) h.2.1
 have lb:=digs_length_le (B:=18446744073709551616) (by omega) h'.2.1
 replace h:=h.trim
 replace h':=h'.trim
 generalize val 18446744073709551616 a=x at *
 generalize val 18446744073709551616 b=y at *
 have hx:=val_digs (B:=18446744073709551616) (by omega) x
 have hy:=val_digs (B:=18446744073709551616) (by omega) y
 generalize digs 18446744073709551616 x=l at *
 generalize digs 18446744073709551616 y=m at *
 have la':l.length<100000:=by omega
 have lb':m.length<100000:=by omega
 clear la lb hl hl'
 have Hx:=Lib.hid hx
 have Hy:=Lib.hid hy
 clear hx hy
 obtain ⟨h1,h2,h3⟩:=h.cap
 obtain ⟨g1,g2,g3⟩:=h'.cap
 have hmk:=run_make_row' (P:=Tryz.prog) 106 139 (.int .u64 0) 8 Tryz.underlying106 info64 rfl .i64 .i64 (l.length+m.length) (by omega) (by omega)
 simp only [Int.natCast_add] at hmk
 go_enter Tryz.func129,Tryz.ntmps129
 go_wp2_with fail
 refine ta.out.mono ?_
 rintro e w1 ⟨rfl,rfl⟩
 go_wp2_with fail
 refine tb.out.mono ?_
 rintro e w1 ⟨rfl,rfl⟩
 go_wp2
 clear ta tb
 go_loopw [26] (fun iv wr=>∃ (i:Nat) (o:List Nat),iv=.int .i64 (i:Int)∧i≤l.length∧RowAt 18446744073709551616 l m o i∧Lim o∧Blk wr w.heap.size o∧Below w.heap.size w wr) (fun iv _=>l.length - (intOf iv).toNat)
 case atStart=>exact ⟨0,List.replicate (l.length+m.length) 0,rfl,by omega,RowAt.zero _ _ _,⟨by simp,by simp;omega⟩,Blk.made w _,(Below.refl _ w).alloc (Nat.le_refl _) _⟩
 case round =>
  obtain ⟨i,o0,rfl,hi,hR,hLo,hblk,hB⟩:=hrel
  obtain ⟨wo,rfl⟩:∃ wo,wo=wr:=⟨_,rfl⟩
  by_cases hlt:i<l.length
  · obtain ⟨ad,rfl,_,q1⟩:=(h.below hB hP).at_ hlt
    have hxi:=h.2.dgLt i
    go_wp2
    go_loopw [8,33] (fun cv jv wr=>∃ (j cr:Nat) (o:List Nat),jv=.int .i64 (j:Int)∧cv=.int .u64 (cr:Int)∧j≤m.length∧cr<18446744073709551616∧MulAt 18446744073709551616 o0 m (dg l i) i o j cr∧Lim o∧Blk wr w.heap.size o∧Below w.heap.size w wr) (fun _ jv _=>m.length - (intOf jv).toNat)
    case atStart=>exact ⟨0,0,o0,rfl,rfl,by omega,by omega,MulAt.zero _ _ _ _ _,hLo,hblk,hB⟩
    case round =>
     clear q1 hB hblk hLo
     obtain ⟨j,cr,o,rfl,rfl,hj,hcr,hM,hLo,hblk,hB⟩:=hrel
     have hol:o.length=l.length+m.length:=hM.1.trans hR.1
     by_cases hjt:j<m.length
     · obtain ⟨ae,rfl,_,q2⟩:=(h'.below hB hP').at_ hjt
       have hok:i+j<o.length:=by omega
       have q3:=hblk.cell hok
       have q4:=hblk.free (i+j)
       obtain ⟨hi',lo,s1,c1,s2,c2,b1,b2,b3,b4,b5,b6,b7,b8,b9,b10,he⟩:=mul_round (dg l i) (dg m j) (dg o (i+j)) cr hxi (h'.2.dgLt j) (hLo.dgLt _) hcr
       have hmul:=Lib.hid (fun w=>mul64_at (dg l i) (dg m j) hi' lo hxi (h'.2.dgLt j) b1 b2 w)
       have hadd1:=fun w=>add64_at lo (dg o (i+j)) 0 s1 c1 (by omega) b3 b4 w
       have hadd2:=fun w=>add64_at s1 cr 0 s2 c2 (by omega) b5 b6 w
       simp only [Int.cast_ofNat_Int] at hadd1 hadd2
       have hM':=hM.step hok he
       have hblk':=hblk.set (i+j) s2
       have hLo':=hLo.set (i+j) s2 b5
       have hB':=hB.setCell (p:=⟨w.heap.size,i+j,none⟩) (Nat.le_refl _) (.int .u64 (s2:Int))
       have k1:(i:Int)+(j:Int)<(l.length:Int)+(m.length:Int):=by omega
       clear he b2 b4 b6 hM hblk hLo hB hok hol
       go_wp2_with fail
       refine (hmul.out _).mono ?_
       rintro e w1 ⟨rfl,rfl⟩
       go_wp2
       go_roundw
       case rel=>exact ⟨j+1,hi'+c1+c2,o.set (i+j) s2,by go_num,by go_num,by omega,b10,hM',hLo',hblk',hB'⟩
       case measure=>simp [intOf];omega
     · obtain rfl:j=m.length:=by omega
       have hR':=hR.step hlt hM
       have q3:=hblk.cell (i:=i+m.length) (by omega)
       have q4:=hblk.free (i+m.length)
       have hblk':=hblk.set (i+m.length) cr
       have hLo':=hLo.set (i+m.length) cr hcr
       have hB':=hB.setCell (p:=⟨w.heap.size,i+m.length,none⟩) (Nat.le_refl _) (.int .u64 (cr:Int))
       have k1:(i:Int)+(m.length:Int)<(l.length:Int)+(m.length:Int):=by omega
       clear hM hblk hLo hB hol
       go_wp2
       go_roundw
       case rel=>exact ⟨i+1,o.set (i+m.length) cr,by go_num,by omega,hR',hLo',hblk',hB'⟩
       case measure=>simp [intOf];omega
  · obtain rfl:i=l.length:=by omega
    have hfin:=hR.fin
    rw [Hx.out,Hy.out] at hfin
    have hol:=hR.1
    have hOB:OB wo w.heap.size (some ⟨w.heap.size,0,none⟩) (l.length+m.length) o0:=OB.of_blk hblk (Nat.le_refl _) hLo (by omega) (by unfold maxLen;omega)
    have ht:=trim_any _ _ _ _ _ hOB.rn
    have hOB':=hOB.trim
    rw [hfin,hol] at ht
    rw [hfin] at hOB'
    have Ht:=Lib.hid ht
    clear hblk hLo ht hfin hOB hR hol
    go_wp2_with fail
    refine Ht.out.mono ?_
    rintro e w1 ⟨rfl,rfl⟩
    go_wp2
    go_ret
    exact ⟨_,_,rfl,hOB',hB⟩
theorem OB.recap {w:World} {base:Nat} {A:Option Addr} {c c':Nat} {l:List Nat} (h:OB w base A c l) (hc:l.length≤c') (hc':c'≤maxLen):OB w base A c' l:=⟨h.1,hc,hc',h.2.2.2⟩
theorem OB.trim32 {w:World} {base:Nat} {A:Option Addr} {c:Nat} {l:List Nat} (h:OB w base A c l) (hl:Dig l):OB w base A (digs 4294967296 (val 4294967296 l)).length (digs 4294967296 (val 4294967296 l)):=by
 obtain ⟨n,_,e⟩:=hl.cut
 rw [←e]
 have:=h.take n
 exact this.recap (Nat.le_refl _) (by have:=this.cap;unfold maxLen;omega)
theorem Dig.set {l:List Nat} (h:Dig l) (i x:Nat) (hx:x<4294967296):Dig (l.set i x):=set_lt h hx
theorem Dig.dgLt {l:List Nat} (h:Dig l) (i:Nat):dg l i<4294967296:=getD_lt (by omega) h i
theorem Dig.digs (x:Nat):Dig (Go.Proofs.YtendnkpiidhogaaGreat.digs 4294967296 x):=digs_lt (by omega) x
def FromAt (l o:List Nat) (i:Nat):Prop:=o.length=2*l.length∧Dig o∧val 4294967296 (o.take (2*i))=val 18446744073709551616 (l.take i)
theorem pow_two_mul (i:Nat):4294967296 ^ (2*i)=18446744073709551616 ^ i:=by
 rw [Nat.pow_mul]
theorem FromAt.zero (l:List Nat):FromAt l (List.replicate (2*l.length) 0) 0:=⟨by simp,by intro x hx;simp at hx;omega,by simp⟩
theorem FromAt.step {l o:List Nat} {i p q:Nat} (h:FromAt l o i) (hi:i<l.length) (hp:p<4294967296) (hq:q<4294967296) (he:p+4294967296*q=dg l i):FromAt l ((o.set (2*i) p).set (2*i+1) q) (i+1):=by
 obtain ⟨h1,h2,h3⟩:=h
 refine ⟨by simpa using h1,(h2.set _ _ hp).set _ _ hq,?_⟩
 rw [show 2*(i+1)=2*i+1+1 by omega,val_take_set _ (by simp;omega),val_take_set _ (by omega),h3,val_take_getD,←he,Nat.pow_succ,pow_two_mul]
 simp only [Nat.mul_add,Nat.mul_assoc,Nat.add_assoc]
theorem FromAt.fin {l o:List Nat} (h:FromAt l o l.length):val 4294967296 o=val 18446744073709551616 l:=by
 obtain ⟨h1,_,h3⟩:=h
 rwa [List.take_of_length_le (by omega),List.take_length] at h3
theorem from_any (P:Nat→Prop) (A:Option Addr) (c:Nat) (l:List Nat) (w:World) (h:RN w P A c l) (hP:∀ b,P b→b<w.heap.size) (hl:l.length<100000) :
 Calls Tryz.prog 153 #[.slice A l.length c] w fun e w'=>∃ A1 c1,e=.returned (.slice A1 (digs 4294967296 (val 18446744073709551616 l)).length c1) ∧
  OB w' w.heap.size A1 c1 (digs 4294967296 (val 18446744073709551616 l))∧Below w.heap.size w w':=by
 obtain ⟨h1,h2,h3⟩:=h.cap
 have hmk:=run_make_row' (P:=Tryz.prog) 90 139 (.int .u64 0) 8 Tryz.underlying90 info64 rfl .i64 .i64 (2*l.length) (by omega) (by omega)
 simp only [Int.natCast_mul,Int.cast_ofNat_Int] at hmk
 go_enter Tryz.func153,Tryz.ntmps153
 go_wp2
 go_loopw [4] (fun iv wr=>∃ (i:Nat) (o:List Nat),iv=.int .i64 (i:Int)∧i≤l.length∧FromAt l o i∧Lim o∧Blk wr w.heap.size o∧Below w.heap.size w wr) (fun iv _=>l.length - (intOf iv).toNat)
 case atStart=>exact ⟨0,List.replicate (2*l.length) 0,rfl,by omega,FromAt.zero _,⟨by simp,by simp;omega⟩,Blk.made w _,(Below.refl _ w).alloc (Nat.le_refl _) _⟩
 case round =>
  obtain ⟨i,o,rfl,hi,hF,hLo,hblk,hB⟩:=hrel
  by_cases hlt:i<l.length
  · obtain ⟨ad,rfl,had,q1⟩:=(h.below hB hP).at_ hlt
    have hol:=hF.1
    have hxi:=h.2.dgLt i
    obtain ⟨p,q,hp,hq,he,e1,e2⟩:∃ p q:Nat,p<4294967296∧q<4294967296∧p+4294967296*q=dg l i∧(dg l i:Int) % 4294967296=(p:Int)∧(dg l i:Int) / 4294967296=(q:Int) :=
     ⟨dg l i % 4294967296,dg l i / 4294967296,by omega,by omega,by omega,by omega,by omega⟩
    have q3:=hblk.cell (i:=2*i) (by omega)
    have q4:=hblk.free (2*i)
    have hblk1:=hblk.set (2*i) p
    have q5:=hblk1.cell (i:=2*i+1) (by simp;omega)
    have q6:=hblk1.free (2*i+1)
    have hblk2:=hblk1.set (2*i+1) q
    have hLo':=(hLo.set (2*i) p (by omega)).set (2*i+1) q (by omega)
    have hB1:=hB.setCell (p:=⟨w.heap.size,2*i,none⟩) (Nat.le_refl _) (.int .u64 (p:Int))
    have q7:=((h.below hB1 hP).cells i hlt)
    have hB2:=hB1.setCell (p:=⟨w.heap.size,2*i+1,none⟩) (Nat.le_refl _) (.int .u64 (q:Int))
    have hF':=hF.step hlt hp hq he
    have k1:(2:Int)*(i:Int)<2*(l.length:Int):=by omega
    have k2:(2:Int)*(i:Int)+1<2*(l.length:Int):=by omega
    clear hF hLo hblk hB hblk1 hB1 he hol hp hq
    go_wp2
    go_roundw
    case rel=>exact ⟨i+1,(o.set (2*i) p).set (2*i+1) q,by go_num,by omega,hF',hLo',hblk2,hB2⟩
    case measure=>simp [intOf];omega
  · obtain rfl:i=l.length:=by omega
    have hfin:=hF.fin
    have hOB:OB wr w.heap.size (some ⟨w.heap.size,0,none⟩) (2*l.length) o:=OB.of_blk hblk (Nat.le_refl _) hLo (by have:=hF.1;omega) (by unfold maxLen;omega)
    have ht:=refTrim_any _ _ _ _ _ hOB.rn hF.2.1
    have hOB':=hOB.trim32 hF.2.1
    rw [hfin,hF.1] at ht
    rw [hfin] at hOB'
    have Ht:=Lib.hid ht
    clear hblk hLo ht hfin hOB hF
    go_wp2_with fail
    refine Ht.out.mono ?_
    rintro e w1 ⟨rfl,rfl⟩
    go_wp2
    go_ret
    exact ⟨_,_,rfl,hOB',hB⟩
theorem refOf_any (x:Nat) (w:World) (hx:x<18446744073709551616) :
 Calls Tryz.prog 121 #[.int .u64 (x:Int)] w fun e w'=>∃ A' c',e=.returned (.slice A' (digs 4294967296 x).length c')∧OB w' w.heap.size A' c' (digs 4294967296 x)∧Below w.heap.size w w':=by
 have hv:val 18446744073709551616 [x]=x:=by simp
 have hm:=fun P A c w h hP=>from_any P A c [x] w h hP (by simp)
 rw [hv] at hm
 have Hm:=Lib.hid hm
 clear hm hv
 go_enter Tryz.func121,Tryz.ntmps121
 go_wp2_with fail
 refine (Hm.out (In w.heap.size (w.heap.size+1)) _ _ _ ⟨RS.fresh #[.int .u64 (x:Int)] 139 1 1 rfl (by unfold maxLen;omega) ⟨Nat.le_refl _,by omega⟩,by simpa [Lim] using hx⟩ (fun b hb=>by have:=hb.2;simp;omega)).mono ?_
 rintro e w1 ⟨A',c',rfl,hO,hB⟩
 go_wp2
 go_ret
 exact ⟨A',c',rfl,hO.mono (by simp),((Below.refl _ w).alloc (Nat.le_refl _) _).trans (hB.mono (by simp))⟩
theorem dg_cons_zero (a:Nat) (l:List Nat):dg (a :: l) 0=a:=rfl
theorem dg_cons_succ (a:Nat) (l:List Nat) (i:Nat):dg (a :: l) (i+1)=dg l i:=rfl
theorem take_succ_dg {l:List Nat} {k:Nat} (h:k<l.length):l.take (k+1)=l.take k++[dg l k]:=by
 rw [List.take_succ_eq_append_getElem h,dg,getD_eq' h]
theorem own_block_le {w:World} {base n size:Nat} {e:TypeId} {v:Value} {xs:List Value} (h:w.ownsRow base e size v n xs) {j:Nat} (hj:v.ownBlock=some j):base≤j:=by
 obtain ⟨h0,⟨rfl,_⟩ | ⟨g,cap,cur,rfl,hg,_⟩⟩:=h
 · simp [Value.ownBlock] at hj
 · simp [Value.ownBlock] at hj
   omega
def SameTo (l m:List Nat) (k:Nat):Prop:=∀ j,j<k→dg l j=dg m j
theorem SameTo.step {l m:List Nat} {k:Nat} (h:SameTo l m k) (he:dg l k=dg m k):SameTo l m (k+1):=fun j hj=>by
 rcases Nat.lt_or_ge j k with h1 | h1
 · exact h j h1
 · obtain rfl:j=k:=by omega
   exact he
theorem SameTo.fin {l m:List Nat} (h:SameTo l m l.length) (hl:l.length=m.length):l=m:=by
 apply List.ext_getElem hl
 intro i h1 h2
 have:=h i h1
 rwa [dg,dg,getD_eq' h1,getD_eq' h2] at this
def RL (w:World) (P:Nat→Prop) (A:Option Addr) (c:Nat) (l:List Nat):Prop:=RS w P 1 A l.length c (nts l)∧(∀ x∈l,x<18446744073709551616)∧l.length≤17592186044416
theorem RL.take {w:World} {P:Nat→Prop} {A:Option Addr} {c:Nat} {l:List Nat} (h:RL w P A c l) {n:Nat} (hn:n≤1000000) (hn':n≤l.length):RN w P A c (l.take n):=by
 have:=h.1.pre hn'
 rw [Nat.mul_one,nts_take] at this
 refine ⟨by rw [List.length_take,Nat.min_eq_left hn'];exact this,fun x hx=>h.2.1 x (List.mem_of_mem_take hx),by rw [List.length_take];omega⟩
theorem RL.below {w w':World} {P:Nat→Prop} {A:Option Addr} {c B:Nat} {l:List Nat} (h:RL w P A c l) (hb:Below B w w') (hB:∀ b,P b→b<B):RL w' P A c l:=⟨h.1.below hb hB,h.2⟩
theorem refAdd_any (P P':Nat→Prop) (A A':Option Addr) (c c':Nat) (x y:Nat) (w:World) (h:RN w P A c (digs 4294967296 x)) (h':RN w P' A' c' (digs 4294967296 y)) (hP:∀ b,P b→b<w.heap.size) (hP':∀ b,P' b→b<w.heap.size)
 (hl:(digs 4294967296 x).length<100000) (hl':(digs 4294967296 y).length<100000) :
 Calls Tryz.prog 188 #[.slice A (digs 4294967296 x).length c,.slice A' (digs 4294967296 y).length c'] w fun e w'=>∃ A1 c1,e=.returned (.slice A1 (digs 4294967296 (x+y)).length c1) ∧
  OB w' w.heap.size A1 c1 (digs 4294967296 (x+y))∧Below w.heap.size w w':=by
 have hx:=val_digs (B:=4294967296) (by omega) x
 have hy:=val_digs (B:=4294967296) (by omega) y
 have dx:=Dig.digs x
 have dy:=Dig.digs y
 generalize digs 4294967296 x=l at *
 generalize digs 4294967296 y=m at *
 have Hx:=Lib.hid hx
 have Hy:=Lib.hid hy
 clear hx hy
 obtain ⟨h1,h2,h3⟩:=h.cap
 obtain ⟨g1,g2,g3⟩:=h'.cap
 go_enter Tryz.func188,Tryz.ntmps188
 go_upto_if 14 with fail
 go_cut [5] (fun s5 wx=>∃ n:Nat,s5=.int .i64 (n:Int)∧l.length≤n∧m.length≤n∧n<100000∧w=wx)
 case first =>
  by_cases hs:l.length<m.length
  · go_wp2_with fail
    go_meet
    case rel=>exact ⟨m.length,rfl,by omega,by omega,by omega,rfl⟩
  · go_wp2_with fail
    go_meet
    case rel=>exact ⟨l.length,rfl,by omega,by omega,by omega,rfl⟩
 case rest =>
  obtain ⟨n,rfl,hln,hmn,hn,rfl⟩:=hcut
  have hmk:=run_make_row' (P:=Tryz.prog) 90 139 (.int .u64 0) 8 Tryz.underlying90 info64 rfl .i64 .i64 (n+1) (by omega) (by omega)
  simp only [Int.natCast_add,Int.cast_ofNat_Int] at hmk
  go_wp2
  go_loopw [7,8] (fun cv iv wr=>∃ (k cr:Nat) (o:List Nat),iv=.int .i64 (k:Int)∧cv=.int .u64 (cr:Int)∧k≤n+1∧(k≤n→cr≤1)∧(k=n+1→cr=0)∧AddAt 4294967296 l m o k cr∧Hid (o.length=n+1)∧Dig o∧Blk wr w.heap.size o∧Below w.heap.size w wr) (fun _ iv _=>n+1 - (intOf iv).toNat)
  case atStart=>exact ⟨0,0,List.replicate (n+1) 0,rfl,rfl,by omega,by omega,by omega,AddAt.zero _ _ _ _,Lib.hid (by simp),by intro x hx;simp at hx;omega,Blk.made w _,(Below.refl _ w).alloc (Nat.le_refl _) _⟩
  case round =>
   obtain ⟨k,cr,o,rfl,rfl,hk,hcr,hcr0,hA,Ho,hD,hblk,hB⟩:=hrel
   by_cases hlt:k≤n
   · have hok:k<o.length:=by have:=Ho.out;omega
     have q3:=hblk.cell hok
     have q4:=hblk.free k
     have hcr1:=hcr hlt
     have b1:=dx.dgLt k
     have b2:=dy.dgLt k
     obtain ⟨s,cr',hs,hcr',he,hend⟩:∃ s c':Nat,s<4294967296∧c'≤1∧s+4294967296*c'=dg l k+dg m k+cr∧(k=n→c'=0):=by
      refine ⟨(dg l k+dg m k+cr) % 4294967296,(dg l k+dg m k+cr) / 4294967296,by omega,by omega,by omega,fun e=>?_⟩
      rw [dg_none (by omega:l.length≤k),dg_none (by omega:m.length≤k)]
      omega
     have hA':=hA.step hok he
     have hblk':=hblk.set k s
     have hD':=hD.set k s hs
     have hB':=hB.setCell (p:=⟨w.heap.size,k,none⟩) (Nat.le_refl _) (.int .u64 (s:Int))
     have Ho':Hid ((o.set k s).length=n+1):=Lib.hid (by rw [List.length_set];exact Ho.out)
     have k1:(k:Int)<(n:Int)+1:=by omega
     by_cases hm1:k<l.length
     · obtain ⟨ad,rfl,had,q1⟩:=(h.below hB hP).at_ hm1
       by_cases hm2:k<m.length
       · obtain ⟨ae,rfl,hae,q2⟩:=(h'.below hB hP').at_ hm2
         have e1:((cr:Int)+(dg l k:Int)+(dg m k:Int)) % 4294967296=(s:Int):=by omega
         have e2:((cr:Int)+(dg l k:Int)+(dg m k:Int)) / 4294967296=(cr':Int):=by omega
         clear he hA hblk hD hB hok hcr
         go_wp2
         go_roundw
         case rel=>exact ⟨k+1,cr',o.set k s,by go_num,(by first | rfl | exact congrArg (Value.int .u64) e2),by omega,fun _=>hcr',fun e=>hend (by omega),hA',Ho',hD',hblk',hB'⟩
         case measure=>simp [intOf];omega
       · have e0:dg m k=0:=dg_none (by omega)
         have e1:((cr:Int)+(dg l k:Int)) % 4294967296=(s:Int):=by omega
         have e2:((cr:Int)+(dg l k:Int)) / 4294967296=(cr':Int):=by omega
         clear he hA hblk hD hB hok hcr e0
         go_wp2
         go_roundw
         case rel=>exact ⟨k+1,cr',o.set k s,by go_num,(by first | rfl | exact congrArg (Value.int .u64) e2),by omega,fun _=>hcr',fun e=>hend (by omega),hA',Ho',hD',hblk',hB'⟩
         case measure=>simp [intOf];omega
     · by_cases hm2:k<m.length
       · obtain ⟨ae,rfl,hae,q2⟩:=(h'.below hB hP').at_ hm2
         have e0:dg l k=0:=dg_none (by omega)
         have e1:((cr:Int)+(dg m k:Int)) % 4294967296=(s:Int):=by omega
         have e2:((cr:Int)+(dg m k:Int)) / 4294967296=(cr':Int):=by omega
         clear he hA hblk hD hB hok hcr e0
         go_wp2
         go_roundw
         case rel=>exact ⟨k+1,cr',o.set k s,by go_num,(by first | rfl | exact congrArg (Value.int .u64) e2),by omega,fun _=>hcr',fun e=>hend (by omega),hA',Ho',hD',hblk',hB'⟩
         case measure=>simp [intOf];omega
       · have e0:dg l k=0:=dg_none (by omega)
         have e00:dg m k=0:=dg_none (by omega)
         have e1:((cr:Int)) % 4294967296=(s:Int):=by omega
         have e2:((cr:Int)) / 4294967296=(cr':Int):=by omega
         clear he hA hblk hD hB hok hcr e0 e00
         go_wp2
         go_roundw
         case rel=>exact ⟨k+1,cr',o.set k s,by go_num,(by first | rfl | exact congrArg (Value.int .u64) e2),by omega,fun _=>hcr',fun e=>hend (by omega),hA',Ho',hD',hblk',hB'⟩
         case measure=>simp [intOf];omega
   · obtain rfl:k=n+1:=by omega
     have hcr1:=hcr0 rfl
     subst hcr1
     have hfin:val 4294967296 o=x+y:=by
      have:=hA
      unfold AddAt at this
      rwa [List.take_of_length_le (by rw [Ho.out];omega),List.take_of_length_le (by omega),List.take_of_length_le (by omega),Hx.out,Hy.out,Nat.mul_zero,Nat.add_zero] at this
     have hLo:Lim o:=⟨fun z hz=>by have:=hD z hz;omega,by rw [Ho.out];omega⟩
     have hOB:OB wr w.heap.size (some ⟨w.heap.size,0,none⟩) (n+1) o:=OB.of_blk hblk (Nat.le_refl _) hLo (by have:=Ho.out;omega) (by unfold maxLen;omega)
     have ht:=refTrim_any _ _ _ _ _ hOB.rn hD
     have hOB':=hOB.trim32 hD
     rw [hfin,Ho.out] at ht
     rw [hfin] at hOB'
     have Ht:=Lib.hid ht
     clear hblk hLo ht hfin hOB hA hcr hcr0
     go_wp2_with fail
     refine Ht.out.mono ?_
     rintro e w1 ⟨rfl,rfl⟩
     go_wp2
     go_ret
     exact ⟨_,_,rfl,hOB',hB⟩
theorem refSub_any (P P':Nat→Prop) (A A':Option Addr) (c c':Nat) (x y:Nat) (w:World) (h:RN w P A c (digs 4294967296 x)) (h':RN w P' A' c' (digs 4294967296 y)) (hP:∀ b,P b→b<w.heap.size) (hP':∀ b,P' b→b<w.heap.size)
 (hl:(digs 4294967296 x).length<100000) (hle:y≤x) :
 Calls Tryz.prog 159 #[.slice A (digs 4294967296 x).length c,.slice A' (digs 4294967296 y).length c'] w fun e w'=>∃ A1 c1,e=.returned (.slice A1 (digs 4294967296 (x - y)).length c1) ∧
  OB w' w.heap.size A1 c1 (digs 4294967296 (x - y))∧Below w.heap.size w w':=by
 have hx:=val_digs (B:=4294967296) (by omega) x
 have hy:=val_digs (B:=4294967296) (by omega) y
 have hml:=digs_length_mono (B:=4294967296) (by omega) hle
 have dx:=Dig.digs x
 have dy:=Dig.digs y
 generalize digs 4294967296 x=l at *
 generalize digs 4294967296 y=m at *
 have Hx:=Lib.hid hx
 have Hy:=Lib.hid hy
 clear hx hy
 obtain ⟨h1,h2,h3⟩:=h.cap
 obtain ⟨g1,g2,g3⟩:=h'.cap
 have hmk:=run_make_row' (P:=Tryz.prog) 90 139 (.int .u64 0) 8 Tryz.underlying90 info64 rfl .i64 .i64 l.length (by omega) (by omega)
 go_enter Tryz.func159,Tryz.ntmps159
 go_wp2
 go_loopw [6,7] (fun cv iv wr=>∃ (k cr:Nat) (o:List Nat),iv=.int .i64 (k:Int)∧cv=.int .u64 (cr:Int)∧k≤l.length∧cr≤1∧SubAt 4294967296 l m o k cr∧Hid (o.length=l.length)∧Dig o∧Blk wr w.heap.size o∧Below w.heap.size w wr) (fun _ iv _=>l.length - (intOf iv).toNat)
 case atStart=>exact ⟨0,0,List.replicate l.length 0,rfl,rfl,by omega,by omega,SubAt.zero _ _ _ _,Lib.hid (by simp),by intro x hx;simp at hx;omega,Blk.made w _,(Below.refl _ w).alloc (Nat.le_refl _) _⟩
 case round =>
  obtain ⟨k,cr,o,rfl,rfl,hk,hcr,hA,Ho,hD,hblk,hB⟩:=hrel
  by_cases hlt:k<l.length
  · have hok:k<o.length:=by have:=Ho.out;omega
    have q3:=hblk.cell hok
    have q4:=hblk.free k
    have b1:=dx.dgLt k
    have b2:=dy.dgLt k
    obtain ⟨ad,rfl,had,q1⟩:=(h.below hB hP).at_ hlt
    by_cases hm2:k<m.length
    · obtain ⟨ae,rfl,hae,q2⟩:=(h'.below hB hP').at_ hm2
      by_cases hb:dg l k<cr+dg m k
      · obtain ⟨s,hs,e1⟩:∃ s:Nat,s<4294967296∧(dg l k:Int)+4294967296 - ((cr:Int)+(dg m k:Int))=(s:Int):=⟨dg l k+4294967296 - (cr+dg m k),by omega,by omega⟩
        have hA':=hA.step (s:=s) (c':=1) hok (by omega)
        have hblk':=hblk.set k s
        have hD':=hD.set k s hs
        have hB':=hB.setCell (p:=⟨w.heap.size,k,none⟩) (Nat.le_refl _) (.int .u64 (s:Int))
        have Ho':Hid ((o.set k s).length=l.length):=Lib.hid (by rw [List.length_set];exact Ho.out)
        have t1:(dg l k:Int)<(cr:Int)+(dg m k:Int):=by omega
        clear hA hblk hD hB hok hb
        go_wp2
        go_roundw
        case rel=>exact ⟨k+1,1,o.set k s,by go_num,by go_num,by omega,by omega,hA',Ho',hD',hblk',hB'⟩
        case measure=>simp [intOf];omega
      · obtain ⟨s,hs,e1⟩:∃ s:Nat,s<4294967296∧(dg l k:Int) - ((cr:Int)+(dg m k:Int))=(s:Int):=⟨dg l k - (cr+dg m k),by omega,by omega⟩
        have hA':=hA.step (s:=s) (c':=0) hok (by omega)
        have hblk':=hblk.set k s
        have hD':=hD.set k s hs
        have hB':=hB.setCell (p:=⟨w.heap.size,k,none⟩) (Nat.le_refl _) (.int .u64 (s:Int))
        have Ho':Hid ((o.set k s).length=l.length):=Lib.hid (by rw [List.length_set];exact Ho.out)
        have t1:¬ (dg l k:Int)<(cr:Int)+(dg m k:Int):=by omega
        clear hA hblk hD hB hok hb
        go_wp2
        go_roundw
        case rel=>exact ⟨k+1,0,o.set k s,by go_num,by go_num,by omega,by omega,hA',Ho',hD',hblk',hB'⟩
        case measure=>simp [intOf];omega
    · have e0:dg m k=0:=dg_none (by omega)
      by_cases hb:dg l k<cr
      · obtain ⟨s,hs,e1⟩:∃ s:Nat,s<4294967296∧(dg l k:Int)+4294967296 - (cr:Int)=(s:Int):=⟨dg l k+4294967296 - cr,by omega,by omega⟩
        have hA':=hA.step (s:=s) (c':=1) hok (by omega)
        have hblk':=hblk.set k s
        have hD':=hD.set k s hs
        have hB':=hB.setCell (p:=⟨w.heap.size,k,none⟩) (Nat.le_refl _) (.int .u64 (s:Int))
        have Ho':Hid ((o.set k s).length=l.length):=Lib.hid (by rw [List.length_set];exact Ho.out)
        clear hA hblk hD hB hok e0
        go_wp2
        go_roundw
        case rel=>exact ⟨k+1,1,o.set k s,by go_num,by go_num,by omega,by omega,hA',Ho',hD',hblk',hB'⟩
        case measure=>simp [intOf];omega
      · obtain ⟨s,hs,e1⟩:∃ s:Nat,s<4294967296∧(dg l k:Int) - (cr:Int)=(s:Int):=⟨dg l k - cr,by omega,by omega⟩
        have hA':=hA.step (s:=s) (c':=0) hok (by omega)
        have hblk':=hblk.set k s
        have hD':=hD.set k s hs
        have hB':=hB.setCell (p:=⟨w.heap.size,k,none⟩) (Nat.le_refl _) (.int .u64 (s:Int))
        have Ho':Hid ((o.set k s).length=l.length):=Lib.hid (by rw [List.length_set];exact Ho.out)
        clear hA hblk hD hB hok e0
        go_wp2
        go_roundw
        case rel=>exact ⟨k+1,0,o.set k s,by go_num,by go_num,by omega,by omega,hA',Ho',hD',hblk',hB'⟩
        case measure=>simp [intOf];omega
  · obtain rfl:k=l.length:=by omega
    have hfin:=hA.fin Ho.out hD rfl hml (by rw [Hx.out,Hy.out];exact hle)
    rw [Hx.out,Hy.out] at hfin
    have hLo:Lim o:=⟨fun z hz=>by have:=hD z hz;omega,by rw [Ho.out];omega⟩
    have hOB:OB wr w.heap.size (some ⟨w.heap.size,0,none⟩) l.length o:=OB.of_blk hblk (Nat.le_refl _) hLo (by have:=Ho.out;omega) (by unfold maxLen;omega)
    have ht:=refTrim_any _ _ _ _ _ hOB.rn hD
    have hOB':=hOB.trim32 hD
    rw [hfin,Ho.out] at ht
    rw [hfin] at hOB'
    have Ht:=Lib.hid ht
    clear hblk hLo ht hfin hOB hA
    go_wp2_with fail
    refine Ht.out.mono ?_
    rintro e w1 ⟨rfl,rfl⟩
    go_wp2
    go_ret
    exact ⟨_,_,rfl,hOB',hB⟩
theorem refMul_any (P P':Nat→Prop) (A A':Option Addr) (c c':Nat) (x y:Nat) (w:World) (h:RN w P A c (digs 4294967296 x)) (h':RN w P' A' c' (digs 4294967296 y)) (hP:∀ b,P b→b<w.heap.size) (hP':∀ b,P' b→b<w.heap.size)
 (hl:(digs 4294967296 x).length<100000) (hl':(digs 4294967296 y).length<100000) :
 Calls Tryz.prog 156 #[.slice A (digs 4294967296 x).length c,.slice A' (digs 4294967296 y).length c'] w fun e w'=>∃ A1 c1,e=.returned (.slice A1 (digs 4294967296 (x*y)).length c1) ∧
  OB w' w.heap.size A1 c1 (digs 4294967296 (x*y))∧Below w.heap.size w w':=by
 have hx:=val_digs (B:=4294967296) (by omega) x
 have hy:=val_digs (B:=4294967296) (by omega) y
 have dx:=Dig.digs x
 have dy:=Dig.digs y
 generalize digs 4294967296 x=l at *
 generalize digs 4294967296 y=m at *
 have Hx:=Lib.hid hx
 have Hy:=Lib.hid hy
 clear hx hy
 obtain ⟨h1,h2,h3⟩:=h.cap
 obtain ⟨g1,g2,g3⟩:=h'.cap
 have hmk:=run_make_row' (P:=Tryz.prog) 90 139 (.int .u64 0) 8 Tryz.underlying90 info64 rfl .i64 .i64 (l.length+m.length) (by omega) (by omega)
 simp only [Int.natCast_add] at hmk
 go_enter Tryz.func156,Tryz.ntmps156
 go_wp2
 go_loopw [6] (fun iv wr=>∃ (i:Nat) (o:List Nat),iv=.int .i64 (i:Int)∧i≤l.length∧RowAt 4294967296 l m o i∧Dig o∧Blk wr w.heap.size o∧Below w.heap.size w wr) (fun iv _=>l.length - (intOf iv).toNat)
 case atStart=>exact ⟨0,List.replicate (l.length+m.length) 0,rfl,by omega,RowAt.zero _ _ _,by intro x hx;simp at hx;omega,Blk.made w _,(Below.refl _ w).alloc (Nat.le_refl _) _⟩
 case round =>
  obtain ⟨i,o0,rfl,hi,hR,hD,hblk,hB⟩:=hrel
  obtain ⟨wo,rfl⟩:∃ wo,wo=wr:=⟨_,rfl⟩
  by_cases hlt:i<l.length
  · obtain ⟨ad,rfl,had,q1⟩:=(h.below hB hP).at_ hlt
    have hxi:=dx.dgLt i
    go_wp2
    go_loopw [7,9] (fun cv jv wr=>∃ (j cr:Nat) (o:List Nat),jv=.int .i64 (j:Int)∧cv=.int .u64 (cr:Int)∧j≤m.length∧cr<4294967296∧MulAt 4294967296 o0 m (dg l i) i o j cr∧Dig o∧Blk wr w.heap.size o∧Below w.heap.size w wr) (fun _ jv _=>m.length - (intOf jv).toNat)
    case atStart=>exact ⟨0,0,o0,rfl,rfl,by omega,by omega,MulAt.zero _ _ _ _ _,hD,hblk,hB⟩
    case round =>
     clear q1 hB hblk hD
     obtain ⟨j,cr,o,rfl,rfl,hj,hcr,hM,hD,hblk,hB⟩:=hrel
     have hol:o.length=l.length+m.length:=hM.1.trans hR.1
     by_cases hjt:j<m.length
     · obtain ⟨ae,rfl,hae,q2⟩:=(h'.below hB hP').at_ hjt
       have hok:i+j<o.length:=by omega
       have q3:=hblk.cell hok
       have q4:=hblk.free (i+j)
       have b2:=dy.dgLt j
       have b3:=hD.dgLt (i+j)
       have hb:=mul_bound hxi b2 b3 hcr
       obtain ⟨pr,hpr⟩:∃ pr,dg l i*dg m j=pr:=⟨_,rfl⟩
       have Hpr:=Lib.hid (show (dg l i:Int)*(dg m j:Int)=(pr:Int) by rw [←hpr,Int.natCast_mul])
       rw [hpr] at hb
       obtain ⟨s,cr',hs,hcr',he⟩:∃ s c':Nat,s<4294967296∧c'<4294967296∧s+4294967296*c'=pr+dg o (i+j)+cr :=
        ⟨(pr+dg o (i+j)+cr) % 4294967296,(pr+dg o (i+j)+cr) / 4294967296,by omega,by omega,by omega⟩
       have e1:((cr:Int)+((dg o (i+j):Int)+(pr:Int))) % 4294967296=(s:Int):=by omega
       have e2:((cr:Int)+((dg o (i+j):Int)+(pr:Int))) / 4294967296=(cr':Int):=by omega
       have hM':=hM.step hok (by rw [hpr];exact he)
       have hblk':=hblk.set (i+j) s
       have hD':=hD.set (i+j) s hs
       have hB':=hB.setCell (p:=⟨w.heap.size,i+j,none⟩) (Nat.le_refl _) (.int .u64 (s:Int))
       have k1:(i:Int)+(j:Int)<(l.length:Int)+(m.length:Int):=by omega
       have k3:(pr:Int)<18446744073709551616:=by omega
       have k4:(cr:Int)+((dg o (i+j):Int)+(pr:Int))<18446744073709551616:=by omega
       clear he hM hblk hD hB hok hol hb hpr
       have hpr:=Hpr.out
       go_wp2
       go_quiet (fail)
       go_wp2
       go_roundw
       case rel=>exact ⟨j+1,cr',o.set (i+j) s,by go_num,(by first | rfl | exact congrArg (Value.int .u64) e2),by omega,hcr',hM',hD',hblk',below_drewN hB' _⟩
       case measure=>simp [intOf];omega
     · obtain rfl:j=m.length:=by omega
       have hR':=hR.step hlt hM
       have q3:=hblk.cell (i:=i+m.length) (by omega)
       have q4:=hblk.free (i+m.length)
       have hblk':=hblk.set (i+m.length) cr
       have hD':=hD.set (i+m.length) cr hcr
       have hB':=hB.setCell (p:=⟨w.heap.size,i+m.length,none⟩) (Nat.le_refl _) (.int .u64 (cr:Int))
       have k1:(i:Int)+(m.length:Int)<(l.length:Int)+(m.length:Int):=by omega
       clear hM hblk hD hB hol
       go_wp2
       go_roundw
       case rel=>exact ⟨i+1,o.set (i+m.length) cr,by go_num,by omega,hR',hD',hblk',hB'⟩
       case measure=>simp [intOf];omega
  · obtain rfl:i=l.length:=by omega
    have hfin:=hR.fin
    rw [Hx.out,Hy.out] at hfin
    have hol:=hR.1
    have hLo:Lim o0:=⟨fun z hz=>by have:=hD z hz;omega,by omega⟩
    have hOB:OB wo w.heap.size (some ⟨w.heap.size,0,none⟩) (l.length+m.length) o0:=OB.of_blk hblk (Nat.le_refl _) hLo (by omega) (by unfold maxLen;omega)
    have ht:=refTrim_any _ _ _ _ _ hOB.rn hD
    have hOB':=hOB.trim32 hD
    rw [hfin,hol] at ht
    rw [hfin] at hOB'
    have Ht:=Lib.hid ht
    clear hblk hLo ht hfin hOB hR hol
    go_wp2_with fail
    refine Ht.out.mono ?_
    rintro e w1 ⟨rfl,rfl⟩
    go_wp2
    go_ret
    exact ⟨_,_,rfl,hOB',hB⟩
end Go.Proofs.YtendnkpiidhogaaGreat

namespace Go.Proofs.YtendnkpiidhogaaGreat
def GuessAt (b u u1 y1 y0 q r:Nat):Prop:=q*y1+r=u∧(u*b+u1) / (y1*b+y0)≤q∧q≤b+1
structure GuessOk (b u u1 y1 y0:Nat):Prop where
 hb:2≤b
 hy:b≤2*y1
 hy1:y1<b
 hy0:y0<b
 hu1:u1<b
 hu:u<y1*b+y0
section
variable {b u u1 y1 y0 q r:Nat}
theorem GuessOk.start (h:GuessOk b u u1 y1 y0):GuessAt b u u1 y1 y0 (u / y1) (u - u / y1*y1)∧u - u / y1*y1<b∧u / y1*y1≤u:=by
 obtain ⟨hb,hy,hy1,hy0,hu1,hu⟩:=h
 have h1:u / y1*y1≤u:=Nat.div_mul_le_self u y1
 have h2:u<u / y1*y1+y1:=Nat.lt_div_mul_add (by omega)
 generalize hG:u / y1=G at *
 have h3:G≤b+1:=by
  rcases Nat.lt_or_ge (b+1) G with h | h
  · have h6:(b+2)*y1≤G*y1:=Nat.mul_le_mul_right _ h
    rw [Nat.add_mul,Nat.mul_comm b] at h6
    omega
  · exact h
 have h4:(u*b+u1) / (y1*b+y0)≤G:=by
  apply Nat.le_of_lt_succ
  apply Nat.div_lt_of_lt_mul
  have h5:(y1*b+y0)*(G+1)=(G*y1+y1)*b+y0*(G+1):=by
   rw [Nat.mul_add,Nat.add_mul,Nat.mul_one,Nat.mul_add,Nat.mul_one,Nat.add_mul,Nat.mul_right_comm,Nat.mul_comm y1 G]
   omega
  have h7:(u+1)*b≤(G*y1+y1)*b:=Nat.mul_le_mul_right _ h2
  rw [Nat.add_mul,Nat.one_mul] at h7
  show _<_*(G+1)
  rw [h5]
  omega
 unfold GuessAt
 generalize G*y1=p at *
 exact ⟨⟨by omega,h4,h3⟩,by omega,h1⟩
theorem GuessOk.quo_lt (h:GuessOk b u u1 y1 y0):(u*b+u1) / (y1*b+y0)<b:=by
 obtain ⟨hb,hy,hy1,hy0,hu1,hu⟩:=h
 apply Nat.div_lt_of_lt_mul
 have h1:(u+1)*b≤(y1*b+y0)*b:=Nat.mul_le_mul_right _ hu
 rw [Nat.add_mul,Nat.one_mul] at h1
 omega
theorem GuessAt.le (h:GuessOk b u u1 y1 y0) (hg:GuessAt b u u1 y1 y0 q r) (hd:q*y0≤b*r+u1):q=(u*b+u1) / (y1*b+y0):=by
 obtain ⟨h1,h2,h3⟩:=hg
 have hD:0<y1*b+y0:=by have:=Nat.mul_pos (show 0<y1 by have:=h.hy;have:=h.hb;omega) (show 0<b by have:=h.hb;omega);omega
 refine Nat.le_antisymm ((Nat.le_div_iff_mul_le hD).2 ?_) h2
 have e:q*(y1*b+y0)=q*y1*b+q*y0:=by rw [Nat.mul_add,Nat.mul_assoc]
 have e2:u*b=q*y1*b+b*r:=by rw [←h1,Nat.add_mul,Nat.mul_comm r]
 omega
theorem GuessAt.gt (h:GuessOk b u u1 y1 y0) (hg:GuessAt b u u1 y1 y0 q r) (hd:b≤q∨b*r+u1<q*y0):(u*b+u1) / (y1*b+y0)<q:=by
 obtain ⟨h1,h2,h3⟩:=hg
 rcases hd with hd | hd
 · have:=h.quo_lt;omega
 · apply Nat.div_lt_of_lt_mul
   have e:(y1*b+y0)*q=q*y1*b+q*y0:=by rw [Nat.mul_comm,Nat.mul_add,Nat.mul_assoc]
   have e2:u*b=q*y1*b+b*r:=by rw [←h1,Nat.add_mul,Nat.mul_comm r]
   omega
theorem GuessAt.step (h:GuessOk b u u1 y1 y0) (hg:GuessAt b u u1 y1 y0 q r) (hd:b≤q∨b*r+u1<q*y0):GuessAt b u u1 y1 y0 (q - 1) (r+y1)∧1≤q:=by
 have h4:=hg.gt h hd
 obtain ⟨h1,h2,h3⟩:=hg
 obtain ⟨n,rfl⟩:∃ n,q=n+1:=⟨q - 1,by have:=Nat.zero_le ((u*b+u1) / (y1*b+y0));omega⟩
 refine ⟨⟨?_,by rw [Nat.add_sub_cancel];exact Nat.le_of_lt_succ h4,by omega⟩,by omega⟩
 rw [Nat.add_mul] at h1
 rw [Nat.add_sub_cancel]
 omega
theorem GuessAt.out (h:GuessOk b u u1 y1 y0) (hg:GuessAt b u u1 y1 y0 q r) (hq:q≤b) (hr:b≤r):q=(u*b+u1) / (y1*b+y0):=by
 refine hg.le h ?_
 have h1:q*y0≤b*b:=Nat.mul_le_mul hq (by have:=h.hy0;omega)
 have h2:b*b≤b*r:=Nat.mul_le_mul_left _ hr
 omega
theorem GuessAt.mul_le (hg:GuessAt b u u1 y1 y0 q r) (hy0:y0<b):q*y0<b*b:=by
 obtain ⟨_,_,h3⟩:=hg
 obtain ⟨n,rfl⟩:∃ n,b=n+1:=⟨b - 1,by omega⟩
 have h1:q*y0≤(n+2)*n:=Nat.mul_le_mul (by omega) (by omega)
 have h2:(n+2)*n=n*n+2*n:=by rw [Nat.add_mul]
 have h3:(n+1)*(n+1)=n*n+2*n+1:=by simp only [Nat.add_mul,Nat.mul_add];omega
 omega
end
theorem rest_of {N D:Nat} (hD:0<D):N / D*D≤N∧N - N / D*D<D:=by
 have h1:=Nat.div_mul_le_self N D
 have h2:=Nat.lt_div_mul_add (a:=N) hD
 omega
theorem two_steps {b N D u1 u0:Nat} (hD:0<D) (r q0:Nat) (hr:r=N*b+u1 - (N*b+u1) / D*D) (hq:q0=(r*b+u0) / D) :
 (N*b+u1) / D*b+q0=((N*b+u1)*b+u0) / D∧r*b+u0 - q0*D=((N*b+u1)*b+u0) % D:=by
 have h1:=rest_of (N:=N*b+u1) hD
 generalize N*b+u1=M at *
 have e:M=M / D*D+r:=by omega
 have e2:M*b+u0=(M / D*b)*D+(r*b+u0):=by
  have:M*b=(M / D*D+r)*b:=by rw [←e]
  rw [this,Nat.add_mul,Nat.mul_right_comm,Nat.add_assoc]
 have hd:(M*b+u0) / D=M / D*b+(r*b+u0) / D:=by
  rw [e2,Nat.add_comm,Nat.add_mul_div_right _ _ hD,Nat.add_comm]
 have hm:(M*b+u0) % D=(r*b+u0) % D:=by
  rw [e2,Nat.add_comm,Nat.add_mul_mod_self_right]
 rw [hd,hm,hq]
 refine ⟨rfl,?_⟩
 have h5:=Nat.div_add_mod (r*b+u0) D
 have h6:(r*b+u0) / D*D=D*((r*b+u0) / D):=Nat.mul_comm _ _
 omega
theorem le_of_log {y k:Nat} (hy:y≠0) (h:Lib.bitLen y=k) (hlt:y<18446744073709551616):1≤k∧k≤64∧2 ^ (k - 1)≤y∧y<2 ^ k:=by
 have h1:=Lib.bitLenAux_bounds 64 y hlt hy
 have h2:=Lib.bitLen_le y 64 (Nat.le_refl _) hlt
 subst h
 exact ⟨h1.1,h2,h1.2⟩
theorem shift_of {y:Nat} (hy:y≠0) (hlt:y<18446744073709551616):∃ s,s<64∧Lib.bitLen y=64 - s∧9223372036854775808≤y*2 ^ s∧y*2 ^ s<18446744073709551616:=by
 obtain ⟨h1,h2,h3,h4⟩:=le_of_log hy rfl hlt
 refine ⟨64 - Lib.bitLen y,by omega,by omega,?_,?_⟩
 · have:2 ^ (Lib.bitLen y - 1)*2 ^ (64 - Lib.bitLen y)≤y*2 ^ (64 - Lib.bitLen y):=Nat.mul_le_mul_right _ h3
   rw [←Nat.pow_add,show Lib.bitLen y - 1+(64 - Lib.bitLen y)=63 by omega] at this
   simpa using this
 · have:y*2 ^ (64 - Lib.bitLen y)<2 ^ Lib.bitLen y*2 ^ (64 - Lib.bitLen y):=Nat.mul_lt_mul_of_pos_right h4 (Nat.pow_pos (by omega))
   rw [←Nat.pow_add,show Lib.bitLen y+(64 - Lib.bitLen y)=64 by omega] at this
   simpa using this
theorem moved {hi lo y s:Nat} (hs:s<64) (hlo:lo<18446744073709551616) (h:hi<y) (hy:y*2 ^ s<18446744073709551616) :
 hi*2 ^ s+lo / 2 ^ (64 - s)<y*2 ^ s∧lo / 2 ^ (64 - s)<2 ^ s∧(hi*2 ^ s+lo / 2 ^ (64 - s))*18446744073709551616+lo*2 ^ s % 18446744073709551616=(hi*18446744073709551616+lo)*2 ^ s∧hi*2 ^ s<18446744073709551616:=by
 have e64:(18446744073709551616:Nat)=2 ^ s*2 ^ (64 - s):=by rw [←Nat.pow_add,show s+(64 - s)=64 by omega]
 have h1:lo / 2 ^ (64 - s)<2 ^ s:=by
  apply Nat.div_lt_of_lt_mul
  rw [Nat.mul_comm,←e64];exact hlo
 have h2:(hi+1)*2 ^ s≤y*2 ^ s:=Nat.mul_le_mul_right _ h
 rw [Nat.add_mul,Nat.one_mul] at h2
 refine ⟨by omega,h1,?_,by have:=Nat.pow_pos (n:=s) (show 0<2 by omega);omega⟩
 have h3:lo*2 ^ s / 18446744073709551616=lo / 2 ^ (64 - s):=by
  rw [e64,Nat.mul_comm lo,Nat.mul_div_mul_left _ _ (Nat.pow_pos (by omega))]
 have h4:=Nat.div_add_mod (lo*2 ^ s) 18446744073709551616
 rw [h3] at h4
 rw [Nat.add_mul,Nat.add_mul,Nat.mul_right_comm hi]
 omega
end Go.Proofs.YtendnkpiidhogaaGreat
namespace Go.Proofs.YtendnkpiidhogaaGreat
open Go.RowKit
theorem or_shift (i a b:Nat) (h:b<2 ^ i):a*2 ^ i ||| b=a*2 ^ i+b:=by
 rw [Nat.mul_comm,Nat.two_pow_add_eq_or_of_lt h]
theorem mask32 (x:Nat):x &&& 4294967295=x % 4294967296:=by
 have h:=Nat.and_two_pow_sub_one_eq_mod x 32
 rwa [show 2 ^ 32 - 1=4294967295 by decide,show 2 ^ 32=4294967296 by decide] at h
theorem and_mask32 (x:Nat) (hx:x<18446744073709551616):bits .and .u64 (x:Int) 4294967295=((x % 4294967296:Nat):Int):=by
 have h:=bits_and_u64_nat x 4294967295 hx (by omega)
 rw [mask32] at h
 exact h
theorem halves (x:Nat) (hx:x<18446744073709551616):∃ a b:Nat,a<4294967296∧b<4294967296∧a*4294967296+b=x∧(x:Int) / 4294967296=(a:Int)∧bits .and .u64 (x:Int) 4294967295=(b:Int):=by
 have h:=Nat.div_add_mod x 4294967296
 have h2:=Nat.mod_lt x (show 0<4294967296 by omega)
 have h3:=and_mask32 x hx
 have h4:(x:Int) / 4294967296=((x / 4294967296:Nat):Int):=by omega
 generalize x / 4294967296=a at *
 generalize x % 4294967296=b at *
 exact ⟨a,b,by omega,h2,by omega,h4,h3⟩
theorem join4 (a b c d:Nat) (h:b*4294967296+c=d):(a*4294967296+b)*4294967296+c=a*18446744073709551616+d:=by
 rw [←h,Nat.add_mul,Nat.mul_assoc,Nat.add_assoc]
theorem wrap_diff (a b r k l:Nat) (h:b+r=a) (hr:r<18446744073709551616):IntKind.u64.wrap (((a - 18446744073709551616*k:Int)) - ((b:Int) - 18446744073709551616*l))=(r:Int):=by
 simp [IntKind.wrap,IntKind.bits,IntKind.signed]
 omega
theorem ret_uu {a b c d:Int} (h:a=b) (h':c=d):Ending.returned (.tuple #[.int .u64 a,.int .u64 c])=.returned (.tuple #[.int .u64 b,.int .u64 d]):=by rw [h,h']
theorem div64_zero (lo y:Nat) (w:World) (hlo:lo<18446744073709551616) (hy:0<y) (hy':y<18446744073709551616) :
 Calls Tryz.prog 232 #[.int .u64 0,.int .u64 (lo:Int),.int .u64 (y:Int)] w fun e w'=>e=.returned (.tuple #[.int .u64 ((lo / y:Nat):Int),.int .u64 ((lo % y:Nat):Int)])∧∃ n,w'=w.drewN n:=by
 have h0:((y:Int)==0)=false:=eqB (by omega)
 have h1:(0:Int)<(y:Int):=by omega
 have hq:IntKind.u64.wrap ((lo:Int) / (y:Int))=((lo / y:Nat):Int):=by
  have h:lo / y≤lo:=Nat.div_le_self lo y
  rw [←Int.natCast_ediv]
  generalize lo / y=z at *
  exact IntWalk.u64_in _ (by omega)
 go_enter Tryz.func232,Tryz.ntmps232
 go_wp2
 go_quiet (fail)
 go_wp2
 go_ret2
 exact ⟨ret_uu (by simp) (by simp),_,rfl⟩
theorem div64_pos (hi lo y:Nat) (w:World) (hlo:lo<18446744073709551616) (h0:0<hi) (hhi:hi<y) (hy':y<18446744073709551616) :
 Calls Tryz.prog 232 #[.int .u64 (hi:Int),.int .u64 (lo:Int),.int .u64 (y:Int)] w fun e w'=>e=.returned (.tuple #[.int .u64 (((hi*18446744073709551616+lo) / y:Nat):Int),.int .u64 (((hi*18446744073709551616+lo) % y:Nat):Int)])∧∃ n,w'=w.drewN n:=by
 have n0:((y:Int)==0)=false:=eqB (by omega)
 have n1:((hi:Int)==0)=false:=eqB (by omega)
 have n2:¬ (y:Int)≤(hi:Int):=by omega
 obtain ⟨s,hs,hbl,hY1,hY2⟩:=shift_of (y:=y) (by omega) hy'
 have hlz:=(Tryz.bits_LeadingZeros64 (y:Int) w (by omega) (by omega))
 rw [Int.toNat_natCast,hbl,show (64 - ((64 - s:Nat):Int))=(s:Int) by omega] at hlz
 have Hlz:=Lib.hid hlz
 clear hlz hbl
 obtain ⟨m1,m2,m3,m4⟩:=moved hs hlo hhi hY2
 obtain ⟨H,hH⟩:∃ H,hi*2 ^ s=H:=⟨_,rfl⟩
 obtain ⟨L1,hL1⟩:∃ L1,lo / 2 ^ (64 - s)=L1:=⟨_,rfl⟩
 obtain ⟨Y,hY⟩:∃ Y,y*2 ^ s=Y:=⟨_,rfl⟩
 obtain ⟨L,hL⟩:∃ L,lo*2 ^ s % 18446744073709551616=L:=⟨_,rfl⟩
 have hor:H ||| L1=H+L1:=by rw [←hH];exact or_shift s hi L1 (by rw [←hL1];exact m2)
 have f1:IntKind.u64.wrap ((y:Int)*2 ^ s)=(Y:Int):=by
  rw [show ((y:Int)*2 ^ s)=(Y:Int) by rw [←hY];simp]
  exact IntWalk.u64_in _ (by omega)
 have f4:IntKind.u64.wrap ((hi:Int)*2 ^ s)=(H:Int):=by
  rw [show ((hi:Int)*2 ^ s)=(H:Int) by rw [←hH];simp]
  exact IntWalk.u64_in _ (by omega)
 have f5:(lo:Int) / 2 ^ (64 - s)=(L1:Int):=by rw [←hL1];simp
 have f7:IntKind.u64.wrap ((lo:Int)*2 ^ s)=(L:Int):=by
  rw [←hL]
  simp [IntKind.wrap,IntKind.bits,IntKind.signed]
 have k1:(s:Int)<64:=by omega
 rw [hH] at m1 m3 m4
 rw [hL1] at m1 m2 m3
 rw [hY] at m1 hY1 hY2
 rw [hL] at m3
 have hLlt:L<18446744073709551616:=by rw [←hL];exact Nat.mod_lt _ (by omega)
 obtain ⟨U,hU⟩:∃ U,H+L1=U:=⟨_,rfl⟩
 rw [hU] at m1 m3 hor
 have f6:bits .or .u64 (H:Int) (L1:Int)=(U:Int):=by
  rw [bits_or_u64_nat H L1 (by omega) (by omega),hor]
 obtain ⟨y1,y0,hy1,hy0,hyy,f2,f3⟩:∃ y1 y0:Nat,y1<4294967296∧y0<4294967296∧y1*4294967296+y0=Y∧(Y:Int) / 4294967296=(y1:Int)∧bits .and .u64 (Y:Int) 4294967295=(y0:Int)  := halves Y hY2
 obtain ⟨u1,u0,hu1,hu0,huu,f8,f9⟩:∃ u1 u0:Nat,u1<4294967296∧u0<4294967296∧u1*4294967296+u0=L∧(L:Int) / 4294967296=(u1:Int)∧bits .and .u64 (L:Int) 4294967295=(u0:Int)  := halves L hLlt
 have G:GuessOk 4294967296 U u1 y1 y0:=⟨by omega,by omega,hy1,hy0,hu1,by omega⟩
 obtain ⟨hg,hr,hp⟩:=G.start
 obtain ⟨q,hq⟩:∃ q,U / y1=q:=⟨_,rfl⟩
 rw [hq] at hg hr hp
 obtain ⟨p,hp'⟩:∃ p,q*y1=p:=⟨_,rfl⟩
 rw [hp'] at hg hr hp
 obtain ⟨r,hr'⟩:∃ r,U - p=r:=⟨_,rfl⟩
 rw [hr'] at hg hr
 have hqU:q≤U:=by rw [←hq];exact Nat.div_le_self U y1
 have f10:IntKind.u64.wrap ((U:Int) / (y1:Int))=(q:Int):=by rw [←Int.natCast_ediv,hq];exact IntWalk.u64_in _ (by omega)
 have f10':IntKind.u64.wrap ((U:Int).tdiv (y1:Int))=(q:Int):=by rw [Int.tdiv_eq_ediv_of_nonneg (by omega)];exact f10
 have f11:IntKind.u64.wrap ((q:Int)*(y1:Int))=(p:Int):=by rw [←Int.natCast_mul,hp'];exact IntWalk.u64_in _ (by omega)
 have f12:(U:Int) - (p:Int)=(r:Int):=by omega
 have n3:((y1:Int)==0)=false:=eqB (by omega)
 have n4:¬ y1=0:=by omega
 have HY:=Lib.hid hY
 clear hH hL1 hY hL hor hU hq hp' hr' hp
 go_enter Tryz.func232,Tryz.ntmps232
 go_wp2_with fail
 refine Hlz.out.mono ?_
 rintro e w1 ⟨rfl,rfl⟩
 go_upto_block 0 with fail
 go_cut [15,16] (fun s15 s16 wx=>∃ Q r':Nat,s15=.int .u64 (Q:Int)∧s16=.int .u64 (r':Int)∧Hid (Q=(U*4294967296+u1) / (y1*4294967296+y0))∧w1=wx)
 case first =>
  go_wp2_with fail
  go_loop [15,16] (fun qv rv=>∃ q r:Nat,qv=.int .u64 (q:Int)∧rv=.int .u64 (r:Int)∧GuessAt 4294967296 U u1 y1 y0 q r∧r<4294967296) (fun qv _=>(intOf qv).toNat)
  case atStart=>exact ⟨q,r,rfl,rfl,hg,hr⟩
  case round =>
   clear hg hr
   obtain ⟨q,r,rfl,rfl,hg,hr⟩:=hrel
   have hml:=hg.mul_le hy0
   obtain ⟨z,hz⟩:∃ z,q*y0=z:=⟨_,rfl⟩
   rw [hz] at hml
   have hqb:=hg.2.2
   by_cases h1:4294967296≤q∨4294967296*r+u1<q*y0
   · obtain ⟨hg',hq1⟩:=hg.step G h1
     obtain ⟨n,rfl⟩:∃ n,q=n+1:=⟨q - 1,by omega⟩
     rw [Nat.add_sub_cancel] at hg'
     have g1:IntKind.u64.wrap (((n:Int)+1)*(y0:Int))=(z:Int):=by
      rw [show ((n:Int)+1)*(y0:Int)=(z:Int) by rw [←hz];simp]
      exact IntWalk.u64_in _ (by omega)
     rw [hz] at h1
     have hout:=fun h=>hg'.out G (by omega) h
     have Hout:=Lib.hid hout
     clear hout hg hz hml
     by_cases h3:4294967296≤r+y1
     · have hQ:=Lib.hid (Hout.out h3)
       by_cases h4:4294967296≤n+1
       · have i4:(4294967296:Int)≤(n:Int)+1:=by omega
         have i3:(4294967296:Int)≤(r:Int)+(y1:Int):=by omega
         clear h1 h3 h4
         go_wp2
         go_meet
         case rel=>exact ⟨n,_,by go_num,rfl,hQ,rfl⟩
       · have i5:(4294967296:Int)*(r:Int)+(u1:Int)<(z:Int):=by omega
         have i4:¬ (4294967296:Int)≤(n:Int)+1:=by omega
         have i3:(4294967296:Int)≤(r:Int)+(y1:Int):=by omega
         clear h1 h3 h4
         go_wp2
         go_meet
         case rel=>exact ⟨n,_,by go_num,rfl,hQ,rfl⟩
     · by_cases h4:4294967296≤n+1
       · have i4:(4294967296:Int)≤(n:Int)+1:=by omega
         have i3:¬ (4294967296:Int)≤(r:Int)+(y1:Int):=by omega
         have H3:=Lib.hid h3
         clear h1 h3 h4
         go_wp2
         go_round
         case rel=>exact ⟨n,r+y1,by go_num,by go_num,hg',by have:=H3.out;omega⟩
         case measure=>simp [intOf]
       · have i5:(4294967296:Int)*(r:Int)+(u1:Int)<(z:Int):=by omega
         have i4:¬ (4294967296:Int)≤(n:Int)+1:=by omega
         have i3:¬ (4294967296:Int)≤(r:Int)+(y1:Int):=by omega
         have H3:=Lib.hid h3
         clear h1 h3 h4
         go_wp2
         go_round
         case rel=>exact ⟨n,r+y1,by go_num,by go_num,hg',by have:=H3.out;omega⟩
         case measure=>simp [intOf]
   · have hQ:=Lib.hid (hg.le G (by omega))
     have g1:IntKind.u64.wrap ((q:Int)*(y0:Int))=(z:Int):=by
      rw [show (q:Int)*(y0:Int)=(z:Int) by rw [←hz];simp]
      exact IntWalk.u64_in _ (by omega)
     have i4:¬ (4294967296:Int)≤(q:Int):=by omega
     have i5:¬ (4294967296:Int)*(r:Int)+(u1:Int)<(z:Int):=by omega
     clear h1 hg hz hml
     go_wp2
     go_meet
     case rel=>exact ⟨q,_,rfl,rfl,hQ,rfl⟩
 case rest =>
  clear hg hr hqU f10 f10' f11 f12
  obtain ⟨Q,r',rfl,rfl,HQ,rfl⟩:=hcut
  have hQ:=HQ.out
  rw [hyy] at hQ
  have hQb:=G.quo_lt
  rw [hyy,←hQ] at hQb
  have hYpos:0<Y:=by omega
  have hrest:=rest_of (N:=U*4294967296+u1) hYpos
  rw [←hQ] at hrest
  obtain ⟨p3,hp3⟩:∃ p3,Q*Y=p3:=⟨_,rfl⟩
  rw [hp3] at hrest
  obtain ⟨R,hR⟩:∃ R,U*4294967296+u1 - p3=R:=⟨_,rfl⟩
  rw [hR] at hrest
  obtain ⟨hr1,hr2⟩:=hrest
  obtain ⟨a1,k1',ha1,ha1b,ha1e⟩:∃ a1 k1:Nat,IntKind.u64.wrap ((U:Int)*4294967296)=(a1:Int)∧(a1:Int)≤18446744069414584320∧(a1:Int)=(U:Int)*4294967296 - 18446744073709551616*k1:=by
   refine ⟨U*4294967296 % 18446744073709551616,U / 4294967296,?_,by omega,by omega⟩
   simp [IntKind.wrap,IntKind.bits,IntKind.signed]
  obtain ⟨a3,k3,ha3,ha3e⟩:∃ a3 k3:Nat,IntKind.u64.wrap ((Q:Int)*(Y:Int))=(a3:Int)∧(a3:Int)=(p3:Int) - 18446744073709551616*k3:=by
   rw [show (Q:Int)*(Y:Int)=(p3:Int) by rw [←hp3];simp]
   exact ⟨p3 % 18446744073709551616,p3 / 18446744073709551616,by simp [IntKind.wrap,IntKind.bits,IntKind.signed],by omega⟩
  have hd:IntKind.u64.wrap ((a1:Int)+(u1:Int) - (a3:Int))=(R:Int):=by
   have:=wrap_diff (U*4294967296+u1) p3 R k1' k3 (by omega) (by omega)
   rw [ha3e,ha1e,←this]
   congr 1
   simp
   omega
  have G2:GuessOk 4294967296 R u0 y1 y0:=⟨by omega,by omega,hy1,hy0,hu0,by omega⟩
  obtain ⟨hg,hr,hp⟩:=G2.start
  obtain ⟨qq,hq⟩:∃ q,R / y1=q:=⟨_,rfl⟩
  rw [hq] at hg hr hp
  obtain ⟨pp,hp'⟩:∃ p,qq*y1=p:=⟨_,rfl⟩
  rw [hp'] at hg hr hp
  obtain ⟨rr,hr'⟩:∃ r,R - pp=r:=⟨_,rfl⟩
  rw [hr'] at hg hr
  have hqU:qq≤R:=by rw [←hq];exact Nat.div_le_self R y1
  have f10:IntKind.u64.wrap ((R:Int) / (y1:Int))=(qq:Int):=by rw [←Int.natCast_ediv,hq];exact IntWalk.u64_in _ (by omega)
  have f10':IntKind.u64.wrap ((R:Int).tdiv (y1:Int))=(qq:Int):=by rw [Int.tdiv_eq_ediv_of_nonneg (by omega)];exact f10
  have f11:IntKind.u64.wrap ((qq:Int)*(y1:Int))=(pp:Int):=by rw [←Int.natCast_mul,hp'];exact IntWalk.u64_in _ (by omega)
  have f12:(R:Int) - (pp:Int)=(rr:Int):=by omega
  have hts:=two_steps (b:=4294967296) (N:=U) (u1:=u1) (u0:=u0) hYpos R _ (by rw [←hQ,hp3];exact hR.symm) rfl
  rw [←hQ] at hts
  have Hts:=Lib.hid hts
  have Hp3:=Lib.hid hp3
  have HR:=Lib.hid hR
  clear hts hQ hp3 hR ha1e ha3e hq hp' hr' hp hr1
  go_upto_block 2 with fail
  go_cut [18,16] (fun s18 s16 wx=>∃ Q r':Nat,s18=.int .u64 (Q:Int)∧s16=.int .u64 (r':Int)∧Hid (Q=(R*4294967296+u0) / (y1*4294967296+y0))∧w1=wx)
  case first =>
   go_wp2_with fail
   go_loop [18,16] (fun qv rv=>∃ q r:Nat,qv=.int .u64 (q:Int)∧rv=.int .u64 (r:Int)∧GuessAt 4294967296 R u0 y1 y0 q r∧r<4294967296) (fun qv _=>(intOf qv).toNat)
   case atStart=>exact ⟨qq,rr,rfl,rfl,hg,hr⟩
   case round =>
    clear hg hr
    obtain ⟨q,r,rfl,rfl,hg,hr⟩:=hrel
    have hml:=hg.mul_le hy0
    obtain ⟨z,hz⟩:∃ z,q*y0=z:=⟨_,rfl⟩
    rw [hz] at hml
    have hqb:=hg.2.2
    by_cases h1:4294967296≤q∨4294967296*r+u0<q*y0
    · obtain ⟨hg',hq1⟩:=hg.step G2 h1
      obtain ⟨n,rfl⟩:∃ n,q=n+1:=⟨q - 1,by omega⟩
      rw [Nat.add_sub_cancel] at hg'
      have g1:IntKind.u64.wrap (((n:Int)+1)*(y0:Int))=(z:Int):=by
       rw [show ((n:Int)+1)*(y0:Int)=(z:Int) by rw [←hz];simp]
       exact IntWalk.u64_in _ (by omega)
      rw [hz] at h1
      have hout:=fun h=>hg'.out G2 (by omega) h
      have Hout:=Lib.hid hout
      clear hout hg hz hml
      by_cases h3:4294967296≤r+y1
      · have hQ:=Lib.hid (Hout.out h3)
        by_cases h4:4294967296≤n+1
        · have i4:(4294967296:Int)≤(n:Int)+1:=by omega
          have i3:(4294967296:Int)≤(r:Int)+(y1:Int):=by omega
          clear h1 h3 h4
          go_wp2
          go_meet
          case rel=>exact ⟨n,_,by go_num,rfl,hQ,rfl⟩
        · have i5:(4294967296:Int)*(r:Int)+(u0:Int)<(z:Int):=by omega
          have i4:¬ (4294967296:Int)≤(n:Int)+1:=by omega
          have i3:(4294967296:Int)≤(r:Int)+(y1:Int):=by omega
          clear h1 h3 h4
          go_wp2
          go_meet
          case rel=>exact ⟨n,_,by go_num,rfl,hQ,rfl⟩
      · by_cases h4:4294967296≤n+1
        · have i4:(4294967296:Int)≤(n:Int)+1:=by omega
          have i3:¬ (4294967296:Int)≤(r:Int)+(y1:Int):=by omega
          have H3:=Lib.hid h3
          clear h1 h3 h4
          go_wp2
          go_round
          case rel=>exact ⟨n,r+y1,by go_num,by go_num,hg',by have:=H3.out;omega⟩
          case measure=>simp [intOf]
        · have i5:(4294967296:Int)*(r:Int)+(u0:Int)<(z:Int):=by omega
          have i4:¬ (4294967296:Int)≤(n:Int)+1:=by omega
          have i3:¬ (4294967296:Int)≤(r:Int)+(y1:Int):=by omega
          have H3:=Lib.hid h3
          clear h1 h3 h4
          go_wp2
          go_round
          case rel=>exact ⟨n,r+y1,by go_num,by go_num,hg',by have:=H3.out;omega⟩
          case measure=>simp [intOf]
    · have hQ:=Lib.hid (hg.le G2 (by omega))
      have g1:IntKind.u64.wrap ((q:Int)*(y0:Int))=(z:Int):=by
       rw [show (q:Int)*(y0:Int)=(z:Int) by rw [←hz];simp]
       exact IntWalk.u64_in _ (by omega)
      have i4:¬ (4294967296:Int)≤(q:Int):=by omega
      have i5:¬ (4294967296:Int)*(r:Int)+(u0:Int)<(z:Int):=by omega
      clear h1 hg hz hml
      go_wp2
      go_meet
      case rel=>exact ⟨q,_,rfl,rfl,hQ,rfl⟩
  case rest =>
   clear hg hr hqU f10 f10' f11 f12
   obtain ⟨Q0,r2,rfl,rfl,HQ0,rfl⟩:=hcut
   have hQ0:=HQ0.out
   rw [hyy] at hQ0
   have hQ0b:=G2.quo_lt
   rw [hyy,←hQ0] at hQ0b
   obtain ⟨e1,e2⟩:=Hts.out
   rw [←hQ0] at e1 e2
   have hrest2:=rest_of (N:=R*4294967296+u0) hYpos
   rw [←hQ0] at hrest2
   have hM0:(U*4294967296+u1)*4294967296+u0=U*18446744073709551616+L:=join4 U u1 u0 L huu
   have hM:=hM0.trans m3
   rw [hM] at e1 e2
   have hYs:=HY.out
   rw [←hYs,Nat.mul_div_mul_right _ _ (Nat.pow_pos (by omega))] at e1
   rw [←hYs,Nat.mul_mod_mul_right] at e2
   rw [hYs] at e2
   obtain ⟨p4,hp4⟩:∃ p4,Q0*Y=p4:=⟨_,rfl⟩
   rw [hp4] at hrest2 e2
   obtain ⟨T,hT⟩:∃ T,(hi*18446744073709551616+lo) % y=T:=⟨_,rfl⟩
   obtain ⟨V,hV⟩:∃ V,(hi*18446744073709551616+lo) / y=V:=⟨_,rfl⟩
   rw [hT] at e2
   rw [hV] at e1
   obtain ⟨S,hS⟩:∃ S,T*2 ^ s=S:=⟨_,rfl⟩
   rw [hS] at e2
   have hS2:(S:Int) / 2 ^ s=(T:Int):=by
    rw [←hS]
    have:T*2 ^ s / 2 ^ s=T:=Nat.mul_div_cancel _ (Nat.pow_pos (by omega))
    rw [show ((2:Int) ^ s)=((2 ^ s:Nat):Int) by simp,←Int.natCast_ediv,this]
   obtain ⟨b1,k5,hb1,hb1b,hb1e⟩:∃ a1 k1:Nat,IntKind.u64.wrap ((R:Int)*4294967296)=(a1:Int)∧(a1:Int)≤18446744069414584320∧(a1:Int)=(R:Int)*4294967296 - 18446744073709551616*k1:=by
    refine ⟨R*4294967296 % 18446744073709551616,R / 4294967296,?_,by omega,by omega⟩
    simp [IntKind.wrap,IntKind.bits,IntKind.signed]
   obtain ⟨b3,k6,hb3,hb3e⟩:∃ a3 k3:Nat,IntKind.u64.wrap ((Q0:Int)*(Y:Int))=(a3:Int)∧(a3:Int)=(p4:Int) - 18446744073709551616*k3:=by
    rw [show (Q0:Int)*(Y:Int)=(p4:Int) by rw [←hp4];simp]
    exact ⟨p4 % 18446744073709551616,p4 / 18446744073709551616,by simp [IntKind.wrap,IntKind.bits,IntKind.signed],by omega⟩
   have hd2:IntKind.u64.wrap ((b1:Int)+(u0:Int) - (b3:Int))=(S:Int):=by
    have:=wrap_diff (R*4294967296+u0) p4 S k5 k6 (by omega) (by omega)
    rw [hb3e,hb1e,←this]
    congr 1
    simp
    omega
   have He1:=Lib.hid e1
   have HT:=Lib.hid hT
   have HV:=Lib.hid hV
   clear e1 e2 hQ0 hp4 hS hT hV hb1e hb3e hrest2 hM hM0 hYs
   go_wp2
   go_ret2
   exact ⟨ret_uu (by rw [HV.out,←He1.out];simp) (by rw [HT.out]),0,rfl⟩
end Go.Proofs.YtendnkpiidhogaaGreat

namespace Go.Proofs.YtendnkpiidhogaaGreat
open Go.RowKit
theorem div64_any (hi lo y:Nat) (w:World) (hlo:lo<18446744073709551616) (hhi:hi<y) (hy':y<18446744073709551616) (q r:Nat) (hr:r<y) (he:hi*18446744073709551616+lo=y*q+r) :
 Calls Tryz.prog 232 #[.int .u64 (hi:Int),.int .u64 (lo:Int),.int .u64 (y:Int)] w fun e w'=>e=.returned (.tuple #[.int .u64 (q:Int),.int .u64 (r:Int)])∧∃ n,w'=w.drewN n:=by
 have e1:(hi*18446744073709551616+lo) / y=q:=by rw [he,Nat.mul_add_div (by omega),Nat.div_eq_of_lt hr];omega
 have e2:(hi*18446744073709551616+lo) % y=r:=by rw [he,Nat.mul_add_mod,Nat.mod_eq_of_lt hr]
 rcases Nat.eq_zero_or_pos hi with rfl | h0
 · rw [Nat.zero_mul,Nat.zero_add] at e1 e2
   have h:=div64_zero lo y w hlo (by omega) hy'
   rw [e1,e2] at h
   exact h
 · have h:=div64_pos hi lo y w hlo h0 hhi hy'
   rw [e1,e2] at h
   exact h
def Below1 (k:Nat) (i:Int):Prop:=(k=0∧i=-1)∨∃ j:Nat,k=j+1∧i=(j:Int)
theorem Below1.start (n:Nat):Below1 n ((n:Int) - 1):=by
 rcases n with _ | n
 · exact .inl ⟨rfl,by simp⟩
 · exact .inr ⟨n,rfl,by omega⟩
def SmallAt (B:Nat) (l o:List Nat) (d k r:Nat):Prop:=o.length=l.length∧val B (l.drop k)=d*val B (o.drop k)+r
theorem SmallAt.start {B:Nat} {l o:List Nat} (d:Nat) (h:o.length=l.length):SmallAt B l o d l.length 0:=by
 refine ⟨h,?_⟩
 rw [List.drop_length,←h,List.drop_length]
 simp
theorem drop_dg {l:List Nat} {k:Nat} (h:k<l.length):l.drop k=dg l k :: l.drop (k+1):=by
 rw [List.drop_eq_getElem_cons h,dg,getD_eq' h]
theorem drop_set {l:List Nat} {k x:Nat} (h:k<l.length):(l.set k x).drop k=x :: l.drop (k+1):=by
 rw [List.drop_set,if_neg (Nat.lt_irrefl _),drop_dg h,Nat.sub_self,List.set_cons_zero]
theorem SmallAt.step {B:Nat} {l o:List Nat} {d k r q r':Nat} (h:SmallAt B l o d (k+1) r) (hk:k<l.length) (he:r*B+dg l k=d*q+r'):SmallAt B l (o.set k q) d k r':=by
 obtain ⟨h1,h2⟩:=h
 refine ⟨by simpa using h1,?_⟩
 rw [drop_dg hk,drop_set (by omega),val_cons,val_cons,h2]
 have e:B*(d*val B (o.drop (k+1))+r)=d*(B*val B (o.drop (k+1)))+r*B:=by
  rw [Nat.mul_add,Nat.mul_left_comm,Nat.mul_comm B r]
 rw [e,Nat.mul_add]
 omega
theorem SmallAt.fin {B:Nat} {l o:List Nat} {d r:Nat} (h:SmallAt B l o d 0 r) (hr:r<d):val B o=val B l / d∧r=val B l % d:=by
 have:=h.2
 simp only [List.drop_zero] at this
 rw [this]
 refine ⟨?_,?_⟩
 · rw [Nat.mul_add_div (by omega),Nat.div_eq_of_lt hr,Nat.add_zero]
 · rw [Nat.mul_add_mod,Nat.mod_eq_of_lt hr]
theorem small_any (P:Nat→Prop) (A:Option Addr) (c:Nat) (l:List Nat) (d:Nat) (w:World) (h:RN w P A c l) (hP:∀ b,P b→b<w.heap.size) (hl:l.length<100000) (hd:0<d) (hd':d<18446744073709551616) :
 Calls Tryz.prog 206 #[.slice A l.length c,.int .u64 (d:Int)] w fun e w'=>∃ A1 c1,e=.returned (.tuple #[.slice A1 (digs 18446744073709551616 (val 18446744073709551616 l / d)).length c1,.int .u64 ((val 18446744073709551616 l % d:Nat):Int)]) ∧
  OB w' w.heap.size A1 c1 (digs 18446744073709551616 (val 18446744073709551616 l / d))∧Below w.heap.size w w':=by
 obtain ⟨h1,h2,h3⟩:=h.cap
 have hmk:=run_make_row' (P:=Tryz.prog) 106 139 (.int .u64 0) 8 Tryz.underlying106 info64 rfl .i64 .i64 l.length (by omega) (by omega)
 have Hs:=Lib.hid (Below1.start l.length)
 go_enter Tryz.func206,Tryz.ntmps206
 go_wp2
 go_loopw [7,8] (fun rv iv wr=>∃ (k r:Nat) (z:Int) (o:List Nat),iv=.int .i64 z∧Below1 k z∧rv=.int .u64 (r:Int)∧k≤l.length∧r<d∧SmallAt 18446744073709551616 l o d k r∧Lim o∧Blk wr w.heap.size o∧Below w.heap.size w wr) (fun _ iv _=>(intOf iv+1).toNat)
 case atStart=>exact ⟨l.length,0,_,List.replicate l.length 0,rfl,Hs.out,rfl,by omega,by omega,SmallAt.start d (by simp),⟨by simp,by simp;omega⟩,Blk.made w _,(Below.refl _ w).alloc (Nat.le_refl _) _⟩
 case round =>
  obtain ⟨k,r,z,o,rfl,hz,rfl,hk,hr,hS,hLo,hblk,hB⟩:=hrel
  rcases hz with ⟨rfl,rfl⟩ | ⟨j,rfl,rfl⟩
  · obtain ⟨hv,hrem⟩:=hS.fin hr
    have hOB:OB wr w.heap.size (some ⟨w.heap.size,0,none⟩) l.length o:=OB.of_blk hblk (Nat.le_refl _) hLo (by have:=hS.1;omega) (by unfold maxLen;omega)
    have ht:=trim_any _ _ _ _ _ hOB.rn
    have hOB':=hOB.trim
    rw [hv,hS.1] at ht
    rw [hv] at hOB'
    have Ht:=Lib.hid ht
    have Hrem:=Lib.hid hrem
    clear hblk hLo ht hv hrem hOB hS
    go_wp2_with fail
    refine Ht.out.mono ?_
    rintro e w1 ⟨rfl,rfl⟩
    go_wp2
    go_ret2
    exact ⟨_,_,by rw [Hrem.out];rfl,hOB',hB⟩
  · obtain ⟨ad,rfl,had,q1⟩:=(h.below hB hP).at_ (i:=j) (by omega)
    have hol:=hS.1
    have hlj:=h.2.dgLt j
    have q3:=hblk.cell (i:=j) (by omega)
    have q4:=hblk.free j
    obtain ⟨q,r',hr',he,hq⟩:∃ q r':Nat,r'<d∧r*18446744073709551616+dg l j=d*q+r'∧q<18446744073709551616:=by
     refine ⟨(r*18446744073709551616+dg l j) / d,(r*18446744073709551616+dg l j) % d,Nat.mod_lt _ hd,(Nat.div_add_mod _ d).symm,?_⟩
     apply Nat.div_lt_of_lt_mul
     have:(r+1)*18446744073709551616≤d*18446744073709551616:=Nat.mul_le_mul_right _ hr
     omega
    have hdv:=Lib.hid (fun w=>div64_any r (dg l j) d w hlj hr hd' q r' hr' he)
    have hS':=hS.step (by omega) he
    have hblk':=hblk.set j q
    have hLo':=hLo.set j q hq
    have hB':=hB.setCell (p:=⟨w.heap.size,j,none⟩) (Nat.le_refl _) (.int .u64 (q:Int))
    have k1:(j:Int)<(l.length:Int):=by omega
    have Hs':=Lib.hid (Below1.start j)
    clear he hS hblk hLo hB hol
    go_wp2_with fail
    refine (hdv.out _).mono ?_
    rintro e w1 ⟨rfl,n,rfl⟩
    go_wp2
    go_roundw
    case rel=>exact ⟨j,r',_,o.set j q,rfl,Hs'.out,rfl,by omega,hr',hS',hLo',hblk',below_drewN hB' _⟩
    case measure=>simp [intOf]
theorem digs_one_length {d:Nat} (h0:0<d) (h:d<18446744073709551616):digs 18446744073709551616 d=[d]:=by
 rw [digs_pos (by omega) h0,Nat.mod_eq_of_lt h,Nat.div_eq_of_lt h,digs_zero]
theorem quo_lt (P P':Nat→Prop) (A A':Option Addr) (c c':Nat) (a b:List Nat) (w:World) (h:RN w P A c a) (h':RN w P' A' c' b) (hlt:val 18446744073709551616 a<val 18446744073709551616 b) :
 Calls Tryz.prog 169 #[.slice A a.length c,.slice A' b.length c'] w fun e w'=>∃ A1 c1,e=.returned (.tuple #[.slice none 0 0,.slice A1 (digs 18446744073709551616 (val 18446744073709551616 a)).length c1,.bool true]) ∧
  OB w' w.heap.size A1 c1 (digs 18446744073709551616 (val 18446744073709551616 a))∧Below w.heap.size w w':=by
 have ta:=Lib.hid (trim_any P A c a w h)
 have tb:=Lib.hid (trim_any P' A' c' b w h')
 have tc:=cmp_any P P' A A' c c' _ _ w h.trim h'.trim
 have tm:=fun n=>made_any P A c _ (World.drewN w n) (h.trim.drewN n)
 rw [val_digs (by omega),val_digs (by omega),cmpV_lt hlt] at tc
 rw [val_digs (by omega)] at tm
 have Tc:=Lib.hid tc
 have Tm:=Lib.hid tm
 have hne:0<(digs 18446744073709551616 (val 18446744073709551616 b)).length:=by
  rw [digs_pos (by omega) (by omega)];simp
 clear tc tm h h' hlt
 generalize digs 18446744073709551616 (val 18446744073709551616 a)=l at *
 generalize digs 18446744073709551616 (val 18446744073709551616 b)=m at *
 have hne':((m.length:Int)==0)=false:=eqB (by omega)
 clear hne
 go_enter Tryz.func169,Tryz.ntmps169
 go_wp2_with fail
 refine ta.out.mono ?_
 rintro e w1 ⟨rfl,rfl⟩
 go_wp2_with fail
 refine tb.out.mono ?_
 rintro e w1 ⟨rfl,rfl⟩
 go_wp2_with fail
 refine Tc.out.mono ?_
 rintro e w1 ⟨rfl,n,rfl⟩
 go_wp2_with fail
 refine (Tm.out n).mono ?_
 rintro e w1 ⟨A1,c1,rfl,hO,hB⟩
 go_wp2
 go_ret3
 exact ⟨A1,c1,rfl,hO,⟨hB.os,hB.tape,hB.output,hB.size,hB.block⟩⟩
theorem quo_one (P P':Nat→Prop) (A A':Option Addr) (c c':Nat) (a b:List Nat) (w:World) (h:RN w P A c a) (h':RN w P' A' c' b) (hP:∀ b,P b→b<w.heap.size) (hl:a.length<100000) (hge:val 18446744073709551616 b≤val 18446744073709551616 a)
 (h0:0<val 18446744073709551616 b) (h1:val 18446744073709551616 b<18446744073709551616) :
 Calls Tryz.prog 169 #[.slice A a.length c,.slice A' b.length c'] w fun e w'=>∃ A1 c1 A2 c2,e=.returned (.tuple #[.slice A1 (digs 18446744073709551616 (val 18446744073709551616 a / val 18446744073709551616 b)).length c1,.slice A2 (digs 18446744073709551616 (val 18446744073709551616 a % val 18446744073709551616 b)).length c2,.bool true]) ∧
  OB w' w.heap.size A1 c1 (digs 18446744073709551616 (val 18446744073709551616 a / val 18446744073709551616 b))∧OB w' w.heap.size A2 c2 (digs 18446744073709551616 (val 18446744073709551616 a % val 18446744073709551616 b))∧Below w.heap.size w w':=by
 have ta:=Lib.hid (trim_any P A c a w h)
 have tb:=Lib.hid (trim_any P' A' c' b w h')
 have tc:=cmp_any P P' A A' c c' _ _ w h.trim h'.trim
 have la:=digs_length_le (B:=18446744073709551616) (by omega) h.2.1
 have ts:=fun n=>small_any P A c _ (val 18446744073709551616 b) (World.drewN w n) (h.trim.drewN n) hP (by omega) h0 h1
 rw [val_digs (by omega),val_digs (by omega)] at tc
 rw [val_digs (by omega)] at ts
 replace h:=h.trim
 replace h':=h'.trim
 generalize val 18446744073709551616 a=x at *
 generalize val 18446744073709551616 b=y at *
 have hcv:0≤cmpV x y:=by rcases cmpV_cases x y with h | h | h <;> omega
 generalize cmpV x y=v at tc hcv
 have hof:=Lib.hid (fun w=>of_any (x % y) w (by have:=Nat.mod_lt x h0;omega))
 have hm1:=digs_one_length h0 h1
 rw [hm1] at tb tc h'
 have Tc:=Lib.hid tc
 have Ts:=Lib.hid ts
 obtain ⟨ae,rfl,hae,q1⟩:=h'.at_ (i:=0) (by simp)
 rw [dg_cons_zero] at q1
 clear tc ts hm1 hge la hl
 obtain ⟨g1,g2,g3⟩:=h.cap
 generalize digs 18446744073709551616 x=l at *
 clear h h' h0 h1
 have q2:Hid (w.cell? ae=some (.int .u64 (y:Int))):=Lib.hid (by simpa [Addr.add] using q1)
 clear q1
 go_enter Tryz.func169,Tryz.ntmps169
 go_wp2_with fail
 refine ta.out.mono ?_
 rintro e w1 ⟨rfl,rfl⟩
 go_wp2_with fail
 refine tb.out.mono ?_
 rintro e w1 ⟨rfl,rfl⟩
 go_wp2_with fail
 refine Tc.out.mono ?_
 rintro e w1 ⟨rfl,n,rfl⟩
 have q3:=q2.out
 clear hP g1 g2 g3
 go_wp2_with fail
 refine (Ts.out n).mono ?_
 rintro e w1 ⟨A1,c1,rfl,hO,hB⟩
 go_wp2_with fail
 refine (hof.out _).mono ?_
 rintro e w2 ⟨A2,c2,rfl,hO2,hB2⟩
 go_wp2
 go_ret3
 exact ⟨A1,c1,A2,c2,rfl,hO.below hB2 (Nat.le_refl _),hO2.mono hB.size,Below.trans ⟨hB.os,hB.tape,hB.output,hB.size,hB.block⟩ (hB2.mono hB.size)⟩
end Go.Proofs.YtendnkpiidhogaaGreat

namespace Go.Proofs.YtendnkpiidhogaaGreat
def TakesAt (B:Nat) (L0 y:List Nat) (q f:Nat) (L:List Nat) (j c b:Nat):Prop :=
 L.length=L0.length∧val B L+B ^ f*(q*val B (y.take j))=val B L0+B ^ (f+j)*(c+b)∧∀ i,f+j≤i→dg L i=dg L0 i
theorem TakesAt.zero (B:Nat) (L y:List Nat) (q f:Nat):TakesAt B L y q f L 0 0 0:=by simp [TakesAt]
theorem TakesAt.step {B:Nat} {L0 y L:List Nat} {q f j c b lo c' x b':Nat} (h:TakesAt B L0 y q f L j c b) (hL:f+j<L.length) (h1:lo+B*c'=q*dg y j+c) (h2:x+lo+b=dg L (f+j)+B*b') :
 TakesAt B L0 y q f (L.set (f+j) x) (j+1) c' b':=by
 obtain ⟨g1,g2,g3⟩:=h
 refine ⟨by simpa using g1,?_,fun i hi=>by rw [getD_set_ne (by omega)];exact g3 i (by omega)⟩
 have hs:=val_set' B hL x
 rw [val_take_getD,Nat.mul_add,Nat.mul_add,←Nat.add_assoc f j 1,Nat.pow_succ]
 have e1:B ^ f*(q*(B ^ j*dg y j))=B ^ (f+j)*(q*dg y j):=by
  rw [Nat.pow_add,Nat.mul_left_comm q,←Nat.mul_assoc]
 have e2:B ^ (f+j)*(lo+B*c')=B ^ (f+j)*(q*dg y j+c):=by rw [h1]
 have e3:B ^ (f+j)*(x+lo+b)=B ^ (f+j)*(dg L (f+j)+B*b'):=by rw [h2]
 rw [e1,Nat.mul_assoc,Nat.mul_add]
 rw [Nat.mul_add] at g2
 simp only [Nat.mul_add] at e2 e3 ⊢
 generalize B ^ (f+j)*(B*c')=p1 at *
 generalize B ^ (f+j)*(B*b')=p2 at *
 generalize B ^ (f+j)*lo=p3 at *
 generalize B ^ (f+j)*(q*dg y j)=p4 at *
 generalize B ^ (f+j)*c=p5 at *
 generalize B ^ (f+j)*b=p6 at *
 generalize B ^ (f+j)*x=p7 at *
 generalize B ^ (f+j)*dg L (f+j)=p8 at *
 generalize B ^ f*(q*val B (y.take j))=p9 at *
 generalize val B (L.set (f+j) x)=p10 at *
 generalize val B L=p11 at *
 generalize val B L0=p12 at *
 omega
theorem TakesAt.fin {B:Nat} {L0 y L:List Nat} {q f n c b x b':Nat} (h:TakesAt B L0 y q f L n c b) (hn:y.length=n) (hL:f+n<L.length) (h2:x+c+b=dg L (f+n)+B*b') :
 (L.set (f+n) x).length=L0.length∧val B (L.set (f+n) x)+B ^ f*(q*val B y)=val B L0+B ^ (f+n+1)*b'∧∀ i,f+n+1≤i→dg (L.set (f+n) x) i=dg L0 i:=by
 obtain ⟨g1,g2,g3⟩:=h
 refine ⟨by simpa using g1,?_,fun i hi=>by rw [getD_set_ne (by omega)];exact g3 i (by omega)⟩
 rw [List.take_of_length_le (by omega)] at g2
 have hs:=val_set' B hL x
 have e3:B ^ (f+n)*(x+c+b)=B ^ (f+n)*(dg L (f+n)+B*b'):=by rw [h2]
 rw [Nat.pow_succ,Nat.mul_assoc]
 simp only [Nat.mul_add] at e3 g2
 generalize B ^ (f+n)*(B*b')=p2 at *
 generalize B ^ (f+n)*c=p5 at *
 generalize B ^ (f+n)*b=p6 at *
 generalize B ^ (f+n)*x=p7 at *
 generalize B ^ (f+n)*dg L (f+n)=p8 at *
 generalize B ^ f*(q*val B y)=p9 at *
 generalize val B (L.set (f+n) x)=p10 at *
 generalize val B L=p11 at *
 generalize val B L0=p12 at *
 omega
def GivesAt (B:Nat) (L0 y:List Nat) (f:Nat) (L:List Nat) (j c:Nat):Prop :=
 L.length=L0.length∧val B L+B ^ (f+j)*c=val B L0+B ^ f*val B (y.take j)∧∀ i,f+j≤i→dg L i=dg L0 i
theorem GivesAt.zero (B:Nat) (L y:List Nat) (f:Nat):GivesAt B L y f L 0 0:=by simp [GivesAt]
theorem GivesAt.step {B:Nat} {L0 y L:List Nat} {f j c x c':Nat} (h:GivesAt B L0 y f L j c) (hL:f+j<L.length) (h1:x+B*c'=dg L (f+j)+dg y j+c):GivesAt B L0 y f (L.set (f+j) x) (j+1) c':=by
 obtain ⟨g1,g2,g3⟩:=h
 refine ⟨by simpa using g1,?_,fun i hi=>by rw [getD_set_ne (by omega)];exact g3 i (by omega)⟩
 have hs:=val_set' B hL x
 rw [val_take_getD,Nat.mul_add,←Nat.mul_assoc,←Nat.pow_add,←Nat.add_assoc f j 1,Nat.pow_succ,Nat.mul_assoc]
 have e2:B ^ (f+j)*(x+B*c')=B ^ (f+j)*(dg L (f+j)+dg y j+c):=by rw [h1]
 simp only [Nat.mul_add] at e2 ⊢
 generalize B ^ (f+j)*(B*c')=p1 at *
 generalize B ^ (f+j)*dg y j=p4 at *
 generalize B ^ (f+j)*c=p5 at *
 generalize B ^ (f+j)*x=p7 at *
 generalize B ^ (f+j)*dg L (f+j)=p8 at *
 generalize B ^ f*val B (y.take j)=p9 at *
 generalize val B (L.set (f+j) x)=p10 at *
 generalize val B L=p11 at *
 generalize val B L0=p12 at *
 omega
theorem GivesAt.fin {B:Nat} {L0 y L:List Nat} {f n c x c':Nat} (h:GivesAt B L0 y f L n c) (hn:y.length=n) (hL:f+n<L.length) (h1:x+B*c'=dg L (f+n)+c) :
 (L.set (f+n) x).length=L0.length∧val B (L.set (f+n) x)+B ^ (f+n+1)*c'=val B L0+B ^ f*val B y∧∀ i,f+n+1≤i→dg (L.set (f+n) x) i=dg L0 i:=by
 obtain ⟨g1,g2,g3⟩:=h
 refine ⟨by simpa using g1,?_,fun i hi=>by rw [getD_set_ne (by omega)];exact g3 i (by omega)⟩
 rw [List.take_of_length_le (by omega)] at g2
 have hs:=val_set' B hL x
 have e3:B ^ (f+n)*(x+B*c')=B ^ (f+n)*(dg L (f+n)+c):=by rw [h1]
 rw [Nat.pow_succ,Nat.mul_assoc]
 simp only [Nat.mul_add] at e3
 generalize B ^ (f+n)*(B*c')=p2 at *
 generalize B ^ (f+n)*c=p5 at *
 generalize B ^ (f+n)*x=p7 at *
 generalize B ^ (f+n)*dg L (f+n)=p8 at *
 generalize B ^ f*val B y=p9 at *
 generalize val B (L.set (f+n) x)=p10 at *
 generalize val B L=p11 at *
 generalize val B L0=p12 at *
 omega
theorem val_lt_of_zero {B:Nat} (hB:0<B) {L:List Nat} (h:∀ x∈L,x<B) {m:Nat} (hz:∀ i,m≤i→dg L i=0):val B L<B ^ m:=by
 rcases Nat.lt_or_ge L.length m with h1 | h1
 · exact Nat.lt_of_lt_of_le (val_lt h) (Nat.pow_le_pow_right hB (by omega))
 · have e:=val_take_drop B L h1
   have hd:val B (L.drop m)=0:=by
    apply val_zeros
    intro x hx
    obtain ⟨i,hi,rfl⟩:=List.getElem_of_mem hx
    rw [List.getElem_drop]
    have:=hz (m+i) (by omega)
    rwa [dg,getD_eq' (by simp at hi;omega)] at this
   rw [hd,Nat.mul_zero,Nat.add_zero] at e
   rw [e]
   have:=val_lt (B:=B) (l:=L.take m) fun x hx=>h x (List.mem_of_mem_take hx)
   rwa [List.length_take,Nat.min_eq_left h1] at this
theorem dg_of_val {B:Nat} {L:List Nat} (h:∀ x∈L,x<B) (i:Nat) (hi:i<L.length):dg L i=val B L / B ^ i % B:=by
 have hB:0<B:=Nat.lt_of_le_of_lt (Nat.zero_le _) (h _ (List.getElem_mem hi))
 have e:=val_take_drop B L (Nat.le_of_lt hi)
 have h2:=val_lt (B:=B) (l:=L.take i) fun x hx=>h x (List.mem_of_mem_take hx)
 rw [List.length_take,Nat.min_eq_left (by omega)] at h2
 rw [List.drop_eq_getElem_cons hi,val_cons] at e
 rw [e,Nat.add_mul_div_left _ _ (Nat.pow_pos hB),Nat.div_eq_of_lt h2,Nat.zero_add,Nat.add_mul_mod_self_left,dg,getD_eq' hi,Nat.mod_eq_of_lt (h _ (List.getElem_mem hi))]
theorem zero_of_val_lt {B:Nat} {L:List Nat} (h:∀ x∈L,x<B) {m:Nat} (hm:val B L<B ^ m) {i:Nat} (hi:m≤i):dg L i=0:=by
 rcases Nat.lt_or_ge i L.length with h1 | h1
 · have hB:0<B:=Nat.lt_of_le_of_lt (Nat.zero_le _) (h _ (List.getElem_mem h1))
   rw [dg_of_val h i h1,Nat.div_eq_of_lt (Nat.lt_of_lt_of_le hm (Nat.pow_le_pow_right hB hi)),Nat.zero_mod]
 · rw [dg,List.getD_eq_getElem?_getD,List.getElem?_eq_none h1];rfl
end Go.Proofs.YtendnkpiidhogaaGreat
namespace Go.Proofs.YtendnkpiidhogaaGreat
open Go.RowKit
def Guessed (u u1 y1 y0 G:Nat):Prop:=G<18446744073709551616∧∀ q,q<18446744073709551616→q*(y1*18446744073709551616+y0)≤u*18446744073709551616+u1→q≤G
theorem Guessed.top (u u1 y1 y0:Nat):Guessed u u1 y1 y0 18446744073709551615:=⟨by omega,fun q hq _=>by omega⟩
theorem Guessed.of_eq {u u1 y1 y0 G:Nat} (h:GuessOk 18446744073709551616 u u1 y1 y0) (he:G=(u*18446744073709551616+u1) / (y1*18446744073709551616+y0)):Guessed u u1 y1 y0 G:=by
 refine ⟨by rw [he];exact h.quo_lt,fun q _ hle=>?_⟩
 rw [he]
 refine (Nat.le_div_iff_mul_le ?_).2 hle
 have:=h.hy
 omega
theorem two_le {hi lo r x p:Nat} (h:lo+18446744073709551616*hi=p) (hlo:lo<18446744073709551616) (hx:x<18446744073709551616):(hi<r∨hi=r∧lo≤x)↔p≤18446744073709551616*r+x:=by
 subst h
 rcases Nat.lt_trichotomy hi r with h1 | h1 | h1
 · refine ⟨fun _=>?_,fun _=>.inl h1⟩
   omega
 · subst h1
   exact ⟨fun h=>by omega,fun h=>by omega⟩
 · exact ⟨fun h=>by omega,fun h=>by omega⟩
theorem top_quo {B x2 x1 y1:Nat} (h1:x1<B) (h:x2<y1):(x2*B+x1) / y1<B:=by
 apply Nat.div_lt_of_lt_mul
 have:(x2+1)*B≤y1*B:=Nat.mul_le_mul_right _ h
 rw [Nat.add_mul,Nat.one_mul] at this
 omega
theorem ret_u {a b:Int} (h:a=b):Ending.returned (.int .u64 a)=.returned (.int .u64 b):=by rw [h]
def guessF (x2 x1 x0 y1 y0:Nat):Nat:=if y1≤x2 then 18446744073709551615 else ((x2*18446744073709551616+x1)*18446744073709551616+x0) / (y1*18446744073709551616+y0)
theorem guessF_ok {x2 x1 x0 y1 y0:Nat} (h1:x1<18446744073709551616) (h0:x0<18446744073709551616) (g1:y1<18446744073709551616) (g0:y0<18446744073709551616) (gt:18446744073709551616≤2*y1) :
 Guessed (x2*18446744073709551616+x1) x0 y1 y0 (guessF x2 x1 x0 y1 y0):=by
 unfold guessF
 split
 · exact Guessed.top _ _ _ _
 · have hu:x2*18446744073709551616+x1<y1*18446744073709551616+y0:=by omega
   exact Guessed.of_eq ⟨by omega,gt,g1,g0,h0,hu⟩ rfl
theorem guess_any (x2 x1 x0 y1 y0:Nat) (w:World) (h1:x1<18446744073709551616) (h0:x0<18446744073709551616) (g1:y1<18446744073709551616) (g0:y0<18446744073709551616) (gt:18446744073709551616≤2*y1) :
 Calls Tryz.prog 209 #[.int .u64 (x2:Int),.int .u64 (x1:Int),.int .u64 (x0:Int),.int .u64 (y1:Int),.int .u64 (y0:Int)] w fun e w'=>e=.returned (.int .u64 (guessF x2 x1 x0 y1 y0:Int))∧∃ n,w'=w.drewN n:=by
 by_cases hge:y1≤x2
 · have k1:y1≤x2:=hge
   have ht:guessF x2 x1 x0 y1 y0=18446744073709551615:=if_pos hge
   have Ht:=Lib.hid ht
   clear h1 h0 g1 g0 gt hge ht
   go_enter Tryz.func209,Tryz.ntmps209
   go_wp2
   go_step3
   go_wp2
   try rw [Exit.noGoto_ret]
   go_ret
   exact ⟨by rw [Ht.out];rfl,0,rfl⟩
 · have k1:¬ y1≤x2:=hge
   have hlt:x2<y1:=by omega
   have hu:x2*18446744073709551616+x1<y1*18446744073709551616+y0:=by omega
   have hq:=top_quo h1 hlt
   have hdv:=fun q r (hr:r<y1) (he:_=y1*q+r)=>div64_any x2 x1 y1 w h1 hlt g1 q r hr he
   have hF:guessF x2 x1 x0 y1 y0=((x2*18446744073709551616+x1)*18446744073709551616+x0) / (y1*18446744073709551616+y0):=if_neg hge
   obtain ⟨u,hu'⟩:∃ u,x2*18446744073709551616+x1=u:=⟨_,rfl⟩
   rw [hu'] at hu hq hdv hF
   have G:=(⟨by omega,gt,g1,g0,h0,hu⟩:GuessOk 18446744073709551616 u x0 y1 y0)
   obtain ⟨hg,hr,hp⟩:=G.start
   have hrr:u - u / y1*y1<y1:=(rest_of (by omega)).2
   have HG:Hid (∀ g,g=(u*18446744073709551616+x0) / (y1*18446744073709551616+y0)→g=guessF x2 x1 x0 y1 y0):=Lib.hid fun g he=>he.trans hF.symm
   clear hF
   clear hu hu'
   obtain ⟨q,hq'⟩:∃ q,u / y1=q:=⟨_,rfl⟩
   rw [hq'] at hg hr hp hrr hq
   obtain ⟨p,hp'⟩:∃ p,q*y1=p:=⟨_,rfl⟩
   rw [hp'] at hg hr hp hrr
   obtain ⟨r,hr'⟩:∃ r,u - p=r:=⟨_,rfl⟩
   rw [hr'] at hg hr hrr
   have Hdv:=Lib.hid (hdv q r hrr (by rw [Nat.mul_comm,hp'];omega))
   have HGk:=Lib.hid G
   clear hdv hq' hp' hr' hp hrr hge hlt h1 G gt
   go_enter Tryz.func209,Tryz.ntmps209
   go_wp2
   go_step3
   go_wp2_with fail
   refine Hdv.out.mono ?_
   rintro e w1 ⟨rfl,n,rfl⟩
   go_wp2
   go_step3
   go_wp2
   go_loop [11,12] (fun qv rv=>∃ q r:Nat,qv=.int .u64 (q:Int)∧rv=.int .u64 (r:Int)∧GuessAt 18446744073709551616 u x0 y1 y0 q r∧r<18446744073709551616∧q<18446744073709551616) (fun qv _=>(intOf qv).toNat)
   case atStart=>exact ⟨q,r,rfl,rfl,hg,hr,hq⟩
   case round =>
    clear hg hr hq
    obtain ⟨q,r,rfl,rfl,hg,hr,hq⟩:=hrel
    obtain ⟨hi',lo,b1,b2⟩:∃ hi' lo:Nat,lo<18446744073709551616∧lo+18446744073709551616*hi'=q*y0:=⟨q*y0 / 18446744073709551616,q*y0 % 18446744073709551616,by omega,by omega⟩
    have hmul:=Lib.hid (fun w=>mul64_at q y0 hi' lo hq g0 b1 b2 w)
    have hle:=two_le (r:=r) b2 b1 h0
    by_cases hc:q*y0≤18446744073709551616*r+x0
    · have hQ:=Lib.hid (HG.out _ (hg.le HGk.out hc))
      have hc':=hle.2 hc
      clear hle hc hg hr hq b1 b2 g0 g1 h0
      rcases hc' with hc' | ⟨rfl,hc'⟩
      · have i1:hi'<r:=by omega
        clear hc'
        go_wp2_with fail
        refine (hmul.out _).mono ?_
        rintro e w1 ⟨rfl,rfl⟩
        go_wp2
        try rw [Exit.noGoto_ret]
        go_ret
        exact ⟨by rw [←hQ.out];rfl,_,rfl⟩
      · have i1:¬ hi'<hi':=by omega
        have i2:lo≤x0:=by omega
        clear hc'
        go_wp2_with fail
        refine (hmul.out _).mono ?_
        rintro e w1 ⟨rfl,rfl⟩
        go_wp2
        try rw [Exit.noGoto_ret]
        go_ret
        exact ⟨by rw [←hQ.out];rfl,_,rfl⟩
    · obtain ⟨hg',hq1⟩:=hg.step HGk.out (.inr (by omega))
      obtain ⟨m,rfl⟩:∃ m,q=m+1:=⟨q - 1,by omega⟩
      rw [Nat.add_sub_cancel] at hg'
      have hmB:m<18446744073709551616:=by omega
      obtain ⟨s,cc,s1,s2,s3⟩:∃ s cc:Nat,s<18446744073709551616∧cc≤1∧s+18446744073709551616*cc=r+y1+0:=⟨(r+y1) % 18446744073709551616,(r+y1) / 18446744073709551616,by omega,by omega,by omega⟩
      have hadd:=fun w=>add64_at r y1 0 s cc (by omega) s1 s3 w
      simp only [Int.cast_ofNat_Int] at hadd
      have hn:¬ (hi'<r∨hi'=r∧lo≤x0):=fun h=>hc (hle.1 h)
      have hmi:(m:Int)<18446744073709551616:=by omega
      rcases Nat.eq_zero_or_pos cc with rfl | hcc
      · have hs:s=r+y1:=by omega
        rw [←hs] at hg'
        have Hs1:=Lib.hid s1
        have Hmb:=Lib.hid hmB
        clear s1 s2 s3 hs hg hle hc b1 b2 hq hr hq1 hmB
        by_cases hi:hi'=r
        · subst hi
          have i1:¬ hi'<hi':=by omega
          have i2:¬ lo≤x0:=by omega
          clear hn
          go_wp2_with fail
          refine (hmul.out _).mono ?_
          rintro e w1 ⟨rfl,rfl⟩
          go_wp2
          go_round
          case rel=>exact ⟨m,s,by go_num,rfl,hg',Hs1.out,Hmb.out⟩
          case measure=>simp [intOf]
        · have i1:¬ hi'<r:=by omega
          have i2:((hi':Int)==(r:Int))=false:=eqB (by omega)
          clear hn hi
          go_wp2_with fail
          refine (hmul.out _).mono ?_
          rintro e w1 ⟨rfl,rfl⟩
          go_wp2
          go_round
          case rel=>exact ⟨m,s,by go_num,rfl,hg',Hs1.out,Hmb.out⟩
          case measure=>simp [intOf]
      · obtain rfl:cc=1:=by omega
        have hQ:=Lib.hid (HG.out _ (hg'.out HGk.out (by omega) (by omega)))
        clear s1 s2 s3 hg hg' hle hc b1 b2 hq hr hq1 hmB
        simp only [Int.cast_ofNat_Int] at hadd
        by_cases hi:hi'=r
        · subst hi
          have i1:¬ hi'<hi':=by omega
          have i2:¬ lo≤x0:=by omega
          clear hn
          go_wp2_with fail
          refine (hmul.out _).mono ?_
          rintro e w1 ⟨rfl,rfl⟩
          go_wp2
          try rw [Exit.noGoto_ret]
          go_ret
          exact ⟨by rw [←hQ.out];exact ret_u (by simp),_,rfl⟩
        · have i1:¬ hi'<r:=by omega
          have i2:((hi':Int)==(r:Int))=false:=eqB (by omega)
          clear hn hi
          go_wp2_with fail
          refine (hmul.out _).mono ?_
          rintro e w1 ⟨rfl,rfl⟩
          go_wp2
          try rw [Exit.noGoto_ret]
          go_ret
          exact ⟨by rw [←hQ.out];exact ret_u (by simp),_,rfl⟩
end Go.Proofs.YtendnkpiidhogaaGreat
namespace Go.Proofs.YtendnkpiidhogaaGreat
open Go.RowKit
def Row (w:World) (g:Nat) (l:List Nat):Prop:=∃ cur,w.heap[g]?=some (.cells cur 139 (0,0))∧∀ (j:Nat) u,(nts l)[j]?=some u→cur[j]?=some u
section
variable {w w' w'':World} {g f:Nat} {l:List Nat} {p:Addr}
theorem add_off (g f j:Nat):(⟨g,f,none⟩:Addr).add j=⟨g,f+j,none⟩:=by
 rcases Nat.eq_zero_or_pos j with h | h
 · subst h;rfl
 · simp [Addr.add,Nat.pos_iff_ne_zero.1 h]
theorem Row.cell (h:Row w g l) (hp:p=⟨g,f,none⟩) {j:Nat} (hj:f+j<l.length):w.cell? (p.add j)=some (.int .u64 (dg l (f+j):Int)):=by
 obtain ⟨cur,h1,h2⟩:=h
 rw [hp,add_off,blk_cell h1,h2 _ _ (nts_get hj)]
theorem Row.free (h:Row w g l) (hp:p=⟨g,f,none⟩) (j:Nat):w.frozen? (p.add j)=false:=by
 obtain ⟨cur,h1,h2⟩:=h
 rw [hp,add_off,blk_free h1]
theorem Row.set (h:Row w g l) (hp:p=⟨g,f,none⟩) (j x:Nat):Row (w.setCell (p.add j) (.int .u64 (x:Int))) g (l.set (f+j) x):=by
 obtain ⟨cur,h1,h2⟩:=h
 rw [hp,add_off]
 refine ⟨cur.setIfInBounds (f+j) (.int .u64 (x:Int)),by simp [World.setCell,Array.getElem?_modify,h1],fun i u hu=>?_⟩
 rw [nts,List.map_set,List.getElem?_set] at hu
 rw [Array.getElem?_setIfInBounds]
 by_cases e:f+j=i
 · rw [if_pos e] at hu ⊢
   split at hu
   · rename_i hl
     have:=h2 i _ (nts_get (by rw [←e];simpa using hl))
     have hi:=(Array.getElem?_eq_some_iff.1 this).1
     rw [if_pos (by omega)]
     exact hu
   · cases hu
 · rw [if_neg e] at hu ⊢
   exact h2 i u hu
theorem Row.lt (h:Row w g l):g<w.heap.size:=by obtain ⟨cur,h1,h2⟩:=h;exact blk_lt h1
theorem Row.drewN (h:Row w g l) (n:Nat):Row (w.drewN n) g l:=h
theorem Row.of_heap (h:Row w g l) (he:w'.heap[g]?=w.heap[g]?):Row w' g l:=by
 obtain ⟨cur,h1,h2⟩:=h
 exact ⟨cur,he.trans h1,h2⟩
theorem Row.below {B:Nat} (h:Row w g l) (hb:Below B w w') (hg:g<B):Row w' g l:=h.of_heap (hb.block g hg)
theorem Row.ob (h:Row w g l) {base c:Nat} (hg:base≤g) (hl:Lim l) (hc:l.length≤c) (hc':c≤maxLen):OB w base (some ⟨g,0,none⟩) c l:=by
 obtain ⟨cur,h1,h2⟩:=h
 exact ⟨hl,hc,hc',fun _=>⟨g,cur,rfl,hg,h1,h2⟩⟩
theorem OB.row {base c:Nat} {A:Option Addr} (h:OB w base A c l) (h0:0<l.length):∃ g,A=some ⟨g,0,none⟩∧base≤g∧Row w g l:=by
 obtain ⟨h1,h2,h3,h4⟩:=h
 obtain ⟨g,cur,e,hg,h5,h6⟩:=h4 h0
 exact ⟨g,e,hg,cur,h5,h6⟩
theorem Row.blk (h:Blk w g l):Row w g l:=⟨_,h,fun j u hu=>by rw [List.getElem?_toArray];exact hu⟩
structure Only (g:Nat) (w w':World):Prop where
 os:w'.os=w.os
 tape:w'.tape=w.tape
 output:w'.output=w.output
 size:w'.heap.size=w.heap.size
 block:∀ k,k≠g→w'.heap[k]?=w.heap[k]?
theorem Only.refl (g:Nat) (w:World):Only g w w:=⟨rfl,rfl,rfl,rfl,fun _ _=>rfl⟩
theorem Only.trans (h:Only g w w') (k:Only g w' w''):Only g w w'':=⟨k.os.trans h.os,k.tape.trans h.tape,k.output.trans h.output,k.size.trans h.size,fun i hi=>(k.block i hi).trans (h.block i hi)⟩
theorem Only.setCell (h:Only g w w') (hp:p=⟨g,f,none⟩) (j:Nat) (v:Value):Only g w (w'.setCell (p.add j) v):=by
 have e:(p.add j).block=g:=by rw [hp,add_off]
 refine ⟨h.os,h.tape,h.output,?_,fun k hk=>(Below.heap_setCell _ _ _ _ (by rw [e];exact hk)).trans (h.block k hk)⟩
 have:(w'.setCell (p.add j) v).heap.size=w'.heap.size:=by unfold World.setCell;split <;> simp
 exact this.trans h.size
theorem Only.drewN (h:Only g w w') (n:Nat):Only g w (w'.drewN n):=⟨h.os,h.tape,h.output,h.size,h.block⟩
theorem Only.below {B:Nat} (h:Only g w w') (hB:B≤g):Below B w w':=⟨h.os,h.tape,h.output,Nat.le_of_eq h.size.symm,fun k hk=>h.block k (by omega)⟩
theorem RN.only {P:Nat→Prop} {A:Option Addr} {c:Nat} (h:RN w P A c l) (ho:Only g w w') (hP:∀ b,P b→b≠g):RN w' P A c l:=h.keep fun q hq=>World.cell?_of_block (w:=w) (ho.block q.block (hP _ hq))
theorem Row.only {g':Nat} (h:Row w g' l) (ho:Only g w w') (hg:g'≠g):Row w' g' l:=h.of_heap (ho.block g' hg)
end
theorem takes_round (q v c x b:Nat) (hq:q<18446744073709551616) (hv:v<18446744073709551616) (hc:c<18446744073709551616) (hx:x<18446744073709551616) (hb:b≤1) :
    ∃ hi lo s c1 t b' : Nat, lo < 18446744073709551616 ∧ lo + 18446744073709551616 * hi = q * v ∧ s < 18446744073709551616 ∧ s + 18446744073709551616 * c1 = lo + c + 0 ∧ hi + c1 < 18446744073709551616 ∧ s + 18446744073709551616 * (hi + c1) = q * v + c ∧
      t<18446744073709551616∧b'≤1∧t+s+b=x+18446744073709551616*b':=by
  have hm:=mul_bound hq hv hc (show 0<18446744073709551616 by omega)
  refine ⟨q*v / 18446744073709551616,q*v % 18446744073709551616,(q*v % 18446744073709551616+c) % 18446744073709551616,(q*v % 18446744073709551616+c) / 18446744073709551616,?_⟩
  obtain ⟨t,b',h1,h2,h3⟩:=borrow_of x ((q*v % 18446744073709551616+c) % 18446744073709551616) b hx (Nat.mod_lt _ (by omega)) hb
  refine ⟨t,b',?_⟩
  generalize q*v=p at *
  omega
theorem takes_any (g f:Nat) (p:Addr) (hp:p=⟨g,f,none⟩) (P:Nat→Prop) (A:Option Addr) (c cx n q:Nat) (L y:List Nat) (w:World) (hr:Row w g L) (hL:Lim L) (h:RN w P A c y) (hP:∀ b,P b→b≠g) (hn:y.length=n) (hf:f+n<L.length) (hq:q<18446744073709551616) :
 Calls Tryz.prog 210 #[.slice (some p) (n+1) cx,.slice A n c,.int .u64 (q:Int)] w fun e w'=>∃ (L':List Nat) (b:Nat),e=.returned (.bool (decide (0<b)))∧Row w' g L'∧Lim L'∧Only g w w' ∧
  L'.length=L.length∧val 18446744073709551616 L'+18446744073709551616 ^ f*(q*val 18446744073709551616 y)=val 18446744073709551616 L+18446744073709551616 ^ (f+n+1)*b∧∀ i,f+n+1≤i→dg L' i=dg L i:=by
 obtain ⟨h1,h2,h3⟩:=h.cap
 have hn1:n≤1000000:=by omega
 have hnc:n≤c:=by omega
 have Hp:=Lib.hid hp
 clear hp h1 h2 h3
 go_enter Tryz.func210,Tryz.ntmps210
 go_wp2
 go_loopw [7,8,16] (fun cv bv iv wr=>∃ (j cr b:Nat) (l:List Nat),iv=.int .i64 (j:Int)∧cv=.int .u64 (cr:Int)∧bv=.int .u64 (b:Int)∧j≤n∧cr<18446744073709551616∧b≤1∧TakesAt 18446744073709551616 L y q f l j cr b∧Lim l∧Row wr g l∧Only g w wr) (fun _ _ iv _=>n - (intOf iv).toNat)
 case atStart=>exact ⟨0,0,0,L,rfl,rfl,rfl,by omega,by omega,by omega,TakesAt.zero _ _ _ _ _,hL,hr,Only.refl _ _⟩
 case round =>
  obtain ⟨j,cr,b,l,rfl,rfl,rfl,hj,hcr,hb,hT,hl,hw,ho⟩:=hrel
  have hll:=hT.1
  by_cases hlt:j<n
  · obtain ⟨ad,rfl,_,q1⟩:=(h.only ho hP).at_ (i:=j) (by omega)
    obtain ⟨hi',lo,s,c1,t,b',b1,b2,b3,b4,b5,b6,b7,b8,b9⟩:=takes_round q (dg y j) cr (dg l (f+j)) b hq (h.2.dgLt j) hcr (hl.dgLt _) hb
    have hmul:=Lib.hid (fun w=>mul64_at q (dg y j) hi' lo hq (h.2.dgLt j) b1 b2 w)
    have hadd:=fun w=>add64_at lo cr 0 s c1 (by omega) b3 b4 w
    simp only [Int.cast_ofNat_Int] at hadd
    have hsub:=fun w=>sub64_at (dg l (f+j)) s b t b' hb (hl.dgLt _) b3 b7 b9 b8 w
    have q3:=hw.cell Hp.out (j:=j) (by omega)
    have q4:=hw.free Hp.out j
    have hT':=hT.step (by omega) b6 b9
    have hw':=hw.set Hp.out j t
    have hl':=hl.set (f+j) t b7
    have ho':=ho.setCell Hp.out j (.int .u64 (t:Int))
    have k1:(j:Int)<(n:Int)+1:=by omega
    clear hT hl hw ho b1 b2 b3 b4 b6 b7 b9 hll hq hcr
    go_wp2_with fail
    refine (hmul.out _).mono ?_
    rintro e w1 ⟨rfl,rfl⟩
    go_wp2
    go_roundw
    case rel=>exact ⟨j+1,hi'+c1,b',l.set (f+j) t,by go_num,by go_num,rfl,by omega,b5,b8,hT',hl',hw',ho'⟩
    case measure=>simp [intOf];omega
  · obtain rfl:j=n:=by omega
    obtain ⟨t,b',b7,b8,b9⟩:=borrow_of (dg l (f+j)) cr b (hl.dgLt _) hcr hb
    have hsub:=fun w=>sub64_at (dg l (f+j)) cr b t b' hb (hl.dgLt _) hcr b7 b9 b8 w
    have q3:=hw.cell Hp.out (j:=j) (by omega)
    have q4:=hw.free Hp.out j
    have hT':=Lib.hid (hT.fin hn (by omega) b9)
    have hw':=hw.set Hp.out j t
    have hl':=hl.set (f+j) t b7
    have ho':=ho.setCell Hp.out j (.int .u64 (t:Int))
    have k1:(j:Int)<(j:Int)+1:=by omega
    clear hT hl hw ho b7 b9 hll hq hcr
    go_wp2
    go_ret
    exact ⟨l.set (f+j) t,b',by simp,hw',hl',ho',hT'.out⟩
theorem gives_any (g f:Nat) (p:Addr) (hp:p=⟨g,f,none⟩) (P:Nat→Prop) (A:Option Addr) (c cx n:Nat) (L y:List Nat) (w:World) (hr:Row w g L) (hL:Lim L) (h:RN w P A c y) (hP:∀ b,P b→b≠g) (hn:y.length=n) (hf:f+n<L.length) :
 Calls Tryz.prog 211 #[.slice (some p) (n+1) cx,.slice A n c] w fun e w'=>∃ (L':List Nat) (b:Nat),e=.returned (.tuple #[])∧Row w' g L'∧Lim L'∧Only g w w' ∧
  L'.length=L.length∧val 18446744073709551616 L'+18446744073709551616 ^ (f+n+1)*b=val 18446744073709551616 L+18446744073709551616 ^ f*val 18446744073709551616 y∧∀ i,f+n+1≤i→dg L' i=dg L i:=by
 obtain ⟨h1,h2,h3⟩:=h.cap
 have hn1:n≤1000000:=by omega
 have hnc:n≤c:=by omega
 have Hp:=Lib.hid hp
 clear hp h1 h2 h3
 go_enter Tryz.func211,Tryz.ntmps211
 go_wp2
 go_loopw [4,9] (fun cv iv wr=>∃ (j cr:Nat) (l:List Nat),iv=.int .i64 (j:Int)∧cv=.int .u64 (cr:Int)∧j≤n∧cr≤1∧GivesAt 18446744073709551616 L y f l j cr∧Lim l∧Row wr g l∧Only g w wr) (fun _ iv _=>n - (intOf iv).toNat)
 case atStart=>exact ⟨0,0,L,rfl,rfl,by omega,by omega,GivesAt.zero _ _ _ _,hL,hr,Only.refl _ _⟩
 case round =>
  obtain ⟨j,cr,l,rfl,rfl,hj,hcr,hT,hl,hw,ho⟩:=hrel
  have hll:=hT.1
  by_cases hlt:j<n
  · obtain ⟨ad,rfl,_,q1⟩:=(h.only ho hP).at_ (i:=j) (by omega)
    obtain ⟨s,c',b7,b8,b9⟩:=carry_of (dg l (f+j)) (dg y j) cr (hl.dgLt _) (h.2.dgLt j) hcr
    have hadd:=fun w=>add64_at (dg l (f+j)) (dg y j) cr s c' hcr b7 b9 w
    have q3:=hw.cell Hp.out (j:=j) (by omega)
    have q4:=hw.free Hp.out j
    have hT':=hT.step (by omega) b9
    have hw':=hw.set Hp.out j s
    have hl':=hl.set (f+j) s b7
    have ho':=ho.setCell Hp.out j (.int .u64 (s:Int))
    have k1:(j:Int)<(n:Int)+1:=by omega
    clear hT hl hw ho b7 b9 hll hcr
    go_wp2
    go_roundw
    case rel=>exact ⟨j+1,c',l.set (f+j) s,by go_num,rfl,by omega,b8,hT',hl',hw',ho'⟩
    case measure=>simp [intOf];omega
  · obtain rfl:j=n:=by omega
    obtain ⟨t,b',b7,b8,b9⟩:=carry_of (dg l (f+j)) 0 cr (hl.dgLt _) (by omega) hcr
    have he:IntKind.u64.wrap ((dg l (f+j):Int)+(cr:Int))=(t:Int):=by
     have:(dg l (f+j):Int)+(cr:Int)=(t:Int)+18446744073709551616*(b':Int):=by omega
     rw [this]
     simp [IntKind.wrap,IntKind.bits,IntKind.signed]
     omega
    have q3:=hw.cell Hp.out (j:=j) (by omega)
    have q4:=hw.free Hp.out j
    have hT':=Lib.hid (hT.fin hn (by omega) (x:=t) (c':=b') (by omega))
    have hw':=hw.set Hp.out j t
    have hl':=hl.set (f+j) t b7
    have ho':=ho.setCell Hp.out j (.int .u64 (t:Int))
    have k1:(j:Int)<(j:Int)+1:=by omega
    clear hT hl hw ho b7 b9 hll hcr
    go_wp2
    go_end0
    exact ⟨l.set (f+j) t,b',rfl,hw',hl',ho',hT'.out⟩
end Go.Proofs.YtendnkpiidhogaaGreat
namespace Go.Proofs.YtendnkpiidhogaaGreat
theorem val_three {B:Nat} {L:List Nat} {t:Nat} (h:∀ x∈L,x<B) (ht:t+3≤L.length) (hz:∀ j,t+3≤j→dg L j=0) :
 ∃ r,r<B ^ t∧val B L=r+B ^ t*((dg L (t+2)*B+dg L (t+1))*B+dg L t):=by
 refine ⟨val B (L.take t),?_,?_⟩
 · have:=val_lt (B:=B) (l:=L.take t) fun x hx=>h x (List.mem_of_mem_take hx)
   rwa [List.length_take,Nat.min_eq_left (by omega)] at this
 · have e:=val_take_drop B L ht
   have hd:val B (L.drop (t+3))=0:=by
    apply val_zeros
    intro x hx
    obtain ⟨i,hi,rfl⟩:=List.getElem_of_mem hx
    rw [List.getElem_drop]
    have:=hz (t+3+i) (by omega)
    rwa [dg,getD_eq' (by simp at hi;omega)] at this
   rw [hd,Nat.mul_zero,Nat.add_zero] at e
   rw [e,val_take_getD,val_take_getD,val_take_getD,show B ^ (t+2)=B ^ t*B*B from by simp only [Nat.pow_succ],Nat.pow_succ]
   have e1:B ^ t*B*B*dg L (t+2)=B ^ t*(dg L (t+2)*B*B):=by simp only [Nat.mul_assoc];rw [Nat.mul_comm B (dg L (t+2)),←Nat.mul_assoc B,Nat.mul_comm B (dg L (t+2)),Nat.mul_assoc]
   have e2:B ^ t*B*dg L (t+1)=B ^ t*(dg L (t+1)*B):=by rw [Nat.mul_assoc,Nat.mul_comm B]
   rw [e1,e2,Nat.add_mul,Nat.mul_add,Nat.mul_add]
   omega
theorem val_two {B:Nat} {L:List Nat} {t:Nat} (ht:t+2=L.length) :
 ∃ r,val B L=r+B ^ t*(dg L (t+1)*B+dg L t):=by
 refine ⟨val B (L.take t),?_⟩
 have e:val B L=val B (L.take (t+2)):=by rw [ht,List.take_length]
 rw [e,val_take_getD,val_take_getD,Nat.pow_succ]
 have e2:B ^ t*B*dg L (t+1)=B ^ t*(dg L (t+1)*B):=by rw [Nat.mul_assoc,Nat.mul_comm B]
 rw [e2,Nat.mul_add]
 omega
theorem quo_three {B q DB V t D2 T rd rv:Nat} (hq:q*DB≤V) (hD:DB=rd+B ^ t*D2) (hV:V=rv+B ^ t*T) (hr:rv<B ^ t):q*D2≤T:=by
 have h1:q*(B ^ t*D2)≤q*DB:=Nat.mul_le_mul_left _ (by omega)
 have h2:q*(B ^ t*D2)=B ^ t*(q*D2):=by rw [Nat.mul_left_comm]
 have h3:B ^ t*(q*D2)<B ^ t*(T+1):=by rw [Nat.mul_add,Nat.mul_one];omega
 exact Nat.le_of_lt_succ (Nat.lt_of_mul_lt_mul_left h3)
def FixAt (B V i n D:Nat) (L:List Nat) (g:Nat) (too:Bool):Prop :=
 V / (B ^ i*D)≤g∧g<B∧(∀ j,i+n+1≤j→dg L j=0)∧val B L+B ^ i*(g*D)=V+if too then B ^ (i+n+1) else 0
section
variable {B V i n D g:Nat} {L L':List Nat}
theorem FixAt.start {b:Nat} (hq:V / (B ^ i*D)≤g) (hg:g<B) (hz:∀ j,i+n+1≤j→dg L' j=dg L j) (hz0:∀ j,i+n+1≤j→dg L j=0) (he:val B L'+B ^ i*(g*D)=V+B ^ (i+n+1)*b) (hL':∀ x∈L',x<B) (hB:2≤B) (hD:D<B ^ n) :
 FixAt B V i n D L' g (decide (0<b)):=by
 have hz':∀ j,i+n+1≤j→dg L' j=0:=fun j hj=>(hz j hj).trans (hz0 j hj)
 refine ⟨hq,hg,hz',?_⟩
 have h1:=val_lt_of_zero (by omega) hL' hz'
 rw [he]
 have h2:B ^ i*(g*D)<B ^ (i+n+1):=by
  rw [Nat.add_assoc,Nat.pow_add,Nat.pow_succ,Nat.mul_comm (B ^ n)]
  refine Nat.mul_lt_mul_of_pos_left ?_ (Nat.pow_pos (by omega))
  exact Nat.lt_of_le_of_lt (Nat.mul_le_mul_left g (Nat.le_of_lt hD)) (Nat.mul_lt_mul_of_pos_right hg (Nat.pow_pos (by omega)))
 rcases Nat.lt_or_ge b 2 with hb | hb
 · have:b=0∨b=1:=by omega
   rcases this with rfl | rfl <;> simp
 · exfalso
   have h3:B ^ (i+n+1)*2≤B ^ (i+n+1)*b:=Nat.mul_le_mul_left _ hb
   omega
theorem FixAt.pos (h:FixAt B V i n D L g true) (hL:∀ x∈L,x<B) (hB:2≤B):V / (B ^ i*D)<g:=by
 obtain ⟨h1,h2,h3,h4⟩:=h
 have h5:=val_lt_of_zero (by omega) hL h3
 apply Nat.div_lt_of_lt_mul
 simp only [if_true] at h4
 rw [Nat.mul_assoc,Nat.mul_comm D]
 omega
theorem FixAt.step {c:Nat} (h:FixAt B V i n D L (g+1) true) (hL:∀ x∈L,x<B) (hL':∀ x∈L',x<B) (hB:2≤B) (hD:0<D) (hDn:D<B ^ n)
 (he:val B L'+B ^ (i+n+1)*c=val B L+B ^ i*D) (hz:∀ j,i+n+1≤j→dg L' j=dg L j):FixAt B V i n D L' g (decide (dg L' (i+n)≠0)):=by
 have hp:=h.pos hL hB
 obtain ⟨h1,h2,h3,h4⟩:=h
 have hz':∀ j,i+n+1≤j→dg L' j=0:=fun j hj=>(hz j hj).trans (h3 j hj)
 have h5:=val_lt_of_zero (by omega) hL h3
 have h6:=val_lt_of_zero (by omega) hL' hz'
 have hDi:B ^ i*D<B ^ (i+n):=by rw [Nat.pow_add];exact Nat.mul_lt_mul_of_pos_left hDn (Nat.pow_pos (by omega))
 have hBB:B ^ (i+n+1)=B ^ (i+n)*B:=Nat.pow_succ _ _
 have hBB2:B ^ (i+n)*2≤B ^ (i+n)*B:=Nat.mul_le_mul_left _ hB
 have hV:V<B ^ i*D*(g+1):=by
  have:=Nat.lt_mul_div_succ V (show 0<B ^ i*D from Nat.mul_pos (Nat.pow_pos (by omega)) hD)
  exact Nat.lt_of_lt_of_le this (Nat.mul_le_mul_left _ (by omega))
 simp only [if_true] at h4
 have e1:B ^ i*((g+1)*D)=B ^ i*(g*D)+B ^ i*D:=by rw [Nat.add_mul,Nat.one_mul,Nat.mul_add]
 have e2:B ^ i*D*(g+1)=B ^ i*(g*D)+B ^ i*D:=by rw [←e1,Nat.mul_assoc,Nat.mul_comm D]
 have hgD:B ^ i*(g*D)+B ^ (i+n)*2≤B ^ (i+n+1)+B ^ (i+n):=by
  obtain ⟨m,hm⟩:∃ m,B=m+2:=⟨B - 2,by omega⟩
  have k1:g*D≤m*B ^ n:=Nat.mul_le_mul (by omega) (Nat.le_of_lt hDn)
  have k2:B ^ i*(g*D)≤B ^ i*(m*B ^ n):=Nat.mul_le_mul_left _ k1
  have k3:B ^ i*(m*B ^ n)=B ^ (i+n)*m:=by rw [Nat.mul_comm m,←Nat.mul_assoc,←Nat.pow_add]
  have k4:B ^ (i+n)*B=B ^ (i+n)*m+B ^ (i+n)*2:=by rw [←Nat.mul_add,←hm]
  omega
 rw [e1] at h4
 rw [e2] at hV
 refine ⟨by omega,by omega,hz',?_⟩
 rcases Nat.eq_zero_or_pos c with rfl | hc
 · rw [Nat.mul_zero,Nat.add_zero] at he
   have hbig:B ^ (i+n)≤val B L':=by omega
   have hne:dg L' (i+n)≠0:=fun h0=>by
    have:=val_lt_of_zero (B:=B) (m:=i+n) (by omega) hL' fun j hj=>by
     rcases Nat.lt_or_ge (i+n) j with h | h
     · exact hz' j (by omega)
     · obtain rfl:j=i+n:=by omega
       exact h0
    omega
   rw [decide_eq_true hne,if_pos rfl]
   omega
 · have hc1:c=1:=by
    rcases Nat.lt_or_ge c 2 with h | h
    · omega
    · have:B ^ (i+n+1)*2≤B ^ (i+n+1)*c:=Nat.mul_le_mul_left _ h
      omega
   subst hc1
   rw [Nat.mul_one] at he
   have hsmall:val B L'<B ^ (i+n):=by omega
   have h0:=zero_of_val_lt hL' hsmall (Nat.le_refl _)
   rw [decide_eq_false (by simp [h0]),if_neg (by simp)]
   omega
theorem FixAt.fin (h:FixAt B V i n D L g false) (hB:2≤B) (hD:0<D):val B L+B ^ i*(g*D)=V∧val B L<B ^ i*D:=by
 obtain ⟨h1,h2,h3,h4⟩:=h
 simp only [Bool.false_eq_true,if_false,Nat.add_zero] at h4
 refine ⟨h4,?_⟩
 have h5:=Nat.lt_mul_div_succ V (show 0<B ^ i*D from Nat.mul_pos (Nat.pow_pos (by omega)) hD)
 have h6:B ^ i*D*(V / (B ^ i*D)+1)≤B ^ i*D*(g+1):=Nat.mul_le_mul_left _ (by omega)
 have e:B ^ i*D*(g+1)=B ^ i*(g*D)+B ^ i*D:=by rw [Nat.mul_add,Nat.mul_one,Nat.mul_assoc,Nat.mul_comm D]
 omega
end
def QuoAt (B X D:Nat) (L qs:List Nat) (k:Nat):Prop:=val B L+D*(B ^ k*val B (qs.drop k))=X∧val B L<B ^ k*D
theorem QuoAt.start {B D m:Nat} {L qs:List Nat} (hq:qs.length=m) (h:val B L<B ^ m*D):QuoAt B (val B L) D L qs m:=by
 refine ⟨?_,h⟩
 rw [←hq,List.drop_length]
 simp
theorem QuoAt.step {B X D k g:Nat} {L L' qs:List Nat} (h:QuoAt B X D L qs (k+1)) (hk:k<qs.length) (h1:val B L'+B ^ k*(g*D)=val B L) (h2:val B L'<B ^ k*D):QuoAt B X D L' (qs.set k g) k:=by
 obtain ⟨g1,g2⟩:=h
 refine ⟨?_,h2⟩
 have e:(qs.set k g).drop k=g :: qs.drop (k+1):=by
  rw [List.drop_set,if_neg (Nat.lt_irrefl _),List.drop_eq_getElem_cons hk,Nat.sub_self,List.set_cons_zero]
 rw [e,val_cons,Nat.mul_add,Nat.mul_add,←g1,←h1,Nat.pow_succ]
 have e1:D*(B ^ k*g)=B ^ k*(g*D):=by rw [Nat.mul_left_comm,Nat.mul_comm D]
 rw [e1,Nat.mul_assoc (B ^ k)]
 omega
theorem QuoAt.fin {B X D:Nat} {L qs:List Nat} (h:QuoAt B X D L qs 0):val B qs=X / D∧val B L=X % D:=by
 obtain ⟨g1,g2⟩:=h
 simp only [Nat.pow_zero,Nat.one_mul,List.drop_zero] at g1 g2
 rw [←g1]
 refine ⟨?_,?_⟩
 · rw [Nat.add_comm,Nat.mul_add_div (by omega),Nat.div_eq_of_lt g2,Nat.add_zero]
 · rw [Nat.add_comm,Nat.mul_add_mod,Nat.mod_eq_of_lt g2]
theorem norm_d {B p u y top n:Nat} (hB:2≤B) (he:B % 2=0) (hp:B=u*p) (hn:(digs B y).length=n+1) (ht:dg (digs B y) n=top) (h1:B≤2*(top*p)) (h2:top*p<B) :
 (digs B (y*p)).length=n+1∧B≤2*dg (digs B (y*p)) n∧B ^ (n+1)≤2*(y*p):=by
 have hBn:0<B ^ n:=Nat.pow_pos (by omega)
 have hy:y=val B ((digs B y).take n)+B ^ n*top:=by
  rw [←ht,←val_take_getD,←hn,List.take_length,val_digs hB]
 have hr:val B ((digs B y).take n)<B ^ n:=by
  have:=val_lt (B:=B) (l:=(digs B y).take n) fun x hx=>digs_lt hB y x (List.mem_of_mem_take hx)
  rwa [List.length_take,Nat.min_eq_left (by omega)] at this
 generalize val B ((digs B y).take n)=r at *
 have hu:(top+1)*p≤B:=by
  have:top<u:=by
   rw [hp] at h2
   exact Nat.lt_of_mul_lt_mul_right h2
  rw [hp]
  exact Nat.mul_le_mul_right _ this
 have hup:y*p<B ^ (n+1):=by
  have k1:y+1≤B ^ n*(top+1):=by rw [Nat.mul_add,Nat.mul_one];omega
  have hp0:0<p:=by
   rcases Nat.eq_zero_or_pos p with h | h
   · subst h;omega
   · exact h
  have k2:y*p<(y+1)*p:=Nat.mul_lt_mul_of_pos_right (by omega) hp0
  have k3:(y+1)*p≤B ^ n*(top+1)*p:=Nat.mul_le_mul_right _ k1
  have k4:B ^ n*(top+1)*p≤B ^ n*B:=by rw [Nat.mul_assoc];exact Nat.mul_le_mul_left _ hu
  rw [Nat.pow_succ]
  omega
 have hlo:B ^ (n+1)≤2*(y*p):=by
  have k1:B ^ n*top*p≤y*p:=Nat.mul_le_mul_right _ (by omega)
  have k2:B ^ n*B≤B ^ n*(2*(top*p)):=Nat.mul_le_mul_left _ h1
  have k3:B ^ n*(2*(top*p))=2*(B ^ n*top*p):=by rw [Nat.mul_left_comm,Nat.mul_assoc]
  rw [Nat.pow_succ]
  omega
 have hBB:B ^ n*2≤B ^ n*B:=Nat.mul_le_mul_left _ hB
 have hlen:(digs B (y*p)).length=n+1:=by
  refine Nat.le_antisymm (digs_length_of_lt hB hup) ?_
  rcases Nat.lt_or_ge n (digs B (y*p)).length with h | h
  · exact h
  · have k1:=lt_pow_digs hB (y*p)
    have k2:B ^ (digs B (y*p)).length≤B ^ n:=Nat.pow_le_pow_right (by omega) h
    rw [Nat.pow_succ] at hlo
    omega
 refine ⟨hlen,?_,hlo⟩
 have hD:y*p=val B ((digs B (y*p)).take n)+B ^ n*dg (digs B (y*p)) n:=by
  rw [←val_take_getD,←hlen,List.take_length,val_digs hB]
 have hr2:val B ((digs B (y*p)).take n)<B ^ n:=by
  have:=val_lt (B:=B) (l:=(digs B (y*p)).take n) fun x hx=>digs_lt hB (y*p) x (List.mem_of_mem_take hx)
  rwa [List.length_take,Nat.min_eq_left (by omega)] at this
 generalize dg (digs B (y*p)) n=z at *
 have k1:B ^ n*B<B ^ n*(2*(z+1)):=by
  rw [Nat.pow_succ] at hlo
  have:B ^ n*(2*(z+1))=2*(B ^ n*z+B ^ n):=by rw [Nat.mul_left_comm,Nat.mul_add,Nat.mul_one]
  omega
 have k2:=Nat.lt_of_mul_lt_mul_left k1
 omega
theorem norm_x {B x D n:Nat} (hB:2≤B) (hn:n≤(digs B x).length+1) (hD:B ^ n≤2*D):x<B ^ ((digs B x).length+1 - n)*D:=by
 have h1:=lt_pow_digs hB x
 generalize (digs B x).length=k at *
 have h2:B ^ (k+1 - n)*B ^ n≤B ^ (k+1 - n)*(2*D):=Nat.mul_le_mul_left _ hD
 rw [←Nat.pow_add,show k+1 - n+n=k+1 by omega,Nat.pow_succ,Nat.mul_left_comm] at h2
 have h3:B ^ k*2≤B ^ k*B:=Nat.mul_le_mul_left _ hB
 omega
end Go.Proofs.YtendnkpiidhogaaGreat

namespace Go.Proofs.YtendnkpiidhogaaGreat
theorem dg_drop (u:List Nat) (k i:Nat):dg (u.drop k) i=dg u (k+i):=by
 simp [dg,List.getD_eq_getElem?_getD,List.getElem?_drop]
def LessAt (B:Nat) (u v W:List Nat) (k g i c b:Nat):Prop:=W.length=v.length+1∧val B (W.take i)+g*val B (v.take i)=val B ((u.drop k).take i)+B ^ i*(c+b)
section
variable {B k g i c b:Nat} {u v W:List Nat}
theorem LessAt.zero (h:W.length=v.length+1):LessAt B u v W k g 0 0 0:=⟨h,by simp⟩
theorem LessAt.step {lo c' x b':Nat} (h:LessAt B u v W k g i c b) (hi:i<W.length) (h1:lo+B*c'=c+g*dg v i) (h2:x+(lo+b)=dg u (k+i)+B*b'):LessAt B u v (W.set i x) k g (i+1) c' b':=by
 obtain ⟨g1,g2⟩:=h
 refine ⟨by simpa using g1,?_⟩
 rw [val_take_set B hi,val_take_getD,val_take_getD,dg_drop,Nat.pow_succ]
 have e1:g*(B ^ i*dg v i)=B ^ i*(g*dg v i):=Nat.mul_left_comm _ _ _
 have e2:B ^ i*(lo+B*c')=B ^ i*(c+g*dg v i):=by rw [h1]
 have e3:B ^ i*(x+(lo+b))=B ^ i*(dg u (k+i)+B*b'):=by rw [h2]
 rw [Nat.mul_add g,e1,Nat.mul_assoc,Nat.mul_add B,Nat.mul_add (B ^ i) (B*c')]
 simp only [Nat.mul_add] at e2 e3 g2 ⊢
 generalize B ^ i*(B*c')=p1 at *
 generalize B ^ i*(B*b')=p2 at *
 generalize B ^ i*lo=p3 at *
 generalize B ^ i*(g*dg v i)=p4 at *
 generalize B ^ i*c=p5 at *
 generalize B ^ i*b=p6 at *
 generalize B ^ i*x=p7 at *
 generalize B ^ i*dg u (k+i)=p8 at *
 omega
def putAt (u W:List Nat) (k:Nat):List Nat:=u.take k++W++u.drop (k+W.length)
theorem putAt_length (h:k+W.length≤u.length):(putAt u W k).length=u.length:=by simp [putAt];omega
theorem val_parts (B:Nat) (h:k+W.length≤u.length):∃ r t:Nat,val B u=r+B ^ k*(val B ((u.drop k).take W.length)+B ^ W.length*t)∧val B (putAt u W k)=r+B ^ k*(val B W+B ^ W.length*t):=by
 refine ⟨val B (u.take k),val B (u.drop (k+W.length)),?_,?_⟩
 · rw [val_take_drop B u (n:=k) (by omega),val_take_drop B (u.drop k) (n:=W.length) (by simp;omega),List.drop_drop]
 · unfold putAt
   rw [val_append,val_append,List.length_append,List.length_take,Nat.min_eq_left (by omega),Nat.pow_add,Nat.mul_assoc,Nat.add_assoc,←Nat.mul_add]
theorem LessAt.yes (h:LessAt B u v W k g W.length 0 0) (hk:k+W.length≤u.length):val B (putAt u W k)+B ^ k*(g*val B v)=val B u:=by
 obtain ⟨g1,g2⟩:=h
 obtain ⟨r,t,e1,e2⟩:=val_parts B (u:=u) (W:=W) hk
 rw [List.take_length,List.take_of_length_le (by omega:v.length≤W.length)] at g2
 simp only [Nat.add_zero,Nat.mul_zero] at g2
 rw [e1,e2,←g2,Nat.mul_add,Nat.mul_add,Nat.mul_add]
 omega
theorem LessAt.no (h:LessAt B u v W k g W.length 0 1) (hW:∀ x∈W,x<B) (hu:∀ x∈u,x<B) (hz:∀ j,k+W.length≤j→dg u j=0) (hk:k+W.length≤u.length):val B u / (B ^ k*val B v)<g:=by
 obtain ⟨g1,g2⟩:=h
 rw [List.take_length,List.take_of_length_le (by omega:v.length≤W.length)] at g2
 simp only [Nat.zero_add,Nat.mul_one] at g2
 have h1:=val_lt hW
 have e1:=val_take_drop B u (n:=k) (by omega)
 have e2:=val_take_drop B (u.drop k) (n:=W.length) (by simp;omega)
 have h0:val B ((u.drop k).drop W.length)=0:=by
  apply val_zeros
  intro x hx
  rw [List.drop_drop] at hx
  obtain ⟨i,hi,rfl⟩:=List.getElem_of_mem hx
  rw [List.getElem_drop]
  have:=hz (k+W.length+i) (by omega)
  rwa [dg,getD_eq' (by simp at hi;omega)] at this
 rw [h0,Nat.mul_zero,Nat.add_zero] at e2
 have h2:val B (u.take k)<B ^ k:=by
  have:=val_lt (B:=B) (l:=u.take k) fun x hx=>hu x (List.mem_of_mem_take hx)
  rwa [List.length_take,Nat.min_eq_left (by omega)] at this
 apply Nat.div_lt_of_lt_mul
 rw [e1,e2]
 have h3:val B ((u.drop k).take W.length)+1≤g*val B v:=by omega
 have h4:B ^ k*(val B ((u.drop k).take W.length)+1)≤B ^ k*(g*val B v):=Nat.mul_le_mul_left _ h3
 rw [Nat.mul_add,Nat.mul_one] at h4
 rw [Nat.mul_assoc,Nat.mul_comm (val B v)]
 omega
theorem guess2_ge {n n1:Nat} (hn:n1+1=n) (hu:∀ x∈u,x<B) (hv:∀ x∈v,x<B) (hvn:v.length=n) (hlen:k+n<u.length) (htop:0<dg v n1) (hV:val B u<B ^ (k+1)*val B v) :
 (∀ i,k+n+1≤i→dg u i=0)∧val B u / (B ^ k*val B v)<B∧val B u / (B ^ k*val B v)≤(dg u (k+n)*B+dg u (k+n1)) / dg v n1:=by
 subst hn
 have hB:0<B:=Nat.lt_of_le_of_lt (Nat.zero_le _) (hu _ (List.getElem_mem (by omega:k<u.length)))
 have hdl:=val_lt hv
 rw [hvn] at hdl
 have hz:∀ i,k+(n1+1)+1≤i→dg u i=0:=fun i hi=>zero_of_val_lt hu (m:=k+(n1+1)+1) (Nat.lt_trans hV (by
  rw [show k+(n1+1)+1=(k+1)+(n1+1) by omega,Nat.pow_add _ (k+1)]
  exact Nat.mul_lt_mul_of_pos_left hdl (Nat.pow_pos hB))) hi
 refine ⟨hz,?_,?_⟩
 · apply Nat.div_lt_of_lt_mul
   rw [Nat.pow_succ,Nat.mul_right_comm] at hV
   exact hV
 · rw [Nat.le_div_iff_mul_le htop]
   have e:=val_take_drop B u (n:=k+n1+2) (by omega)
   have hd:val B (u.drop (k+n1+2))=0:=by
    apply val_zeros
    intro x hx
    obtain ⟨i,hi,rfl⟩:=List.getElem_of_mem hx
    rw [List.getElem_drop]
    have:=hz (k+n1+2+i) (by omega)
    rwa [dg,getD_eq' (by simp at hi;omega)] at this
   rw [hd,Nat.mul_zero,Nat.add_zero,val_take_getD,val_take_getD,Nat.pow_succ] at e
   have hr:=val_lt (B:=B) (l:=u.take (k+n1)) fun x hx=>hu x (List.mem_of_mem_take hx)
   rw [List.length_take,Nat.min_eq_left (by omega)] at hr
   have ev:val B v=val B (v.take n1)+B ^ n1*dg v n1:=by rw [←val_take_getD,←hvn,List.take_length]
   refine quo_three (B:=B) (t:=k+n1) (DB:=B ^ k*val B v) (rd:=B ^ k*val B (v.take n1)) (V:=val B u) (rv:=val B (u.take (k+n1))) (Nat.div_mul_le_self _ _) ?_ ?_ hr
   · rw [ev,Nat.mul_add,←Nat.mul_assoc,←Nat.pow_add]
   · rw [e,Nat.mul_assoc,Nat.mul_comm B,Nat.mul_add,show k+(n1+1)=k+n1+1 by omega]
     omega
def TimesAt (B:Nat) (a o:List Nat) (m i c:Nat):Prop:=o.length=a.length+1∧val B (o.take i)+B ^ i*c=m*val B (a.take i)
theorem TimesAt.step {a o:List Nat} {m x c':Nat} (h:TimesAt B a o m i c) (hi:i<o.length) (h1:x+B*c'=c+dg a i*m):TimesAt B a (o.set i x) m (i+1) c':=by
 obtain ⟨g1,g2⟩:=h
 refine ⟨by simpa using g1,?_⟩
 rw [val_take_set B hi,val_take_getD,Nat.mul_add,←g2,Nat.pow_succ,Nat.mul_assoc]
 have e1:m*(B ^ i*dg a i)=B ^ i*(dg a i*m):=by rw [Nat.mul_left_comm,Nat.mul_comm m]
 have e2:B ^ i*(x+B*c')=B ^ i*(c+dg a i*m):=by rw [h1]
 rw [e1]
 simp only [Nat.mul_add] at e2
 omega
theorem TimesAt.fin {a o:List Nat} {m:Nat} (h:TimesAt B a o m a.length c):val B (o.set a.length c)=m*val B a:=by
 obtain ⟨g1,g2⟩:=h
 have e:(o.set a.length c).length=a.length+1:=by simpa using g1
 have e2:val B (o.set a.length c)=val B ((o.set a.length c).take (a.length+1)):=by rw [←e,List.take_length]
 rw [e2,val_take_set B (by omega),g2,List.take_length]
end
end Go.Proofs.YtendnkpiidhogaaGreat
