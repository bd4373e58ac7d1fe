/- Laws that the proof rests on. -/
import Derived.Test.YtmlbicgpehchhaaGreatQa2e9e09e68fb
set_option maxRecDepth 100000
set_option maxHeartbeats 16000000
namespace Go.Proofs.YtmlbicgpehchhaaGreat
open Go.RowKit
def vX (size:Nat) (sp sn sb sx sy fp:Value) (tl fl:List Nat):List Value:=[Value.int .i64 (size:Int),sp,sn,sb,sx,sy,fp]++nts tl++nts fl
structure Num (w:World) (P:Nat→Prop) (k g size n inv M bb:Nat) (pl nl bl xl yl ml ol rl tl fl:List Nat) (Ap An Ab Ax Ay:Option Addr) (cp cn cb cx cy:Nat):Prop where
 blk:w.heap[k]?=some (.cells (vX size (.slice Ap pl.length cp) (.slice An nl.length cn) (.slice Ab bl.length cb) (.slice Ax xl.length cx) (.slice Ay yl.length cy) (.pointer (some ⟨g,0,none⟩)) tl fl).toArray 149 (0,0))
 p:RN w P Ap cp pl
 nn:RN w P An cn nl
 b:RN w P Ab cb bl
 x:RN w P Ax cx xl
 y:RN w P Ay cy yl
 fr:FR w g n inv M ml ol rl
 pv:val 18446744073709551616 pl=M
 three:FE M n tl 3
 fb:FE M n fl bb
theorem dh {w:World}{g i:Nat}{v a b c d e f:Value}(j:Nat) (h1:i<j) (_h2:i<100) (h:w.cell? ⟨g,i,none⟩=some v) :
 ((((((w.setCell ⟨g,j,none⟩ a).setCell ⟨g,j+1,none⟩ b).setCell ⟨g,j+2,none⟩ c).setCell ⟨g,j+3,none⟩ d).setCell ⟨g,j+4,none⟩ e).setCell ⟨g,j+5,none⟩ f).cell? ⟨g,i,none⟩=some v:=by
 have key:∀ (w:World) (k:Nat) (u:Value),i<k→(w.setCell ⟨g,k,none⟩ u).cell? ⟨g,i,none⟩=w.cell? ⟨g,i,none⟩:=fun w k u hk=>by
  have hne:k≠i:=by omega
  simp [go_sem,hne]
 rw [key _ _ _ (by omega),key _ _ _ (by omega),key _ _ _ (by omega),key _ _ _ (by omega),key _ _ _ (by omega),key _ _ _ (by omega)]
 exact h
theorem dX {w:World}{k size:Nat}{sp sn sb sx sy fp:Value}{ty:TypeId}(h:w.heap[k]?=some (.cells (vX size sp sn sb sx sy fp z6 z6).toArray ty (0,0))):∀ i,7≤i→i<19→w.cell? ⟨k,i,none⟩=some (.int .u64 0)∧w.frozen? ⟨k,i,none⟩=false:=by
 intro i h1 h2;refine ⟨?_,zv h i⟩;rw [zJ h i];obtain ⟨j,rfl⟩:∃ j,i=j+7:=⟨i - 7,by omega⟩
 match j,h2 with
 | 0,_ | 1,_ | 2,_ | 3,_ | 4,_ | 5,_ | 6,_ | 7,_ | 8,_ | 9,_ | 10,_ | 11,_=>rfl
 | j+12,h2=>omega
theorem mQ {w:World}{g j:Nat}{ty:TypeId}{x0 x1 x2 x3 x4 x5 a b c d e f:Value}(pre post:List Value) (hj:pre.length=j) (h:w.heap[g]?=some (.cells (pre++x0 :: x1 :: x2 :: x3 :: x4 :: x5 :: post).toArray ty (0,0))) :
 ((((((w.setCell ⟨g,j,none⟩ a).setCell ⟨g,j+1,none⟩ b).setCell ⟨g,j+2,none⟩ c).setCell ⟨g,j+3,none⟩ d).setCell ⟨g,j+4,none⟩ e).setCell ⟨g,j+5,none⟩ f).heap[g]?=some (.cells (pre++a :: b :: c :: d :: e :: f :: post).toArray ty (0,0)):=by
 subst hj
 rw [jm (jm (jm (jm (jm (jm h pre.length a) (pre.length+1) b) (pre.length+2) c) (pre.length+3) d) (pre.length+4) e) (pre.length+5) f]
 simp only [uP]
 rw [vN _ _ (by omega),vN _ _ (by omega),vN _ _ (by omega),vN _ _ (by omega),vN _ _ (by omega),vN _ _ (by omega)]
 simp
theorem mN {w:World}{g size:Nat}{sp sn sb sx sy fp:Value}{ty:TypeId}(h:w.heap[g]?=some (.cells (vX size sp sn sb sx sy fp z6 z6).toArray ty (0,0))) (u0 u1 u2 u3 u4 u5 v0 v1 v2 v3 v4 v5:Nat) :
 ((((((((((((w.setCell ⟨g,7,none⟩ (.int .u64 (u0:Int))).setCell ⟨g,8,none⟩ (.int .u64 (u1:Int))).setCell ⟨g,9,none⟩ (.int .u64 (u2:Int))).setCell ⟨g,10,none⟩ (.int .u64 (u3:Int))).setCell ⟨g,11,none⟩ (.int .u64 (u4:Int))).setCell ⟨g,12,none⟩ (.int .u64 (u5:Int))).setCell ⟨g,13,none⟩ (.int .u64 (v0:Int))).setCell ⟨g,14,none⟩ (.int .u64 (v1:Int))).setCell ⟨g,15,none⟩ (.int .u64 (v2:Int))).setCell ⟨g,16,none⟩ (.int .u64 (v3:Int))).setCell ⟨g,17,none⟩ (.int .u64 (v4:Int))).setCell ⟨g,18,none⟩ (.int .u64 (v5:Int))).heap[g]?=some (.cells (vX size sp sn sb sx sy fp [u0,u1,u2,u3,u4,u5] [v0,v1,v2,v3,v4,v5]).toArray ty (0,0)) ∧
 (∀ b,b≠g→((((((((((((w.setCell ⟨g,7,none⟩ (.int .u64 (u0:Int))).setCell ⟨g,8,none⟩ (.int .u64 (u1:Int))).setCell ⟨g,9,none⟩ (.int .u64 (u2:Int))).setCell ⟨g,10,none⟩ (.int .u64 (u3:Int))).setCell ⟨g,11,none⟩ (.int .u64 (u4:Int))).setCell ⟨g,12,none⟩ (.int .u64 (u5:Int))).setCell ⟨g,13,none⟩ (.int .u64 (v0:Int))).setCell ⟨g,14,none⟩ (.int .u64 (v1:Int))).setCell ⟨g,15,none⟩ (.int .u64 (v2:Int))).setCell ⟨g,16,none⟩ (.int .u64 (v3:Int))).setCell ⟨g,17,none⟩ (.int .u64 (v4:Int))).setCell ⟨g,18,none⟩ (.int .u64 (v5:Int))).heap[b]?=w.heap[b]?)∧((((((((((((w.setCell ⟨g,7,none⟩ (.int .u64 (u0:Int))).setCell ⟨g,8,none⟩ (.int .u64 (u1:Int))).setCell ⟨g,9,none⟩ (.int .u64 (u2:Int))).setCell ⟨g,10,none⟩ (.int .u64 (u3:Int))).setCell ⟨g,11,none⟩ (.int .u64 (u4:Int))).setCell ⟨g,12,none⟩ (.int .u64 (u5:Int))).setCell ⟨g,13,none⟩ (.int .u64 (v0:Int))).setCell ⟨g,14,none⟩ (.int .u64 (v1:Int))).setCell ⟨g,15,none⟩ (.int .u64 (v2:Int))).setCell ⟨g,16,none⟩ (.int .u64 (v3:Int))).setCell ⟨g,17,none⟩ (.int .u64 (v4:Int))).setCell ⟨g,18,none⟩ (.int .u64 (v5:Int))).heap.size=w.heap.size∧∀ B w0,B≤g→Below B w0 w→Below B w0 ((((((((((((w.setCell ⟨g,7,none⟩ (.int .u64 (u0:Int))).setCell ⟨g,8,none⟩ (.int .u64 (u1:Int))).setCell ⟨g,9,none⟩ (.int .u64 (u2:Int))).setCell ⟨g,10,none⟩ (.int .u64 (u3:Int))).setCell ⟨g,11,none⟩ (.int .u64 (u4:Int))).setCell ⟨g,12,none⟩ (.int .u64 (u5:Int))).setCell ⟨g,13,none⟩ (.int .u64 (v0:Int))).setCell ⟨g,14,none⟩ (.int .u64 (v1:Int))).setCell ⟨g,15,none⟩ (.int .u64 (v2:Int))).setCell ⟨g,16,none⟩ (.int .u64 (v3:Int))).setCell ⟨g,17,none⟩ (.int .u64 (v4:Int))).setCell ⟨g,18,none⟩ (.int .u64 (v5:Int))):=by
 refine ⟨?_,?_,by simp [World.setCell],?_⟩
 · have h1:=mQ [Value.int .i64 (size:Int),sp,sn,sb,sx,sy,fp] (nts z6) (j:=7) (ty:=ty) (x0:=.int .u64 0) (x1:=.int .u64 0) (x2:=.int .u64 0) (x3:=.int .u64 0) (x4:=.int .u64 0) (x5:=.int .u64 0) rfl (a:=.int .u64 (u0:Int)) (b:=.int .u64 (u1:Int)) (c:=.int .u64 (u2:Int)) (d:=.int .u64 (u3:Int)) (e:=.int .u64 (u4:Int)) (f:=.int .u64 (u5:Int)) (h.trans (by simp [vX,nts,z6]));have h2:=mQ ([Value.int .i64 (size:Int),sp,sn,sb,sx,sy,fp]++nts [u0,u1,u2,u3,u4,u5]) [] (j:=13) (ty:=ty) (x0:=.int .u64 0) (x1:=.int .u64 0) (x2:=.int .u64 0) (x3:=.int .u64 0) (x4:=.int .u64 0) (x5:=.int .u64 0) (by simp [nts]) (a:=.int .u64 (v0:Int)) (b:=.int .u64 (v1:Int)) (c:=.int .u64 (v2:Int)) (d:=.int .u64 (v3:Int)) (e:=.int .u64 (v4:Int)) (f:=.int .u64 (v5:Int)) (h1.trans (by simp [vX,nts,z6]));exact h2.trans (by simp [vX,nts])
 · intro b hb;repeat rw [zN _ _ _ _ hb]
 · intro B w0 hB h0;exact ((((((((((((h0.setCell (p:=⟨g,7,none⟩) hB (.int .u64 (u0:Int))).setCell (p:=⟨g,8,none⟩) hB (.int .u64 (u1:Int))).setCell (p:=⟨g,9,none⟩) hB (.int .u64 (u2:Int))).setCell (p:=⟨g,10,none⟩) hB (.int .u64 (u3:Int))).setCell (p:=⟨g,11,none⟩) hB (.int .u64 (u4:Int))).setCell (p:=⟨g,12,none⟩) hB (.int .u64 (u5:Int))).setCell (p:=⟨g,13,none⟩) hB (.int .u64 (v0:Int))).setCell (p:=⟨g,14,none⟩) hB (.int .u64 (v1:Int))).setCell (p:=⟨g,15,none⟩) hB (.int .u64 (v2:Int))).setCell (p:=⟨g,16,none⟩) hB (.int .u64 (v3:Int))).setCell (p:=⟨g,17,none⟩) hB (.int .u64 (v4:Int))).setCell (p:=⟨g,18,none⟩) hB (.int .u64 (v5:Int)))
def xg:List Nat:=[18446744073709551615,4294967295,0,18446744069414584321]
def ny:List Nat:=[17562291160714782033,13611842547513532036,18446744073709551615,18446744069414584320]
def gL:List Nat:=[4309448131093880907,7285987128567378166,12964664127075681980,6540974713487397863]
def nx:List Nat:=[17627433388654248598,8575836109218198432,17923454489921339634,7716867327612699207]
def nw:List Nat:=[14678990851816772085,3156516839386865358,10297457778147434006,5756518291402817435]
def tZ (l:List Nat):Prop:=(∀ x∈l,x<18446744073709551616)∧l.length≤6
theorem RN.lits (w:World) (l:List Nat) (h:tZ l):RN (w.alloc (.cells (nts l).toArray 69)) (In w.heap.size (w.heap.size+1)) (some ⟨w.heap.size,0,none⟩) l.length l:=by
 have hb:Blk (w.alloc (.cells (nts l).toArray 69)) w.heap.size l:=zP w _;have:=(kA (c:=l.length) hb (base:=w.heap.size) (zH _) ⟨h.1,by have:=h.2;omega⟩ (zH _) (by have:=h.2;unfold maxLen;omega)).rn;exact this.mono fun b hb=>by have:=hb.2;rw [qL] at this;exact ⟨hb.1,this⟩
theorem ax (w:World) (l1 l2 l3 l4 l5:List Nat) (o:Obj) (h1:tZ l1) (h2:tZ l2) (h3:tZ l3) (h4:tZ l4) (h5:tZ l5) :
 ∀ W,W=(((((w.alloc (.cells (nts l1).toArray 69)).alloc (.cells (nts l2).toArray 69)).alloc (.cells (nts l3).toArray 69)).alloc (.cells (nts l4).toArray 69)).alloc (.cells (nts l5).toArray 69)).alloc o →
 RN W (In w.heap.size (w.heap.size+5)) (some ⟨w.heap.size,0,none⟩) l1.length l1∧RN W (In w.heap.size (w.heap.size+5)) (some ⟨w.heap.size+1,0,none⟩) l2.length l2∧RN W (In w.heap.size (w.heap.size+5)) (some ⟨w.heap.size+1+1,0,none⟩) l3.length l3 ∧
 RN W (In w.heap.size (w.heap.size+5)) (some ⟨w.heap.size+1+1+1,0,none⟩) l4.length l4∧RN W (In w.heap.size (w.heap.size+5)) (some ⟨w.heap.size+1+1+1+1,0,none⟩) l5.length l5∧W.heap[w.heap.size+1+1+1+1+1]?=some o∧W.heap.size=w.heap.size+6∧Below w.heap.size w W:=by
 rintro W rfl
 have r1:=RN.lits w l1 h1
 have r2:=RN.lits (w.alloc (.cells (nts l1).toArray 69)) l2 h2
 have r3:=RN.lits ((w.alloc (.cells (nts l1).toArray 69)).alloc (.cells (nts l2).toArray 69)) l3 h3
 have r4:=RN.lits (((w.alloc (.cells (nts l1).toArray 69)).alloc (.cells (nts l2).toArray 69)).alloc (.cells (nts l3).toArray 69)) l4 h4
 have r5:=RN.lits ((((w.alloc (.cells (nts l1).toArray 69)).alloc (.cells (nts l2).toArray 69)).alloc (.cells (nts l3).toArray 69)).alloc (.cells (nts l4).toArray 69)) l5 h5
 have e:=zP (((((w.alloc (.cells (nts l1).toArray 69)).alloc (.cells (nts l2).toArray 69)).alloc (.cells (nts l3).toArray 69)).alloc (.cells (nts l4).toArray 69)).alloc (.cells (nts l5).toArray 69)) o
 have b6:Below (w.heap.size+5) (((((w.alloc (.cells (nts l1).toArray 69)).alloc (.cells (nts l2).toArray 69)).alloc (.cells (nts l3).toArray 69)).alloc (.cells (nts l4).toArray 69)).alloc (.cells (nts l5).toArray 69)) ((((((w.alloc (.cells (nts l1).toArray 69)).alloc (.cells (nts l2).toArray 69)).alloc (.cells (nts l3).toArray 69)).alloc (.cells (nts l4).toArray 69)).alloc (.cells (nts l5).toArray 69)).alloc o):=(zO _ _).alloc (by simp <;> omega) _
 simp only [qL] at r2 r3 r4 r5 e
 have s4:=(r4.below ((zO (w.heap.size+4) _).alloc (by simp <;> omega) (.cells (nts l5).toArray 69)) (fun b hb=>by have:=hb.2;omega)).below b6 (fun b hb=>by have:=hb.2;omega)
 have s3:=((r3.below ((zO (w.heap.size+3) _).alloc (by simp <;> omega) (.cells (nts l4).toArray 69)) (fun b hb=>by have:=hb.2;omega)).below ((zO (w.heap.size+4) _).alloc (by simp <;> omega) (.cells (nts l5).toArray 69)) (fun b hb=>by have:=hb.2;omega)).below b6 (fun b hb=>by have:=hb.2;omega)
 have s2:=(((r2.below ((zO (w.heap.size+2) _).alloc (by simp) (.cells (nts l3).toArray 69)) (fun b hb=>by have:=hb.2;omega)).below ((zO (w.heap.size+3) _).alloc (by simp <;> omega) (.cells (nts l4).toArray 69)) (fun b hb=>by have:=hb.2;omega)).below ((zO (w.heap.size+4) _).alloc (by simp <;> omega) (.cells (nts l5).toArray 69)) (fun b hb=>by have:=hb.2;omega)).below b6 (fun b hb=>by have:=hb.2;omega)
 have s1:=((((r1.below ((zO (w.heap.size+1) _).alloc (by simp) (.cells (nts l2).toArray 69)) (fun b hb=>by have:=hb.2;omega)).below ((zO (w.heap.size+2) _).alloc (by simp) (.cells (nts l3).toArray 69)) (fun b hb=>by have:=hb.2;omega)).below ((zO (w.heap.size+3) _).alloc (by simp <;> omega) (.cells (nts l4).toArray 69)) (fun b hb=>by have:=hb.2;omega)).below ((zO (w.heap.size+4) _).alloc (by simp <;> omega) (.cells (nts l5).toArray 69)) (fun b hb=>by have:=hb.2;omega)).below b6 (fun b hb=>by have:=hb.2;omega)
 have s5:=r5.below b6 (fun b hb=>by have:=hb.2;omega)
 refine ⟨s1.mono ?_,s2.mono ?_,s3.mono ?_,s4.mono ?_,s5.mono ?_,e,by simp,?_⟩
 any_goals (intro b hb;have h1:=hb.1;have h2:=hb.2;exact ⟨by omega,by omega⟩)
 exact ((((((zO _ w).alloc (zH _) _).alloc (by simp) _).alloc (by simp <;> omega) _).alloc (by simp <;> omega) _).alloc (by simp <;> omega) _).alloc (by simp <;> omega) _
theorem rg (w:World):Calls Tryz.prog 102 #[.int .i64 1] w fun e w'=>∃ k g inv ml ol rl tl fl,e=.returned (.pointer (some ⟨k,0,none⟩))∧w.heap.size≤k ∧
 Num w' (In w.heap.size w'.heap.size) k g 32 4 inv (val 18446744073709551616 xg) (val 18446744073709551616 gL) xg ny gL nx nw ml ol rl tl fl (some ⟨w.heap.size,0,none⟩) (some ⟨w.heap.size+1,0,none⟩) (some ⟨w.heap.size+1+1,0,none⟩) (some ⟨w.heap.size+1+1+1,0,none⟩) (some ⟨w.heap.size+1+1+1+1,0,none⟩) 4 4 4 4 4∧Below w.heap.size w w':=by
 obtain ⟨z,hz⟩:=eW (World.alloc (((((w.alloc (.cells (nts xg).toArray 69)).alloc (.cells (nts ny).toArray 69)).alloc (.cells (nts gL).toArray 69)).alloc (.cells (nts nx).toArray 69)).alloc (.cells (nts nw).toArray 69)) (.cells (vX 32 (.slice (some ⟨w.heap.size,0,none⟩) 4 4) (.slice (some ⟨w.heap.size+1,0,none⟩) 4 4) (.slice (some ⟨w.heap.size+1+1,0,none⟩) 4 4) (.slice (some ⟨w.heap.size+1+1+1,0,none⟩) 4 4) (.slice (some ⟨w.heap.size+1+1+1+1,0,none⟩) 4 4) (.pointer none) z6 z6).toArray 149))
 obtain ⟨q1,q2,q3,q4,q5,q6,q7,q8⟩:=ax w xg ny gL nx nw _ ⟨by decide,by decide⟩ ⟨by decide,by decide⟩ ⟨by decide,by decide⟩ ⟨by decide,by decide⟩ ⟨by decide,by decide⟩ z hz
 have hd:digs 18446744073709551616 (val 18446744073709551616 xg)=xg:=gW (by omega) (by decide) (by decide)
 have hdl:(digs 18446744073709551616 (val 18446744073709551616 xg)).length=4:=by rw [hd];rfl
 have hM1:1<val 18446744073709551616 xg:=by decide +kernel
 have hMo:val 18446744073709551616 xg % 2=1:=by decide +kernel
 have hM3:3<val 18446744073709551616 xg:=by decide +kernel
 have hbM:val 18446744073709551616 gL<val 18446744073709551616 xg:=by decide +kernel
 have hnew:=nE _ _ _ xg _ z q1 rfl hM1 hMo (by decide) (by rw [hdl];omega)
 rw [hdl,q7] at hnew
 obtain ⟨M,hM⟩:=eV (val 18446744073709551616 xg)
 rw [hM] at hnew hM1 hMo hM3 hbM ⊢
 have Hnew:=zF hnew
 have hb1:xg.length=4:=rfl
 have Hz:=zF hz
 have H2:=Hnew.out
 rw [hz,hb1] at H2
 have Hn2:=zF H2
 obtain ⟨K,hK⟩:=eV (w.heap.size+1+1+1+1+1)
 clear hd hdl hnew H2 Hnew hz
 go_enter Tryz.func102,Tryz.ntmps102
 go_wp2_with fail
 refine Hn2.out.mono ?_
 rintro e w2 ⟨g,inv,ml,ol,rl,rfl,hg,hFR,hB2⟩
 rw [←Hz.out] at hB2
 rw [hK] at q6
 have hs2:=hB2.size
 have hG2:=(hB2.block K (by omega)).trans q6
 have k6:=zJ hG2 6
 rw [show (vX 32 (.slice (some ⟨w.heap.size,0,none⟩) 4 4) (.slice (some ⟨w.heap.size+1,0,none⟩) 4 4) (.slice (some ⟨w.heap.size+1+1,0,none⟩) 4 4) (.slice (some ⟨w.heap.size+1+1+1,0,none⟩) 4 4) (.slice (some ⟨w.heap.size+1+1+1+1,0,none⟩) 4 4) (.pointer none) z6 z6).toArray[6]?=some (.pointer none) by rfl] at k6
 have kf:=zv hG2 6
 have hG3:=jm hG2 6 (.pointer (some ⟨g,0,none⟩))
 rw [show (vX 32 (.slice (some ⟨w.heap.size,0,none⟩) 4 4) (.slice (some ⟨w.heap.size+1,0,none⟩) 4 4) (.slice (some ⟨w.heap.size+1+1,0,none⟩) 4 4) (.slice (some ⟨w.heap.size+1+1+1,0,none⟩) 4 4) (.slice (some ⟨w.heap.size+1+1+1+1,0,none⟩) 4 4) (.pointer none) z6 z6).toArray.setIfInBounds 6 (.pointer (some ⟨g,0,none⟩))=(vX 32 (.slice (some ⟨w.heap.size,0,none⟩) 4 4) (.slice (some ⟨w.heap.size+1,0,none⟩) 4 4) (.slice (some ⟨w.heap.size+1+1,0,none⟩) 4 4) (.slice (some ⟨w.heap.size+1+1+1,0,none⟩) 4 4) (.slice (some ⟨w.heap.size+1+1+1+1,0,none⟩) 4 4) (.pointer (some ⟨g,0,none⟩)) z6 z6).toArray by rfl] at hG3
 have hgK:g≠K:=by omega
 have hFR3:FR (w2.setCell ⟨K,6,none⟩ (.pointer (some ⟨g,0,none⟩))) g 4 inv M ml ol rl:=⟨⟨⟨(zN _ _ _ _ hgK).trans hFR.ff.fld.blk,hFR.ff.fld.m6,hFR.ff.fld.o6,hFR.ff.fld.r6⟩,hFR.ff.mlt,hFR.ff.mval,hFR.ff.mtake,hFR.ff.npos,hFR.ff.nle,hFR.ff.big,hFR.ff.invLt,hFR.ff.invV⟩,hFR.oelt,hFR.oval,hFR.relt,hFR.rval⟩
 have hB3:Below K z (w2.setCell ⟨K,6,none⟩ (.pointer (some ⟨g,0,none⟩))):=(hB2.mono (show K≤w.heap.size+6 by omega)).setCell (p:=⟨K,6,none⟩) (zH _) _
 have hz3:(w2.setCell ⟨K,6,none⟩ (.pointer (some ⟨g,0,none⟩))).heap.size=w2.heap.size:=by simp [World.setCell]
 go_upto_region 9 with fail
 generalize w2.setCell ⟨K,6,none⟩ (.pointer (some ⟨g,0,none⟩))=w3 at *
 have c6:=zJ hG3 6
 have c3:=zJ hG3 3
 rw [show (vX 32 (.slice (some ⟨w.heap.size,0,none⟩) 4 4) (.slice (some ⟨w.heap.size+1,0,none⟩) 4 4) (.slice (some ⟨w.heap.size+1+1,0,none⟩) 4 4) (.slice (some ⟨w.heap.size+1+1+1,0,none⟩) 4 4) (.slice (some ⟨w.heap.size+1+1+1+1,0,none⟩) 4 4) (.pointer (some ⟨g,0,none⟩)) z6 z6).toArray[6]?=some (.pointer (some ⟨g,0,none⟩)) by rfl] at c6
 rw [show (vX 32 (.slice (some ⟨w.heap.size,0,none⟩) 4 4) (.slice (some ⟨w.heap.size+1,0,none⟩) 4 4) (.slice (some ⟨w.heap.size+1+1,0,none⟩) 4 4) (.slice (some ⟨w.heap.size+1+1+1,0,none⟩) 4 4) (.slice (some ⟨w.heap.size+1+1+1+1,0,none⟩) 4 4) (.pointer (some ⟨g,0,none⟩)) z6 z6).toArray[3]?=some (.slice (some ⟨w.heap.size+1+1,0,none⟩) 4 4) by rfl] at c3
 have hK3:K<w3.heap.size:=qw hG3
 have q33:RN w3 (In w.heap.size (w.heap.size+5)) (some ⟨w.heap.size+1+1,0,none⟩) 4 gL:=q3.below hB3 (fun b hb=>by have:=hb.2;omega)
 have hof:=xN 3 w3.drew (by omega)
 rw [show digs 18446744073709551616 3=[3] by rw [jT (by omega) (by omega),qG (by omega),qn (by omega),qU]] at hof
 have hg3:g<w3.heap.size:=hFR3.ff.fld.lt
 have ht1:=fun (X:World) (hX:Below w3.heap.size w3 X) (A1:Option Addr) (c1:Nat) (hO:OB X w3.heap.size A1 c1 [3])=>yz _ A1 c1 [3] X (hFR3.below hX hg3) hO.rn (fun b hb=>hb.2) (by simp) (by simp;exact hM3)
 have ht2:=fun (X:World) (hX:Below w3.heap.size w3 X)=>yz _ _ 4 gL X (hFR3.below hX hg3) (q33.below hX (fun b hb=>by have:=hb.2;omega)) (fun b hb=>by have:=hb.2;have:=hX.size;omega) (by decide) hbM
 have Hof:=zF hof
 have Ht1:=zF ht1
 have Ht2:=zF ht2
 clear hof ht1 ht2
 have c6d:w3.drew.cell? ⟨K,6,none⟩=some (.pointer (some ⟨g,0,none⟩)):=c6
 have c3d:w3.drew.cell? ⟨K,3,none⟩=some (.slice (some ⟨w.heap.size+1+1,0,none⟩) 4 4):=c3
 go_region_held3 (fun w'=>w'.cell? ⟨K,6,none⟩=some (.pointer (some ⟨g,0,none⟩))∧w'.cell? ⟨K,3,none⟩=some (.slice (some ⟨w.heap.size+1+1,0,none⟩) 4 4))
  (first | with_reducible exact ⟨dh 7 (by decide) (by decide) c63,dh 7 (by decide) (by decide) c33⟩ | with_reducible exact ⟨dh 13 (by decide) (by decide) (dh 7 (by decide) (by decide) c63),dh 13 (by decide) (by decide) (dh 7 (by decide) (by decide) c33)⟩ | exact ⟨c6,c3⟩ | exact ⟨c61,c31⟩ | exact ⟨c62,c32⟩ | exact ⟨c63,c33⟩)
  (first
   | (go_at_call 103;refine Hof.out.mono ?_;rintro e x1 ⟨A1,cc1,rfl,hO1,hx1'⟩;have hx1:Below w3.heap.size w3 x1:=⟨hx1'.os,hx1'.tape,hx1'.output,hx1'.size,hx1'.block⟩;have hO1':OB x1 w3.heap.size A1 cc1 [3]:=hO1;have c61:=(hx1.cell (p:=⟨K,6,none⟩) hK3).trans c6;have c31:=(hx1.cell (p:=⟨K,3,none⟩) hK3).trans c3;have T1:=zF (Ht1.out x1 hx1 A1 cc1 hO1'))
   | (go_at_call_has 145 A1;refine T1.out.mono ?_;rintro e x2 ⟨o3,rfl,hf3,hx2⟩;obtain ⟨u0,u1,u2,u3,u4,u5,hoe⟩:=six hf3.elt.six;have hve:EV o3=.agg #[.int .u64 (u0:Int),.int .u64 (u1:Int),.int .u64 (u2:Int),.int .u64 (u3:Int),.int .u64 (u4:Int),.int .u64 (u5:Int)]:=(by rw [hoe];rfl);rw [hve];clear hve;have Hoe:=zF hoe;clear hoe;have hx12:=hx1.trans (hx2.mono hx1.size);have c62:=(hx12.cell (p:=⟨K,6,none⟩) hK3).trans c6;have c32:=(hx12.cell (p:=⟨K,3,none⟩) hK3).trans c3;have T2:=zF (Ht2.out x2 hx12))
   | (go_at_call 145;refine T2.out.mono ?_;rintro e x3 ⟨ob,rfl,hfb,hx3⟩;obtain ⟨v0,v1,v2,v3,v4,v5,hob⟩:=six hfb.elt.six;have hvb:EV ob=.agg #[.int .u64 (v0:Int),.int .u64 (v1:Int),.int .u64 (v2:Int),.int .u64 (v3:Int),.int .u64 (v4:Int),.int .u64 (v5:Int)]:=(by rw [hob];rfl);rw [hvb];clear hvb;have Hob:=zF hob;clear hob;have hx13:=hx12.trans (hx3.mono hx12.size);have c63:=(hx13.cell (p:=⟨K,6,none⟩) hK3).trans c6;have c33:=(hx13.cell (p:=⟨K,3,none⟩) hK3).trans c3;have hGx:=(hx13.block K hK3).trans hG3;have dz:=dX hGx;obtain ⟨d7,y7⟩:=dz 7 (by decide) (by decide);obtain ⟨d8,y8⟩:=dz 8 (by decide) (by decide);obtain ⟨d9,y9⟩:=dz 9 (by decide) (by decide);obtain ⟨d10,y10⟩:=dz 10 (by decide) (by decide);obtain ⟨d11,y11⟩:=dz 11 (by decide) (by decide);obtain ⟨d12,y12⟩:=dz 12 (by decide) (by decide);obtain ⟨d13,y13⟩:=dz 13 (by decide) (by decide);obtain ⟨d14,y14⟩:=dz 14 (by decide) (by decide);obtain ⟨d15,y15⟩:=dz 15 (by decide) (by decide);obtain ⟨d16,y16⟩:=dz 16 (by decide) (by decide);obtain ⟨d17,y17⟩:=dz 17 (by decide) (by decide);obtain ⟨d18,y18⟩:=dz 18 (by decide) (by decide);clear dz))
 obtain ⟨t1,t2,t3,t4⟩:=mN hGx u0 u1 u2 u3 u4 u5 v0 v1 v2 v3 v4 v5
 have hB9:=t4 w.heap.size w (by omega) (q8.trans ((hB3.trans (hx13.mono (by omega))).mono (by have:=q8.size;omega)))
 have hFR9:=hFR3.below hx13 hg3
 have hs3:w3.heap.size≤x3.heap.size:=hx13.size
 clear c61 c31 c62 c32 c63 c33 T1 T2 hGx hx1' hx1 hx2 hx3 hx12
 generalize ((((((((((((x3.setCell ⟨K,7,none⟩ (.int .u64 (u0:Int))).setCell ⟨K,8,none⟩ (.int .u64 (u1:Int))).setCell ⟨K,9,none⟩ (.int .u64 (u2:Int))).setCell ⟨K,10,none⟩ (.int .u64 (u3:Int))).setCell ⟨K,11,none⟩ (.int .u64 (u4:Int))).setCell ⟨K,12,none⟩ (.int .u64 (u5:Int))).setCell ⟨K,13,none⟩ (.int .u64 (v0:Int))).setCell ⟨K,14,none⟩ (.int .u64 (v1:Int))).setCell ⟨K,15,none⟩ (.int .u64 (v2:Int))).setCell ⟨K,16,none⟩ (.int .u64 (v3:Int))).setCell ⟨K,17,none⟩ (.int .u64 (v4:Int))).setCell ⟨K,18,none⟩ (.int .u64 (v5:Int)))=w9 at *
 have hFR9':FR w9 g 4 inv M ml ol rl:=⟨⟨⟨(t2 g hgK).trans hFR9.ff.fld.blk,hFR9.ff.fld.m6,hFR9.ff.fld.o6,hFR9.ff.fld.r6⟩,hFR9.ff.mlt,hFR9.ff.mval,hFR9.ff.mtake,hFR9.ff.npos,hFR9.ff.nle,hFR9.ff.big,hFR9.ff.invLt,hFR9.ff.invV⟩,hFR9.oelt,hFR9.oval,hFR9.relt,hFR9.rval⟩
 have hz9:w.heap.size+6≤w9.heap.size:=by have:=hB3.size;omega
 have hkeep:∀ (l:List Nat) (A:Option Addr) (c:Nat),RN z (In w.heap.size (w.heap.size+5)) A c l→RN w9 (In w.heap.size w9.heap.size) A c l:=fun l A c hR =>
  (hR.keep fun q hq=>zT ((t2 q.block (by have:=hq.2;omega)).trans ((hx13.block q.block (by have:=hq.2;omega)).trans (hB3.block q.block (by have:=hq.2;omega))))).mono fun b hb=>⟨hb.1,by have:=hb.2;omega⟩
 have r1:=hkeep _ _ _ q1
 have r2:=hkeep _ _ _ q2
 have r3:=hkeep _ _ _ q3
 have r4:=hkeep _ _ _ q4
 have r5:=hkeep _ _ _ q5
 have ho3:=Hoe.out
 have hob:=Hob.out
 rw [←ho3,←hob] at t1
 have hfin:Num w9 (In w.heap.size w9.heap.size) K g 32 4 inv M (val 18446744073709551616 gL) xg ny gL nx nw ml ol rl o3 ob (some ⟨w.heap.size,0,none⟩) (some ⟨w.heap.size+1,0,none⟩) (some ⟨w.heap.size+1+1,0,none⟩) (some ⟨w.heap.size+1+1+1,0,none⟩) (some ⟨w.heap.size+1+1+1+1,0,none⟩) 4 4 4 4 4 :=
  ⟨t1,r1,r2,r3,r4,r5,hFR9',hM,by have:=hf3;simpa using this,hfb⟩
 have Hfin:=zF hfin
 have HB9:=zF hB9
 clear hfin hB9 t1 t2 t3 t4 r1 r2 r3 r4 r5 hkeep hFR9 hFR9' hf3 hfb hFR3 hG3 q1 q2 q3 q4 q5 q6 q8
 go_wp2
 go_ret
 exact ⟨K,g,inv,ml,ol,rl,o3,ob,rfl,by omega,Hfin.out,HB9.out⟩
def xf:List Nat:=[4294967295,18446744069414584320,18446744073709551614,18446744073709551615,18446744073709551615,18446744073709551615]
def nv:List Nat:=[17072048233947408755,6348401684107011962,14367412456785391071,18446744073709551615,18446744073709551615,18446744073709551615]
def gK:List Nat:=[3064076045283764975,14291673747578343837,221811693264799578,1737717031765098770,10992729701402291481,12912154004749740004]
def nu:List Nat:=[4203087948775033527,6125724927633205612,6482722621138151992,7934563412932533144,10282218360005504372,12288012358878168375]
def nt:List Nat:=[8809917716911230559,747793036959711645,16850834916486723776,17938995913990739068,6745997240412855337,3897828414440483951]
theorem rf (w:World):Calls Tryz.prog 102 #[.int .i64 2] w fun e w'=>∃ k g inv ml ol rl tl fl,e=.returned (.pointer (some ⟨k,0,none⟩))∧w.heap.size≤k ∧
 Num w' (In w.heap.size w'.heap.size) k g 48 6 inv (val 18446744073709551616 xf) (val 18446744073709551616 gK) xf nv gK nu nt ml ol rl tl fl (some ⟨w.heap.size,0,none⟩) (some ⟨w.heap.size+1,0,none⟩) (some ⟨w.heap.size+1+1,0,none⟩) (some ⟨w.heap.size+1+1+1,0,none⟩) (some ⟨w.heap.size+1+1+1+1,0,none⟩) 6 6 6 6 6∧Below w.heap.size w w':=by
 obtain ⟨z,hz⟩:=eW (World.alloc (((((w.alloc (.cells (nts xf).toArray 69)).alloc (.cells (nts nv).toArray 69)).alloc (.cells (nts gK).toArray 69)).alloc (.cells (nts nu).toArray 69)).alloc (.cells (nts nt).toArray 69)) (.cells (vX 48 (.slice (some ⟨w.heap.size,0,none⟩) 6 6) (.slice (some ⟨w.heap.size+1,0,none⟩) 6 6) (.slice (some ⟨w.heap.size+1+1,0,none⟩) 6 6) (.slice (some ⟨w.heap.size+1+1+1,0,none⟩) 6 6) (.slice (some ⟨w.heap.size+1+1+1+1,0,none⟩) 6 6) (.pointer none) z6 z6).toArray 149))
 obtain ⟨q1,q2,q3,q4,q5,q6,q7,q8⟩:=ax w xf nv gK nu nt _ ⟨by decide,by decide⟩ ⟨by decide,by decide⟩ ⟨by decide,by decide⟩ ⟨by decide,by decide⟩ ⟨by decide,by decide⟩ z hz
 have hd:digs 18446744073709551616 (val 18446744073709551616 xf)=xf:=gW (by omega) (by decide) (by decide)
 have hdl:(digs 18446744073709551616 (val 18446744073709551616 xf)).length=6:=by rw [hd];rfl
 have hM1:1<val 18446744073709551616 xf:=by decide +kernel
 have hMo:val 18446744073709551616 xf % 2=1:=by decide +kernel
 have hM3:3<val 18446744073709551616 xf:=by decide +kernel
 have hbM:val 18446744073709551616 gK<val 18446744073709551616 xf:=by decide +kernel
 have hnew:=nE _ _ _ xf _ z q1 rfl hM1 hMo (by decide) (by rw [hdl];omega)
 rw [hdl,q7] at hnew
 obtain ⟨M,hM⟩:=eV (val 18446744073709551616 xf)
 rw [hM] at hnew hM1 hMo hM3 hbM ⊢
 have Hnew:=zF hnew
 have hb1:xf.length=6:=rfl
 have Hz:=zF hz
 have H2:=Hnew.out
 rw [hz,hb1] at H2
 have Hn2:=zF H2
 obtain ⟨K,hK⟩:=eV (w.heap.size+1+1+1+1+1)
 clear hd hdl hnew H2 Hnew hz
 go_enter Tryz.func102,Tryz.ntmps102
 go_wp2_with fail
 refine Hn2.out.mono ?_
 rintro e w2 ⟨g,inv,ml,ol,rl,rfl,hg,hFR,hB2⟩
 rw [←Hz.out] at hB2
 rw [hK] at q6
 have hs2:=hB2.size
 have hG2:=(hB2.block K (by omega)).trans q6
 have k6:=zJ hG2 6
 rw [show (vX 48 (.slice (some ⟨w.heap.size,0,none⟩) 6 6) (.slice (some ⟨w.heap.size+1,0,none⟩) 6 6) (.slice (some ⟨w.heap.size+1+1,0,none⟩) 6 6) (.slice (some ⟨w.heap.size+1+1+1,0,none⟩) 6 6) (.slice (some ⟨w.heap.size+1+1+1+1,0,none⟩) 6 6) (.pointer none) z6 z6).toArray[6]?=some (.pointer none) by rfl] at k6
 have kf:=zv hG2 6
 have hG3:=jm hG2 6 (.pointer (some ⟨g,0,none⟩))
 rw [show (vX 48 (.slice (some ⟨w.heap.size,0,none⟩) 6 6) (.slice (some ⟨w.heap.size+1,0,none⟩) 6 6) (.slice (some ⟨w.heap.size+1+1,0,none⟩) 6 6) (.slice (some ⟨w.heap.size+1+1+1,0,none⟩) 6 6) (.slice (some ⟨w.heap.size+1+1+1+1,0,none⟩) 6 6) (.pointer none) z6 z6).toArray.setIfInBounds 6 (.pointer (some ⟨g,0,none⟩))=(vX 48 (.slice (some ⟨w.heap.size,0,none⟩) 6 6) (.slice (some ⟨w.heap.size+1,0,none⟩) 6 6) (.slice (some ⟨w.heap.size+1+1,0,none⟩) 6 6) (.slice (some ⟨w.heap.size+1+1+1,0,none⟩) 6 6) (.slice (some ⟨w.heap.size+1+1+1+1,0,none⟩) 6 6) (.pointer (some ⟨g,0,none⟩)) z6 z6).toArray by rfl] at hG3
 have hgK:g≠K:=by omega
 have hFR3:FR (w2.setCell ⟨K,6,none⟩ (.pointer (some ⟨g,0,none⟩))) g 6 inv M ml ol rl:=⟨⟨⟨(zN _ _ _ _ hgK).trans hFR.ff.fld.blk,hFR.ff.fld.m6,hFR.ff.fld.o6,hFR.ff.fld.r6⟩,hFR.ff.mlt,hFR.ff.mval,hFR.ff.mtake,hFR.ff.npos,hFR.ff.nle,hFR.ff.big,hFR.ff.invLt,hFR.ff.invV⟩,hFR.oelt,hFR.oval,hFR.relt,hFR.rval⟩
 have hB3:Below K z (w2.setCell ⟨K,6,none⟩ (.pointer (some ⟨g,0,none⟩))):=(hB2.mono (show K≤w.heap.size+6 by omega)).setCell (p:=⟨K,6,none⟩) (zH _) _
 have hz3:(w2.setCell ⟨K,6,none⟩ (.pointer (some ⟨g,0,none⟩))).heap.size=w2.heap.size:=by simp [World.setCell]
 go_upto_region 9 with fail
 generalize w2.setCell ⟨K,6,none⟩ (.pointer (some ⟨g,0,none⟩))=w3 at *
 have c6:=zJ hG3 6
 have c3:=zJ hG3 3
 rw [show (vX 48 (.slice (some ⟨w.heap.size,0,none⟩) 6 6) (.slice (some ⟨w.heap.size+1,0,none⟩) 6 6) (.slice (some ⟨w.heap.size+1+1,0,none⟩) 6 6) (.slice (some ⟨w.heap.size+1+1+1,0,none⟩) 6 6) (.slice (some ⟨w.heap.size+1+1+1+1,0,none⟩) 6 6) (.pointer (some ⟨g,0,none⟩)) z6 z6).toArray[6]?=some (.pointer (some ⟨g,0,none⟩)) by rfl] at c6
 rw [show (vX 48 (.slice (some ⟨w.heap.size,0,none⟩) 6 6) (.slice (some ⟨w.heap.size+1,0,none⟩) 6 6) (.slice (some ⟨w.heap.size+1+1,0,none⟩) 6 6) (.slice (some ⟨w.heap.size+1+1+1,0,none⟩) 6 6) (.slice (some ⟨w.heap.size+1+1+1+1,0,none⟩) 6 6) (.pointer (some ⟨g,0,none⟩)) z6 z6).toArray[3]?=some (.slice (some ⟨w.heap.size+1+1,0,none⟩) 6 6) by rfl] at c3
 have hK3:K<w3.heap.size:=qw hG3
 have q33:RN w3 (In w.heap.size (w.heap.size+5)) (some ⟨w.heap.size+1+1,0,none⟩) 6 gK:=q3.below hB3 (fun b hb=>by have:=hb.2;omega)
 have hof:=xN 3 w3.drew (by omega)
 rw [show digs 18446744073709551616 3=[3] by rw [jT (by omega) (by omega),qG (by omega),qn (by omega),qU]] at hof
 have hg3:g<w3.heap.size:=hFR3.ff.fld.lt
 have ht1:=fun (X:World) (hX:Below w3.heap.size w3 X) (A1:Option Addr) (c1:Nat) (hO:OB X w3.heap.size A1 c1 [3])=>yz _ A1 c1 [3] X (hFR3.below hX hg3) hO.rn (fun b hb=>hb.2) (by simp) (by simp;exact hM3)
 have ht2:=fun (X:World) (hX:Below w3.heap.size w3 X)=>yz _ _ 6 gK X (hFR3.below hX hg3) (q33.below hX (fun b hb=>by have:=hb.2;omega)) (fun b hb=>by have:=hb.2;have:=hX.size;omega) (by decide) hbM
 have Hof:=zF hof
 have Ht1:=zF ht1
 have Ht2:=zF ht2
 clear hof ht1 ht2
 have c6d:w3.drew.cell? ⟨K,6,none⟩=some (.pointer (some ⟨g,0,none⟩)):=c6
 have c3d:w3.drew.cell? ⟨K,3,none⟩=some (.slice (some ⟨w.heap.size+1+1,0,none⟩) 6 6):=c3
 go_region_held3 (fun w'=>w'.cell? ⟨K,6,none⟩=some (.pointer (some ⟨g,0,none⟩))∧w'.cell? ⟨K,3,none⟩=some (.slice (some ⟨w.heap.size+1+1,0,none⟩) 6 6))
  (first | with_reducible exact ⟨dh 7 (by decide) (by decide) c63,dh 7 (by decide) (by decide) c33⟩ | with_reducible exact ⟨dh 13 (by decide) (by decide) (dh 7 (by decide) (by decide) c63),dh 13 (by decide) (by decide) (dh 7 (by decide) (by decide) c33)⟩ | exact ⟨c6,c3⟩ | exact ⟨c61,c31⟩ | exact ⟨c62,c32⟩ | exact ⟨c63,c33⟩)
  (first
   | (go_at_call 103;refine Hof.out.mono ?_;rintro e x1 ⟨A1,cc1,rfl,hO1,hx1'⟩;have hx1:Below w3.heap.size w3 x1:=⟨hx1'.os,hx1'.tape,hx1'.output,hx1'.size,hx1'.block⟩;have hO1':OB x1 w3.heap.size A1 cc1 [3]:=hO1;have c61:=(hx1.cell (p:=⟨K,6,none⟩) hK3).trans c6;have c31:=(hx1.cell (p:=⟨K,3,none⟩) hK3).trans c3;have T1:=zF (Ht1.out x1 hx1 A1 cc1 hO1'))
   | (go_at_call_has 145 A1;refine T1.out.mono ?_;rintro e x2 ⟨o3,rfl,hf3,hx2⟩;obtain ⟨u0,u1,u2,u3,u4,u5,hoe⟩:=six hf3.elt.six;have hve:EV o3=.agg #[.int .u64 (u0:Int),.int .u64 (u1:Int),.int .u64 (u2:Int),.int .u64 (u3:Int),.int .u64 (u4:Int),.int .u64 (u5:Int)]:=(by rw [hoe];rfl);rw [hve];clear hve;have Hoe:=zF hoe;clear hoe;have hx12:=hx1.trans (hx2.mono hx1.size);have c62:=(hx12.cell (p:=⟨K,6,none⟩) hK3).trans c6;have c32:=(hx12.cell (p:=⟨K,3,none⟩) hK3).trans c3;have T2:=zF (Ht2.out x2 hx12))
   | (go_at_call 145;refine T2.out.mono ?_;rintro e x3 ⟨ob,rfl,hfb,hx3⟩;obtain ⟨v0,v1,v2,v3,v4,v5,hob⟩:=six hfb.elt.six;have hvb:EV ob=.agg #[.int .u64 (v0:Int),.int .u64 (v1:Int),.int .u64 (v2:Int),.int .u64 (v3:Int),.int .u64 (v4:Int),.int .u64 (v5:Int)]:=(by rw [hob];rfl);rw [hvb];clear hvb;have Hob:=zF hob;clear hob;have hx13:=hx12.trans (hx3.mono hx12.size);have c63:=(hx13.cell (p:=⟨K,6,none⟩) hK3).trans c6;have c33:=(hx13.cell (p:=⟨K,3,none⟩) hK3).trans c3;have hGx:=(hx13.block K hK3).trans hG3;have dz:=dX hGx;obtain ⟨d7,y7⟩:=dz 7 (by decide) (by decide);obtain ⟨d8,y8⟩:=dz 8 (by decide) (by decide);obtain ⟨d9,y9⟩:=dz 9 (by decide) (by decide);obtain ⟨d10,y10⟩:=dz 10 (by decide) (by decide);obtain ⟨d11,y11⟩:=dz 11 (by decide) (by decide);obtain ⟨d12,y12⟩:=dz 12 (by decide) (by decide);obtain ⟨d13,y13⟩:=dz 13 (by decide) (by decide);obtain ⟨d14,y14⟩:=dz 14 (by decide) (by decide);obtain ⟨d15,y15⟩:=dz 15 (by decide) (by decide);obtain ⟨d16,y16⟩:=dz 16 (by decide) (by decide);obtain ⟨d17,y17⟩:=dz 17 (by decide) (by decide);obtain ⟨d18,y18⟩:=dz 18 (by decide) (by decide);clear dz))
 obtain ⟨t1,t2,t3,t4⟩:=mN hGx u0 u1 u2 u3 u4 u5 v0 v1 v2 v3 v4 v5
 have hB9:=t4 w.heap.size w (by omega) (q8.trans ((hB3.trans (hx13.mono (by omega))).mono (by have:=q8.size;omega)))
 have hFR9:=hFR3.below hx13 hg3
 have hs3:w3.heap.size≤x3.heap.size:=hx13.size
 clear c61 c31 c62 c32 c63 c33 T1 T2 hGx hx1' hx1 hx2 hx3 hx12
 generalize ((((((((((((x3.setCell ⟨K,7,none⟩ (.int .u64 (u0:Int))).setCell ⟨K,8,none⟩ (.int .u64 (u1:Int))).setCell ⟨K,9,none⟩ (.int .u64 (u2:Int))).setCell ⟨K,10,none⟩ (.int .u64 (u3:Int))).setCell ⟨K,11,none⟩ (.int .u64 (u4:Int))).setCell ⟨K,12,none⟩ (.int .u64 (u5:Int))).setCell ⟨K,13,none⟩ (.int .u64 (v0:Int))).setCell ⟨K,14,none⟩ (.int .u64 (v1:Int))).setCell ⟨K,15,none⟩ (.int .u64 (v2:Int))).setCell ⟨K,16,none⟩ (.int .u64 (v3:Int))).setCell ⟨K,17,none⟩ (.int .u64 (v4:Int))).setCell ⟨K,18,none⟩ (.int .u64 (v5:Int)))=w9 at *
 have hFR9':FR w9 g 6 inv M ml ol rl:=⟨⟨⟨(t2 g hgK).trans hFR9.ff.fld.blk,hFR9.ff.fld.m6,hFR9.ff.fld.o6,hFR9.ff.fld.r6⟩,hFR9.ff.mlt,hFR9.ff.mval,hFR9.ff.mtake,hFR9.ff.npos,hFR9.ff.nle,hFR9.ff.big,hFR9.ff.invLt,hFR9.ff.invV⟩,hFR9.oelt,hFR9.oval,hFR9.relt,hFR9.rval⟩
 have hz9:w.heap.size+6≤w9.heap.size:=by have:=hB3.size;omega
 have hkeep:∀ (l:List Nat) (A:Option Addr) (c:Nat),RN z (In w.heap.size (w.heap.size+5)) A c l→RN w9 (In w.heap.size w9.heap.size) A c l:=fun l A c hR =>
  (hR.keep fun q hq=>zT ((t2 q.block (by have:=hq.2;omega)).trans ((hx13.block q.block (by have:=hq.2;omega)).trans (hB3.block q.block (by have:=hq.2;omega))))).mono fun b hb=>⟨hb.1,by have:=hb.2;omega⟩
 have r1:=hkeep _ _ _ q1
 have r2:=hkeep _ _ _ q2
 have r3:=hkeep _ _ _ q3
 have r4:=hkeep _ _ _ q4
 have r5:=hkeep _ _ _ q5
 have ho3:=Hoe.out
 have hob:=Hob.out
 rw [←ho3,←hob] at t1
 have hfin:Num w9 (In w.heap.size w9.heap.size) K g 48 6 inv M (val 18446744073709551616 gK) xf nv gK nu nt ml ol rl o3 ob (some ⟨w.heap.size,0,none⟩) (some ⟨w.heap.size+1,0,none⟩) (some ⟨w.heap.size+1+1,0,none⟩) (some ⟨w.heap.size+1+1+1,0,none⟩) (some ⟨w.heap.size+1+1+1+1,0,none⟩) 6 6 6 6 6 :=
  ⟨t1,r1,r2,r3,r4,r5,hFR9',hM,by have:=hf3;simpa using this,hfb⟩
 have Hfin:=zF hfin
 have HB9:=zF hB9
 clear hfin hB9 t1 t2 t3 t4 r1 r2 r3 r4 r5 hkeep hFR9 hFR9' hf3 hfb hFR3 hG3 q1 q2 q3 q4 q5 q6 q8
 go_wp2
 go_ret
 exact ⟨K,g,inv,ml,ol,rl,o3,ob,rfl,by omega,Hfin.out,HB9.out⟩
def xE (X:World) (b:Nat) (l:List Nat):Prop:=X.heap[b]?=some (.cells (nts l).toArray 147 (0,0))
theorem xE.ext {X Y:World}{b:Nat}{l:List Nat}(h:xE X b l) (hE:Ext X Y):xE Y b l:=hE.at_ h
theorem xE.range {X:World}{b:Nat}{l:List Nat}(h:xE X b l):X.rangeAt b 0 (nts l):=fun j v hv=>by
 rw [jc,zJ h j];simpa using hv
theorem xE.lt {X:World}{b:Nat}{l:List Nat}(h:xE X b l):b<X.heap.size:=qw h
theorem bK:(Tryz.prog.info? 147).map (·.size)=some 6:=by kernel_rfl
theorem loadE {X:World}{b o:Nat}{l:List Nat}(h:X.rangeAt b o (nts l)) (h6:l.length=6):(Instr.loadAt 147 (.pointer (some ⟨b,o,none⟩))).run Tryz.prog X=.ok (EV l) X :=
 run_loadAt_mid X b o 147 (nts l) _ h Tryz.underlying147 rfl (by rw [qj,h6];exact bK)
structure Lay (b:Nat) (l:List Nat) (X Y:World):Prop where
 just:kj b X Y
 blk:xE Y b l
 size:Y.heap.size=X.heap.size
theorem zCR {X:World}{b:Nat}{l:List Nat}{cs:List Value}(h:X.heap[b]?=some (.cells cs.toArray 147 (0,0))) (hc:cs.length=6) (h6:l.length=6) :
 ∃ Y,(Instr.storeAt 147 (.pointer (some ⟨b,0,none⟩)) (EV l)).run Tryz.prog X=.ok () Y∧Lay b l X Y:=by
 have ht:X.there b 0 (nts l).toArray.size:=fun j hj=>by
  have hj':j<6:=by simpa [nts,h6] using hj
  refine ⟨?_,zv h _⟩;rw [jc,zJ h j];simp [hc,hj']
 have hr:=run_storeAt_mid (P:=Tryz.prog) X b 0 147 (nts l).toArray ht (by rw [jF,qj,h6];exact bK) (all_oneCell_toArray (kG l))
 obtain ⟨a0,a1,a2,a3,a4,a5,rfl⟩:=six h6
 obtain ⟨c0,c1,c2,c3,c4,c5,rfl⟩:∃ a b c d e f,cs=[a,b,c,d,e,f]:=by
  match cs,hc with
  | [a,b,c,d,e,f],_=>exact ⟨a,b,c,d,e,f,rfl⟩
 refine ⟨_,hr,?_⟩
 have e:X.setCells b 0 (nts [a0,a1,a2,a3,a4,a5]).toArray.toList=((((((X.setCell ⟨b,0,none⟩ (.int .u64 (a0:Int))).setCell ⟨b,0+1,none⟩ (.int .u64 (a1:Int))).setCell ⟨b,0+2,none⟩ (.int .u64 (a2:Int))).setCell ⟨b,0+3,none⟩ (.int .u64 (a3:Int))).setCell ⟨b,0+4,none⟩ (.int .u64 (a4:Int))).setCell ⟨b,0+5,none⟩ (.int .u64 (a5:Int))):=rfl
 rw [e]
 refine ⟨((((((kj.refl b X).set _ _).set _ _).set _ _).set _ _).set _ _).set _ _,?_,by simp [World.setCell]⟩
 exact mQ [] [] (j:=0) rfl h
theorem vF {op:Oper}{a:Act}{X:World}{K:Act→World→Prop}{Q:Exit→Act→World→Prop}(x:Operand) (ho:op.op=.load 147 x){b o:Nat}{l:List Nat}(hx:a.eval x=.pointer (some ⟨b,o,none⟩)) (h:X.rangeAt b o (nts l)) (h6:l.length=6) (hK:K (a.put op.dst (EV l)) X):op.wp Tryz.prog a X K Q :=
 wp_load_mid 147 x ho b o hx (nts l) _ h Tryz.underlying147 rfl (by rw [qj,h6];exact bK) hK
theorem qo {op:Oper}{a:Act}{X:World}{K:Act→World→Prop}{Q:Exit→Act→World→Prop}(x y:Operand) (ho:op.op=.store 147 x y) (hd:op.dst=none){b:Nat}{l:List Nat}{cs:List Value}
 (hx:a.eval x=.pointer (some ⟨b,0,none⟩)) (hy:a.eval y=EV l) (h:X.heap[b]?=some (.cells cs.toArray 147 (0,0))) (hc:cs.length=6) (h6:l.length=6) (hK:∀ Y,Lay b l X Y→K a Y):op.wp Tryz.prog a X K Q:=by
 obtain ⟨Y,hr,hl⟩:=zCR h hc h6
 unfold Oper.wp execOp
 simp only [ho,hx,hy,vh,hr,qy]
 rw [Sem.run_pure]
 show K (a.put op.dst undef) Y
 rw [hd]
 exact hK Y hl
theorem Lay.ext {b:Nat}{l:List Nat}{w X Y:World}(h:Lay b l X Y) (hE:Ext w X) (hb:w.heap.size≤b):Ext w Y:=yL hE (h.just.below hb hE.bsize)
theorem Lay.other {b c:Nat}{l:List Nat}{X Y:World}{o:Obj}(h:Lay b l X Y) (hc:c≠b) (hx:X.heap[c]?=some o):Y.heap[c]?=some o:=(h.just.block c (qw hx) hc).trans hx
def VE (X:World) (M n b x:Nat):Prop:=∃ l,xE X b l∧FE M n l x
theorem VE.ext {X Y:World}{M n b x:Nat}(h:VE X M n b x) (hE:Ext X Y):VE Y M n b x:=let ⟨l,h1,h2⟩:=h;⟨l,h1.ext hE,h2⟩
theorem VE.load {X:World}{M n b x:Nat}(h:VE X M n b x):∃ l,(Instr.loadAt 147 (.pointer (some ⟨b,0,none⟩))).run Tryz.prog X=.ok (EV l) X∧FE M n l x:=let ⟨l,h1,h2⟩:=h;⟨l,loadE h1.range h2.elt.six,h2⟩
theorem Lay.ve {b c x M n:Nat}{l:List Nat}{X Y:World}(h:Lay b l X Y) (hc:c≠b) (hx:VE X M n c x):VE Y M n c x:=let ⟨o,h1,h2⟩:=hx;⟨o,h.other hc h1,h2⟩
theorem Lay.mk' {b x M n:Nat}{l:List Nat}{X Y:World}(h:Lay b l X Y) (hf:FE M n l x):VE Y M n b x:=⟨l,h.blk,hf⟩
section
variable {Q:Exit→Act→World→Prop} {ol:List Oper} {m:Nat} {L AL:List Nat} {R:Nat→(Nat→Value)→World→Prop} {a:Act} {w:World} {F:List Oper→Prop} {k n:Nat} {o:Oper} {l:List Oper} {u:Value}
theorem lE (k' n' j:Nat){b i M n1 z:Nat}{e:List Nat}{x:Operand}(h:∀ X,Ext w X→X.rangeAt b i (nts e)) (hf:FE M n1 e z) (hs:Par.qz (Par.js Tryz.prog ol Q Ext m L AL R a w) F k' n' l) (hr:∀ f X,R j (Par.kS (fun i=>L.getD i 0) j f) X→f j=u:=by exact fun _ _ h=>h) (hR:∀ f X,(∃ o,f k=EV o∧FE M n1 o z)→R k (Par.kS (fun i=>L.getD i 0) k f) X:=by exact fun _ _ h=>h) (hk:k+1=k':=by rfl) (hn:n'+1=n:=by rfl) (ha:AL.contains k=false:=by kernel_rfl)
 (hj:(L.getD k 0).testBit j=true:=by kernel_rfl)
 (hw:∀ f,Region.wanted o (yielded ol.toArray (Par.put ol.toArray (Par.nd (fun i=>L.getD i 0) k) (Par.upd f j u) (List.range m) a).tmps)=true:=by intro _;kernel_rfl)
 (ho:o.op=.load 147 x:=by rfl) (hx:∀ f,(Par.put ol.toArray (Par.nd (fun i=>L.getD i 0) k) (Par.upd f j u) (List.range m) a).eval x=.pointer (some ⟨b,i,none⟩):=by intro _;kernel_rfl):Par.qz (Par.js Tryz.prog ol Q Ext m L AL R a w) F k n (o :: l) :=
 Par.vx (v:=EV e) (fun f=>Par.upd f j u) hs (fun f X h=>Par.yc (hr f X (h j hj))) (fun f X h=>hR f X ⟨e,h,hf⟩) hk hn ha hw (fun f X hX=>by
  have hrun:=run_loadAt_mid (P:=Tryz.prog) X b i 147 (nts e) _ (h X hX) Tryz.underlying147 rfl (by rw [qj,hf.elt.six];exact bK)
  unfold execOp
  simp only [ho,vh,hx,hrun,qy]
  rfl)
theorem lX (k' n':Nat){b i M n1 z:Nat}{x:Operand}(h:∀ X,Ext w X→∃ e,X.rangeAt b i (nts e)∧FE M n1 e z) (hs:Par.qz (Par.js Tryz.prog ol Q Ext m L AL R a w) F k' n' l) (hR:∀ f X,(∃ o,f k=EV o∧FE M n1 o z)→R k (Par.kS (fun i=>L.getD i 0) k f) X:=by exact fun _ _ h=>h) (hk:k+1=k':=by rfl) (hn:n'+1=n:=by rfl) (ha:AL.contains k=false:=by kernel_rfl)
 (hw:∀ f,Region.wanted o (yielded ol.toArray (Par.put ol.toArray (Par.nd (fun i=>L.getD i 0) k) f (List.range m) a).tmps)=true:=by intro _;kernel_rfl)
 (ho:o.op=.load 147 x:=by rfl) (hx:∀ f,(Par.put ol.toArray (Par.nd (fun i=>L.getD i 0) k) f (List.range m) a).eval x=.pointer (some ⟨b,i,none⟩):=by intro _;kernel_rfl):Par.qz (Par.js Tryz.prog ol Q Ext m L AL R a w) F k n (o :: l) :=
 Par.vy hs hk hn ha hw (fun f X hX=>by
  obtain ⟨e,h1,hf⟩:=h X hX
  have hrun:=run_loadAt_mid (P:=Tryz.prog) X b i 147 (nts e) _ h1 Tryz.underlying147 rfl (by rw [qj,hf.elt.six];exact bK)
  refine ⟨EV e,?_,fun Y _=>hR _ _ ⟨e,by simp [Par.upd],hf⟩⟩
  unfold execOp
  simp only [ho,vh,hx,hrun,qy]
  rfl)
theorem fc (k' n' i j j':Nat){F':FuncId}{pf:Value}{M n1 x y z z':Nat}(hc:∀ X,Ext w X→∀ o1 o2,FE M n1 o1 x→FE M n1 o2 y→Calls Tryz.prog F' #[pf,EV o1,EV o2] X fun e w'=>∃ o,e=.returned (EV o)∧FE M n1 o z'∧Ext X w') (hz:z'=z) (hs:Par.qz (Par.js Tryz.prog ol Q Ext m L AL R a w) F k' n' l)
 (hr:∀ f X,R i (Par.kS (fun i=>L.getD i 0) i f) X→f i=pf:=by exact fun _ _ h=>h) (h1:∀ f X,R j (Par.kS (fun i=>L.getD i 0) j f) X→∃ o,f j=EV o∧FE M n1 o x:=by exact fun _ _ h=>h) (h2:∀ f X,R j' (Par.kS (fun i=>L.getD i 0) j' f) X→∃ o,f j'=EV o∧FE M n1 o y:=by exact fun _ _ h=>h)
 (hR:∀ f X,(∃ o,f k=EV o∧FE M n1 o z)→R k (Par.kS (fun i=>L.getD i 0) k f) X:=by exact fun _ _ h=>h) (hk:k+1=k':=by rfl) (hn:n'+1=n:=by rfl) (ha:AL.contains k=false:=by kernel_rfl) (hi:(L.getD k 0).testBit i=true:=by kernel_rfl) (hj:(L.getD k 0).testBit j=true:=by kernel_rfl) (hj':(L.getD k 0).testBit j'=true:=by kernel_rfl)
 (hw:∀ f,Region.wanted o (yielded ol.toArray (Par.put ol.toArray (Par.nd (fun i=>L.getD i 0) k) f (List.range m) a).tmps)=true:=by intro _;kernel_rfl)
 (hrun:∀ f X,(execOp (Par.put ol.toArray (Par.nd (fun i=>L.getD i 0) k) f (List.range m) a).eval o).run Tryz.prog X=.ok (.enter F' #[f i,f j,f j']) X:=by intro _ _;kernel_rfl):Par.qz (Par.js Tryz.prog ol Q Ext m L AL R a w) F k n (o :: l) :=
 Par.cx (args:=fun f=>#[f i,f j,f j']) hs hk hn ha (fun f _ _=>hw f) hrun fun f X hX h=>by
  obtain ⟨o1,e1,g1⟩:=h1 f X (h.out j hj);obtain ⟨o2,e2,g2⟩:=h2 f X (h.out j' hj');rw [hr f X (h.out i hi),e1,e2];refine (hc X hX o1 o2 g1 g2).mono ?_;rintro e w' ⟨v,rfl,hv,hE⟩;exact ⟨EV v,rfl,hE,fun Y _=>hR _ _ ⟨v,by simp [Par.upd],hz▸hv⟩⟩
end
section
variable {w X:World} {P0:Nat→Prop} {k g size n inv M bb:Nat} {pl nl bl xl yl ml ol rl tl fl:List Nat} {Ap An Ab Ax Ay:Option Addr} {cp cn cb cx cy:Nat}
theorem Num.ext (h:Num w P0 k g size n inv M bb pl nl bl xl yl ml ol rl tl fl Ap An Ab Ax Ay cp cn cb cx cy) (hP:∀ b,P0 b→b<w.heap.size) (hE:Ext w X):Num X P0 k g size n inv M bb pl nl bl xl yl ml ol rl tl fl Ap An Ab Ax Ay cp cn cb cx cy :=
 ⟨hE.at_ h.blk,h.p.below hE hP,h.nn.below hE hP,h.b.below hE hP,h.x.below hE hP,h.y.below hE hP,h.fr.below hE h.fr.ff.fld.lt,h.pv,h.three,h.fb⟩
theorem Num.c_size (h:Num w P0 k g size n inv M bb pl nl bl xl yl ml ol rl tl fl Ap An Ab Ax Ay cp cn cb cx cy):w.cell? ⟨k,0,none⟩=some (.int .i64 (size:Int)):=zJ h.blk 0
theorem Num.c_p (h:Num w P0 k g size n inv M bb pl nl bl xl yl ml ol rl tl fl Ap An Ab Ax Ay cp cn cb cx cy):w.cell? ⟨k,1,none⟩=some (.slice Ap pl.length cp):=zJ h.blk 1
theorem Num.c_n (h:Num w P0 k g size n inv M bb pl nl bl xl yl ml ol rl tl fl Ap An Ab Ax Ay cp cn cb cx cy):w.cell? ⟨k,2,none⟩=some (.slice An nl.length cn):=zJ h.blk 2
theorem Num.c_x (h:Num w P0 k g size n inv M bb pl nl bl xl yl ml ol rl tl fl Ap An Ab Ax Ay cp cn cb cx cy):w.cell? ⟨k,4,none⟩=some (.slice Ax xl.length cx):=zJ h.blk 4
theorem Num.c_y (h:Num w P0 k g size n inv M bb pl nl bl xl yl ml ol rl tl fl Ap An Ab Ax Ay cp cn cb cx cy):w.cell? ⟨k,5,none⟩=some (.slice Ay yl.length cy):=zJ h.blk 5
theorem Num.c_f (h:Num w P0 k g size n inv M bb pl nl bl xl yl ml ol rl tl fl Ap An Ab Ax Ay cp cn cb cx cy):w.cell? ⟨k,6,none⟩=some (.pointer (some ⟨g,0,none⟩)):=zJ h.blk 6
theorem Num.r_three (h:Num w P0 k g size n inv M bb pl nl bl xl yl ml ol rl tl fl Ap An Ab Ax Ay cp cn cb cx cy):w.rangeAt k 7 (nts tl):=fun j v hv=>by
 rw [zJ h.blk];obtain ⟨a,b,c,d,e,f,rfl⟩:=six h.three.elt.six;match j,hv with
 | 0,hv | 1,hv | 2,hv | 3,hv | 4,hv | 5,hv=>exact hv
 | j+6,hv=>simp [nts] at hv
theorem Num.r_fb (h:Num w P0 k g size n inv M bb pl nl bl xl yl ml ol rl tl fl Ap An Ab Ax Ay cp cn cb cx cy):w.rangeAt k 13 (nts fl):=fun j v hv=>by
 rw [zJ h.blk];obtain ⟨a,b,c,d,e,f,rfl⟩:=six h.three.elt.six;obtain ⟨a,b,c,d,e,f,rfl⟩:=six h.fb.elt.six;match j,hv with
 | 0,hv | 1,hv | 2,hv | 3,hv | 4,hv | 5,hv=>exact hv
 | j+6,hv=>simp [nts] at hv
theorem Num.six (h:Num w P0 k g size n inv M bb pl nl bl xl yl ml ol rl tl fl Ap An Ab Ax Ay cp cn cb cx cy){x:Nat}(hx:x<M):(digs 18446744073709551616 x).length≤6 :=
 qp (by omega) (zR (Nat.lt_trans hx h.fr.ff.room) (qF (by omega) h.fr.ff.nle))
end
def onB (M bb x y:Nat):Bool:=decide (x<M) && decide (y<M) && decide (y*y % M=((x*x % M*x % M+M - 3*x % M) % M+bb) % M)
theorem zCe {P0:Nat→Prop}{k g size n inv M bb:Nat}{pl nl bl xl yl ml ol rl tl fl:List Nat}{Ap An Ab Ax Ay:Option Addr}{cp cn cb cx cy:Nat}(Pa Pb:Nat→Prop) (A A':Option Addr) (c c':Nat) (a b:List Nat) (inf:Bool) (w:World)
 (hk:Num w P0 k g size n inv M bb pl nl bl xl yl ml ol rl tl fl Ap An Ab Ax Ay cp cn cb cx cy) (hP0:∀ b,P0 b→b<w.heap.size) (h:RN w Pa A c a) (h':RN w Pb A' c' b) (hPa:∀ b,Pa b→b<w.heap.size) (hPb:∀ b,Pb b→b<w.heap.size) (hM3:3<M) (hbM:bb<M) :
 Calls Tryz.prog 108 #[.pointer (some ⟨k,0,none⟩),.agg #[.bool inf,.slice A a.length c,.slice A' b.length c']] w fun e w'=>e=.returned (.bool (inf || onB M bb (val 18446744073709551616 a) (val 18446744073709551616 b)))∧Below w.heap.size w w':=by
 cases inf
 case true =>
  go_enter Tryz.func108,Tryz.ntmps108;go_wp2;go_ret;exact ⟨rfl,(zO _ w).alloc (zH _) _⟩
 case false =>
  rw [Bool.false_or];have hkl:=qw hk.blk;have hgl:=hk.fr.ff.fld.lt;obtain ⟨W0,hW0⟩:=eW (w.alloc (.cells #[.bool false,.slice A a.length c,.slice A' b.length c'] 29));have hB0:Ext w W0:=by rw [hW0];exact zb _ _
  have hz0:W0.heap.size=w.heap.size+1:=by rw [hW0];simp
  obtain ⟨q,hq⟩:=eV w.heap.size;have hbx:W0.heap[q]?=some (.cells #[.bool false,.slice A a.length c,.slice A' b.length c'] 29 (0,0)):=by rw [hW0,←hq];exact zP w _
  have b0:W0.cell? ⟨q,0,none⟩=some (.bool false):=zJ hbx 0;have b1:W0.cell? ⟨q,1,none⟩=some (.slice A a.length c):=zJ hbx 1;have b2:W0.cell? ⟨q,2,none⟩=some (.slice A' b.length c'):=zJ hbx 2;have hn:=zF (hk.ext hP0 hB0);have hP0':∀ b,P0 b→b<W0.heap.size:=fun b hb=>by have:=hP0 b hb;omega
  have hPa':∀ b,Pa b→b<W0.heap.size:=fun b hb=>by have:=hPa b hb;omega
  have hPb':∀ b,Pb b→b<W0.heap.size:=fun b hb=>by have:=hPb b hb;omega
  have ha:=h.below hB0 hPa;have hb:=h'.below hB0 hPb;have Hqs:=zF (show q≤W0.heap.size by omega);have k1:=hn.out.c_p;have k6:=hn.out.c_f;have hpv:=zF hk.pv;obtain ⟨x,hx⟩:=eV (val 18446744073709551616 a);obtain ⟨y,hy⟩:=eV (val 18446744073709551616 b);rw [hx,hy];obtain ⟨r,hr⟩:=eV (onB M bb x y);rw [hr];have Hr:=zF hr;have Hx:=zF hx;have Hy:=zF hy;have HB0:=zF hB0;have Hz0:=zF hz0;clear hx hy hz0 hB0 hk hr;go_enter Tryz.func108,Tryz.ntmps108;go_upto_region 3 with fail;rw [←hW0];have HW0:=zF hW0;have Hq:=zF hq;clear hW0 hq;by_cases hxM:x<M
  · by_cases hyM:y<M
    · have HxM:=xY hxM;have HyM:=xY hyM;have tx:=zF HxM;have ty:=zF HyM;clear HxM HyM
      refine z8 (by kernel_rfl) 18 [0,1,0,4,12,28,63,127,255,511,1023,511,2559,6655,14847,32767,65535,131071] [] (fun j f X=>match j with
       | 0=>f 0=.pointer (some ⟨q,1,none⟩)
       | 1=>f 1=.slice A a.length c
       | 2=>f 2=.pointer (some ⟨k,0,none⟩)
       | 3=>f 3=.pointer (some ⟨k,0,none⟩)
       | 4=>f 4=.pointer (some ⟨k,1,none⟩)
       | 5=>f 5=.slice Ap pl.length cp
       | 6=>f 6=.int .i64 (-1)
       | 7=>f 7=.bool false
       | 8=>f 8=.bool false
       | 9=>f 9=.pointer (some ⟨q,2,none⟩)
       | 10=>f 10=.slice A' b.length c'
       | 11=>f 11=.pointer (some ⟨k,0,none⟩)
       | 12=>f 12=.pointer (some ⟨k,0,none⟩)
       | 13=>f 13=.pointer (some ⟨k,1,none⟩)
       | 14=>f 14=.slice Ap pl.length cp
       | 15=>f 15=.int .i64 (-1)
       | 16=>f 16=.bool false
       | 17=>f 17=.bool false
       | _=>True) (by kernel_rfl) [(17,0),(18,1),(19,2),(20,3),(21,4),(22,5),(23,6),(24,7),(25,8),(26,9),(27,10),(28,11),(29,12),(30,13),(31,14),(32,15),(33,16),(34,17)] (by kernel_rfl) ?_
      refine zf 1 17 ?_;refine q9 2 16 0 b1 ?_;refine zf 3 15 ?_;refine qM 4 14 2 ?_;refine qM 5 13 3 ?_;refine q9 6 12 4 k1 ?_;refine qJ 7 11 (fun f=>#[f 1,f 5]) (F':=114) (fun f X hX hR=>?_) ?_
      · have e1:f 1=_:=hR.out 1 rfl;have e5:f 5=_:=hR.out 5 rfl;simp only [e1,e5];refine (wL Pa P0 A Ap c cp a pl X (ha.below hX hPa') (hn.out.p.below hX hP0')).mono ?_;rintro e w2 ⟨rfl,nq,rfl⟩;rw [Hx.out,hpv.out,tx.out];exact ⟨_,rfl,(Ext.drewN _ _),fun _ _=>rfl⟩
      refine qH 8 10 [(17,0),(18,1),(19,2),(20,3),(21,4),(22,5),(23,6)] (fun f X hX hR K hK=>?_) ?_
      · have e6:f 6=_:=hR.out 6 rfl;simp only [yZ,e6];refine ⟨?_⟩;go_simp;exact jA hK (s:=by simp only [yZ,e6])
      refine qM 9 9 7 ?_;refine qM 10 8 8 ?_;refine qH 11 7 [(17,0),(18,1),(19,2),(20,3),(21,4),(22,5),(23,6),(24,7),(25,8),(26,9),(28,11),(29,12),(30,13),(31,14)] (fun f X hX hR K hK=>?_) ?_
      · have e8:f 8=_:=hR.out 8 rfl;have e9:f 9=_:=hR.out 9 rfl;have x0:=hX.cell b2;simp only [yZ,e8,e9];refine ⟨zZ (by kernel_rfl) ?_⟩;go_simp;exact jA hK (s:=by simp only [yZ,e8,e9])
      refine qM 12 6 8 ?_;refine jj 13 5 8 11 ?_;refine jj 14 4 8 12 ?_;refine qH 15 3 [(17,0),(18,1),(19,2),(20,3),(21,4),(22,5),(23,6),(24,7),(25,8),(26,9),(27,10),(28,11),(29,12),(30,13)] (fun f X hX hR K hK=>?_) ?_
      · have e8:f 8=_:=hR.out 8 rfl;have e13:f 13=_:=hR.out 13 rfl;have x0:=hX.cell k1;simp only [yZ,e8,e13];refine ⟨zZ (by kernel_rfl) ?_⟩;go_simp;exact jA hK (s:=by simp only [yZ,e8,e13])
      refine wj 16 2 8 (fun f=>#[f 10,f 14]) (F':=114) (fun f X hX hR=>?_) ?_
      · have e10:f 10=_:=hR.out 10 rfl;have e14:f 14=_:=hR.out 14 rfl;simp only [e10,e14];refine (wL Pb P0 A' Ap c' cp b pl X (hb.below hX hPb') (hn.out.p.below hX hP0')).mono ?_;rintro e w2 ⟨rfl,nq,rfl⟩;rw [Hy.out,hpv.out,ty.out];exact ⟨_,rfl,(Ext.drewN _ _),fun _ _=>rfl⟩
      refine qH 17 1 [(17,0),(18,1),(19,2),(20,3),(21,4),(22,5),(23,6),(24,7),(25,8),(26,9),(27,10),(28,11),(29,12),(30,13),(31,14),(32,15)] (fun f X hX hR K hK=>?_) ?_
      · have e8:f 8=_:=hR.out 8 rfl;have e15:f 15=_:=hR.out 15 rfl;simp only [yZ,e8,e15];refine ⟨zZ (by kernel_rfl) ?_⟩;go_simp;exact jA hK (s:=by simp only [yZ,e8,e15])
      refine jj 18 0 8 16 ?_;refine yF ⟨fun f X hX hR hal hap=>?_⟩;have e17:f 17=_:=hR 17 (by decide);simp only [yZ,e17];clear hR hal hap e17;refine zU ?_;have hE:Ext W0 X:=hX;clear hX;have k6':=hE.cell k6;go_upto_region 6 with fail;clear k6';rename World=>X3;have d1:=hE.cell b1;have d2:=hE.cell b2
      refine z8 (by kernel_rfl) 12 [0,0,2,6,15,0,0,64,223,511,0,0,4095,8191] [10,11] (fun j f X=>match j with
       | 0=>f 0=.pointer (some ⟨g,0,none⟩)
       | 1=>f 1=.pointer (some ⟨q,1,none⟩)
       | 2=>f 2=.slice A a.length c
       | 3=>∃ A1 c1,f 3=.slice A1 (digs 18446744073709551616 x).length c1∧OB X q A1 c1 (digs 18446744073709551616 x)
       | 4=>∃ o,f 4=EV o∧FE M n o x
       | 5=>f 5=.pointer (some ⟨g,0,none⟩)
       | 6=>f 6=.pointer (some ⟨q,2,none⟩)
       | 7=>f 7=.slice A' b.length c'
       | 8=>∃ A1 c1,f 8=.slice A1 (digs 18446744073709551616 y).length c1∧OB X q A1 c1 (digs 18446744073709551616 y)
       | 9=>∃ o,f 9=EV o∧FE M n o y
       | 10=>∃ b,f 10=.pointer (some ⟨b,0,none⟩)∧X3.heap.size≤b∧X.heap[b]?=some (.cells #[.int .u64 0,.int .u64 0,.int .u64 0,.int .u64 0,.int .u64 0,.int .u64 0] 147 (0,0))
       | 11=>∃ b,f 11=.pointer (some ⟨b,0,none⟩)∧X3.heap.size≤b∧X.heap[b]?=some (.cells #[.int .u64 0,.int .u64 0,.int .u64 0,.int .u64 0,.int .u64 0,.int .u64 0] 147 (0,0))
       | _=>True) (by kernel_rfl) [(39,0),(40,1),(41,2),(42,3),(43,4),(44,5),(45,6),(46,7),(47,8),(48,9),(6,10),(7,11)] (by kernel_rfl) ?_
      refine zf 1 11 ?_;refine zf 2 10 ?_;refine q9 3 9 1 d1 ?_;refine qJ 4 8 (fun f=>#[f 2]) (F':=122) (fun f X hX hR=>?_) ?_
      · have e2:f 2=_:=hR.out 2 rfl;simp only [e2];refine (wy Pa A c a X (ha.below (hE.trans hX) hPa')).mono ?_;rw [Hx.out];rintro e w2 ⟨A1,c1,rfl,hO,hB⟩;exact ⟨_,rfl,hB,fun Y hY=>⟨A1,c1,rfl,(hO.mono (zQ Hqs.out (hE.trans hX).bsize)).below hY (zH _)⟩⟩
      refine qJ 5 7 (fun f=>#[f 0,f 3]) (F':=145) (fun f X hX hR=>?_) ?_
      · have e0:f 0=_:=hR.out 0 rfl;obtain ⟨A3,c3,(e3:f 3=_),o3⟩:=hR.out 3 rfl;simp only [e0,e3];refine (yz _ A3 c3 _ X (hn.out.ext hP0' (hE.trans hX)).fr o3.rn (fun b hb=>hb.2) (hn.out.six hxM) (by rw [zc (by omega)];exact hxM)).mono ?_;rintro e w2 ⟨o,rfl,ho,hB⟩;rw [zc (by omega)] at ho;exact ⟨(EV o),rfl,hB,fun Y hY=>⟨o,rfl,ho⟩⟩
      refine zf 6 6 ?_;refine zf 7 5 ?_;refine q9 8 4 6 d2 ?_;refine qJ 9 3 (fun f=>#[f 7]) (F':=122) (fun f X hX hR=>?_) ?_
      · have e7:f 7=_:=hR.out 7 rfl;simp only [e7];refine (wy Pb A' c' b X (hb.below (hE.trans hX) hPb')).mono ?_;rw [Hy.out];rintro e w2 ⟨A1,c1,rfl,hO,hB⟩;exact ⟨_,rfl,hB,fun Y hY=>⟨A1,c1,rfl,(hO.mono (zQ Hqs.out (hE.trans hX).bsize)).below hY (zH _)⟩⟩
      refine qJ 10 2 (fun f=>#[f 5,f 8]) (F':=145) (fun f X hX hR=>?_) ?_
      · have e5:f 5=_:=hR.out 5 rfl;obtain ⟨A8,c8,(e8:f 8=_),o8⟩:=hR.out 8 rfl;simp only [e5,e8];refine (yz _ A8 c8 _ X (hn.out.ext hP0' (hE.trans hX)).fr o8.rn (fun b hb=>hb.2) (hn.out.six hyM) (by rw [zc (by omega)];exact hyM)).mono ?_;rintro e w2 ⟨o,rfl,ho,hB⟩;rw [zc (by omega)] at ho;exact ⟨(EV o),rfl,hB,fun Y hY=>⟨o,rfl,ho⟩⟩
      refine vB 11 1 ?_;refine vB 12 0 ?_;refine yF ⟨fun f X hX hR hal hap=>?_⟩;obtain ⟨A3,c3,(e3:f 3=_),o3⟩:=hR 3 (by decide);obtain ⟨o4,(e4:f 4=_),h4⟩:=hR 4 (by decide);obtain ⟨A8,c8,(e8:f 8=_),o8⟩:=hR 8 (by decide);obtain ⟨o9,(e9:f 9=_),h9⟩:=hR 9 (by decide);obtain ⟨b10,(e10:f 10=_),l10,h10⟩:=hR 10 (by decide);obtain ⟨b11,(e11:f 11=_),l11,h11⟩:=hR 11 (by decide);have n11_10:b11≠b10:=fun e=>hap 11 10 (by decide) (by decide) rfl rfl (by decide) (by rw [e11,e10,e]);simp only [yZ,e3,e4,e8,e9,e10,e11];clear hR hal hap e3 e4 e8 e9 e10 e11;refine zg (fun K hK=>⟨zZ (by kernel_rfl) (qo (.tmp 6) (.tmp 43) rfl rfl rfl rfl h10 rfl h4.elt.six (fun Y1 hl1=>hK.out _ _ ?_))⟩);refine zg (fun K hK=>⟨zZ (by kernel_rfl) (qo (.tmp 7) (.tmp 48) rfl rfl rfl rfl (hl1.other n11_10 h11) rfl h9.elt.six (fun Y2 hl2=>hK.out _ _ ?_))⟩);refine zU ?_;have v1:VE Y2 M n b10 x:=hl2.ve (ub n11_10) (hl1.mk' h4);have v2:VE Y2 M n b11 y:=hl2.mk' h9;have hE7:Ext W0 Y2:=hl2.ext (hl1.ext (hE.trans hX) (zQ hE.bsize l10)) (zQ hE.bsize l11);clear hl1 hl2 o3 h4 o8 h9 h10 h11 l10 l11 hX hE d1 d2;have hE:=hE7;clear hE7;go_upto_region 7 with fail
      refine z8 (by kernel_rfl) 20 [0,0,0,0,0,0,56,0,128,384,896,2044,0,8190,0,16384,49152,114688,262143,0,1048575] [19] (fun j f X=>match j with
       | 0=>f 0=.pointer (some ⟨g,0,none⟩)
       | 1=>f 1=.pointer (some ⟨g,0,none⟩)
       | 2=>f 2=.pointer (some ⟨g,0,none⟩)
       | 3=>f 3=.pointer (some ⟨g,0,none⟩)
       | 4=>∃ o,f 4=EV o∧FE M n o x
       | 5=>∃ o,f 5=EV o∧FE M n o x
       | 6=>∃ o,f 6=EV o∧FE M n o (x*x)
       | 7=>f 7=.pointer (some ⟨k,0,none⟩)
       | 8=>f 8=.pointer (some ⟨k,0,none⟩)
       | 9=>f 9=.pointer (some ⟨k,7,none⟩)
       | 10=>f 10=EV tl
       | 11=>∃ o,f 11=EV o∧FE M n o (x*x+M - 3)
       | 12=>∃ o,f 12=EV o∧FE M n o x
       | 13=>∃ o,f 13=EV o∧FE M n o ((x*x+M - 3)*x)
       | 14=>f 14=.pointer (some ⟨k,0,none⟩)
       | 15=>f 15=.pointer (some ⟨k,0,none⟩)
       | 16=>f 16=.pointer (some ⟨k,13,none⟩)
       | 17=>f 17=EV fl
       | 18=>∃ o,f 18=EV o∧FE M n o ((x*x+M - 3)*x+bb)
       | 19=>∃ b,f 19=.pointer (some ⟨b,0,none⟩)∧Y2.heap.size≤b∧X.heap[b]?=some (.cells #[.int .u64 0,.int .u64 0,.int .u64 0,.int .u64 0,.int .u64 0,.int .u64 0] 147 (0,0))
       | _=>True) (by kernel_rfl) [(49,0),(50,1),(51,2),(52,3),(53,4),(54,5),(55,6),(56,7),(57,8),(58,9),(59,10),(60,11),(61,12),(62,13),(63,14),(64,15),(65,16),(66,17),(67,18),(8,19)] (by kernel_rfl) ?_
      refine zf 1 19 ?_;refine zf 2 18 ?_;refine zf 3 17 ?_;refine zf 4 16 ?_;refine lX 5 15 (fun X hX=>let ⟨o,hbl,ho⟩:=v1.ext hX;⟨o,hbl.range,ho⟩) ?_;refine lX 6 14 (fun X hX=>let ⟨o,hbl,ho⟩:=v1.ext hX;⟨o,hbl.range,ho⟩) ?_;refine qJ 7 13 (fun f=>#[f 3,f 4,f 5]) (F':=150) (fun f X hX hR=>?_) ?_
      · have e3:f 3=_:=hR.out 3 rfl;obtain ⟨o4,(e4:f 4=_),h4⟩:=hR.out 4 rfl;obtain ⟨o5,(e5:f 5=_),h5⟩:=hR.out 5 rfl;simp only [e3,e4,e5];refine (uX X (hn.out.ext hP0' (hE.trans hX)).fr.ff h4 h5).mono ?_;rintro e w2 ⟨o,rfl,ho,hB⟩;exact ⟨(EV o),rfl,hB,fun Y hY=>⟨o,rfl,ho⟩⟩
      refine zf 8 12 ?_;refine qM 9 11 7 ?_;refine qM 10 10 8 ?_;refine qH 11 9 [(49,0),(50,1),(51,2),(52,3),(53,4),(54,5),(55,6),(56,7),(57,8),(58,9),(61,12),(63,14),(64,15),(65,16),(66,17),(8,19)] (fun f X hX hR K hK=>?_) ?_
      · have e9:f 9=_:=hR.out 9 rfl;simp only [yZ,e9];refine ⟨zZ (by kernel_rfl) (vF (.tmp 58) rfl rfl (hn.out.ext hP0' (hE.trans hX)).r_three hn.out.three.elt.six ?_)⟩;exact hK.out _ (EV tl) _ (by simp only [yZ,e9]) (zy _) trivial (fun _ _=>rfl)
      refine qJ 12 8 (fun f=>#[f 2,f 6,f 10]) (F':=151) (fun f X hX hR=>?_) ?_
      · have e2:f 2=_:=hR.out 2 rfl;obtain ⟨o6,(e6:f 6=_),h6⟩:=hR.out 6 rfl;have e10:f 10=_:=hR.out 10 rfl;simp only [e2,e6,e10];refine (bO X (hn.out.ext hP0' (hE.trans hX)).fr.ff h6 hn.out.three (by omega)).mono ?_;rintro e w2 ⟨o,rfl,ho,hB⟩;exact ⟨(EV o),rfl,hB,fun Y hY=>⟨o,rfl,ho⟩⟩
      refine lX 13 7 (fun X hX=>let ⟨o,hbl,ho⟩:=v1.ext hX;⟨o,hbl.range,ho⟩) ?_;refine qJ 14 6 (fun f=>#[f 1,f 11,f 12]) (F':=150) (fun f X hX hR=>?_) ?_
      · have e1:f 1=_:=hR.out 1 rfl;obtain ⟨o11,(e11:f 11=_),h11⟩:=hR.out 11 rfl;obtain ⟨o12,(e12:f 12=_),h12⟩:=hR.out 12 rfl;simp only [e1,e11,e12];refine (uX X (hn.out.ext hP0' (hE.trans hX)).fr.ff h11 h12).mono ?_;rintro e w2 ⟨o,rfl,ho,hB⟩;exact ⟨(EV o),rfl,hB,fun Y hY=>⟨o,rfl,ho⟩⟩
      refine zf 15 5 ?_;refine qM 16 4 14 ?_;refine qM 17 3 15 ?_;refine qH 18 2 [(49,0),(50,1),(51,2),(52,3),(53,4),(54,5),(55,6),(56,7),(57,8),(58,9),(59,10),(60,11),(61,12),(62,13),(63,14),(64,15),(65,16),(8,19)] (fun f X hX hR K hK=>?_) ?_
      · have e16:f 16=_:=hR.out 16 rfl;simp only [yZ,e16];refine ⟨zZ (by kernel_rfl) (vF (.tmp 65) rfl rfl (hn.out.ext hP0' (hE.trans hX)).r_fb hn.out.fb.elt.six ?_)⟩;exact hK.out _ (EV fl) _ (by simp only [yZ,e16]) (zy _) trivial (fun _ _=>rfl)
      refine qJ 19 1 (fun f=>#[f 0,f 13,f 17]) (F':=149) (fun f X hX hR=>?_) ?_
      · have e0:f 0=_:=hR.out 0 rfl;obtain ⟨o13,(e13:f 13=_),h13⟩:=hR.out 13 rfl;have e17:f 17=_:=hR.out 17 rfl;simp only [e0,e13,e17];refine (od X (hn.out.ext hP0' (hE.trans hX)).fr.ff h13 hn.out.fb).mono ?_;rintro e w2 ⟨o,rfl,ho,hB⟩;exact ⟨(EV o),rfl,hB,fun Y hY=>⟨o,rfl,ho⟩⟩
      refine vB 20 0 ?_;refine yF ⟨fun f X hX hR hal hap=>?_⟩;obtain ⟨o4,(e4:f 4=_),h4⟩:=hR 4 (by decide);obtain ⟨o5,(e5:f 5=_),h5⟩:=hR 5 (by decide);obtain ⟨o6,(e6:f 6=_),h6⟩:=hR 6 (by decide);obtain ⟨o11,(e11:f 11=_),h11⟩:=hR 11 (by decide);obtain ⟨o12,(e12:f 12=_),h12⟩:=hR 12 (by decide);obtain ⟨o13,(e13:f 13=_),h13⟩:=hR 13 (by decide);obtain ⟨o18,(e18:f 18=_),h18⟩:=hR 18 (by decide);obtain ⟨b19,(e19:f 19=_),l19,h19⟩:=hR 19 (by decide);simp only [yZ,e4,e5,e6,e11,e12,e13,e18,e19];clear hR hal hap e4 e5 e6 e11 e12 e13 e18 e19;refine zg (fun K hK=>⟨zZ (by kernel_rfl) (qo (.tmp 8) (.tmp 67) rfl rfl rfl rfl h19 rfl h18.elt.six (fun Y3 hl1=>hK.out _ _ ?_))⟩);refine zU ?_;have v3:VE Y3 M n b19 ((x*x+M - 3)*x+bb):=hl1.mk' h18;have nb:b11≠b19:=by have:=(let ⟨_,h,_⟩:=v2;h.lt:b11<Y2.heap.size);omega
      have v4:VE Y3 M n b11 y:=hl1.ve nb (v2.ext hX);have hE8:Ext W0 Y3:=hl1.ext (hE.trans hX) (zQ hE.bsize l19);clear hl1 h4 h5 h6 h11 h12 h13 h18 h19 l19 hX hE v1 v2;have hE:=hE8;clear hE8;go_upto_region 8 with fail
      refine z8 (by kernel_rfl) 9 [0,0,0,0,14,0,63,127,255] [] (fun j f X=>match j with
       | 0=>f 0=.pointer (some ⟨g,0,none⟩)
       | 1=>f 1=.pointer (some ⟨g,0,none⟩)
       | 2=>∃ o,f 2=EV o∧FE M n o y
       | 3=>∃ o,f 3=EV o∧FE M n o y
       | 4=>∃ o,f 4=EV o∧FE M n o (y*y)
       | 5=>∃ o,f 5=EV o∧FE M n o ((x*x+M - 3)*x+bb)
       | 6=>∃ o,f 6=EV o∧FE M n o (y*y+M - ((x*x+M - 3)*x+bb) % M)
       | 7=>f 7=.bool r
       | 8=>f 8=.bool r
       | _=>True) (by kernel_rfl) [(68,0),(69,1),(70,2),(71,3),(72,4),(73,5),(74,6),(75,7),(4,8)] (by kernel_rfl) ?_
      refine zf 1 8 ?_;refine zf 2 7 ?_;refine lX 3 6 (fun X hX=>let ⟨o,hbl,ho⟩:=v4.ext hX;⟨o,hbl.range,ho⟩) ?_;refine lX 4 5 (fun X hX=>let ⟨o,hbl,ho⟩:=v4.ext hX;⟨o,hbl.range,ho⟩) ?_;refine qJ 5 4 (fun f=>#[f 1,f 2,f 3]) (F':=150) (fun f X hX hR=>?_) ?_
      · have e1:f 1=_:=hR.out 1 rfl;obtain ⟨o2,(e2:f 2=_),h2⟩:=hR.out 2 rfl;obtain ⟨o3,(e3:f 3=_),h3⟩:=hR.out 3 rfl;simp only [e1,e2,e3];refine (uX X (hn.out.ext hP0' (hE.trans hX)).fr.ff h2 h3).mono ?_;rintro e w2 ⟨o,rfl,ho,hB⟩;exact ⟨(EV o),rfl,hB,fun Y hY=>⟨o,rfl,ho⟩⟩
      refine lX 6 3 (fun X hX=>let ⟨o,hbl,ho⟩:=v3.ext hX;⟨o,hbl.range,ho⟩) ?_;refine qJ 7 2 (fun f=>#[f 0,f 4,f 5]) (F':=151) (fun f X hX hR=>?_) ?_
      · have e0:f 0=_:=hR.out 0 rfl;obtain ⟨o4,(e4:f 4=_),h4⟩:=hR.out 4 rfl;obtain ⟨o5,(e5:f 5=_),h5⟩:=hR.out 5 rfl;simp only [e0,e4,e5];refine (bO X (hn.out.ext hP0' (hE.trans hX)).fr.ff h4 h5.mod (qt (qP _ (by omega)))).mono ?_;rintro e w2 ⟨o,rfl,ho,hB⟩;exact ⟨(EV o),rfl,hB,fun Y hY=>⟨o,rfl,ho⟩⟩
      refine qJ 8 1 (fun f=>#[f 6]) (F':=152) (fun f X hX hR=>?_) ?_
      · obtain ⟨o6,(e6:f 6=_),h6⟩:=hR.out 6 rfl;simp only [e6];refine (vQ o6 X h6.elt.six).mono ?_;rintro e w2 ⟨rfl,hB⟩;have hd:decide (o6=[0,0,0,0,0,0])=r:=by rw [←Hr.out,onB,qX hxM,qX hyM,Bool.true_and,Bool.true_and];exact decide_eq_decide.2 ((h6.zero_iff (hn.out.ext hP0' (hE.trans hX)).fr.ff).trans (zA5 hM3))
        rw [hd];exact ⟨_,rfl,hB,fun _ _=>rfl⟩
      refine qM 9 0 7 ?_;refine yF ⟨fun f X hX hR hal hap=>?_⟩;obtain ⟨o2,(e2:f 2=_),h2⟩:=hR 2 (by decide);obtain ⟨o3,(e3:f 3=_),h3⟩:=hR 3 (by decide);obtain ⟨o4,(e4:f 4=_),h4⟩:=hR 4 (by decide);obtain ⟨o5,(e5:f 5=_),h5⟩:=hR 5 (by decide);obtain ⟨o6,(e6:f 6=_),h6⟩:=hR 6 (by decide);have e8:f 8=_:=hR 8 (by decide);simp only [yZ,e2,e3,e4,e5,e6,e8];clear hR hal hap e2 e3 e4 e5 e6 e8;refine zU ?_;go_wp2;go_ret;exact ⟨rfl,HB0.out.trans (hE.trans hX)⟩
    · have tx:=zF (xY hxM);obtain ⟨v,hv⟩:=eV (jo y M);have hv0:0≤v:=by rw [←hv];rcases jb y M with h | h | h <;> omega
      have Hv:=zF hv;have HH:=zF hyM;clear hv hyM
      refine z8 (by kernel_rfl) 18 [0,1,0,4,12,28,63,127,255,511,1023,511,2559,6655,14847,32767,65535,131071] [] (fun j f X=>match j with
       | 0=>f 0=.pointer (some ⟨q,1,none⟩)
       | 1=>f 1=.slice A a.length c
       | 2=>f 2=.pointer (some ⟨k,0,none⟩)
       | 3=>f 3=.pointer (some ⟨k,0,none⟩)
       | 4=>f 4=.pointer (some ⟨k,1,none⟩)
       | 5=>f 5=.slice Ap pl.length cp
       | 6=>f 6=.int .i64 (-1)
       | 7=>f 7=.bool false
       | 8=>f 8=.bool false
       | 9=>f 9=.pointer (some ⟨q,2,none⟩)
       | 10=>f 10=.slice A' b.length c'
       | 11=>f 11=.pointer (some ⟨k,0,none⟩)
       | 12=>f 12=.pointer (some ⟨k,0,none⟩)
       | 13=>f 13=.pointer (some ⟨k,1,none⟩)
       | 14=>f 14=.slice Ap pl.length cp
       | 15=>f 15=.int .i64 v
       | 16=>f 16=.bool true
       | 17=>f 17=.bool true
       | _=>True) (by kernel_rfl) [(17,0),(18,1),(19,2),(20,3),(21,4),(22,5),(23,6),(24,7),(25,8),(26,9),(27,10),(28,11),(29,12),(30,13),(31,14),(32,15),(33,16),(34,17)] (by kernel_rfl) ?_
      refine zf 1 17 ?_;refine q9 2 16 0 b1 ?_;refine zf 3 15 ?_;refine qM 4 14 2 ?_;refine qM 5 13 3 ?_;refine q9 6 12 4 k1 ?_;refine qJ 7 11 (fun f=>#[f 1,f 5]) (F':=114) (fun f X hX hR=>?_) ?_
      · have e1:f 1=_:=hR.out 1 rfl;have e5:f 5=_:=hR.out 5 rfl;simp only [e1,e5];refine (wL Pa P0 A Ap c cp a pl X (ha.below hX hPa') (hn.out.p.below hX hP0')).mono ?_;rintro e w2 ⟨rfl,nq,rfl⟩;rw [Hx.out,hpv.out,tx.out];exact ⟨_,rfl,(Ext.drewN _ _),fun _ _=>rfl⟩
      refine qH 8 10 [(17,0),(18,1),(19,2),(20,3),(21,4),(22,5),(23,6)] (fun f X hX hR K hK=>?_) ?_
      · have e6:f 6=_:=hR.out 6 rfl;simp only [yZ,e6];refine ⟨?_⟩;go_simp;exact jA hK (s:=by simp only [yZ,e6])
      refine qM 9 9 7 ?_;refine qM 10 8 8 ?_;refine qH 11 7 [(17,0),(18,1),(19,2),(20,3),(21,4),(22,5),(23,6),(24,7),(25,8),(26,9),(28,11),(29,12),(30,13),(31,14)] (fun f X hX hR K hK=>?_) ?_
      · have e8:f 8=_:=hR.out 8 rfl;have e9:f 9=_:=hR.out 9 rfl;have x0:=hX.cell b2;simp only [yZ,e8,e9];refine ⟨zZ (by kernel_rfl) ?_⟩;go_simp;exact jA hK (s:=by simp only [yZ,e8,e9])
      refine qM 12 6 8 ?_;refine jj 13 5 8 11 ?_;refine jj 14 4 8 12 ?_;refine qH 15 3 [(17,0),(18,1),(19,2),(20,3),(21,4),(22,5),(23,6),(24,7),(25,8),(26,9),(27,10),(28,11),(29,12),(30,13)] (fun f X hX hR K hK=>?_) ?_
      · have e8:f 8=_:=hR.out 8 rfl;have e13:f 13=_:=hR.out 13 rfl;have x0:=hX.cell k1;simp only [yZ,e8,e13];refine ⟨zZ (by kernel_rfl) ?_⟩;go_simp;exact jA hK (s:=by simp only [yZ,e8,e13])
      refine wj 16 2 8 (fun f=>#[f 10,f 14]) (F':=114) (fun f X hX hR=>?_) ?_
      · have e10:f 10=_:=hR.out 10 rfl;have e14:f 14=_:=hR.out 14 rfl;simp only [e10,e14];refine (wL Pb P0 A' Ap c' cp b pl X (hb.below hX hPb') (hn.out.p.below hX hP0')).mono ?_;rintro e w2 ⟨rfl,nq,rfl⟩;rw [Hy.out,hpv.out,Hv.out];exact ⟨_,rfl,(Ext.drewN _ _),fun _ _=>rfl⟩
      refine qH 17 1 [(17,0),(18,1),(19,2),(20,3),(21,4),(22,5),(23,6),(24,7),(25,8),(26,9),(27,10),(28,11),(29,12),(30,13),(31,14),(32,15)] (fun f X hX hR K hK=>?_) ?_
      · have e8:f 8=_:=hR.out 8 rfl;have e15:f 15=_:=hR.out 15 rfl;simp only [yZ,e8,e15];refine ⟨zZ (by kernel_rfl) ?_⟩;go_simp;exact jA hK (s:=by simp only [yZ,e8,e15])
      refine jj 18 0 8 16 ?_;refine yF ⟨fun f X hX hR hal hap=>?_⟩;have e17:f 17=_:=hR 17 (by decide);simp only [yZ,e17];clear hR hal hap e17;refine zU ?_;go_wp2;go_ret;exact ⟨by rw [show r=false by rw [←Hr.out];simp [onB,HH.out]];rfl,HB0.out.trans hX⟩
  · obtain ⟨v,hv⟩:=eV (jo x M);have hv0:0≤v:=by rw [←hv];rcases jb x M with h | h | h <;> omega
    have Hv:=zF hv;have HH:=zF hxM;clear hv hxM
    refine z8 (by kernel_rfl) 18 [0,1,0,4,12,28,63,127,255,511,1023,511,2559,6655,14847,32767,65535,131071] [] (fun j f X=>match j with
     | 0=>f 0=.pointer (some ⟨q,1,none⟩)
     | 1=>f 1=.slice A a.length c
     | 2=>f 2=.pointer (some ⟨k,0,none⟩)
     | 3=>f 3=.pointer (some ⟨k,0,none⟩)
     | 4=>f 4=.pointer (some ⟨k,1,none⟩)
     | 5=>f 5=.slice Ap pl.length cp
     | 6=>f 6=.int .i64 v
     | 7=>f 7=.bool true
     | 8=>f 8=.bool true
     | 9=>f 9=undef
     | 10=>f 10=undef
     | 11=>f 11=undef
     | 12=>f 12=undef
     | 13=>f 13=undef
     | 14=>f 14=undef
     | 15=>f 15=undef
     | 16=>f 16=undef
     | 17=>f 17=.bool true
     | _=>True) (by kernel_rfl) [(17,0),(18,1),(19,2),(20,3),(21,4),(22,5),(23,6),(24,7),(25,8),(26,9),(27,10),(28,11),(29,12),(30,13),(31,14),(32,15),(33,16),(34,17)] (by kernel_rfl) ?_
    refine zf 1 17 ?_;refine q9 2 16 0 b1 ?_;refine zf 3 15 ?_;refine qM 4 14 2 ?_;refine qM 5 13 3 ?_;refine q9 6 12 4 k1 ?_;refine qJ 7 11 (fun f=>#[f 1,f 5]) (F':=114) (fun f X hX hR=>?_) ?_
    · have e1:f 1=_:=hR.out 1 rfl;have e5:f 5=_:=hR.out 5 rfl;simp only [e1,e5];refine (wL Pa P0 A Ap c cp a pl X (ha.below hX hPa') (hn.out.p.below hX hP0')).mono ?_;rintro e w2 ⟨rfl,nq,rfl⟩;rw [Hx.out,hpv.out,Hv.out];exact ⟨_,rfl,(Ext.drewN _ _),fun _ _=>rfl⟩
    refine qH 8 10 [(17,0),(18,1),(19,2),(20,3),(21,4),(22,5),(23,6)] (fun f X hX hR K hK=>?_) ?_
    · have e6:f 6=_:=hR.out 6 rfl;simp only [yZ,e6];refine ⟨?_⟩;go_simp;exact jA hK (s:=by simp only [yZ,e6])
    refine qM 9 9 7 ?_;refine qT 10 8 8 ?_;refine qT 11 7 8 ?_;refine qT 12 6 8 ?_;refine qT 13 5 8 ?_;refine qT 14 4 8 ?_;refine qT 15 3 8 ?_;refine qT 16 2 8 ?_;refine qT 17 1 8 ?_;refine jj 18 0 8 16 ?_;refine yF ⟨fun f X hX hR hal hap=>?_⟩;have e17:f 17=_:=hR 17 (by decide);simp only [yZ,e17];clear hR hal hap e17;refine zU ?_;go_wp2;go_ret;exact ⟨by rw [show r=false by rw [←Hr.out];simp [onB,HH.out]];rfl,HB0.out.trans hX⟩
structure Crv where
 size:Nat
 n:Nat
 M:Nat
 bb:Nat
 pl:List Nat
 nl:List Nat
 bl:List Nat
 xl:List Nat
 yl:List Nat
def zB4:Crv:=⟨32,4,val 18446744073709551616 xg,val 18446744073709551616 gL,xg,ny,gL,nx,nw⟩
def c384:Crv:=⟨48,6,val 18446744073709551616 xf,val 18446744073709551616 gK,xf,nv,gK,nu,nt⟩
def IsC (c:Int) (C:Crv):Prop:=(c=1∧C=zB4)∨(c=2∧C=c384)
structure Crv.Fine (C:Crv):Prop where
 three:3<C.M
 bb:C.bb<C.M
 room:C.M<256 ^ C.size
 small:C.size≤48
 pos:32≤C.size
 pv:val 18446744073709551616 C.pl=C.M
theorem IsC.fine {c:Int}{C:Crv}(h:IsC c C):C.Fine:=by
 rcases h with ⟨_,rfl⟩ | ⟨_,rfl⟩
 · exact ⟨by decide +kernel,by decide +kernel,by decide +kernel,by decide,by decide,rfl⟩
 · exact ⟨by decide +kernel,by decide +kernel,by decide +kernel,by decide,by decide,rfl⟩
def OfC (C:Crv) (w:World) (k:Nat):Prop:=∃ (P0:Nat→Prop) (g inv:Nat) (ml ol rl tl fl:List Nat) (Ap An Ab Ax Ay:Option Addr) (cp cn cb cx cy:Nat),Num w P0 k g C.size C.n inv C.M C.bb C.pl C.nl C.bl C.xl C.yl ml ol rl tl fl Ap An Ab Ax Ay cp cn cb cx cy∧∀ b,P0 b→b<w.heap.size
theorem OfC.ext {C:Crv}{w X:World}{k:Nat}(h:OfC C w k) (hE:Ext w X):OfC C X k:=by
 obtain ⟨P0,g,inv,ml,ol,rl,tl,fl,Ap,An,Ab,Ax,Ay,cp,cn,cb,cx,cy,hn,hP⟩:=h;exact ⟨P0,g,inv,ml,ol,rl,tl,fl,Ap,An,Ab,Ax,Ay,cp,cn,cb,cx,cy,hn.ext hP hE,fun b hb=>zR (hP b hb) hE.bsize⟩
theorem OfC.size {C:Crv}{w:World}{k:Nat}(h:OfC C w k):w.cell? ⟨k,0,none⟩=some (.int .i64 (C.size:Int)):=by
 obtain ⟨P0,g,inv,ml,ol,rl,tl,fl,Ap,An,Ab,Ax,Ay,cp,cn,cb,cx,cy,hn,hP⟩:=h;exact hn.c_size
theorem zAZ {c:Int}{C:Crv}(h:IsC c C) (w:World):Calls Tryz.prog 102 #[.int .i64 c] w fun e w'=>∃ k,e=.returned (.pointer (some ⟨k,0,none⟩))∧OfC C w' k∧Ext w w':=by
 rcases h with ⟨rfl,rfl⟩ | ⟨rfl,rfl⟩
 · refine (rg w).mono ?_;rintro e w' ⟨k,g,inv,ml,ol,rl,tl,fl,rfl,_,hn,hB⟩;exact ⟨k,rfl,⟨_,g,inv,ml,ol,rl,tl,fl,_,_,_,_,_,_,_,_,_,_,hn,fun b hb=>hb.2⟩,hB⟩
 · refine (rf w).mono ?_;rintro e w' ⟨k,g,inv,ml,ol,rl,tl,fl,rfl,_,hn,hB⟩;exact ⟨k,rfl,⟨_,g,inv,ml,ol,rl,tl,fl,_,_,_,_,_,_,_,_,_,_,hn,fun b hb=>hb.2⟩,hB⟩
theorem zCg {c:Int}(h1:c≠1) (h2:c≠2) (w:World):Calls Tryz.prog 102 #[.int .i64 c] w fun e w'=>e=.returned (.pointer none)∧Ext w w':=by
 have e1:(c==1)=false:=by simpa using h1
 have e2:(c==2)=false:=by simpa using h2
 go_enter Tryz.func102,Tryz.ntmps102;go_wp2;go_ret;exact ⟨rfl,zy _⟩
theorem on_c {C:Crv}{w:World}{k:Nat}(h:OfC C w k) (hC:C.Fine) (Pa Pb:Nat→Prop) (A A':Option Addr) (c c':Nat) (a b:List Nat) (inf:Bool) (ha:RN w Pa A c a) (hb:RN w Pb A' c' b) (hPa:∀ b,Pa b→b<w.heap.size) (hPb:∀ b,Pb b→b<w.heap.size) :
 Calls Tryz.prog 108 #[.pointer (some ⟨k,0,none⟩),.agg #[.bool inf,.slice A a.length c,.slice A' b.length c']] w fun e w'=>e=.returned (.bool (inf || onB C.M C.bb (val 18446744073709551616 a) (val 18446744073709551616 b)))∧Ext w w':=by
 obtain ⟨P0,g,inv,ml,ol,rl,tl,fl,Ap,An,Ab,Ax,Ay,cp,cn,cb,cx,cy,hn,hP⟩:=h
 exact zCe Pa Pb A A' c c' a b inf w hn hP ha hb hPa hPb hC.three hC.bb
abbrev uq:Value:=.agg #[.bool true,.slice none 0 0,.slice none 0 0]
theorem gR:(Tryz.prog.info? 29).map (·.size)=some 3:=by kernel_rfl
theorem bR {fn:Func}{R:Ending→World→Prop}{a:Act}{W:World}{p u:Tmp}{g:Nat}{ty:TypeId}{fr:Nat×Nat}{x0 x1 x2 v:Value}(hr:fn.results=#[.cell p 29,.tmp u]) (hp:a.tmps.getD p undef=.pointer (some ⟨g,0,none⟩)) (hu:a.tmps.getD u undef=v) (hd:a.defers=[])
 (hg:W.heap[g]?=some (.cells #[x0,x1,x2] ty fr)) (hR:R (.returned (.tuple #[.agg #[x0,x1,x2],v])) W):bodyPost Tryz.prog fn R .ret a W:=by
 refine qS (v:=.tuple #[.agg #[x0,x1,x2],v]) ?_ hd hR
 rw [results_cell_tmp hr,hp]
 have h1:(asAddr (.pointer (some ⟨g,0,none⟩)):Sem Addr).run Tryz.prog W=.ok ⟨g,0,none⟩ W:=rfl
 rw [h1,qy,run_loadVar_row W g ty 29 #[x0,x1,x2] fr _ hg Tryz.underlying29 rfl gR,qy,hu]
theorem oe {fn:Func}{R:Ending→World→Prop}{a:Act}{W:World}{p:Tmp}{g:Nat}{ty:TypeId}{fr:Nat×Nat}{x0 x1 x2:Value}(hr:fn.results=#[.cell p 29]) (hp:a.tmps.getD p undef=.pointer (some ⟨g,0,none⟩)) (hd:a.defers=[])
 (hg:W.heap[g]?=some (.cells #[x0,x1,x2] ty fr)) (hR:R (.returned (.agg #[x0,x1,x2])) W):bodyPost Tryz.prog fn R .ret a W :=
 qS (yV hr a.tmps W g _ _ _ _ hp hg Tryz.underlying29 rfl gR) hd hR
theorem gI {W:World}{g:Nat}{ty:TypeId}{x0 x1 x2:Value}(h:W.heap[g]?=some (.cells #[x0,x1,x2] ty (0,0))) :
 W.cell? ⟨g,0,none⟩=some x0∧W.cell? ⟨g,1,none⟩=some x1∧W.cell? ⟨g,2,none⟩=some x2∧W.frozen? ⟨g,0,none⟩=false∧W.frozen? ⟨g,1,none⟩=false∧W.frozen? ⟨g,2,none⟩=false :=
 ⟨zJ h 0,zJ h 1,zJ h 2,zv h 0,zv h 1,zv h 2⟩
theorem cU (b:Bool) (A A':Option Addr) (n n' c c':Nat):(#[Value.bool b,.slice A n c,.slice A' n' c']:Array Value).all (·.oneCell')=true:=by simp [Value.oneCell']
theorem cT {W:World}{g:Nat}{ty:TypeId}{x0 x1 x2:Value}(h:W.heap[g]?=some (.cells #[x0,x1,x2] ty (0,0))) (y0 y1 y2:Value):(((W.setCell ⟨g,0,none⟩ y0).setCell ⟨g,1,none⟩ y1).setCell ⟨g,2,none⟩ y2).heap[g]?=some (.cells #[y0,y1,y2] ty (0,0)) :=
 jm (jm (jm h 0 y0) 1 y1) 2 y2
theorem rX (W:World) (g:Nat) (y0 y1 y2:Value):kj g W (((W.setCell ⟨g,0,none⟩ y0).setCell ⟨g,1,none⟩ y1).setCell ⟨g,2,none⟩ y2):=(((kj.refl g W).set 0 y0).set 1 y1).set 2 y2
theorem cW {w W:World}{g:Nat}(hE:Ext w W) (hg:w.heap.size≤g) (y0 y1 y2:Value):Ext w (((W.setCell ⟨g,0,none⟩ y0).setCell ⟨g,1,none⟩ y1).setCell ⟨g,2,none⟩ y2) :=
 ((Below.setCell hE (p:=⟨g,0,none⟩) hg y0).setCell (p:=⟨g,1,none⟩) hg y1).setCell (p:=⟨g,2,none⟩) hg y2
theorem gP (w:World):Calls Tryz.prog 113 #[] w fun e w'=>e=.returned uq∧Ext w w':=by
 go_enter Tryz.func113,Tryz.ntmps113;go_wp2;exact oe rfl rfl rfl (zP w _) ⟨rfl,zb _ _⟩
theorem OB.just {X Y:World}{base b:Nat}{A:Option Addr}{c:Nat}{l:List Nat}(h:OB X base A c l) (hj:kj b X Y){cs:Array Value}{t:TypeId}(hb:X.heap[b]?=some (.cells cs t (0,0))) (ht:t≠69):OB Y base A c l:=by
 obtain ⟨h1,h2,h3,h4⟩:=h;refine ⟨h1,h2,h3,fun hl=>?_⟩;obtain ⟨g,cur,e,hg,hgc,hr⟩:=h4 hl;refine ⟨g,cur,e,hg,hj.at_ (fun e=>?_) hgc,hr⟩;subst e;rw [hb] at hgc;injection hgc with hgc
 injection hgc with _ hgc _
 exact ht hgc
theorem RN.ru {w:World}{P:Nat→Prop}{A:Option Addr}{c:Nat}{l:List Nat}(h:RN w P A c l) (hP:∀ b,P b→b<w.heap.size):RU w A c l:=h.mono fun b hb=>hP b hb
theorem of_b {c:Int}{C:Crv}(h:IsC c C) (w:World):Calls Tryz.prog 102 #[.int .i64 c] w fun e w'=>∃ k,e=.returned (.pointer (some ⟨k,0,none⟩))∧(∃ (P0:Nat→Prop) (g inv:Nat) (ml ol rl tl fl:List Nat) (Ap An Ab Ax Ay:Option Addr) (cp cn cb cx cy:Nat),Num w' P0 k g C.size C.n inv C.M C.bb C.pl C.nl C.bl C.xl C.yl ml ol rl tl fl Ap An Ab Ax Ay cp cn cb cx cy∧∀ b,P0 b→w.heap.size≤b∧b<w'.heap.size)∧Ext w w':=by
 rcases h with ⟨rfl,rfl⟩ | ⟨rfl,rfl⟩
 · refine (rg w).mono ?_;rintro e w' ⟨k,g,inv,ml,ol,rl,tl,fl,rfl,_,hn,hB⟩;exact ⟨k,rfl,⟨_,g,inv,ml,ol,rl,tl,fl,_,_,_,_,_,_,_,_,_,_,hn,fun b hb=>hb⟩,hB⟩
 · refine (rf w).mono ?_;rintro e w' ⟨k,g,inv,ml,ol,rl,tl,fl,rfl,_,hn,hB⟩;exact ⟨k,rfl,⟨_,g,inv,ml,ol,rl,tl,fl,_,_,_,_,_,_,_,_,_,_,hn,fun b hb=>hb⟩,hB⟩
set_option maxHeartbeats 2000000
theorem zBg {c:Int}{C:Crv}(hC:IsC c C) (w:World):Calls Tryz.prog 138 #[.int .i64 c] w fun e w'=>∃ A cc,e=.returned (.slice A C.nl.length cc)∧RU w' A cc C.nl∧Ext w w':=by
 go_enter Tryz.func138,Tryz.ntmps138;go_wp2_with (go_at_call 102;refine (zAZ hC _).mono ?_;rintro e wa ⟨k,rfl,⟨P0,g,inv,ml,ol,rl,tl,fl,Ap,An,Ab,Ax,Ay,cp,cn,cb,cx,cy,hn,hP0⟩,hE1⟩;have k1:=hn.c_p;have k2:=hn.c_n;have k0:=hn.c_size;have Hn:=zF hn;have HP:=zF hP0;clear hn hP0);go_ret;exact ⟨_,_,rfl,Hn.out.nn.ru HP.out,hE1⟩
theorem zCS {c:Int}{C:Crv}(hC:IsC c C) (w:World):Calls Tryz.prog 44 #[.int .i64 c] w fun e w'=>e=.returned (.int .i64 (C.size:Int))∧Ext w w':=by
 go_enter Tryz.func44,Tryz.ntmps44;go_wp2_with (go_at_call 102;refine (zAZ hC _).mono ?_;rintro e wa ⟨k,rfl,hk,hE1⟩;have k0:=hk.size);go_ret;exact ⟨rfl,hE1⟩
theorem sq {c:Int}(h1:c≠1) (h2:c≠2) (w:World):Calls Tryz.prog 138 #[.int .i64 c] w fun e w'=>e=.returned (.slice none 0 0)∧Ext w w':=by
 go_enter Tryz.func138,Tryz.ntmps138;go_wp2_with (go_at_call 102;refine (zCg h1 h2 _).mono ?_;rintro e wa ⟨rfl,hE1⟩);go_ret;exact ⟨rfl,hE1⟩
theorem zCu {c:Int}{C:Crv}(hC:IsC c C) (w:World):Calls Tryz.prog 101 #[.int .i64 c] w fun e w'=>∃ A cc A' cc',e=.returned (.agg #[.bool false,.slice A C.xl.length cc,.slice A' C.yl.length cc'])∧RU w' A cc C.xl∧RU w' A' cc' C.yl∧Ext w w':=by
 have hr:=zP w (.cells #[.bool false,.slice none 0 0,.slice none 0 0] 29);go_enter Tryz.func101,Tryz.ntmps101;go_wp2_with (go_at_call 102;refine (of_b hC _).mono ?_;rintro e wa ⟨k,rfl,⟨P0,g,inv,ml,ol,rl,tl,fl,Ap,An,Ab,Ax,Ay,cp,cn,cb,cx,cy,hn,hP0⟩,hE1⟩;have k1:=hn.c_x;have k2:=hn.c_y;have k0:=hn.c_size;have Hn:=zF hn;have HP:=zF hP0;have hra:=hE1.at_ hr;obtain ⟨z0,z1,z2,f0,f1,f2⟩:=gI hra;clear hn hP0);obtain ⟨q,hq⟩:=eV w.heap.size;rw [hq] at hra;clear z0 z1 z2 f0 f1 f2;rw [hq]
 refine z8 (by kernel_rfl) 9 [0,1,3,7,0,16,48,112,255,511] [] (fun j f X=>match j with
  | 0=>f 0=.pointer (some ⟨k,0,none⟩)
  | 1=>f 1=.pointer (some ⟨k,0,none⟩)
  | 2=>f 2=.pointer (some ⟨k,4,none⟩)
  | 3=>f 3=.slice Ax C.xl.length cx
  | 4=>f 4=.pointer (some ⟨k,0,none⟩)
  | 5=>f 5=.pointer (some ⟨k,0,none⟩)
  | 6=>f 6=.pointer (some ⟨k,5,none⟩)
  | 7=>f 7=.slice Ay C.yl.length cy
  | 8=>f 8=.agg #[.bool false,.slice Ax C.xl.length cx,.slice Ay C.yl.length cy]
  | _=>True) (by kernel_rfl) [(8,0),(9,1),(10,2),(11,3),(12,4),(13,5),(14,6),(15,7),(16,8)] (by kernel_rfl) ?_
 refine zf 1 8 ?_;refine qM 2 7 0 ?_;refine qM 3 6 1 ?_;refine q9 4 5 2 k1 ?_;refine zf 5 4 ?_;refine qM 6 3 4 ?_;refine qM 7 2 5 ?_;refine q9 8 1 6 k2 ?_;refine jj 9 0 3 7 ?_;refine yF ⟨fun f X hX hR hal hap=>?_⟩;have e8:f 8=.agg #[.bool false,.slice Ax C.xl.length cx,.slice Ay C.yl.length cy]:=hR 8 (by decide);simp only [Par.yN,Act.put,uP,List.set_cons_succ,List.set_cons_zero,e8];clear hR hal hap e8;refine zg (fun K hK=>⟨zZ (by kernel_rfl) (vD (cs':=#[.bool false,.slice Ax C.xl.length cx,.slice Ay C.yl.length cy]) (t:=29) 29 (.tmp 2) (.tmp 16) rfl rfl rfl rfl (hX.at_ hra) gR rfl (cU _ _ _ _ _ _ _) (fun Y hY1 hY2 hY3=>hK.out _ _ ?_))⟩);refine zU ?_;go_wp2;have zA:q+1≤wa.heap.size:=by have:=hE1.bsize;simp only [qL] at this;omega
 have hP1:∀ b,P0 b→q<b∧b<wa.heap.size:=fun b hb=>by have:=HP.out b hb;simp only [qL] at this;omega
 have hx:RN Y P0 Ax cx C.xl:=(Hn.out.x.below hX (fun b hb=>(hP1 b hb).2)).just hY2 (fun b hb=>⟨by have:=hP1 b hb;have:=hX.bsize;omega,by have:=hP1 b hb;omega⟩);have hy:RN Y P0 Ay cy C.yl:=(Hn.out.y.below hX (fun b hb=>(hP1 b hb).2)).just hY2 (fun b hb=>⟨by have:=hP1 b hb;have:=hX.bsize;omega,by have:=hP1 b hb;omega⟩);have hb:∀ b,P0 b→b<Y.heap.size:=fun b hb=>by have:=hP1 b hb;have:=hX.bsize;omega
 exact oe rfl rfl rfl hY1 ⟨_,_,_,_,rfl,hx.ru hb,hy.ru hb,hY2.ext (((zb w _).trans hE1).trans hX) (by omega)⟩
def RC (w:World) (C:Crv) (v:Value):Prop:=∃ (Ap An Ab Ax Ay:Option Addr) (cp cn cb cx cy:Nat),
 v=.agg #[.slice Ap (digs 4294967296 C.M).length cp,.slice An (digs 4294967296 (val 18446744073709551616 C.nl)).length cn,.slice Ab (digs 4294967296 C.bb).length cb,.slice Ax (digs 4294967296 (val 18446744073709551616 C.xl)).length cx,.slice Ay (digs 4294967296 (val 18446744073709551616 C.yl)).length cy,.int .i64 (C.size:Int)] ∧
 RU w Ap cp (digs 4294967296 C.M)∧RU w An cn (digs 4294967296 (val 18446744073709551616 C.nl))∧RU w Ab cb (digs 4294967296 C.bb)∧RU w Ax cx (digs 4294967296 (val 18446744073709551616 C.xl))∧RU w Ay cy (digs 4294967296 (val 18446744073709551616 C.yl))
theorem RC.ext {w X:World}{C:Crv}{v:Value}(h:RC w C v) (hE:Ext w X):RC X C v:=by
 obtain ⟨Ap,An,Ab,Ax,Ay,cp,cn,cb,cx,cy,e,h1,h2,h3,h4,h5⟩:=h;exact ⟨Ap,An,Ab,Ax,Ay,cp,cn,cb,cx,cy,e,h1.up hE,h2.up hE,h3.up hE,h4.up hE,h5.up hE⟩
theorem Tu.ext {w X:World}{b:Nat}(h:Tu w b) (hE:Ext w X):Tu X b:=let ⟨cur,hc⟩:=h;⟨cur,hE.at_ hc⟩
theorem RT.ru {w:World}{A:Option Addr}{c:Nat}{l:List Nat}(h:RT w A c l):RU w A c l:=RN.mono h fun _ hb=>hb.1
theorem RT.up {w X:World}{A:Option Addr}{c:Nat}{l:List Nat}(h:RT w A c l) (hE:Ext w X):RT X A c l:=(RN.below h hE fun _ hb=>hb.1).mono fun _ hb=>⟨zR hb.1 hE.bsize,hb.2.ext hE⟩
theorem Crv.Fine.len {C:Crv}(h:C.Fine):(digs 4294967296 C.M).length≤96:=by
 have h1:=h.room;have h2:(256:Nat) ^ C.size≤256 ^ 48:=qF (by omega) h.small;have h3:(256:Nat) ^ 48≤4294967296 ^ 96:=by decide +kernel
 exact qp (by omega) (zR h1 (zQ h2 h3))
def c0:Crv:=⟨0,0,0,0,[],[],[],[],[]⟩
theorem end_e {fn:Func}{R:Ending→World→Prop}{a:Act}{W:World}{p:Tmp}{g:Nat}{l:List Nat}(hr:fn.results=#[.cell p 147]) (hp:a.tmps.getD p undef=.pointer (some ⟨g,0,none⟩)) (hd:a.defers=[])
 (hg:xE W g l) (h6:l.length=6) (hR:R (.returned (EV l)) W):bodyPost Tryz.prog fn R .ret a W :=
 qS (yV hr a.tmps W g _ _ _ _ hp hg Tryz.underlying147 rfl (by rw [jF,qj,h6];exact bK)) hd hR
theorem vE:([.int .u64 0,.int .u64 0,.int .u64 0,.int .u64 0,.int .u64 0,.int .u64 0]:List Value).length=6:=rfl
theorem FR.r_one {w:World}{g n inv M:Nat}{ml ol rl:List Nat}(h:FR w g n inv M ml ol rl):w.rangeAt g 8 (nts ol):=fun j v hv=>by
 rw [zJ h.ff.fld.blk];obtain ⟨a,b,c,d,e,f,rfl⟩:=six h.ff.fld.m6;obtain ⟨a,b,c,d,e,f,rfl⟩:=six h.ff.fld.o6;match j,hv with
 | 0,hv | 1,hv | 2,hv | 3,hv | 4,hv | 5,hv=>exact hv
 | j+6,hv=>simp [nts] at hv
theorem FR.fone {w:World}{g n inv M:Nat}{ml ol rl:List Nat}(h:FR w g n inv M ml ol rl):FE M n ol 1:=⟨h.oelt,by rw [h.oval,wH]⟩
theorem FR.ext {w X:World}{g n inv M:Nat}{ml ol rl:List Nat}(h:FR w g n inv M ml ol rl) (hE:Ext w X):FR X g n inv M ml ol rl:=h.below hE h.ff.fld.lt
theorem ma {g n inv M:Nat}{ml ol rl:List Nat}(w:World) (hF:FR w g n inv M ml ol rl):Calls Tryz.prog 178 #[.pointer (some ⟨g,0,none⟩)] w fun e w'=>e=.returned (EV ol)∧Ext w w':=by
 have hF':=zF hF;have hz:=zP w (.cells #[.int .u64 0,.int .u64 0,.int .u64 0,.int .u64 0,.int .u64 0,.int .u64 0] 147);go_enter Tryz.func178,Tryz.ntmps178;go_upto_region 1 with fail
 refine qQ 4 [0,1,3,7,15] [] (fun j f X=>match j with
  | 0=>f 0=.pointer (some ⟨g,0,none⟩)
  | 1=>f 1=.pointer (some ⟨g,0,none⟩)
  | 2=>f 2=.pointer (some ⟨g,8,none⟩)
  | 3=>f 3=EV ol
  | _=>True) (by kernel_rfl) [(3,0),(4,1),(5,2),(6,3)] (by kernel_rfl) ?_
 refine zf 1 3 ?_;refine qM 2 2 0 ?_;refine qM 3 1 1 ?_;refine qH 4 0 [(3,0),(4,1),(5,2)] (fun f X hX hR K hK=>?_) ?_
 · have e2:f 2=_:=hR.out 2 rfl;simp only [yZ,e2];refine ⟨zZ (by kernel_rfl) (vF (.tmp 5) rfl rfl (hF'.out.ext ((zb _ _).trans hX)).r_one hF'.out.oelt.six ?_)⟩;exact hK.out _ (EV ol) _ (by simp only [yZ,e2]) (zy _) trivial (fun _ _=>rfl)
 refine yF ⟨fun f X hX hR hal hap=>?_⟩;have e3:f 3=_:=hR 3 (by decide);simp only [yZ,e3];clear hR hal hap e3;refine zg (fun K hK=>⟨zZ (by kernel_rfl) (qo (.tmp 2) (.tmp 6) rfl rfl rfl rfl (hX.at_ hz) vE hF'.out.oelt.six (fun Y1 hl1=>hK.out _ _ ?_))⟩);refine zU ?_;go_wp2;exact end_e rfl rfl rfl hl1.blk hF'.out.oelt.six ⟨rfl,hl1.ext ((zb _ _).trans hX) (zH _)⟩
theorem xE.rn {w:World}{b:Nat}{l:List Nat}(h:xE w b l) (h6:l.length=6) (hl:∀ x∈l,x<18446744073709551616):RN w (fun b=>b<w.heap.size) (some ⟨b,0,none⟩) 6 l:=by
 refine ⟨⟨by omega,by unfold maxLen;omega,by rw [qj];omega,fun _=>⟨_,rfl,h.lt,fun j v hv=>?_⟩⟩,hl,by omega⟩;rw [xZ,zJ h j];simpa using hv
theorem zAv {g n inv M:Nat}{ml ol rl a:List Nat}{x:Nat}(w:World) (hF:FR w g n inv M ml ol rl) (ha:FE M n a x):Calls Tryz.prog 181 #[.pointer (some ⟨g,0,none⟩),EV a] w fun e w'=>∃ A1 c1,e=.returned (.slice A1 (digs 18446744073709551616 (x % M)).length c1)∧OB w' w.heap.size A1 c1 (digs 18446744073709551616 (x % M))∧Ext w w':=by
 have hF':=zF hF;have ha':=zF ha;have h1M:=hF.ff.big;have he1:Elt M [1,0,0,0,0,0]:=⟨rfl,by decide,by simpa using h1M⟩
 obtain ⟨q,hq⟩:=eV w.heap.size;have hbx:(w.alloc (.cells (nts a).toArray 147)).heap[w.heap.size]?=some (.cells (nts a).toArray 147 (0,0)):=zP w _;obtain ⟨y,hy⟩:=eV (x % M)
 have hmul:=zF (fun X (hX:Ext w X)=>(cD a [1,0,0,0,0,0] X (hF.ext hX).ff ha.elt he1).mono (R':=fun e w'=>∃ o,e=.returned (EV o)∧o.length=6∧(∀ x∈o,x<18446744073709551616)∧val 18446744073709551616 o=y∧Ext X w') (by
  rintro e w' ⟨o,rfl,ho,hv,hB⟩
  refine ⟨o,rfl,ho.six,ho.lim,?_,hB⟩
  have hv1:val 18446744073709551616 [1,0,0,0,0,0]=1:=by simp
  rw [hv1,jS,ha.form,xr] at hv
  have:=uw hF.ff.invV hv
  rw [qG ho.lt] at this
  rw [this,hy]))
 rw [hy];have h6:=ha.elt.six;have e1:EV [1,0,0,0,0,0]=.agg #[.int .u64 1,.int .u64 0,.int .u64 0,.int .u64 0,.int .u64 0,.int .u64 0]:=rfl;rw [e1] at hmul;have hev:EV a=.agg (nts a).toArray:=rfl;obtain ⟨W0,hW0⟩:=eW (w.alloc (.cells (nts a).toArray 147));rw [←hW0,hq] at hbx;have hE0:Ext w W0:=by rw [hW0];exact zb _ _
 have HE0:=zF hE0;have Hq:=zF hq;have Hz:=zF (show W0.heap.size=w.heap.size+1 by rw [hW0];simp);have H6:=zF h6;have HW0:=zF hW0;clear hF ha h1M he1 hy e1 hE0 hW0 h6;rw [hev];clear hev;go_enter Tryz.func181,Tryz.ntmps181;go_upto_region 1 with fail;rw [←HW0.out]
 refine qQ 5 [0,0,0,7,0,31] [4] (fun j f X=>match j with
  | 0=>f 0=.pointer (some ⟨g,0,none⟩)
  | 1=>f 1=EV a
  | 2=>f 2=.agg #[.int .u64 1,.int .u64 0,.int .u64 0,.int .u64 0,.int .u64 0,.int .u64 0]
  | 3=>∃ o,f 3=EV o∧o.length=6∧(∀ x∈o,x<18446744073709551616)∧val 18446744073709551616 o=y
  | 4=>∃ b,f 4=.pointer (some ⟨b,0,none⟩)∧W0.heap.size≤b∧X.heap[b]?=some (.cells #[.int .u64 0,.int .u64 0,.int .u64 0,.int .u64 0,.int .u64 0,.int .u64 0] 147 (0,0))
  | _=>True) (by kernel_rfl) [(6,0),(7,1),(8,2),(9,3),(5,4)] (by kernel_rfl) ?_
 refine zf 1 4 ?_;refine qH 2 3 [(6,0),(8,2),(5,4)] (fun f X hX hR K hK=>?_) ?_
 · simp only [yZ];refine ⟨zZ (by kernel_rfl) (vF (.tmp 3) rfl rfl (xE.range (hX.at_ hbx)) H6.out ?_)⟩;exact hK.out _ (EV a) _ (by simp only [yZ]) (zy _) trivial (fun _ _=>rfl)
 refine zf 3 2 ?_;refine qJ 4 1 (fun f=>#[f 0,f 1,f 2]) (F':=150) (fun f X hX hR=>?_) ?_
 · have e0:f 0=_:=hR.out 0 rfl;have e1:f 1=_:=hR.out 1 rfl;have e2:f 2=_:=hR.out 2 rfl;simp only [e0,e1,e2];refine (hmul.out X (HE0.out.trans hX)).mono ?_;rintro e w2 ⟨o,rfl,h6,hb,hv,hB⟩;exact ⟨(EV o),rfl,hB,fun Y hY=>⟨o,rfl,h6,hb,hv⟩⟩
 refine vB 5 0 ?_;refine yF ⟨fun f X hX hR hal hap=>?_⟩;obtain ⟨o3,(e3:f 3=_),l3,b3,v3⟩:=hR 3 (by decide);obtain ⟨b4,(e4:f 4=_),l4,h4⟩:=hR 4 (by decide);simp only [yZ,e3,e4];clear hR hal hap e3 e4;refine zg (fun K hK=>⟨zZ (by kernel_rfl) (qo (.tmp 5) (.tmp 9) rfl rfl rfl rfl h4 vE l3 (fun Y1 hl1=>hK.out _ _ ?_))⟩);refine zU ?_;have hE1:Ext w Y1:=hl1.ext (HE0.out.trans hX) (by have:=Hz.out;omega);have hno:=wy _ (some ⟨b4,0,none⟩) 6 o3 Y1 (hl1.blk.rn l3 b3);rw [v3,l3] at hno;have Hno:=zF hno;have HE1:=zF hE1;clear hno hl1 b3 v3 h4 l4 hX l3 hE1;go_wp2_with (go_at_call 122;refine Hno.out.mono ?_;rintro e w2 ⟨A1,c1,rfl,hO,hB⟩);go_ret;exact ⟨A1,c1,rfl,hO.mono (by have:=HE1.out.bsize;have:=Hq.out;omega),HE1.out.trans hB⟩
def JV (x y z:List Nat):Value:=.agg (nts (x++y++z)).toArray
def kV (X:World) (b:Nat) (x y z:List Nat):Prop:=X.heap[b]?=some (.cells (nts (x++y++z)).toArray 176 (0,0))
theorem gS:(Tryz.prog.info? 176).map (·.size)=some 18:=by kernel_rfl
theorem ul (a b:List Nat):nts (a++b)=nts a++nts b:=by simp [nts]
section
variable {X:World} {b:Nat} {x y z:List Nat}
theorem kV.range (h:kV X b x y z) (pre l post:List Nat) (e:x++y++z=pre++l++post):X.rangeAt b pre.length (nts l):=fun j v hv=>by
 rw [zJ h,e,zK,ul,ul,kT,List.getElem?_append_right (by rw [qj];omega),qj,Nat.add_sub_cancel_left,List.getElem?_append_left,hv];exact (List.getElem?_eq_some_iff.1 hv).1
theorem kV.rx (h:kV X b x y z):X.rangeAt b 0 (nts x):=by have:=h.range [] x (y++z) (by simp);simpa using this
theorem kV.ry (h:kV X b x y z) (hx:x.length=6):X.rangeAt b 6 (nts y):=by have:=h.range x y z rfl;rwa [hx] at this
theorem kV.rz (h:kV X b x y z) (hx:x.length=6) (hy:y.length=6):X.rangeAt b 12 (nts z):=by have:=h.range (x++y) z [] (by simp);rwa [zt,hx,hy] at this
end
theorem zBC {x y z:List Nat}(hx:x.length=6) (hy:y.length=6) (hz:z.length=6):Tryz.prog.built 176 [(0,EV x),(1,EV y),(2,EV z)]=some (nts (x++y++z)).toArray:=by
 obtain ⟨x0,x1,x2,x3,x4,x5,rfl⟩:=six hx;obtain ⟨y0,y1,y2,y3,y4,y5,rfl⟩:=six hy;obtain ⟨z0,z1,z2,z3,z4,z5,rfl⟩:=six hz;kernel_rfl
theorem gb {op:Oper}{a:Act}{X:World}{K:Act→World→Prop}{Q:Exit→Act→World→Prop}(p q r:Operand) (ho:op.op=.build 176 #[(0,p),(1,q),(2,r)]){x y z:List Nat}(hp:a.eval p=EV x) (hq:a.eval q=EV y) (hr:a.eval r=EV z)
 (hx:x.length=6) (hy:y.length=6) (hz:z.length=6) (hK:K (a.put op.dst (JV x y z)) X):op.wp Tryz.prog a X K Q:=by
 have hb:(#[(0,p),(1,q),(2,r)].map fun (i,x)=>(i,a.eval x)).toList=[(0,EV x),(1,EV y),(2,EV z)]:=by simp [hp,hq,hr]
 refine wp_build 176 #[(0,p),(1,q),(2,r)] ho (by rw [hb,zBC hx hy hz];rfl) ?_
 rw [hb,zBC hx hy hz]
 exact hK
theorem nA (l:List Nat):(nts l).toArray.all (·.oneCell')=true:=all_oneCell_toArray (kG l)
theorem dY {fn:Func}{R:Ending→World→Prop}{a:Act}{W:World}{p:Tmp}{g:Nat}{x y z:List Nat}(hr:fn.results=#[.cell p 176]) (hp:a.tmps.getD p undef=.pointer (some ⟨g,0,none⟩)) (hd:a.defers=[])
 (hg:kV W g x y z) (hx:x.length=6) (hy:y.length=6) (hz:z.length=6) (hR:R (.returned (JV x y z)) W):bodyPost Tryz.prog fn R .ret a W :=
 qS (yV hr a.tmps W g _ _ _ _ hp hg Tryz.underlying176 rfl (by rw [jF,qj,zt,zt,hx,hy,hz];exact gS)) hd hR
theorem vS {op:Oper}{a:Act}{X:World}{K:Act→World→Prop}{Q:Exit→Act→World→Prop}(p q:Operand) (ho:op.op=.store 176 p q) (hd:op.dst=none){b:Nat}{x y z:List Nat}{cs:Array Value}
 (hp:a.eval p=.pointer (some ⟨b,0,none⟩)) (hq:a.eval q=JV x y z) (hg:X.heap[b]?=some (.cells cs 176 (0,0))) (hc:cs.size=18) (hx:x.length=6) (hy:y.length=6) (hz:z.length=6)
 (hK:∀ Y,kV Y b x y z→kj b X Y→Y.heap.size=X.heap.size→K a Y):op.wp Tryz.prog a X K Q:=by
 have hs:(nts (x++y++z)).toArray.size=18:=by rw [jF,qj,zt,zt,hx,hy,hz]
 exact vD 176 p q ho hd hp hq hg (by rw [hs];exact gS) (by rw [hs,hc]) (nA _) hK
def mm (M a b:Nat):Nat:=a*b % M
def am (M a b:Nat):Nat:=(a+b) % M
def sm (M a b:Nat):Nat:=(a+M - b % M) % M
theorem kE {g n inv M:Nat}{ml ol rl a b:List Nat}{x y:Nat}(w:World) (hF:FF w g n inv M ml ol rl) (ha:FE M n a x) (hb:FE M n b y) :
 Calls Tryz.prog 150 #[.pointer (some ⟨g,0,none⟩),EV a,EV b] w fun e w'=>∃ o,e=.returned (EV o)∧FE M n o (mm M x y)∧Ext w w' :=
 (uX w hF ha hb).mono fun _ _ ⟨o,h1,h2,h3⟩=>⟨o,h1,h2.mod,h3⟩
theorem uN {g n inv M:Nat}{ml ol rl a b:List Nat}{x y:Nat}(w:World) (hF:FF w g n inv M ml ol rl) (ha:FE M n a x) (hb:FE M n b y) :
 Calls Tryz.prog 149 #[.pointer (some ⟨g,0,none⟩),EV a,EV b] w fun e w'=>∃ o,e=.returned (EV o)∧FE M n o (am M x y)∧Ext w w' :=
 (od w hF ha hb).mono fun _ _ ⟨o,h1,h2,h3⟩=>⟨o,h1,h2.mod,h3⟩
theorem xx {g n inv M:Nat}{ml ol rl a b:List Nat}{x y:Nat}(w:World) (hF:FF w g n inv M ml ol rl) (ha:FE M n a x) (hb:FE M n b y) :
 Calls Tryz.prog 151 #[.pointer (some ⟨g,0,none⟩),EV a,EV b] w fun e w'=>∃ o,e=.returned (EV o)∧FE M n o (sm M x y)∧Ext w w' :=
 (bO w hF ha hb.mod (qt (qP _ (by have:=hF.big;omega)))).mono fun _ _ ⟨o,h1,h2,h3⟩=>⟨o,h1,h2.mod,h3⟩
theorem xU (w:World) (o1 o2:Obj):((w.alloc o1).alloc o2).heap[w.heap.size]?=some o1∧((w.alloc o1).alloc o2).heap[w.heap.size+1]?=some o2∧((w.alloc o1).alloc o2).heap.size=w.heap.size+2 :=
 ⟨(zb _ _).at_ (zP w _),by have:=zP (w.alloc o1) o2;rwa [qL] at this,by simp⟩
structure FJ (M n:Nat) (lx ly lz:List Nat) (x y z:Nat):Prop where
 x:FE M n lx x
 y:FE M n ly y
 z:FE M n lz z
end Go.Proofs.YtmlbicgpehchhaaGreat
namespace Go.Proofs.YtmlbicgpehchhaaGreat
theorem xG:type_of% @kV.rz:=@kV.rz
end Go.Proofs.YtmlbicgpehchhaaGreat
namespace Go.Proofs.YtmlbicgpehchhaaGreat
open Go.RowKit
def ri (v:Value):Bool:=match v with | .int _ _=>false | _=>true
theorem RN.offJ {X Y:World}{A:Option Addr}{c:Nat}{l:List Nat}{g:Nat}{cs:Array Value}{T:TypeId}{fr:Nat×Nat}(h:RU X A c l) (hj:kj g X Y) (hg:X.heap[g]?=some (.cells cs T fr)) (hc:cs.all ri=true):RU Y A c l:=by
 obtain ⟨⟨h1,h2,h3,h4⟩,h5⟩:=h;refine ⟨⟨h1,h2,h3,fun hl=>?_⟩,h5⟩;obtain ⟨ad,e,hb,hr⟩:=h4 hl;refine ⟨ad,e,zR hb hj.size,fun j v hv=>?_⟩;have hcell:=hr j v hv;by_cases hne:(ad.add j).block=g
 · exfalso;have hn:ri v=false:=by
    rw [nts,wn] at hv;obtain ⟨n,_,rfl⟩:=Option.map_eq_some_iff.1 hv;rfl
   unfold World.cell? at hcell;rw [hne,hg] at hcell;simp only at hcell;split at hcell
   · cases hcell
   · rw [Array.all_eq_true] at hc;obtain ⟨hlt,he⟩:=Array.getElem?_eq_some_iff.1 hcell;have:=hc _ hlt;rw [he,hn] at this;cases this
 · exact (zT (hj.block _ (World.block_lt_of_cell? X _ hcell) hne)).trans hcell
theorem RN.nil0 (w:World):RU w none 0 (digs 4294967296 0):=by rw [qU];exact RN.nil_ _ _
def RPU (w:World) (v:Value):Option (Nat×Nat)→Prop
 | none=>v=uq
 | some p=>∃ A c A' c',v=.agg #[.bool false,.slice A (digs 4294967296 p.1).length c,.slice A' (digs 4294967296 p.2).length c']∧RU w A c (digs 4294967296 p.1)∧RU w A' c' (digs 4294967296 p.2)
theorem RPU.ext {w X:World}{v:Value}{o:Option (Nat×Nat)}(h:RPU w v o) (hE:Ext w X):RPU X v o:=by
 cases o with
 | none=>exact h
 | some p =>
   obtain ⟨A,c,A',c',rfl,h1,h2⟩:=h;exact ⟨A,c,A',c',rfl,qm h1 hE,qm h2 hE⟩
def dk (M x y z:Nat):Nat×Nat×Nat:=let u1:=mm M z z;let u2:=mm M y y;let u3:=mm M x u2;let u4:=sm M x u1;let u5:=am M x u1;let u6:=mm M u4 u5;let u7:=mm M 3 u6;let u8:=am M u3 u3;let u9:=am M u8 u8;let u10:=mm M u7 u7;let u11:=am M u9 u9;let u12:=sm M u10 u11;let u13:=am M y z;let u14:=mm M u13 u13;let u15:=sm M u14 u2;let u16:=sm M u15 u1;let u17:=mm M u2 u2;let u18:=am M u17 u17;let u19:=am M u18 u18;let u20:=sm M u9 u12;let u21:=mm M u7 u20;let u22:=am M u19 u19;let u23:=sm M u21 u22;(u12,u23,u16)
theorem bV {P0:Nat→Prop}{k g size n inv M bb:Nat}{pl nl bl xl yl ml ol rl tl fl lx ly lz:List Nat}{Ap An Ab Ax Ay:Option Addr}{cp cn cb cx cy x y z:Nat}(w:World)
 (hk:Num w P0 k g size n inv M bb pl nl bl xl yl ml ol rl tl fl Ap An Ab Ax Ay cp cn cb cx cy) (hP0:∀ b,P0 b→b<w.heap.size) (hj:FJ M n lx ly lz x y z) :
 Calls Tryz.prog 142 #[.pointer (some ⟨k,0,none⟩),JV lx ly lz] w fun e w'=>∃ ox oy oz,e=.returned (JV ox oy oz)∧FJ M n ox oy oz (dk M x y z).1 (dk M x y z).2.1 (dk M x y z).2.2∧Ext w w':=by
 obtain ⟨cs,hcs⟩:=eV ((nts (lx++ly++lz)).toArray)
 obtain ⟨W0,hW0⟩:=eW ((w.alloc (.cells cs 176)).alloc (.cells #[.int .u64 0,.int .u64 0,.int .u64 0,.int .u64 0,.int .u64 0,.int .u64 0,.int .u64 0,.int .u64 0,.int .u64 0,.int .u64 0,.int .u64 0,.int .u64 0,.int .u64 0,.int .u64 0,.int .u64 0,.int .u64 0,.int .u64 0,.int .u64 0] 176))
 obtain ⟨q,hq⟩:=eV w.heap.size
 have hE0:Ext w W0:=by rw [hW0];exact (zb _ _).trans (zb _ _)
 obtain ⟨hpj,hrb,hz0⟩:=xU w (.cells cs 176) (.cells #[.int .u64 0,.int .u64 0,.int .u64 0,.int .u64 0,.int .u64 0,.int .u64 0,.int .u64 0,.int .u64 0,.int .u64 0,.int .u64 0,.int .u64 0,.int .u64 0,.int .u64 0,.int .u64 0,.int .u64 0,.int .u64 0,.int .u64 0,.int .u64 0] 176)
 rw [←hW0,hq] at hpj hrb hz0
 have hpj:kV W0 q lx ly lz:=by rw [kV,hcs];exact hpj
 have hn:=zF (hk.ext hP0 hE0)
 have hP0':∀ b,P0 b→b<W0.heap.size:=fun b hb=>zR (hP0 b hb) hE0.bsize
 have k6:=hn.out.c_f
 have hJ:=zF hj
 have HE0:=zF hE0
 have Hz0:=zF hz0
 obtain ⟨u1,E_u1⟩:=eG (mm M z z)
 obtain ⟨u2,E_u2⟩:=eG (mm M y y)
 obtain ⟨u3,E_u3⟩:=eG (mm M x u2)
 obtain ⟨u4,E_u4⟩:=eG (sm M x u1)
 obtain ⟨u5,E_u5⟩:=eG (am M x u1)
 obtain ⟨u6,E_u6⟩:=eG (mm M u4 u5)
 obtain ⟨u7,E_u7⟩:=eG (mm M 3 u6)
 obtain ⟨u8,E_u8⟩:=eG (am M u3 u3)
 obtain ⟨u9,E_u9⟩:=eG (am M u8 u8)
 obtain ⟨u10,E_u10⟩:=eG (mm M u7 u7)
 obtain ⟨u11,E_u11⟩:=eG (am M u9 u9)
 obtain ⟨u12,E_u12⟩:=eG (sm M u10 u11)
 obtain ⟨u13,E_u13⟩:=eG (am M y z)
 obtain ⟨u14,E_u14⟩:=eG (mm M u13 u13)
 obtain ⟨u15,E_u15⟩:=eG (sm M u14 u2)
 obtain ⟨u16,E_u16⟩:=eG (sm M u15 u1)
 obtain ⟨u17,E_u17⟩:=eG (mm M u2 u2)
 obtain ⟨u18,E_u18⟩:=eG (am M u17 u17)
 obtain ⟨u19,E_u19⟩:=eG (am M u18 u18)
 obtain ⟨u20,E_u20⟩:=eG (sm M u9 u12)
 obtain ⟨u21,E_u21⟩:=eG (mm M u7 u20)
 obtain ⟨u22,E_u22⟩:=eG (am M u19 u19)
 obtain ⟨u23,E_u23⟩:=eG (sm M u21 u22)
 have hres:=zF (show dk M x y z=(u12,u23,u16) by simp only [dk,E_u1.out,E_u2.out,E_u3.out,E_u4.out,E_u5.out,E_u6.out,E_u7.out,E_u8.out,E_u9.out,E_u10.out,E_u11.out,E_u12.out,E_u13.out,E_u14.out,E_u15.out,E_u16.out,E_u17.out,E_u18.out,E_u19.out,E_u20.out,E_u21.out,E_u22.out,E_u23.out])
 rw [hres.out]
 rw [show JV lx ly lz=.agg cs by rw [JV,hcs]]
 have Hcs:=zF hcs
 clear hE0 hz0 hk hP0 hj hcs
 go_enter Tryz.func142,Tryz.ntmps142
 go_upto_region 1 with fail
 rw [←hW0]
 have Hq:=zF hq
 have HW0:=zF hW0
 have hE:=zy W0
 clear hq hW0
 go_upto_region 2 with fail
 clear k6
 refine z8 (by kernel_rfl) 14 [0,0,2,0,8,31,0,0,128,0,512,2047,0,0,16383,32767] [12,13] (fun j f X=>match j with
  | 0=>f 0=.pointer (some ⟨g,0,none⟩)
  | 1=>f 1=.pointer (some ⟨q,12,none⟩)
  | 2=>∃ o,f 2=EV o∧FE M n o z
  | 3=>f 3=.pointer (some ⟨q,12,none⟩)
  | 4=>∃ o,f 4=EV o∧FE M n o z
  | 5=>∃ o,f 5=EV o∧FE M n o u1
  | 6=>f 6=.pointer (some ⟨g,0,none⟩)
  | 7=>f 7=.pointer (some ⟨q,6,none⟩)
  | 8=>∃ o,f 8=EV o∧FE M n o y
  | 9=>f 9=.pointer (some ⟨q,6,none⟩)
  | 10=>∃ o,f 10=EV o∧FE M n o y
  | 11=>∃ o,f 11=EV o∧FE M n o u2
  | 12=>∃ b,f 12=.pointer (some ⟨b,0,none⟩)∧W0.heap.size≤b∧X.heap[b]?=some (.cells #[.int .u64 0,.int .u64 0,.int .u64 0,.int .u64 0,.int .u64 0,.int .u64 0] 147 (0,0))
  | 13=>∃ b,f 13=.pointer (some ⟨b,0,none⟩)∧W0.heap.size≤b∧X.heap[b]?=some (.cells #[.int .u64 0,.int .u64 0,.int .u64 0,.int .u64 0,.int .u64 0,.int .u64 0] 147 (0,0))
  | _=>True) (by kernel_rfl) [(20,0),(21,1),(22,2),(23,3),(24,4),(25,5),(26,6),(27,7),(28,8),(29,9),(30,10),(31,11),(6,12),(7,13)] (by kernel_rfl) ?_
 refine zf 1 13 ?_
 refine zf 2 12 ?_
 refine lE 3 11 1 (fun _ hX=>xG ((hE.trans hX).at_ hpj) hJ.out.x.elt.six hJ.out.y.elt.six) hJ.out.z ?_
 refine zf 4 10 ?_
 refine lE 5 9 3 (fun _ hX=>xG ((hE.trans hX).at_ hpj) hJ.out.x.elt.six hJ.out.y.elt.six) hJ.out.z ?_
 refine fc 6 8 0 2 4 (fun X hX _ _ h h'=>kE X (hn.out.ext hP0' (hE.trans hX)).fr.ff h h') E_u1.out ?_
 refine zf 7 7 ?_
 refine zf 8 6 ?_
 refine lE 9 5 7 (fun _ hX=>kV.ry ((hE.trans hX).at_ hpj) hJ.out.x.elt.six) hJ.out.y ?_
 refine zf 10 4 ?_
 refine lE 11 3 9 (fun _ hX=>kV.ry ((hE.trans hX).at_ hpj) hJ.out.x.elt.six) hJ.out.y ?_
 refine fc 12 2 6 8 10 (fun X hX _ _ h h'=>kE X (hn.out.ext hP0' (hE.trans hX)).fr.ff h h') E_u2.out ?_
 refine vB 13 1 ?_
 refine vB 14 0 ?_
 refine yF ⟨fun f X hX hR hal hap=>?_⟩
 obtain ⟨o2,(e2:f 2=_),h2⟩:=hR 2 (by decide)
 obtain ⟨o4,(e4:f 4=_),h4⟩:=hR 4 (by decide)
 obtain ⟨o5,(e5:f 5=_),h5⟩:=hR 5 (by decide)
 obtain ⟨o8,(e8:f 8=_),h8⟩:=hR 8 (by decide)
 obtain ⟨o10,(e10:f 10=_),h10⟩:=hR 10 (by decide)
 obtain ⟨o11,(e11:f 11=_),h11⟩:=hR 11 (by decide)
 obtain ⟨br2_12,(e12:f 12=_),lr2_12,hr2_12⟩:=hR 12 (by decide)
 obtain ⟨br2_13,(e13:f 13=_),lr2_13,hr2_13⟩:=hR 13 (by decide)
 have nr2_13_12:br2_13≠br2_12:=fun e=>hap 13 12 (by decide) (by decide) rfl rfl (by decide) (by rw [e13,e12,e])
 simp only [yZ,e2,e4,e5,e8,e10,e11,e12,e13]
 clear hR hal hap e2 e4 e5 e8 e10 e11 e12 e13
 refine zg (fun K hK=>⟨zZ (by kernel_rfl) (qo (.tmp 6) (.tmp 25) rfl rfl rfl rfl (hr2_12) vE h5.elt.six (fun Y1_14 hl1_14=>hK.out _ _ ?_))⟩)
 refine zg (fun K hK=>⟨zZ (by kernel_rfl) (qo (.tmp 7) (.tmp 31) rfl rfl rfl rfl (hl1_14.other nr2_13_12 (hr2_13)) vE h11.elt.six (fun Y1_15 hl1_15=>hK.out _ _ ?_))⟩)
 refine zU ?_
 have vbr2_12:VE Y1_15 M n br2_12 u1:=(hl1_15.ve (ub nr2_13_12) (hl1_14.mk' h5))
 have lb_vbr2_12:=zQ hE.bsize lr2_12
 have vbr2_13:VE Y1_15 M n br2_13 u2:=(hl1_15.mk' h11)
 have lb_vbr2_13:=zQ hE.bsize lr2_13
 have d_br2_12_br2_13:br2_12≠br2_13:=(ub nr2_13_12)
 have hE':Ext W0 Y1_15:=(hl1_15.ext (hl1_14.ext (hE.trans hX) (zQ hE.bsize lr2_12)) (zQ hE.bsize lr2_13))
 clear hE hX hl1_14 hl1_15 h2 h4 h5 h8 h10 h11 
 have hE:=hE'
 clear hE'
 go_upto_region 3 with fail
 refine qQ 6 [0,0,2,0,15,0,63] [5] (fun j f X=>match j with
  | 0=>f 0=.pointer (some ⟨g,0,none⟩)
  | 1=>f 1=.pointer (some ⟨q,0,none⟩)
  | 2=>∃ o,f 2=EV o∧FE M n o x
  | 3=>∃ o,f 3=EV o∧FE M n o u2
  | 4=>∃ o,f 4=EV o∧FE M n o u3
  | 5=>∃ b,f 5=.pointer (some ⟨b,0,none⟩)∧Y1_15.heap.size≤b∧X.heap[b]?=some (.cells #[.int .u64 0,.int .u64 0,.int .u64 0,.int .u64 0,.int .u64 0,.int .u64 0] 147 (0,0))
  | _=>True) (by kernel_rfl) [(32,0),(33,1),(34,2),(35,3),(36,4),(8,5)] (by kernel_rfl) ?_
 refine zf 1 5 ?_
 refine zf 2 4 ?_
 refine lE 3 3 1 (fun _ hX=>kV.rx ((hE.trans hX).at_ hpj)) hJ.out.x ?_
 refine lX 4 2 (fun X hX=>let ⟨o,hbl,ho⟩:=vbr2_13.ext hX;⟨o,hbl.range,ho⟩) ?_
 refine fc 5 1 0 2 3 (fun X hX _ _ h h'=>kE X (hn.out.ext hP0' (hE.trans hX)).fr.ff h h') E_u3.out ?_
 refine vB 6 0 ?_
 refine yF ⟨fun f X hX hR hal hap=>?_⟩
 obtain ⟨o2,(e2:f 2=_),h2⟩:=hR 2 (by decide)
 obtain ⟨o3,(e3:f 3=_),h3⟩:=hR 3 (by decide)
 obtain ⟨o4,(e4:f 4=_),h4⟩:=hR 4 (by decide)
 obtain ⟨br3_5,(e5:f 5=_),lr3_5,hr3_5⟩:=hR 5 (by decide)
 simp only [yZ,e2,e3,e4,e5]
 clear hR hal hap e2 e3 e4 e5
 refine zg (fun K hK=>⟨zZ (by kernel_rfl) (qo (.tmp 8) (.tmp 36) rfl rfl rfl rfl (hr3_5) vE h4.elt.six (fun Y2_6 hl2_6=>hK.out _ _ ?_))⟩)
 refine zU ?_
 have d_br2_12_br3_5:br2_12≠br3_5:=by have:=(let ⟨_,h,_⟩:=vbr2_12;h.lt:br2_12<Y1_15.heap.size);omega
 replace vbr2_12:=(hl2_6.ve d_br2_12_br3_5 (vbr2_12.ext hX))
 have d_br2_13_br3_5:br2_13≠br3_5:=by have:=(let ⟨_,h,_⟩:=vbr2_13;h.lt:br2_13<Y1_15.heap.size);omega
 replace vbr2_13:=(hl2_6.ve d_br2_13_br3_5 (vbr2_13.ext hX))
 have vbr3_5:VE Y2_6 M n br3_5 u3:=(hl2_6.mk' h4)
 have lb_vbr3_5:=zQ hE.bsize lr3_5
 have hE':Ext W0 Y2_6:=(hl2_6.ext (hE.trans hX) (zQ hE.bsize lr3_5))
 clear hE hX hl2_6 h2 h3 h4
 have hE:=hE'
 clear hE'
 go_upto_region 4 with fail
 refine z8 (by kernel_rfl) 19 [0,0,2,6,14,0,0,0,128,0,960,0,0,4096,0,32704,65504,131071,0,524287] [18] (fun j f X=>match j with
  | 0=>f 0=.pointer (some ⟨g,0,none⟩)
  | 1=>f 1=.pointer (some ⟨k,0,none⟩)
  | 2=>f 2=.pointer (some ⟨k,0,none⟩)
  | 3=>f 3=.pointer (some ⟨k,7,none⟩)
  | 4=>∃ o,f 4=EV o∧FE M n o 3
  | 5=>f 5=.pointer (some ⟨g,0,none⟩)
  | 6=>f 6=.pointer (some ⟨g,0,none⟩)
  | 7=>f 7=.pointer (some ⟨q,0,none⟩)
  | 8=>∃ o,f 8=EV o∧FE M n o x
  | 9=>∃ o,f 9=EV o∧FE M n o u1
  | 10=>∃ o,f 10=EV o∧FE M n o u4
  | 11=>f 11=.pointer (some ⟨g,0,none⟩)
  | 12=>f 12=.pointer (some ⟨q,0,none⟩)
  | 13=>∃ o,f 13=EV o∧FE M n o x
  | 14=>∃ o,f 14=EV o∧FE M n o u1
  | 15=>∃ o,f 15=EV o∧FE M n o u5
  | 16=>∃ o,f 16=EV o∧FE M n o u6
  | 17=>∃ o,f 17=EV o∧FE M n o u7
  | 18=>∃ b,f 18=.pointer (some ⟨b,0,none⟩)∧Y2_6.heap.size≤b∧X.heap[b]?=some (.cells #[.int .u64 0,.int .u64 0,.int .u64 0,.int .u64 0,.int .u64 0,.int .u64 0] 147 (0,0))
  | _=>True) (by kernel_rfl) [(37,0),(38,1),(39,2),(40,3),(41,4),(42,5),(43,6),(44,7),(45,8),(46,9),(47,10),(48,11),(49,12),(50,13),(51,14),(52,15),(53,16),(54,17),(9,18)] (by kernel_rfl) ?_
 refine zf 1 18 ?_
 refine zf 2 17 ?_
 refine qM 3 16 1 ?_
 refine qM 4 15 2 ?_
 refine qH 5 14 [(37,0),(38,1),(39,2),(40,3),(42,5),(43,6),(44,7),(45,8),(46,9),(47,10),(48,11),(49,12),(50,13),(51,14),(52,15),(53,16),(9,18)] (fun f X hX hR K hK=>?_) ?_
 · have e3:f 3=_:=hR.out 3 rfl;simp only [yZ,e3];refine ⟨zZ (by kernel_rfl) (vF (.tmp 40) rfl rfl ((hn.out.ext hP0' (hE.trans hX)).r_three) hn.out.three.elt.six ?_)⟩;exact hK.out _ (EV tl) _ (by simp only [yZ,e3]) (zy _) trivial (fun Y hY=>⟨tl,rfl,hn.out.three⟩)
 refine zf 6 13 ?_
 refine zf 7 12 ?_
 refine zf 8 11 ?_
 refine lE 9 10 7 (fun _ hX=>kV.rx ((hE.trans hX).at_ hpj)) hJ.out.x ?_
 refine lX 10 9 (fun X hX=>let ⟨o,hbl,ho⟩:=vbr2_12.ext hX;⟨o,hbl.range,ho⟩) ?_
 refine fc 11 8 6 8 9 (fun X hX _ _ h h'=>xx X (hn.out.ext hP0' (hE.trans hX)).fr.ff h h') E_u4.out ?_
 refine zf 12 7 ?_
 refine zf 13 6 ?_
 refine lE 14 5 12 (fun _ hX=>kV.rx ((hE.trans hX).at_ hpj)) hJ.out.x ?_
 refine lX 15 4 (fun X hX=>let ⟨o,hbl,ho⟩:=vbr2_12.ext hX;⟨o,hbl.range,ho⟩) ?_
 refine fc 16 3 11 13 14 (fun X hX _ _ h h'=>uN X (hn.out.ext hP0' (hE.trans hX)).fr.ff h h') E_u5.out ?_
 refine fc 17 2 5 10 15 (fun X hX _ _ h h'=>kE X (hn.out.ext hP0' (hE.trans hX)).fr.ff h h') E_u6.out ?_
 refine fc 18 1 0 4 16 (fun X hX _ _ h h'=>kE X (hn.out.ext hP0' (hE.trans hX)).fr.ff h h') E_u7.out ?_
 refine vB 19 0 ?_
 refine yF ⟨fun f X hX hR hal hap=>?_⟩
 obtain ⟨o4,(e4:f 4=_),h4⟩:=hR 4 (by decide)
 obtain ⟨o8,(e8:f 8=_),h8⟩:=hR 8 (by decide)
 obtain ⟨o9,(e9:f 9=_),h9⟩:=hR 9 (by decide)
 obtain ⟨o10,(e10:f 10=_),h10⟩:=hR 10 (by decide)
 obtain ⟨o13,(e13:f 13=_),h13⟩:=hR 13 (by decide)
 obtain ⟨o14,(e14:f 14=_),h14⟩:=hR 14 (by decide)
 obtain ⟨o15,(e15:f 15=_),h15⟩:=hR 15 (by decide)
 obtain ⟨o16,(e16:f 16=_),h16⟩:=hR 16 (by decide)
 obtain ⟨o17,(e17:f 17=_),h17⟩:=hR 17 (by decide)
 obtain ⟨br4_18,(e18:f 18=_),lr4_18,hr4_18⟩:=hR 18 (by decide)
 simp only [yZ,e4,e8,e9,e10,e13,e14,e15,e16,e17,e18]
 clear hR hal hap e4 e8 e9 e10 e13 e14 e15 e16 e17 e18
 refine zg (fun K hK=>⟨zZ (by kernel_rfl) (qo (.tmp 9) (.tmp 54) rfl rfl rfl rfl (hr4_18) vE h17.elt.six (fun Y3_19 hl3_19=>hK.out _ _ ?_))⟩)
 refine zU ?_
 have d_br2_12_br4_18:br2_12≠br4_18:=by have:=(let ⟨_,h,_⟩:=vbr2_12;h.lt:br2_12<Y2_6.heap.size);omega
 replace vbr2_12:=(hl3_19.ve d_br2_12_br4_18 (vbr2_12.ext hX))
 have d_br2_13_br4_18:br2_13≠br4_18:=by have:=(let ⟨_,h,_⟩:=vbr2_13;h.lt:br2_13<Y2_6.heap.size);omega
 replace vbr2_13:=(hl3_19.ve d_br2_13_br4_18 (vbr2_13.ext hX))
 have d_br3_5_br4_18:br3_5≠br4_18:=by have:=(let ⟨_,h,_⟩:=vbr3_5;h.lt:br3_5<Y2_6.heap.size);omega
 replace vbr3_5:=(hl3_19.ve d_br3_5_br4_18 (vbr3_5.ext hX))
 have vbr4_18:VE Y3_19 M n br4_18 u7:=(hl3_19.mk' h17)
 have lb_vbr4_18:=zQ hE.bsize lr4_18
 have hE':Ext W0 Y3_19:=(hl3_19.ext (hE.trans hX) (zQ hE.bsize lr4_18))
 clear hE hX hl3_19 h4 h8 h9 h10 h13 h14 h15 h16 h17
 have hE:=hE'
 clear hE'
 go_upto_region 5 with fail
 refine z8 (by kernel_rfl) 11 [0,0,0,0,14,0,0,0,254,511,0,2047] [10] (fun j f X=>match j with
  | 0=>f 0=.pointer (some ⟨g,0,none⟩)
  | 1=>f 1=.pointer (some ⟨g,0,none⟩)
  | 2=>∃ o,f 2=EV o∧FE M n o u3
  | 3=>∃ o,f 3=EV o∧FE M n o u3
  | 4=>∃ o,f 4=EV o∧FE M n o u8
  | 5=>f 5=.pointer (some ⟨g,0,none⟩)
  | 6=>∃ o,f 6=EV o∧FE M n o u3
  | 7=>∃ o,f 7=EV o∧FE M n o u3
  | 8=>∃ o,f 8=EV o∧FE M n o u8
  | 9=>∃ o,f 9=EV o∧FE M n o u9
  | 10=>∃ b,f 10=.pointer (some ⟨b,0,none⟩)∧Y3_19.heap.size≤b∧X.heap[b]?=some (.cells #[.int .u64 0,.int .u64 0,.int .u64 0,.int .u64 0,.int .u64 0,.int .u64 0] 147 (0,0))
  | _=>True) (by kernel_rfl) [(55,0),(56,1),(57,2),(58,3),(59,4),(60,5),(61,6),(62,7),(63,8),(64,9),(10,10)] (by kernel_rfl) ?_
 refine zf 1 10 ?_
 refine zf 2 9 ?_
 refine lX 3 8 (fun X hX=>let ⟨o,hbl,ho⟩:=vbr3_5.ext hX;⟨o,hbl.range,ho⟩) ?_
 refine lX 4 7 (fun X hX=>let ⟨o,hbl,ho⟩:=vbr3_5.ext hX;⟨o,hbl.range,ho⟩) ?_
 refine fc 5 6 1 2 3 (fun X hX _ _ h h'=>uN X (hn.out.ext hP0' (hE.trans hX)).fr.ff h h') E_u8.out ?_
 refine zf 6 5 ?_
 refine lX 7 4 (fun X hX=>let ⟨o,hbl,ho⟩:=vbr3_5.ext hX;⟨o,hbl.range,ho⟩) ?_
 refine lX 8 3 (fun X hX=>let ⟨o,hbl,ho⟩:=vbr3_5.ext hX;⟨o,hbl.range,ho⟩) ?_
 refine fc 9 2 5 6 7 (fun X hX _ _ h h'=>uN X (hn.out.ext hP0' (hE.trans hX)).fr.ff h h') E_u8.out ?_
 refine fc 10 1 0 4 8 (fun X hX _ _ h h'=>uN X (hn.out.ext hP0' (hE.trans hX)).fr.ff h h') E_u9.out ?_
 refine vB 11 0 ?_
 refine yF ⟨fun f X hX hR hal hap=>?_⟩
 obtain ⟨o2,(e2:f 2=_),h2⟩:=hR 2 (by decide)
 obtain ⟨o3,(e3:f 3=_),h3⟩:=hR 3 (by decide)
 obtain ⟨o4,(e4:f 4=_),h4⟩:=hR 4 (by decide)
 obtain ⟨o6,(e6:f 6=_),h6⟩:=hR 6 (by decide)
 obtain ⟨o7,(e7:f 7=_),h7⟩:=hR 7 (by decide)
 obtain ⟨o8,(e8:f 8=_),h8⟩:=hR 8 (by decide)
 obtain ⟨o9,(e9:f 9=_),h9⟩:=hR 9 (by decide)
 obtain ⟨br5_10,(e10:f 10=_),lr5_10,hr5_10⟩:=hR 10 (by decide)
 simp only [yZ,e2,e3,e4,e6,e7,e8,e9,e10]
 clear hR hal hap e2 e3 e4 e6 e7 e8 e9 e10
 refine zg (fun K hK=>⟨zZ (by kernel_rfl) (qo (.tmp 10) (.tmp 64) rfl rfl rfl rfl (hr5_10) vE h9.elt.six (fun Y4_11 hl4_11=>hK.out _ _ ?_))⟩)
 refine zU ?_
 have d_br2_12_br5_10:br2_12≠br5_10:=by have:=(let ⟨_,h,_⟩:=vbr2_12;h.lt:br2_12<Y3_19.heap.size);omega
 replace vbr2_12:=(hl4_11.ve d_br2_12_br5_10 (vbr2_12.ext hX))
 have d_br2_13_br5_10:br2_13≠br5_10:=by have:=(let ⟨_,h,_⟩:=vbr2_13;h.lt:br2_13<Y3_19.heap.size);omega
 replace vbr2_13:=(hl4_11.ve d_br2_13_br5_10 (vbr2_13.ext hX))
 have d_br3_5_br5_10:br3_5≠br5_10:=by have:=(let ⟨_,h,_⟩:=vbr3_5;h.lt:br3_5<Y3_19.heap.size);omega
 replace vbr3_5:=(hl4_11.ve d_br3_5_br5_10 (vbr3_5.ext hX))
 have d_br4_18_br5_10:br4_18≠br5_10:=by have:=(let ⟨_,h,_⟩:=vbr4_18;h.lt:br4_18<Y3_19.heap.size);omega
 replace vbr4_18:=(hl4_11.ve d_br4_18_br5_10 (vbr4_18.ext hX))
 have vbr5_10:VE Y4_11 M n br5_10 u9:=(hl4_11.mk' h9)
 have lb_vbr5_10:=zQ hE.bsize lr5_10
 have hE':Ext W0 Y4_11:=(hl4_11.ext (hE.trans hX) (zQ hE.bsize lr5_10))
 clear hE hX hl4_11 h2 h3 h4 h6 h7 h8 h9
 have hE:=hE'
 clear hE'
 go_upto_region 6 with fail
 refine z8 (by kernel_rfl) 11 [0,0,0,0,14,0,0,0,254,511,0,2047] [10] (fun j f X=>match j with
  | 0=>f 0=.pointer (some ⟨g,0,none⟩)
  | 1=>f 1=.pointer (some ⟨g,0,none⟩)
  | 2=>∃ o,f 2=EV o∧FE M n o u7
  | 3=>∃ o,f 3=EV o∧FE M n o u7
  | 4=>∃ o,f 4=EV o∧FE M n o u10
  | 5=>f 5=.pointer (some ⟨g,0,none⟩)
  | 6=>∃ o,f 6=EV o∧FE M n o u9
  | 7=>∃ o,f 7=EV o∧FE M n o u9
  | 8=>∃ o,f 8=EV o∧FE M n o u11
  | 9=>∃ o,f 9=EV o∧FE M n o u12
  | 10=>∃ b,f 10=.pointer (some ⟨b,0,none⟩)∧Y4_11.heap.size≤b∧X.heap[b]?=some (.cells #[.int .u64 0,.int .u64 0,.int .u64 0,.int .u64 0,.int .u64 0,.int .u64 0] 147 (0,0))
  | _=>True) (by kernel_rfl) [(65,0),(66,1),(67,2),(68,3),(69,4),(70,5),(71,6),(72,7),(73,8),(74,9),(11,10)] (by kernel_rfl) ?_
 refine zf 1 10 ?_
 refine zf 2 9 ?_
 refine lX 3 8 (fun X hX=>let ⟨o,hbl,ho⟩:=vbr4_18.ext hX;⟨o,hbl.range,ho⟩) ?_
 refine lX 4 7 (fun X hX=>let ⟨o,hbl,ho⟩:=vbr4_18.ext hX;⟨o,hbl.range,ho⟩) ?_
 refine fc 5 6 1 2 3 (fun X hX _ _ h h'=>kE X (hn.out.ext hP0' (hE.trans hX)).fr.ff h h') E_u10.out ?_
 refine zf 6 5 ?_
 refine lX 7 4 (fun X hX=>let ⟨o,hbl,ho⟩:=vbr5_10.ext hX;⟨o,hbl.range,ho⟩) ?_
 refine lX 8 3 (fun X hX=>let ⟨o,hbl,ho⟩:=vbr5_10.ext hX;⟨o,hbl.range,ho⟩) ?_
 refine fc 9 2 5 6 7 (fun X hX _ _ h h'=>uN X (hn.out.ext hP0' (hE.trans hX)).fr.ff h h') E_u11.out ?_
 refine fc 10 1 0 4 8 (fun X hX _ _ h h'=>xx X (hn.out.ext hP0' (hE.trans hX)).fr.ff h h') E_u12.out ?_
 refine vB 11 0 ?_
 refine yF ⟨fun f X hX hR hal hap=>?_⟩
 obtain ⟨o2,(e2:f 2=_),h2⟩:=hR 2 (by decide)
 obtain ⟨o3,(e3:f 3=_),h3⟩:=hR 3 (by decide)
 obtain ⟨o4,(e4:f 4=_),h4⟩:=hR 4 (by decide)
 obtain ⟨o6,(e6:f 6=_),h6⟩:=hR 6 (by decide)
 obtain ⟨o7,(e7:f 7=_),h7⟩:=hR 7 (by decide)
 obtain ⟨o8,(e8:f 8=_),h8⟩:=hR 8 (by decide)
 obtain ⟨o9,(e9:f 9=_),h9⟩:=hR 9 (by decide)
 obtain ⟨br6_10,(e10:f 10=_),lr6_10,hr6_10⟩:=hR 10 (by decide)
 simp only [yZ,e2,e3,e4,e6,e7,e8,e9,e10]
 clear hR hal hap e2 e3 e4 e6 e7 e8 e9 e10
 refine zg (fun K hK=>⟨zZ (by kernel_rfl) (qo (.tmp 11) (.tmp 74) rfl rfl rfl rfl (hr6_10) vE h9.elt.six (fun Y5_11 hl5_11=>hK.out _ _ ?_))⟩)
 refine zU ?_
 have d_br2_12_br6_10:br2_12≠br6_10:=by have:=(let ⟨_,h,_⟩:=vbr2_12;h.lt:br2_12<Y4_11.heap.size);omega
 replace vbr2_12:=(hl5_11.ve d_br2_12_br6_10 (vbr2_12.ext hX))
 have d_br2_13_br6_10:br2_13≠br6_10:=by have:=(let ⟨_,h,_⟩:=vbr2_13;h.lt:br2_13<Y4_11.heap.size);omega
 replace vbr2_13:=(hl5_11.ve d_br2_13_br6_10 (vbr2_13.ext hX))
 have d_br3_5_br6_10:br3_5≠br6_10:=by have:=(let ⟨_,h,_⟩:=vbr3_5;h.lt:br3_5<Y4_11.heap.size);omega
 replace vbr3_5:=(hl5_11.ve d_br3_5_br6_10 (vbr3_5.ext hX))
 have d_br4_18_br6_10:br4_18≠br6_10:=by have:=(let ⟨_,h,_⟩:=vbr4_18;h.lt:br4_18<Y4_11.heap.size);omega
 replace vbr4_18:=(hl5_11.ve d_br4_18_br6_10 (vbr4_18.ext hX))
 have d_br5_10_br6_10:br5_10≠br6_10:=by have:=(let ⟨_,h,_⟩:=vbr5_10;h.lt:br5_10<Y4_11.heap.size);omega
 replace vbr5_10:=(hl5_11.ve d_br5_10_br6_10 (vbr5_10.ext hX))
 have vbr6_10:VE Y5_11 M n br6_10 u12:=(hl5_11.mk' h9)
 have lb_vbr6_10:=zQ hE.bsize lr6_10
 have hE':Ext W0 Y5_11:=(hl5_11.ext (hE.trans hX) (zQ hE.bsize lr6_10))
 clear hE hX hl5_11 h2 h3 h4 h6 h7 h8 h9
 have hE:=hE'
 clear hE'
 go_upto_region 7 with fail
 refine qQ 7 [0,0,2,0,8,31,0,127] [6] (fun j f X=>match j with
  | 0=>f 0=.pointer (some ⟨g,0,none⟩)
  | 1=>f 1=.pointer (some ⟨q,6,none⟩)
  | 2=>∃ o,f 2=EV o∧FE M n o y
  | 3=>f 3=.pointer (some ⟨q,12,none⟩)
  | 4=>∃ o,f 4=EV o∧FE M n o z
  | 5=>∃ o,f 5=EV o∧FE M n o u13
  | 6=>∃ b,f 6=.pointer (some ⟨b,0,none⟩)∧Y5_11.heap.size≤b∧X.heap[b]?=some (.cells #[.int .u64 0,.int .u64 0,.int .u64 0,.int .u64 0,.int .u64 0,.int .u64 0] 147 (0,0))
  | _=>True) (by kernel_rfl) [(75,0),(76,1),(77,2),(78,3),(79,4),(80,5),(12,6)] (by kernel_rfl) ?_
 refine zf 1 6 ?_
 refine zf 2 5 ?_
 refine lE 3 4 1 (fun _ hX=>kV.ry ((hE.trans hX).at_ hpj) hJ.out.x.elt.six) hJ.out.y ?_
 refine zf 4 3 ?_
 refine lE 5 2 3 (fun _ hX=>xG ((hE.trans hX).at_ hpj) hJ.out.x.elt.six hJ.out.y.elt.six) hJ.out.z ?_
 refine fc 6 1 0 2 4 (fun X hX _ _ h h'=>uN X (hn.out.ext hP0' (hE.trans hX)).fr.ff h h') E_u13.out ?_
 refine vB 7 0 ?_
 refine yF ⟨fun f X hX hR hal hap=>?_⟩
 obtain ⟨o2,(e2:f 2=_),h2⟩:=hR 2 (by decide)
 obtain ⟨o4,(e4:f 4=_),h4⟩:=hR 4 (by decide)
 obtain ⟨o5,(e5:f 5=_),h5⟩:=hR 5 (by decide)
 obtain ⟨br7_6,(e6:f 6=_),lr7_6,hr7_6⟩:=hR 6 (by decide)
 simp only [yZ,e2,e4,e5,e6]
 clear hR hal hap e2 e4 e5 e6
 refine zg (fun K hK=>⟨zZ (by kernel_rfl) (qo (.tmp 12) (.tmp 80) rfl rfl rfl rfl (hr7_6) vE h5.elt.six (fun Y6_7 hl6_7=>hK.out _ _ ?_))⟩)
 refine zU ?_
 have d_br2_12_br7_6:br2_12≠br7_6:=by have:=(let ⟨_,h,_⟩:=vbr2_12;h.lt:br2_12<Y5_11.heap.size);omega
 replace vbr2_12:=(hl6_7.ve d_br2_12_br7_6 (vbr2_12.ext hX))
 have d_br2_13_br7_6:br2_13≠br7_6:=by have:=(let ⟨_,h,_⟩:=vbr2_13;h.lt:br2_13<Y5_11.heap.size);omega
 replace vbr2_13:=(hl6_7.ve d_br2_13_br7_6 (vbr2_13.ext hX))
 have d_br3_5_br7_6:br3_5≠br7_6:=by have:=(let ⟨_,h,_⟩:=vbr3_5;h.lt:br3_5<Y5_11.heap.size);omega
 replace vbr3_5:=(hl6_7.ve d_br3_5_br7_6 (vbr3_5.ext hX))
 have d_br4_18_br7_6:br4_18≠br7_6:=by have:=(let ⟨_,h,_⟩:=vbr4_18;h.lt:br4_18<Y5_11.heap.size);omega
 replace vbr4_18:=(hl6_7.ve d_br4_18_br7_6 (vbr4_18.ext hX))
 have d_br5_10_br7_6:br5_10≠br7_6:=by have:=(let ⟨_,h,_⟩:=vbr5_10;h.lt:br5_10<Y5_11.heap.size);omega
 replace vbr5_10:=(hl6_7.ve d_br5_10_br7_6 (vbr5_10.ext hX))
 have d_br6_10_br7_6:br6_10≠br7_6:=by have:=(let ⟨_,h,_⟩:=vbr6_10;h.lt:br6_10<Y5_11.heap.size);omega
 replace vbr6_10:=(hl6_7.ve d_br6_10_br7_6 (vbr6_10.ext hX))
 have vbr7_6:VE Y6_7 M n br7_6 u13:=(hl6_7.mk' h5)
 have lb_vbr7_6:=zQ hE.bsize lr7_6
 have hE':Ext W0 Y6_7:=(hl6_7.ext (hE.trans hX) (zQ hE.bsize lr7_6))
 clear hE hX hl6_7 h2 h4 h5
 have hE:=hE'
 clear hE'
 go_upto_region 8 with fail
 refine z8 (by kernel_rfl) 11 [0,0,0,0,0,28,0,126,0,511,0,2047] [10] (fun j f X=>match j with
  | 0=>f 0=.pointer (some ⟨g,0,none⟩)
  | 1=>f 1=.pointer (some ⟨g,0,none⟩)
  | 2=>f 2=.pointer (some ⟨g,0,none⟩)
  | 3=>∃ o,f 3=EV o∧FE M n o u13
  | 4=>∃ o,f 4=EV o∧FE M n o u13
  | 5=>∃ o,f 5=EV o∧FE M n o u14
  | 6=>∃ o,f 6=EV o∧FE M n o u2
  | 7=>∃ o,f 7=EV o∧FE M n o u15
  | 8=>∃ o,f 8=EV o∧FE M n o u1
  | 9=>∃ o,f 9=EV o∧FE M n o u16
  | 10=>∃ b,f 10=.pointer (some ⟨b,0,none⟩)∧Y6_7.heap.size≤b∧X.heap[b]?=some (.cells #[.int .u64 0,.int .u64 0,.int .u64 0,.int .u64 0,.int .u64 0,.int .u64 0] 147 (0,0))
  | _=>True) (by kernel_rfl) [(81,0),(82,1),(83,2),(84,3),(85,4),(86,5),(87,6),(88,7),(89,8),(90,9),(13,10)] (by kernel_rfl) ?_
 refine zf 1 10 ?_
 refine zf 2 9 ?_
 refine zf 3 8 ?_
 refine lX 4 7 (fun X hX=>let ⟨o,hbl,ho⟩:=vbr7_6.ext hX;⟨o,hbl.range,ho⟩) ?_
 refine lX 5 6 (fun X hX=>let ⟨o,hbl,ho⟩:=vbr7_6.ext hX;⟨o,hbl.range,ho⟩) ?_
 refine fc 6 5 2 3 4 (fun X hX _ _ h h'=>kE X (hn.out.ext hP0' (hE.trans hX)).fr.ff h h') E_u14.out ?_
 refine lX 7 4 (fun X hX=>let ⟨o,hbl,ho⟩:=vbr2_13.ext hX;⟨o,hbl.range,ho⟩) ?_
 refine fc 8 3 1 5 6 (fun X hX _ _ h h'=>xx X (hn.out.ext hP0' (hE.trans hX)).fr.ff h h') E_u15.out ?_
 refine lX 9 2 (fun X hX=>let ⟨o,hbl,ho⟩:=vbr2_12.ext hX;⟨o,hbl.range,ho⟩) ?_
 refine fc 10 1 0 7 8 (fun X hX _ _ h h'=>xx X (hn.out.ext hP0' (hE.trans hX)).fr.ff h h') E_u16.out ?_
 refine vB 11 0 ?_
 refine yF ⟨fun f X hX hR hal hap=>?_⟩
 obtain ⟨o3,(e3:f 3=_),h3⟩:=hR 3 (by decide)
 obtain ⟨o4,(e4:f 4=_),h4⟩:=hR 4 (by decide)
 obtain ⟨o5,(e5:f 5=_),h5⟩:=hR 5 (by decide)
 obtain ⟨o6,(e6:f 6=_),h6⟩:=hR 6 (by decide)
 obtain ⟨o7,(e7:f 7=_),h7⟩:=hR 7 (by decide)
 obtain ⟨o8,(e8:f 8=_),h8⟩:=hR 8 (by decide)
 obtain ⟨o9,(e9:f 9=_),h9⟩:=hR 9 (by decide)
 obtain ⟨br8_10,(e10:f 10=_),lr8_10,hr8_10⟩:=hR 10 (by decide)
 simp only [yZ,e3,e4,e5,e6,e7,e8,e9,e10]
 clear hR hal hap e3 e4 e5 e6 e7 e8 e9 e10
 refine zg (fun K hK=>⟨zZ (by kernel_rfl) (qo (.tmp 13) (.tmp 90) rfl rfl rfl rfl (hr8_10) vE h9.elt.six (fun Y7_11 hl7_11=>hK.out _ _ ?_))⟩)
 refine zU ?_
 have d_br2_12_br8_10:br2_12≠br8_10:=by have:=(let ⟨_,h,_⟩:=vbr2_12;h.lt:br2_12<Y6_7.heap.size);omega
 replace vbr2_12:=(hl7_11.ve d_br2_12_br8_10 (vbr2_12.ext hX))
 have d_br2_13_br8_10:br2_13≠br8_10:=by have:=(let ⟨_,h,_⟩:=vbr2_13;h.lt:br2_13<Y6_7.heap.size);omega
 replace vbr2_13:=(hl7_11.ve d_br2_13_br8_10 (vbr2_13.ext hX))
 have d_br3_5_br8_10:br3_5≠br8_10:=by have:=(let ⟨_,h,_⟩:=vbr3_5;h.lt:br3_5<Y6_7.heap.size);omega
 replace vbr3_5:=(hl7_11.ve d_br3_5_br8_10 (vbr3_5.ext hX))
 have d_br4_18_br8_10:br4_18≠br8_10:=by have:=(let ⟨_,h,_⟩:=vbr4_18;h.lt:br4_18<Y6_7.heap.size);omega
 replace vbr4_18:=(hl7_11.ve d_br4_18_br8_10 (vbr4_18.ext hX))
 have d_br5_10_br8_10:br5_10≠br8_10:=by have:=(let ⟨_,h,_⟩:=vbr5_10;h.lt:br5_10<Y6_7.heap.size);omega
 replace vbr5_10:=(hl7_11.ve d_br5_10_br8_10 (vbr5_10.ext hX))
 have d_br6_10_br8_10:br6_10≠br8_10:=by have:=(let ⟨_,h,_⟩:=vbr6_10;h.lt:br6_10<Y6_7.heap.size);omega
 replace vbr6_10:=(hl7_11.ve d_br6_10_br8_10 (vbr6_10.ext hX))
 have d_br7_6_br8_10:br7_6≠br8_10:=by have:=(let ⟨_,h,_⟩:=vbr7_6;h.lt:br7_6<Y6_7.heap.size);omega
 replace vbr7_6:=(hl7_11.ve d_br7_6_br8_10 (vbr7_6.ext hX))
 have vbr8_10:VE Y7_11 M n br8_10 u16:=(hl7_11.mk' h9)
 have lb_vbr8_10:=zQ hE.bsize lr8_10
 have hE':Ext W0 Y7_11:=(hl7_11.ext (hE.trans hX) (zQ hE.bsize lr8_10))
 clear hE hX hl7_11 h3 h4 h5 h6 h7 h8 h9
 have hE:=hE'
 clear hE'
 go_upto_region 9 with fail
 refine qQ 5 [0,0,0,7,0,31] [4] (fun j f X=>match j with
  | 0=>f 0=.pointer (some ⟨g,0,none⟩)
  | 1=>∃ o,f 1=EV o∧FE M n o u2
  | 2=>∃ o,f 2=EV o∧FE M n o u2
  | 3=>∃ o,f 3=EV o∧FE M n o u17
  | 4=>∃ b,f 4=.pointer (some ⟨b,0,none⟩)∧Y7_11.heap.size≤b∧X.heap[b]?=some (.cells #[.int .u64 0,.int .u64 0,.int .u64 0,.int .u64 0,.int .u64 0,.int .u64 0] 147 (0,0))
  | _=>True) (by kernel_rfl) [(91,0),(92,1),(93,2),(94,3),(14,4)] (by kernel_rfl) ?_
 refine zf 1 4 ?_
 refine lX 2 3 (fun X hX=>let ⟨o,hbl,ho⟩:=vbr2_13.ext hX;⟨o,hbl.range,ho⟩) ?_
 refine lX 3 2 (fun X hX=>let ⟨o,hbl,ho⟩:=vbr2_13.ext hX;⟨o,hbl.range,ho⟩) ?_
 refine fc 4 1 0 1 2 (fun X hX _ _ h h'=>kE X (hn.out.ext hP0' (hE.trans hX)).fr.ff h h') E_u17.out ?_
 refine vB 5 0 ?_
 refine yF ⟨fun f X hX hR hal hap=>?_⟩
 obtain ⟨o1,(e1:f 1=_),h1⟩:=hR 1 (by decide)
 obtain ⟨o2,(e2:f 2=_),h2⟩:=hR 2 (by decide)
 obtain ⟨o3,(e3:f 3=_),h3⟩:=hR 3 (by decide)
 obtain ⟨br9_4,(e4:f 4=_),lr9_4,hr9_4⟩:=hR 4 (by decide)
 simp only [yZ,e1,e2,e3,e4]
 clear hR hal hap e1 e2 e3 e4
 refine zg (fun K hK=>⟨zZ (by kernel_rfl) (qo (.tmp 14) (.tmp 94) rfl rfl rfl rfl (hr9_4) vE h3.elt.six (fun Y8_5 hl8_5=>hK.out _ _ ?_))⟩)
 refine zU ?_
 have d_br2_12_br9_4:br2_12≠br9_4:=by have:=(let ⟨_,h,_⟩:=vbr2_12;h.lt:br2_12<Y7_11.heap.size);omega
 replace vbr2_12:=(hl8_5.ve d_br2_12_br9_4 (vbr2_12.ext hX))
 have d_br2_13_br9_4:br2_13≠br9_4:=by have:=(let ⟨_,h,_⟩:=vbr2_13;h.lt:br2_13<Y7_11.heap.size);omega
 replace vbr2_13:=(hl8_5.ve d_br2_13_br9_4 (vbr2_13.ext hX))
 have d_br3_5_br9_4:br3_5≠br9_4:=by have:=(let ⟨_,h,_⟩:=vbr3_5;h.lt:br3_5<Y7_11.heap.size);omega
 replace vbr3_5:=(hl8_5.ve d_br3_5_br9_4 (vbr3_5.ext hX))
 have d_br4_18_br9_4:br4_18≠br9_4:=by have:=(let ⟨_,h,_⟩:=vbr4_18;h.lt:br4_18<Y7_11.heap.size);omega
 replace vbr4_18:=(hl8_5.ve d_br4_18_br9_4 (vbr4_18.ext hX))
 have d_br5_10_br9_4:br5_10≠br9_4:=by have:=(let ⟨_,h,_⟩:=vbr5_10;h.lt:br5_10<Y7_11.heap.size);omega
 replace vbr5_10:=(hl8_5.ve d_br5_10_br9_4 (vbr5_10.ext hX))
 have d_br6_10_br9_4:br6_10≠br9_4:=by have:=(let ⟨_,h,_⟩:=vbr6_10;h.lt:br6_10<Y7_11.heap.size);omega
 replace vbr6_10:=(hl8_5.ve d_br6_10_br9_4 (vbr6_10.ext hX))
 have d_br7_6_br9_4:br7_6≠br9_4:=by have:=(let ⟨_,h,_⟩:=vbr7_6;h.lt:br7_6<Y7_11.heap.size);omega
 replace vbr7_6:=(hl8_5.ve d_br7_6_br9_4 (vbr7_6.ext hX))
 have d_br8_10_br9_4:br8_10≠br9_4:=by have:=(let ⟨_,h,_⟩:=vbr8_10;h.lt:br8_10<Y7_11.heap.size);omega
 replace vbr8_10:=(hl8_5.ve d_br8_10_br9_4 (vbr8_10.ext hX))
 have vbr9_4:VE Y8_5 M n br9_4 u17:=(hl8_5.mk' h3)
 have lb_vbr9_4:=zQ hE.bsize lr9_4
 have hE':Ext W0 Y8_5:=(hl8_5.ext (hE.trans hX) (zQ hE.bsize lr9_4))
 clear hE hX hl8_5 h1 h2 h3
 have hE:=hE'
 clear hE'
 go_upto_region 10 with fail
 refine qQ 4 [0,0,0,7,15] [] (fun j f X=>match j with
  | 0=>f 0=.pointer (some ⟨g,0,none⟩)
  | 1=>∃ o,f 1=EV o∧FE M n o u17
  | 2=>∃ o,f 2=EV o∧FE M n o u17
  | 3=>∃ o,f 3=EV o∧FE M n o u18
  | _=>True) (by kernel_rfl) [(95,0),(96,1),(97,2),(98,3)] (by kernel_rfl) ?_
 refine zf 1 3 ?_
 refine lX 2 2 (fun X hX=>let ⟨o,hbl,ho⟩:=vbr9_4.ext hX;⟨o,hbl.range,ho⟩) ?_
 refine lX 3 1 (fun X hX=>let ⟨o,hbl,ho⟩:=vbr9_4.ext hX;⟨o,hbl.range,ho⟩) ?_
 refine fc 4 0 0 1 2 (fun X hX _ _ h h'=>uN X (hn.out.ext hP0' (hE.trans hX)).fr.ff h h') E_u18.out ?_
 refine yF ⟨fun f X hX hR hal hap=>?_⟩
 obtain ⟨o1,(e1:f 1=_),h1⟩:=hR 1 (by decide)
 obtain ⟨o2,(e2:f 2=_),h2⟩:=hR 2 (by decide)
 obtain ⟨o3,(e3:f 3=_),h3⟩:=hR 3 (by decide)
 simp only [yZ,e1,e2,e3]
 clear hR hal hap e1 e2 e3
 obtain ⟨lo4,hbo4,hfo4⟩:=vbr9_4.ext hX
 refine zg (fun K hK=>⟨zZ (by kernel_rfl) (qo (.tmp 14) (.tmp 98) rfl rfl rfl rfl hbo4 (by rw [qj];exact hfo4.elt.six) h3.elt.six (fun Y9_4 hl9_4=>hK.out _ _ ?_))⟩)
 refine zU ?_
 replace vbr2_12:=(hl9_4.ve d_br2_12_br9_4 (vbr2_12.ext hX))
 replace vbr2_13:=(hl9_4.ve d_br2_13_br9_4 (vbr2_13.ext hX))
 replace vbr3_5:=(hl9_4.ve d_br3_5_br9_4 (vbr3_5.ext hX))
 replace vbr4_18:=(hl9_4.ve d_br4_18_br9_4 (vbr4_18.ext hX))
 replace vbr5_10:=(hl9_4.ve d_br5_10_br9_4 (vbr5_10.ext hX))
 replace vbr6_10:=(hl9_4.ve d_br6_10_br9_4 (vbr6_10.ext hX))
 replace vbr7_6:=(hl9_4.ve d_br7_6_br9_4 (vbr7_6.ext hX))
 replace vbr8_10:=(hl9_4.ve d_br8_10_br9_4 (vbr8_10.ext hX))
 have vbr9_4':VE Y9_4 M n br9_4 u18:=hl9_4.mk' h3
 have hE':Ext W0 Y9_4:=(hl9_4.ext (hE.trans hX) lb_vbr9_4)
 clear hE hX hl9_4 h1 h2 h3 vbr9_4
 have hE:=hE'
 clear hE'
 have vbr9_4:=vbr9_4'
 clear vbr9_4'
 go_upto_region 11 with fail
 refine qQ 4 [0,0,0,7,15] [] (fun j f X=>match j with
  | 0=>f 0=.pointer (some ⟨g,0,none⟩)
  | 1=>∃ o,f 1=EV o∧FE M n o u18
  | 2=>∃ o,f 2=EV o∧FE M n o u18
  | 3=>∃ o,f 3=EV o∧FE M n o u19
  | _=>True) (by kernel_rfl) [(99,0),(100,1),(101,2),(102,3)] (by kernel_rfl) ?_
 refine zf 1 3 ?_
 refine lX 2 2 (fun X hX=>let ⟨o,hbl,ho⟩:=vbr9_4.ext hX;⟨o,hbl.range,ho⟩) ?_
 refine lX 3 1 (fun X hX=>let ⟨o,hbl,ho⟩:=vbr9_4.ext hX;⟨o,hbl.range,ho⟩) ?_
 refine fc 4 0 0 1 2 (fun X hX _ _ h h'=>uN X (hn.out.ext hP0' (hE.trans hX)).fr.ff h h') E_u19.out ?_
 refine yF ⟨fun f X hX hR hal hap=>?_⟩
 obtain ⟨o1,(e1:f 1=_),h1⟩:=hR 1 (by decide)
 obtain ⟨o2,(e2:f 2=_),h2⟩:=hR 2 (by decide)
 obtain ⟨o3,(e3:f 3=_),h3⟩:=hR 3 (by decide)
 simp only [yZ,e1,e2,e3]
 clear hR hal hap e1 e2 e3
 obtain ⟨lo4,hbo4,hfo4⟩:=vbr9_4.ext hX
 refine zg (fun K hK=>⟨zZ (by kernel_rfl) (qo (.tmp 14) (.tmp 102) rfl rfl rfl rfl hbo4 (by rw [qj];exact hfo4.elt.six) h3.elt.six (fun Y10_4 hl10_4=>hK.out _ _ ?_))⟩)
 refine zU ?_
 replace vbr2_12:=(hl10_4.ve d_br2_12_br9_4 (vbr2_12.ext hX))
 replace vbr2_13:=(hl10_4.ve d_br2_13_br9_4 (vbr2_13.ext hX))
 replace vbr3_5:=(hl10_4.ve d_br3_5_br9_4 (vbr3_5.ext hX))
 replace vbr4_18:=(hl10_4.ve d_br4_18_br9_4 (vbr4_18.ext hX))
 replace vbr5_10:=(hl10_4.ve d_br5_10_br9_4 (vbr5_10.ext hX))
 replace vbr6_10:=(hl10_4.ve d_br6_10_br9_4 (vbr6_10.ext hX))
 replace vbr7_6:=(hl10_4.ve d_br7_6_br9_4 (vbr7_6.ext hX))
 replace vbr8_10:=(hl10_4.ve d_br8_10_br9_4 (vbr8_10.ext hX))
 have vbr9_4':VE Y10_4 M n br9_4 u19:=hl10_4.mk' h3
 have hE':Ext W0 Y10_4:=(hl10_4.ext (hE.trans hX) lb_vbr9_4)
 clear hE hX hl10_4 h1 h2 h3 vbr9_4
 have hE:=hE'
 clear hE'
 have vbr9_4:=vbr9_4'
 clear vbr9_4'
 go_upto_region 12 with fail
 refine z8 (by kernel_rfl) 14 [0,0,0,0,0,0,56,126,0,0,0,2046,4095,0,16383] [13] (fun j f X=>match j with
  | 0=>f 0=.pointer (some ⟨g,0,none⟩)
  | 1=>f 1=.pointer (some ⟨g,0,none⟩)
  | 2=>∃ o,f 2=EV o∧FE M n o u7
  | 3=>f 3=.pointer (some ⟨g,0,none⟩)
  | 4=>∃ o,f 4=EV o∧FE M n o u9
  | 5=>∃ o,f 5=EV o∧FE M n o u12
  | 6=>∃ o,f 6=EV o∧FE M n o u20
  | 7=>∃ o,f 7=EV o∧FE M n o u21
  | 8=>f 8=.pointer (some ⟨g,0,none⟩)
  | 9=>∃ o,f 9=EV o∧FE M n o u19
  | 10=>∃ o,f 10=EV o∧FE M n o u19
  | 11=>∃ o,f 11=EV o∧FE M n o u22
  | 12=>∃ o,f 12=EV o∧FE M n o u23
  | 13=>∃ b,f 13=.pointer (some ⟨b,0,none⟩)∧Y10_4.heap.size≤b∧X.heap[b]?=some (.cells #[.int .u64 0,.int .u64 0,.int .u64 0,.int .u64 0,.int .u64 0,.int .u64 0] 147 (0,0))
  | _=>True) (by kernel_rfl) [(103,0),(104,1),(105,2),(106,3),(107,4),(108,5),(109,6),(110,7),(111,8),(112,9),(113,10),(114,11),(115,12),(15,13)] (by kernel_rfl) ?_
 refine zf 1 13 ?_
 refine zf 2 12 ?_
 refine lX 3 11 (fun X hX=>let ⟨o,hbl,ho⟩:=vbr4_18.ext hX;⟨o,hbl.range,ho⟩) ?_
 refine zf 4 10 ?_
 refine lX 5 9 (fun X hX=>let ⟨o,hbl,ho⟩:=vbr5_10.ext hX;⟨o,hbl.range,ho⟩) ?_
 refine lX 6 8 (fun X hX=>let ⟨o,hbl,ho⟩:=vbr6_10.ext hX;⟨o,hbl.range,ho⟩) ?_
 refine fc 7 7 3 4 5 (fun X hX _ _ h h'=>xx X (hn.out.ext hP0' (hE.trans hX)).fr.ff h h') E_u20.out ?_
 refine fc 8 6 1 2 6 (fun X hX _ _ h h'=>kE X (hn.out.ext hP0' (hE.trans hX)).fr.ff h h') E_u21.out ?_
 refine zf 9 5 ?_
 refine lX 10 4 (fun X hX=>let ⟨o,hbl,ho⟩:=vbr9_4.ext hX;⟨o,hbl.range,ho⟩) ?_
 refine lX 11 3 (fun X hX=>let ⟨o,hbl,ho⟩:=vbr9_4.ext hX;⟨o,hbl.range,ho⟩) ?_
 refine fc 12 2 8 9 10 (fun X hX _ _ h h'=>uN X (hn.out.ext hP0' (hE.trans hX)).fr.ff h h') E_u22.out ?_
 refine fc 13 1 0 7 11 (fun X hX _ _ h h'=>xx X (hn.out.ext hP0' (hE.trans hX)).fr.ff h h') E_u23.out ?_
 refine vB 14 0 ?_
 refine yF ⟨fun f X hX hR hal hap=>?_⟩
 obtain ⟨o2,(e2:f 2=_),h2⟩:=hR 2 (by decide)
 obtain ⟨o4,(e4:f 4=_),h4⟩:=hR 4 (by decide)
 obtain ⟨o5,(e5:f 5=_),h5⟩:=hR 5 (by decide)
 obtain ⟨o6,(e6:f 6=_),h6⟩:=hR 6 (by decide)
 obtain ⟨o7,(e7:f 7=_),h7⟩:=hR 7 (by decide)
 obtain ⟨o9,(e9:f 9=_),h9⟩:=hR 9 (by decide)
 obtain ⟨o10,(e10:f 10=_),h10⟩:=hR 10 (by decide)
 obtain ⟨o11,(e11:f 11=_),h11⟩:=hR 11 (by decide)
 obtain ⟨o12,(e12:f 12=_),h12⟩:=hR 12 (by decide)
 obtain ⟨br12_13,(e13:f 13=_),lr12_13,hr12_13⟩:=hR 13 (by decide)
 simp only [yZ,e2,e4,e5,e6,e7,e9,e10,e11,e12,e13]
 clear hR hal hap e2 e4 e5 e6 e7 e9 e10 e11 e12 e13
 refine zg (fun K hK=>⟨zZ (by kernel_rfl) (qo (.tmp 15) (.tmp 115) rfl rfl rfl rfl (hr12_13) vE h12.elt.six (fun Y11_14 hl11_14=>hK.out _ _ ?_))⟩)
 refine zU ?_
 have d_br2_12_br12_13:br2_12≠br12_13:=by have:=(let ⟨_,h,_⟩:=vbr2_12;h.lt:br2_12<Y10_4.heap.size);omega
 replace vbr2_12:=(hl11_14.ve d_br2_12_br12_13 (vbr2_12.ext hX))
 have d_br2_13_br12_13:br2_13≠br12_13:=by have:=(let ⟨_,h,_⟩:=vbr2_13;h.lt:br2_13<Y10_4.heap.size);omega
 replace vbr2_13:=(hl11_14.ve d_br2_13_br12_13 (vbr2_13.ext hX))
 have d_br3_5_br12_13:br3_5≠br12_13:=by have:=(let ⟨_,h,_⟩:=vbr3_5;h.lt:br3_5<Y10_4.heap.size);omega
 replace vbr3_5:=(hl11_14.ve d_br3_5_br12_13 (vbr3_5.ext hX))
 have d_br4_18_br12_13:br4_18≠br12_13:=by have:=(let ⟨_,h,_⟩:=vbr4_18;h.lt:br4_18<Y10_4.heap.size);omega
 replace vbr4_18:=(hl11_14.ve d_br4_18_br12_13 (vbr4_18.ext hX))
 have d_br5_10_br12_13:br5_10≠br12_13:=by have:=(let ⟨_,h,_⟩:=vbr5_10;h.lt:br5_10<Y10_4.heap.size);omega
 replace vbr5_10:=(hl11_14.ve d_br5_10_br12_13 (vbr5_10.ext hX))
 have d_br6_10_br12_13:br6_10≠br12_13:=by have:=(let ⟨_,h,_⟩:=vbr6_10;h.lt:br6_10<Y10_4.heap.size);omega
 replace vbr6_10:=(hl11_14.ve d_br6_10_br12_13 (vbr6_10.ext hX))
 have d_br7_6_br12_13:br7_6≠br12_13:=by have:=(let ⟨_,h,_⟩:=vbr7_6;h.lt:br7_6<Y10_4.heap.size);omega
 replace vbr7_6:=(hl11_14.ve d_br7_6_br12_13 (vbr7_6.ext hX))
 have d_br8_10_br12_13:br8_10≠br12_13:=by have:=(let ⟨_,h,_⟩:=vbr8_10;h.lt:br8_10<Y10_4.heap.size);omega
 replace vbr8_10:=(hl11_14.ve d_br8_10_br12_13 (vbr8_10.ext hX))
 have d_br9_4_br12_13:br9_4≠br12_13:=by have:=(let ⟨_,h,_⟩:=vbr9_4;h.lt:br9_4<Y10_4.heap.size);omega
 replace vbr9_4:=(hl11_14.ve d_br9_4_br12_13 (vbr9_4.ext hX))
 have vbr12_13:VE Y11_14 M n br12_13 u23:=(hl11_14.mk' h12)
 have lb_vbr12_13:=zQ hE.bsize lr12_13
 have hE':Ext W0 Y11_14:=(hl11_14.ext (hE.trans hX) (zQ hE.bsize lr12_13))
 clear hE hX hl11_14 h2 h4 h5 h6 h7 h9 h10 h11 h12
 have hE:=hE'
 clear hE'
 obtain ⟨ox,blx,fx⟩:=vbr6_10
 obtain ⟨oy,bly,fy⟩:=vbr12_13
 obtain ⟨oz,blz,fz⟩:=vbr8_10
 have hb1:=hE.at_ hrb
 go_upto_region 13 with fail
 refine qQ 4 [0,0,0,7,15] [] (fun j f X=>match j with
  | 0=>f 0=EV ox
  | 1=>f 1=EV oy
  | 2=>f 2=EV oz
  | 3=>f 3=JV ox oy oz
  | _=>True) (by kernel_rfl) [(116,0),(117,1),(118,2),(119,3)] (by kernel_rfl) ?_
 refine qH 1 3 [(117,1),(118,2)] (fun f X hX hR K hK=>?_) ?_
 · simp only [yZ];refine ⟨zZ (by kernel_rfl) (vF (.tmp 11) rfl rfl (xE.range (hX.at_ blx)) fx.elt.six ?_)⟩;exact hK.out _ (EV ox) _ (by simp only [yZ]) (zy _) trivial (fun _ _=>rfl)
 refine qH 2 2 [(116,0),(118,2)] (fun f X hX hR K hK=>?_) ?_
 · simp only [yZ];refine ⟨zZ (by kernel_rfl) (vF (.tmp 15) rfl rfl (xE.range (hX.at_ bly)) fy.elt.six ?_)⟩;exact hK.out _ (EV oy) _ (by simp only [yZ]) (zy _) trivial (fun _ _=>rfl)
 refine qH 3 1 [(116,0),(117,1)] (fun f X hX hR K hK=>?_) ?_
 · simp only [yZ];refine ⟨zZ (by kernel_rfl) (vF (.tmp 13) rfl rfl (xE.range (hX.at_ blz)) fz.elt.six ?_)⟩;exact hK.out _ (EV oz) _ (by simp only [yZ]) (zy _) trivial (fun _ _=>rfl)
 refine qH 4 0 [(116,0),(117,1),(118,2)] (fun f X hX hR K hK=>?_) ?_
 · have e0:f 0=_:=hR.out 0 rfl;have e1:f 1=_:=hR.out 1 rfl;have e2:f 2=_:=hR.out 2 rfl;simp only [yZ,e0,e1,e2];refine ⟨zZ (by kernel_rfl) (gb (x:=ox) (y:=oy) (z:=oz) (.tmp 116) (.tmp 117) (.tmp 118) rfl rfl rfl rfl fx.elt.six fy.elt.six fz.elt.six ?_)⟩;exact hK.out _ (JV ox oy oz) _ (by simp only [yZ,e0,e1,e2]) (zy _) trivial (fun _ _=>rfl)
 refine yF ⟨fun f X hX hR hal hap=>?_⟩
 have e3:f 3=_:=hR 3 (by decide)
 simp only [yZ,e3]
 clear hR hal hap e3
 refine zg (fun K hK=>⟨zZ (by kernel_rfl) (vS (x:=ox) (y:=oy) (z:=oz) (.tmp 4) (.tmp 119) rfl rfl rfl rfl (hX.at_ hb1) rfl fx.elt.six fy.elt.six fz.elt.six (fun Y hY1 hY2 hY3=>hK.out _ _ ?_))⟩)
 refine zU ?_
 go_wp2
 exact dY rfl rfl rfl hY1 fx.elt.six fy.elt.six fz.elt.six ⟨_,_,_,rfl,⟨fx,fy,fz⟩,hY2.ext (HE0.out.trans (hE.trans hX)) (by have:=Hq.out;omega)⟩
theorem FE.zero {M n:Nat}(h:0<M):FE M n [0,0,0,0,0,0] 0:=⟨⟨rfl,by intro x hx;simp at hx;omega,by simp [val];omega⟩,by simp [val]⟩
theorem tw {P0:Nat→Prop}{k g size n inv M bb:Nat}{pl nl bl xl yl ml ol rl tl fl:List Nat}{Ap An Ab Ax Ay:Option Addr}{cp cn cb cx cy:Nat}(Pa Pb:Nat→Prop) (A A':Option Addr) (c c':Nat) (a b:List Nat) (inf:Bool) (w:World)
 (hk:Num w P0 k g size n inv M bb pl nl bl xl yl ml ol rl tl fl Ap An Ab Ax Ay cp cn cb cx cy) (hP0:∀ b,P0 b→b<w.heap.size) (h:RN w Pa A c a) (h':RN w Pb A' c' b) (hPa:∀ b,Pa b→b<w.heap.size) (hPb:∀ b,Pb b→b<w.heap.size)
 (hxM:inf=false→val 18446744073709551616 a<M) (hyM:inf=false→val 18446744073709551616 b<M) :
 Calls Tryz.prog 139 #[.pointer (some ⟨k,0,none⟩),.agg #[.bool inf,.slice A a.length c,.slice A' b.length c']] w fun e w'=>∃ ox oy oz,e=.returned (JV ox oy oz)∧FJ M n ox oy oz (if inf then 1 else val 18446744073709551616 a) (if inf then 1 else val 18446744073709551616 b) (if inf then 0 else 1)∧Ext w w':=by
 obtain ⟨W0,hW0⟩:=eW ((w.alloc (.cells #[.bool inf,.slice A a.length c,.slice A' b.length c'] 29)).alloc (.cells #[.int .u64 0,.int .u64 0,.int .u64 0,.int .u64 0,.int .u64 0,.int .u64 0,.int .u64 0,.int .u64 0,.int .u64 0,.int .u64 0,.int .u64 0,.int .u64 0,.int .u64 0,.int .u64 0,.int .u64 0,.int .u64 0,.int .u64 0,.int .u64 0] 176))
 obtain ⟨q,hq⟩:=eV w.heap.size
 have hE0:Ext w W0:=by rw [hW0];exact (zb _ _).trans (zb _ _)
 obtain ⟨hbx,hrb,hz0⟩:=xU w (.cells #[.bool inf,.slice A a.length c,.slice A' b.length c'] 29) (.cells #[.int .u64 0,.int .u64 0,.int .u64 0,.int .u64 0,.int .u64 0,.int .u64 0,.int .u64 0,.int .u64 0,.int .u64 0,.int .u64 0,.int .u64 0,.int .u64 0,.int .u64 0,.int .u64 0,.int .u64 0,.int .u64 0,.int .u64 0,.int .u64 0] 176)
 rw [←hW0,hq] at hbx hrb hz0
 have b0:W0.cell? ⟨q,0,none⟩=some (.bool inf):=zJ hbx 0
 have b1:W0.cell? ⟨q,1,none⟩=some (.slice A a.length c):=zJ hbx 1
 have b2:W0.cell? ⟨q,2,none⟩=some (.slice A' b.length c'):=zJ hbx 2
 have hn:=zF (hk.ext hP0 hE0)
 have hP0':∀ b,P0 b→b<W0.heap.size:=fun b hb=>zR (hP0 b hb) hE0.bsize
 have hPa':∀ b,Pa b→b<W0.heap.size:=fun b hb=>zR (hPa b hb) hE0.bsize
 have hPb':∀ b,Pb b→b<W0.heap.size:=fun b hb=>zR (hPb b hb) hE0.bsize
 have ha:=h.below hE0 hPa
 have hb:=h'.below hE0 hPb
 have k6:=hn.out.c_f
 have HE0:=zF hE0
 have Hz0:=zF hz0
 have hM1:=hk.fr.ff.big
 obtain ⟨x,hx⟩:=eV (val 18446744073709551616 a)
 obtain ⟨y,hy⟩:=eV (val 18446744073709551616 b)
 rw [hx] at hxM
 rw [hy] at hyM
 rw [hx,hy]
 have Hx:=zF hx
 have Hy:=zF hy
 clear hE0 hz0 hk hP0 hx hy h h' hPa hPb
 cases inf
 case true =>
  clear b1 b2 ha hb Hx Hy hxM hyM hPa' hPb';simp only [if_true];go_enter Tryz.func139,Tryz.ntmps139;go_upto_region 1 with fail;rw [←hW0];have Hq:=zF hq;have HW0:=zF hW0;have hE:=zy W0;clear hq hW0;go_upto_region 3 with fail;clear k6 b0
  refine qQ 6 [0,1,0,7,0,31,63] [] (fun j f X=>match j with
   | 0=>f 0=.pointer (some ⟨g,0,none⟩)
   | 1=>f 1=EV ol
   | 2=>f 2=.pointer (some ⟨g,0,none⟩)
   | 3=>f 3=EV ol
   | 4=>f 4=.agg #[.int .u64 0,.int .u64 0,.int .u64 0,.int .u64 0,.int .u64 0,.int .u64 0]
   | 5=>f 5=JV ol ol [0,0,0,0,0,0]
   | _=>True) (by kernel_rfl) [(12,0),(13,1),(14,2),(15,3),(16,4),(17,5)] (by kernel_rfl) ?_
  refine zf 1 5 ?_;refine qJ 2 4 (fun f=>#[f 0]) (F':=178) (fun f X hX hR=>?_) ?_
  · have e0:f 0=_:=hR.out 0 rfl;simp only [e0];refine (ma X (hn.out.ext hP0' (hE.trans hX)).fr).mono ?_;rintro e w2 ⟨rfl,hB⟩;exact ⟨(EV ol),rfl,hB,fun _ _=>rfl⟩
  refine zf 3 3 ?_;refine qJ 4 2 (fun f=>#[f 2]) (F':=178) (fun f X hX hR=>?_) ?_
  · have e2:f 2=_:=hR.out 2 rfl;simp only [e2];refine (ma X (hn.out.ext hP0' (hE.trans hX)).fr).mono ?_;rintro e w2 ⟨rfl,hB⟩;exact ⟨(EV ol),rfl,hB,fun _ _=>rfl⟩
  refine zf 5 1 ?_;refine qH 6 0 [(12,0),(13,1),(14,2),(15,3),(16,4)] (fun f X hX hR K hK=>?_) ?_
  · have e1:f 1=_:=hR.out 1 rfl;have e3:f 3=_:=hR.out 3 rfl;have e4:f 4=_:=hR.out 4 rfl;simp only [yZ,e1,e3,e4];refine ⟨zZ (by kernel_rfl) (gb (x:=ol) (y:=ol) (z:=[0,0,0,0,0,0]) (.tmp 13) (.tmp 15) (.tmp 16) rfl rfl rfl rfl hn.out.fr.fone.elt.six hn.out.fr.fone.elt.six rfl ?_)⟩;exact hK.out _ (JV ol ol [0,0,0,0,0,0]) _ (by simp only [yZ,e1,e3,e4]) (zy _) trivial (fun _ _=>rfl)
  refine yF ⟨fun f X hX hR hal hap=>?_⟩;have e5:f 5=_:=hR 5 (by decide);simp only [yZ,e5];clear hR hal hap e5;refine zg (fun K hK=>⟨zZ (by kernel_rfl) (vS (x:=ol) (y:=ol) (z:=[0,0,0,0,0,0]) (.tmp 4) (.tmp 17) rfl rfl rfl rfl (hX.at_ hrb) rfl hn.out.fr.fone.elt.six hn.out.fr.fone.elt.six rfl (fun Y hY1 hY2 hY3=>hK.out _ _ ?_))⟩);refine zU ?_;go_wp2;exact dY rfl rfl rfl hY1 hn.out.fr.fone.elt.six hn.out.fr.fone.elt.six rfl ⟨_,_,_,rfl,⟨hn.out.fr.fone,hn.out.fr.fone,FE.zero (by omega)⟩,hY2.ext (HE0.out.trans (hE.trans hX)) (by have:=Hq.out;omega)⟩
 case false =>
  have hxM:=hxM rfl;have hyM:=hyM rfl;simp only [Bool.false_eq_true,if_false];go_enter Tryz.func139,Tryz.ntmps139;go_upto_region 1 with fail;rw [←hW0];have Hq:=zF hq;have HW0:=zF hW0;have Hqs:=zF (show q≤W0.heap.size by have:=Hz0.out;omega);have hE:=zy W0;clear hq hW0;go_upto_region 4 with fail;clear k6 b0
  refine z8 (by kernel_rfl) 13 [0,0,2,6,15,0,0,64,223,511,0,2047,4095,8191] [] (fun j f X=>match j with
   | 0=>f 0=.pointer (some ⟨g,0,none⟩)
   | 1=>f 1=.pointer (some ⟨q,1,none⟩)
   | 2=>f 2=.slice A a.length c
   | 3=>∃ A1 c1,f 3=.slice A1 (digs 18446744073709551616 x).length c1∧OB X q A1 c1 (digs 18446744073709551616 x)
   | 4=>∃ o,f 4=EV o∧FE M n o x
   | 5=>f 5=.pointer (some ⟨g,0,none⟩)
   | 6=>f 6=.pointer (some ⟨q,2,none⟩)
   | 7=>f 7=.slice A' b.length c'
   | 8=>∃ A1 c1,f 8=.slice A1 (digs 18446744073709551616 y).length c1∧OB X q A1 c1 (digs 18446744073709551616 y)
   | 9=>∃ o,f 9=EV o∧FE M n o y
   | 10=>f 10=.pointer (some ⟨g,0,none⟩)
   | 11=>f 11=EV ol
   | 12=>∃ o o',f 12=JV o o' ol∧FE M n o x∧FE M n o' y
   | _=>True) (by kernel_rfl) [(18,0),(19,1),(20,2),(21,3),(22,4),(23,5),(24,6),(25,7),(26,8),(27,9),(28,10),(29,11),(30,12)] (by kernel_rfl) ?_
  refine zf 1 12 ?_;refine zf 2 11 ?_;refine q9 3 10 1 b1 ?_;refine qJ 4 9 (fun f=>#[f 2]) (F':=122) (fun f X hX hR=>?_) ?_
  · have e2:f 2=_:=hR.out 2 rfl;simp only [e2];refine (wy Pa A c a X (ha.below (hE.trans hX) hPa')).mono ?_;rw [Hx.out];rintro e w2 ⟨A1,c1,rfl,hO,hB⟩;exact ⟨_,rfl,hB,fun Y hY=>⟨A1,c1,rfl,(hO.mono (zQ Hqs.out (hE.trans hX).bsize)).below hY (zH _)⟩⟩
  refine qJ 5 8 (fun f=>#[f 0,f 3]) (F':=145) (fun f X hX hR=>?_) ?_
  · have e0:f 0=_:=hR.out 0 rfl;obtain ⟨A3,c3,(e3:f 3=_),o3⟩:=hR.out 3 rfl;simp only [e0,e3];refine (yz _ A3 c3 _ X (hn.out.ext hP0' (hE.trans hX)).fr o3.rn (fun b hb=>hb.2) (hn.out.six hxM) (by rw [zc (by omega)];exact hxM)).mono ?_;rintro e w2 ⟨o,rfl,ho,hB⟩;rw [zc (by omega)] at ho;exact ⟨(EV o),rfl,hB,fun Y hY=>⟨o,rfl,ho⟩⟩
  refine zf 6 7 ?_;refine zf 7 6 ?_;refine q9 8 5 6 b2 ?_;refine qJ 9 4 (fun f=>#[f 7]) (F':=122) (fun f X hX hR=>?_) ?_
  · have e7:f 7=_:=hR.out 7 rfl;simp only [e7];refine (wy Pb A' c' b X (hb.below (hE.trans hX) hPb')).mono ?_;rw [Hy.out];rintro e w2 ⟨A1,c1,rfl,hO,hB⟩;exact ⟨_,rfl,hB,fun Y hY=>⟨A1,c1,rfl,(hO.mono (zQ Hqs.out (hE.trans hX).bsize)).below hY (zH _)⟩⟩
  refine qJ 10 3 (fun f=>#[f 5,f 8]) (F':=145) (fun f X hX hR=>?_) ?_
  · have e5:f 5=_:=hR.out 5 rfl;obtain ⟨A8,c8,(e8:f 8=_),o8⟩:=hR.out 8 rfl;simp only [e5,e8];refine (yz _ A8 c8 _ X (hn.out.ext hP0' (hE.trans hX)).fr o8.rn (fun b hb=>hb.2) (hn.out.six hyM) (by rw [zc (by omega)];exact hyM)).mono ?_;rintro e w2 ⟨o,rfl,ho,hB⟩;rw [zc (by omega)] at ho;exact ⟨(EV o),rfl,hB,fun Y hY=>⟨o,rfl,ho⟩⟩
  refine zf 11 2 ?_;refine qJ 12 1 (fun f=>#[f 10]) (F':=178) (fun f X hX hR=>?_) ?_
  · have e10:f 10=_:=hR.out 10 rfl;simp only [e10];refine (ma X (hn.out.ext hP0' (hE.trans hX)).fr).mono ?_;rintro e w2 ⟨rfl,hB⟩;exact ⟨(EV ol),rfl,hB,fun _ _=>rfl⟩
  refine qH 13 0 [(18,0),(19,1),(20,2),(21,3),(22,4),(23,5),(24,6),(25,7),(26,8),(27,9),(28,10),(29,11)] (fun f X hX hR K hK=>?_) ?_
  · obtain ⟨o4,(e4:f 4=_),h4⟩:=hR.out 4 rfl;obtain ⟨o9,(e9:f 9=_),h9⟩:=hR.out 9 rfl;have e11:f 11=_:=hR.out 11 rfl;simp only [yZ,e4,e9,e11];refine ⟨zZ (by kernel_rfl) (gb (x:=o4) (y:=o9) (z:=ol) (.tmp 22) (.tmp 27) (.tmp 29) rfl rfl rfl rfl h4.elt.six h9.elt.six hn.out.fr.fone.elt.six ?_)⟩;exact hK.out _ (JV o4 o9 ol) _ (by simp only [yZ,e4,e9,e11]) (zy _) trivial (fun _ _=>⟨o4,o9,rfl,h4,h9⟩)
  refine yF ⟨fun f X hX hR hal hap=>?_⟩;obtain ⟨A3,c3,(e3:f 3=_),o3⟩:=hR 3 (by decide);obtain ⟨o4,(e4:f 4=_),h4⟩:=hR 4 (by decide);obtain ⟨A8,c8,(e8:f 8=_),o8⟩:=hR 8 (by decide);obtain ⟨o9,(e9:f 9=_),h9⟩:=hR 9 (by decide);obtain ⟨ox,oy,(e12:f 12=_),fx,fy⟩:=hR 12 (by decide);simp only [yZ,e3,e4,e8,e9,e12];clear hR hal hap e3 e4 e8 e9 e12;refine zg (fun K hK=>⟨zZ (by kernel_rfl) (vS (x:=ox) (y:=oy) (z:=ol) (.tmp 4) (.tmp 30) rfl rfl rfl rfl (hX.at_ hrb) rfl fx.elt.six fy.elt.six hn.out.fr.fone.elt.six (fun Y hY1 hY2 hY3=>hK.out _ _ ?_))⟩);refine zU ?_;go_wp2;exact dY rfl rfl rfl hY1 fx.elt.six fy.elt.six hn.out.fr.fone.elt.six ⟨_,_,_,rfl,⟨fx,fy,hn.out.fr.fone⟩,hY2.ext (HE0.out.trans (hE.trans hX)) (by have:=Hq.out;omega)⟩
end Go.Proofs.YtmlbicgpehchhaaGreat
