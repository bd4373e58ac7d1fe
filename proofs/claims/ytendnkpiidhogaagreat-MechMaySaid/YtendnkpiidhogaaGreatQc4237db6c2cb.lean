/- What the reference's small and times compute. -/
import Derived.Test.YtendnkpiidhogaaGreatQ68d8ac02c641
import Derived.Laws.CopyRow
import Derived.Laws.IdiomCopy
import Derived.Deep.MidRow
import Derived.ChangeKeysEq
import Derived.Laws.StructEq
import Derived.StillTailTactics
import Derived.Deep.RegionHeld3
import Derived.RegionTactic
import Derived.Deep.RegionWith
import Derived.BigQuiet
import Derived.Deep.DeepCutAuto
set_option maxRecDepth 100000
set_option maxHeartbeats 16000000
namespace Go.Proofs.YtendnkpiidhogaaGreat
open Go.RowKit
theorem refTimes_any (P:Nat→Prop) (A:Option Addr) (c:Nat) (l:List Nat) (d:Nat) (w:World) (h:RN w P A c l) (hP:∀ b,P b→b<w.heap.size) (hD:Dig l) (hl:l.length<100000) (hd':d<4294967296) :
 Calls Tryz.prog 225 #[.slice A l.length c,.int .u64 (d:Int)] w fun e w'=>∃ o,e=.returned (.slice (some ⟨w.heap.size,0,none⟩) (l.length+1) (l.length+1))∧Blk w' w.heap.size o∧o.length=l.length+1∧Dig o∧val 4294967296 o=d*val 4294967296 l∧Below w.heap.size w w':=by
 obtain ⟨h1,h2,h3⟩:=h.cap
 have hmk:=run_make_row' (P:=Tryz.prog) 90 139 (.int .u64 0) 8 Tryz.underlying90 info64 rfl .i64 .i64 (l.length+1) (by omega) (by omega)
 simp only [Int.natCast_add,Int.cast_ofNat_Int] at hmk
 go_enter Tryz.func225,Tryz.ntmps225
 go_wp2
 go_loopw [6,7] (fun cv iv wr=>∃ (i cr:Nat) (o:List Nat),iv=.int .i64 (i:Int)∧cv=.int .u64 (cr:Int)∧i≤l.length∧cr<4294967296∧TimesAt 4294967296 l o d i cr∧Dig o∧Blk wr w.heap.size o∧Below w.heap.size w wr) (fun _ iv _=>l.length - (intOf iv).toNat)
 case atStart=>exact ⟨0,0,List.replicate (l.length+1) 0,rfl,rfl,by omega,by omega,⟨by simp,by simp⟩,by intro x hx;simp at hx;omega,Blk.made w _,(Below.refl _ w).alloc (Nat.le_refl _) _⟩
 case round =>
  obtain ⟨i,cr,o,rfl,rfl,hi,hcr,hT,hDo,hblk,hB⟩:=hrel
  have hol:=hT.1
  by_cases hlt:i<l.length
  · obtain ⟨ad,rfl,had,q1⟩:=(h.below hB hP).at_ hlt
    have hb:=mul_bound (hD.dgLt i) hd' hcr (show 0<4294967296 by omega)
    obtain ⟨pr,hpr⟩:∃ pr,dg l i*d=pr:=⟨_,rfl⟩
    have Hpr:=Lib.hid (show (dg l i:Int)*(d:Int)=(pr:Int) by rw [←hpr,Int.natCast_mul])
    rw [hpr] at hb
    obtain ⟨s,cr',hs,hcr',he⟩:∃ s c':Nat,s<4294967296∧c'<4294967296∧s+4294967296*c'=cr+pr:=⟨(cr+pr) % 4294967296,(cr+pr) / 4294967296,by omega,by omega,by omega⟩
    have e1:((cr:Int)+(pr:Int)) % 4294967296=(s:Int):=by omega
    have e2:((cr:Int)+(pr:Int)) / 4294967296=(cr':Int):=by omega
    have q3:=hblk.cell (i:=i) (by omega)
    have q4:=hblk.free i
    have hT':=hT.step (by omega) (by rw [hpr];exact he)
    have hblk':=hblk.set i s
    have hD':=hDo.set i s hs
    have hB':=hB.setCell (p:=⟨w.heap.size,i,none⟩) (Nat.le_refl _) (.int .u64 (s:Int))
    have k1:(i:Int)<(l.length:Int)+1:=by omega
    have k3:(pr:Int)<18446744073709551616:=by omega
    have k4:(cr:Int)+(pr:Int)<18446744073709551616:=by omega
    clear he hT hblk hDo hB hb hpr hol
    have hpr:=Hpr.out
    go_wp2
    go_roundw
    case rel=>exact ⟨i+1,cr',o.set i s,by go_num,(by first | rfl | exact congrArg (Value.int .u64) e2),by omega,hcr',hT',hD',hblk',hB'⟩
    case measure=>simp [intOf];omega
  · obtain rfl:i=l.length:=by omega
    have q3:=hblk.cell (i:=l.length) (by omega)
    have q4:=hblk.free l.length
    have hfin:=hT.fin
    have hblk':=hblk.set l.length cr
    have hD':=hDo.set l.length cr hcr
    have hB':=hB.setCell (p:=⟨w.heap.size,l.length,none⟩) (Nat.le_refl _) (.int .u64 (cr:Int))
    have k1:(l.length:Int)<(l.length:Int)+1:=by omega
    have Hf:=Lib.hid hfin
    have Hol:=Lib.hid (show (o.set l.length cr).length=l.length+1 by simpa using hol)
    clear hT hblk hDo hB hfin hol
    go_wp2
    go_ret
    exact ⟨o.set l.length cr,rfl,hblk',Hol.out,hD',Hf.out,hB'⟩
theorem refSmall_any (P:Nat→Prop) (A:Option Addr) (c:Nat) (l:List Nat) (d:Nat) (w:World) (h:RN w P A c l) (hP:∀ b,P b→b<w.heap.size) (hDl:Dig l) (hl:l.length<100000) (hd:0<d) (hd':d<4294967297) :
 Calls Tryz.prog 224 #[.slice A l.length c,.int .u64 (d:Int)] w fun e w'=>∃ A1 c1,e=.returned (.tuple #[.slice A1 (digs 4294967296 (val 4294967296 l / d)).length c1,.int .u64 ((val 4294967296 l % d:Nat):Int)]) ∧
  OB w' w.heap.size A1 c1 (digs 4294967296 (val 4294967296 l / d))∧Below w.heap.size w w':=by
 obtain ⟨h1,h2,h3⟩:=h.cap
 have hmk:=run_make_row' (P:=Tryz.prog) 90 139 (.int .u64 0) 8 Tryz.underlying90 info64 rfl .i64 .i64 l.length (by omega) (by omega)
 have Hs:=Lib.hid (Below1.start l.length)
 have n0:((d:Int)==0)=false:=eqB (by omega)
 have n1:¬ d=0:=by omega
 go_enter Tryz.func224,Tryz.ntmps224
 go_wp2
 go_loopw [7,8] (fun rv iv wr=>∃ (k r:Nat) (z:Int) (o:List Nat),iv=.int .i64 z∧Below1 k z∧rv=.int .u64 (r:Int)∧k≤l.length∧r<d∧SmallAt 4294967296 l o d k r∧Dig o∧Blk wr w.heap.size o∧Below w.heap.size w wr) (fun _ iv _=>(intOf iv+1).toNat)
 case atStart=>exact ⟨l.length,0,_,List.replicate l.length 0,rfl,Hs.out,rfl,by omega,by omega,SmallAt.start d (by simp),by intro x hx;simp at hx;omega,Blk.made w _,(Below.refl _ w).alloc (Nat.le_refl _) _⟩
 case round =>
  obtain ⟨k,r,z,o,rfl,hz,rfl,hk,hr,hS,hDo,hblk,hB⟩:=hrel
  rcases hz with ⟨rfl,rfl⟩ | ⟨j,rfl,rfl⟩
  · obtain ⟨hv,hrem⟩:=hS.fin hr
    have hLo:Lim o:=⟨fun x hx=>by have:=hDo x hx;omega,by have:=hS.1;omega⟩
    have hOB:OB wr w.heap.size (some ⟨w.heap.size,0,none⟩) l.length o:=OB.of_blk hblk (Nat.le_refl _) hLo (by have:=hS.1;omega) (by unfold maxLen;omega)
    have ht:=refTrim_any _ _ _ _ _ hOB.rn hDo
    have hOB':=hOB.trim32 hDo
    rw [hv,hS.1] at ht
    rw [hv] at hOB'
    have Ht:=Lib.hid ht
    have Hrem:=Lib.hid hrem
    clear hblk hLo ht hv hrem hOB hS hDo
    go_wp2_with fail
    refine Ht.out.mono ?_
    rintro e w1 ⟨rfl,rfl⟩
    go_wp2
    go_ret2
    exact ⟨_,_,by rw [Hrem.out];rfl,hOB',hB⟩
  · obtain ⟨ad,rfl,had,q1⟩:=(h.below hB hP).at_ (i:=j) (by omega)
    have hol:=hS.1
    have hlj:=hDl.dgLt j
    have q3:=hblk.cell (i:=j) (by omega)
    have q4:=hblk.free j
    obtain ⟨t,ht⟩:∃ t,r*4294967296+dg l j=t:=⟨_,rfl⟩
    obtain ⟨q,r',hr',he,hq⟩:∃ q r':Nat,r'<d∧t=d*q+r'∧q<4294967296:=by
     refine ⟨t / d,t % d,Nat.mod_lt _ hd,(Nat.div_add_mod _ d).symm,?_⟩
     apply Nat.div_lt_of_lt_mul
     have:(r+1)*4294967296≤d*4294967296:=Nat.mul_le_mul_right _ hr
     omega
    have htb:(t:Int)<18446744073709551616:=by omega
    have f0:(r:Int)*4294967296+(dg l j:Int)=(t:Int):=by omega
    have f1:(t:Int) / (d:Int)=(q:Int):=by
     rw [←Int.natCast_ediv,he,Nat.mul_add_div hd,Nat.div_eq_of_lt hr',Nat.add_zero]
    have f2:(t:Int) % (d:Int)=(r':Int):=by
     rw [←Int.natCast_emod,he,Nat.mul_add_mod,Nat.mod_eq_of_lt hr']
    have f1':(t:Int).tdiv (d:Int)=(q:Int):=by rw [Int.tdiv_eq_ediv_of_nonneg (by omega)];exact f1
    have f2':(t:Int).tmod (d:Int)=(r':Int):=by rw [Int.tmod_eq_emod_of_nonneg (by omega)];exact f2
    have hS':=hS.step (by omega) (by rw [ht];exact he)
    have hblk':=hblk.set j q
    have hD':=hDo.set j q hq
    have hB':=hB.setCell (p:=⟨w.heap.size,j,none⟩) (Nat.le_refl _) (.int .u64 (q:Int))
    have k1:(j:Int)<(l.length:Int):=by omega
    have k2:(r:Int)*4294967296<18446744073709551616:=by omega
    have k3:(q:Int)<18446744073709551616:=by omega
    have k4:(r':Int)<18446744073709551616:=by omega
    have Hs':=Lib.hid (Below1.start j)
    clear he hS hblk hDo hB hol ht
    go_wp2
    go_roundw
    case rel=>exact ⟨j,r',_,o.set j q,rfl,Hs'.out,by go_num,by omega,hr',hS',hD',hblk',hB'⟩
    case measure=>simp [intOf]
theorem wp_copy_eq {P:Program} (w:World) {o:Oper} {a:Act} {K:Act→World→Prop} {Q:Exit→Act→World→Prop} (d s:Operand) (t t':TypeId)
 (ho:o.op=.call { callee:=.builtin .copy,args:=#[d,s],argTypes:=#[t,t'] }) (v u:Value) (hd:a.eval d=v) (hs:a.eval s=u) {v':Value} {w':World}
 (hr:(Builtin.copy_ #[t,t'] o.type #[v,u]).run P w=.ok v' w') (h:K (a.put o.dst v') w'):o.wp P a w K Q:=by
 unfold Oper.wp execOp
 simp only [ho,resolve,invoke,builtin,Sem.run_bind,Sem.run_pure,Result.andThen_ok,List.map_toArray,List.map_cons,List.map_nil,hd,hs,hr]
 exact h
theorem wpList_copy_eq {P:Program} (w:World) {ops:Array Oper} {rest:List Oper} {o:Oper} {a:Act} {Q:Exit→Act→World→Prop} (hgd:o.guard=none) (d s:Operand) (t t':TypeId)
 (ho:o.op=.call { callee:=.builtin .copy,args:=#[d,s],argTypes:=#[t,t'] }) (v u:Value) (hd:a.eval d=v) (hs:a.eval s=u) {v':Value} {w':World}
 (hr:(Builtin.copy_ #[t,t'] o.type #[v,u]).run P w=.ok v' w') (h:wpList P ops Q rest (a.put o.dst v') w'):wpList P ops Q (o :: rest) a w :=
 wpList_plain hgd fun _ hK=>wp_copy_eq w d s t t' ho v u hd hs hr (hK _ _ h)
theorem info64size:(Tryz.prog.info? 139).map (·.size)=some 1:=by kernel_rfl
theorem putAt_dig {u W:List Nat} {k:Nat} (hu:Dig u) (hW:Dig W):Dig (putAt u W k):=by
 intro x hx
 rcases List.mem_append.1 hx with h | h
 · rcases List.mem_append.1 h with h | h
   · exact hu x (List.mem_of_mem_take h)
   · exact hW x h
 · exact hu x (List.mem_of_mem_drop h)
theorem nts_put (u W:List Nat) (k:Nat):(((nts u).toArray.toList.take k++nts W++(nts u).toArray.toList.drop (k+(nts W).length)).toArray)=(nts (putAt u W k)).toArray:=by
 simp [nts,putAt,List.map_take,List.map_drop]
theorem copy_put (w:World) (g gw k n m cw:Nat) (u W:List Nat) (ty:TypeId) (hu:Blk w g u) (hw:Blk w gw W) (hn:W.length=n) (hk:k+n≤u.length) (hm:u.length - k=m) :
 (Builtin.copy_ #[90,90] ty #[.slice (some ⟨g,k,none⟩) m m,.slice (some ⟨gw,0,none⟩) n cw]).run Tryz.prog w=.ok (goInt n) (w.setRow g (nts (putAt u W k)).toArray):=by
 have h:=run_copy_row (P:=Tryz.prog) w 90 90 ty 139 g k m m ⟨gw,0,none⟩ n cw (nts u).toArray 139 (nts W) Tryz.underlying90 info64size hu
  (by rw [nts_length,hn];exact (Nat.min_eq_left (by omega)).symm) (fun j v hj=>by rw [add_blk,blk_cell hw j,List.getElem?_toArray];exact hj) (by rw [nts_length,hn];simp [nts];omega) (oneCell_nts W)
 rw [nts_put,nts_length,hn] at h
 exact h
theorem Blk.put {w:World} {g:Nat} {u:List Nat} (h:Blk w g u) (v:List Nat):Blk (w.setRow g (nts v).toArray) g v:=setRow_heap w g _ _ _ _ h
theorem Only.put {w w':World} {g:Nat} (h:Only g w w') (v:Array Value):Only g w (w'.setRow g v) :=
  ⟨h.os, h.tape, h.output, by have : (w'.setRow g v).heap.size = w'.heap.size := by simp [World.setRow]
                              exact this.trans h.size,fun k hk=>by
    have:(w'.setRow g v).heap[k]?=w'.heap[k]?:=by simp [World.setRow,Array.getElem?_modify,Ne.symm hk]
    exact this.trans (h.block k hk)⟩
structure Two (g g':Nat) (w w':World):Prop where
 os:w'.os=w.os
 tape:w'.tape=w.tape
 output:w'.output=w.output
 size:w'.heap.size=w.heap.size
 block:∀ k,k≠g→k≠g'→w'.heap[k]?=w.heap[k]?
theorem Two.below {g g' B:Nat} {w w':World} (h:Two g g' w w') (hg:B≤g) (hg':B≤g'):Below B w w':=⟨h.os,h.tape,h.output,Nat.le_of_eq h.size.symm,fun k hk=>h.block k (by omega) (by omega)⟩
theorem Only.two {g g':Nat} {w w' w'':World} (h:Only g' w w') (k:Only g w' w''):Two g g' w w'':=⟨k.os.trans h.os,k.tape.trans h.tape,k.output.trans h.output,k.size.trans h.size,fun i hi hi'=>(k.block i hi).trans (h.block i hi')⟩
theorem RN.two {g g':Nat} {w w':World} {P:Nat→Prop} {A:Option Addr} {c:Nat} {l:List Nat} (h:RN w P A c l) (ho:Two g g' w w') (hP:∀ b,P b→b≠g∧b≠g'):RN w' P A c l:=h.keep fun q hq=>World.cell?_of_block (w:=w) (ho.block q.block (hP _ hq).1 (hP _ hq).2)
theorem less_round (g v c b x:Nat) (hg:g<4294967296) (hv:v<4294967296) (hc:c<4294967296) (hb:b≤1) (hx:x<4294967296) :
 ∃ pr lo c' off y b':Nat,g*v=pr∧pr<18446744073709551616∧c+pr<18446744073709551616∧lo+4294967296*c'=c+pr∧(c+pr) % 4294967296=lo∧(c+pr) / 4294967296=c'∧c'<4294967296∧off=lo+b∧off≤4294967296∧y<4294967296∧b'≤1∧y+(lo+b)=x+4294967296*b'∧(b'=0↔¬ x<off):=by
 have hm:=mul_bound hg hv hc (show 0<4294967296 by omega)
 obtain ⟨pr,hpr⟩:∃ pr,g*v=pr:=⟨_,rfl⟩
 rw [hpr] at hm
 by_cases h:x<(c+pr) % 4294967296+b
 · exact ⟨pr,(c+pr) % 4294967296,(c+pr) / 4294967296,(c+pr) % 4294967296+b,x+4294967296 - ((c+pr) % 4294967296+b),1,hpr,by omega,by omega,by omega,rfl,rfl,by omega,rfl,by omega,by omega,by omega,by omega,by simp [h]⟩
 · exact ⟨pr,(c+pr) % 4294967296,(c+pr) / 4294967296,(c+pr) % 4294967296+b,x - ((c+pr) % 4294967296+b),0,hpr,by omega,by omega,by omega,rfl,rfl,by omega,rfl,by omega,by omega,by omega,by omega,by simp [h]⟩
theorem less_any (g gw k n m G:Nat) (P:Nat→Prop) (A:Option Addr) (c:Nat) (U V W:List Nat) (w:World) (hU:Blk w g U) (hW:Blk w gw W) (h:RN w P A c V) (hgg:g≠gw) (hP:∀ b,P b→b≠gw) (hDU:Dig U) (hDV:Dig V) (hUm:U.length=m) (hVn:V.length=n) (hWn:W.length=n+1) (hk:k+n+1≤m) (hm:m≤100000) (hG:G<4294967296) (hz:∀ j,k+n+1≤j→dg U j=0) :
 Calls Tryz.prog 226 #[.slice (some ⟨g,0,none⟩) m m,.slice A n c,.slice (some ⟨gw,0,none⟩) (n+1) (n+1),.int .i64 (k:Int),.int .u64 (G:Int)] w fun e w'=>∃ U' W',Blk w' g U'∧Dig U'∧U'.length=m∧Blk w' gw W'∧W'.length=n+1∧Two g gw w w' ∧
  ((e=.returned (.bool true)∧val 4294967296 U'+4294967296 ^ k*(G*val 4294967296 V)=val 4294967296 U)∨(e=.returned (.bool false)∧U'=U∧val 4294967296 U / (4294967296 ^ k*val 4294967296 V)<G)):=by
 obtain ⟨h1,h2,h3⟩:=h.cap
 have hnc:n≤c:=by omega
 have Hz:=Lib.hid hz
 have HVn:=Lib.hid hVn
 have HUm:=Lib.hid hUm
 have Hgg:=Lib.hid hgg
 have HG:=Lib.hid hG
 have hn1:n≤100000:=by omega
 clear h1 h2 h3 hz hVn hUm hgg hG
 go_enter Tryz.func226,Tryz.ntmps226
 go_wp2
 go_loopw [12,13,14] (fun cv bv iv wr=>∃ (i cr b:Nat) (o:List Nat),iv=.int .i64 (i:Int)∧cv=.int .u64 (cr:Int)∧bv=.int .u64 (b:Int)∧i≤n+1∧cr<4294967296∧b≤1∧(n<i→cr=0)∧LessAt 4294967296 U V o k G i cr b∧Dig (o.take i)∧Blk wr gw o∧Only gw w wr) (fun _ _ iv _=>n+1 - (intOf iv).toNat)
 case atStart=>exact ⟨0,0,0,W,rfl,rfl,rfl,by omega,by omega,by omega,by omega,LessAt.zero (by rw [HVn.out];exact hWn),by intro x hx;simp at hx,hW,Only.refl _ _⟩
 case round =>
  obtain ⟨i,cr,b,o,rfl,rfl,rfl,hi,hcr,hb,hc0,hS,hDo,hbw,ho⟩:=hrel
  have hol:=hS.1
  rw [HVn.out] at hol
  have hbu:Blk _ g U:=(ho.block g Hgg.out).trans hU
  by_cases hle:i≤n
  · have hxU:=hDU.dgLt (k+i)
    have q1:=hbu.cell (i:=k+i) (by rw [HUm.out];omega)
    have q3:=hbw.cell (i:=i) (by omega)
    have q4:=hbw.free i
    have k0:(k:Int)+(i:Int)<(m:Int):=by omega
    have k1:(i:Int)<(n:Int)+1:=by omega
    obtain ⟨pr,lo,c',off,y,b',b1,b2,b3,b4,b5,b6,b7,b8,b9,b10,b11,b12,b13⟩:=less_round G (dg V i) cr b (dg U (k+i)) HG.out (hDV.dgLt i) hcr hb hxU
    have hS':=hS.step (x:=y) (c':=c') (b':=b') (lo:=lo) (by omega) (by rw [b1];exact b4) b12
    have hblk':=hbw.set i y
    have hD':Dig ((o.set i y).take (i+1)):=by
     rw [take_succ_dg (by simpa using (by omega:i<o.length)),getD_set_eq (by omega),List.take_set_of_le (by omega)]
     intro x hx
     rcases List.mem_append.1 hx with h | h
     · exact hDo x h
     · rw [List.mem_singleton.1 h];exact b10
    have ho':=ho.setCell (p:=⟨gw,0,none⟩) (f:=0) rfl i (.int .u64 (y:Int))
    rw [add_blk] at ho'
    have e3:(lo:Int)+(b:Int)=(off:Int):=by omega
    have kx:(dg U (k+i):Int)<4294967296:=by omega
    have kp:(pr:Int)<18446744073709551616:=by omega
    have kc:(cr:Int)+(pr:Int)<18446744073709551616:=by omega
    have ko:(off:Int)≤4294967296:=by omega
    have hc':n<i+1→c'=0:=by
     intro hni
     have hin:i=n:=by omega
     have:dg V i=0:=dg_none (by rw [HVn.out];omega)
     rw [this,Nat.mul_zero] at b1
     omega
    have e1:((cr:Int)+(pr:Int)) % 4294967296=(lo:Int):=by omega
    have e2:((cr:Int)+(pr:Int)) / 4294967296=(c':Int):=by omega
    have Hb7:=Lib.hid b7
    have Hhc:=Lib.hid hc'
    by_cases hlt:i<n
    · obtain ⟨ad,rfl,_,q2⟩:=(h.only ho hP).at_ (i:=i) (by rw [HVn.out];exact hlt)
      have hpr:(dg V i:Int)*(G:Int)=(pr:Int):=by rw [←Int.natCast_mul,Nat.mul_comm,b1]
      rcases Nat.eq_zero_or_pos b' with h0 | h0
      · have hxo:=b13.1 h0
        have e4:(dg U (k+i):Int) - (off:Int)=(y:Int):=by omega
        subst h0
        clear b1 b2 b3 b4 b5 b6 b7 b8 b9 b10 b12 b13 hS hDo hbw ho hol hbu hxU hcr hc' hc0
        go_wp2
        go_roundw
        case rel=>exact ⟨i+1,c',0,o.set i y,by go_num,by go_num,rfl,by omega,Hb7.out,by omega,Hhc.out,hS',hD',hblk',ho'⟩
        case measure=>simp [intOf];omega
      · have h01:b'=1:=by omega
        have hxo:dg U (k+i)<off:=by
         rcases Nat.lt_or_ge (dg U (k+i)) off with h | h
         · exact h
         · have:=b13.2 (by omega);omega
        have e4:(dg U (k+i):Int)+4294967296 - (off:Int)=(y:Int):=by omega
        subst h01
        clear b1 b2 b3 b4 b5 b6 b7 b8 b9 b10 b12 b13 hS hDo hbw ho hol hbu hxU hcr hc' hc0
        go_wp2
        go_roundw
        case rel=>exact ⟨i+1,c',1,o.set i y,by go_num,by go_num,rfl,by omega,Hb7.out,by omega,Hhc.out,hS',hD',hblk',ho'⟩
        case measure=>simp [intOf];omega
    · have hin:i=n:=by omega
      have hv0:dg V i=0:=dg_none (by rw [HVn.out];omega)
      rw [hv0,Nat.mul_zero] at b1
      have e1':(cr:Int) % 4294967296=(lo:Int):=by omega
      have e2':(cr:Int) / 4294967296=(c':Int):=by omega
      subst hin
      rcases Nat.eq_zero_or_pos b' with h0 | h0
      · have hxo:=b13.1 h0
        have e4:(dg U (k+i):Int) - (off:Int)=(y:Int):=by omega
        subst h0
        clear b1 b2 b3 b4 b5 b6 b7 b8 b9 b10 b12 b13 hS hDo hbw ho hol hbu hxU hcr hc' hc0 hv0 e1 e2
        go_wp2
        go_roundw
        case rel=>exact ⟨i+1,c',0,o.set i y,by go_num,by go_num,rfl,by omega,Hb7.out,by omega,Hhc.out,hS',hD',hblk',ho'⟩
        case measure=>simp [intOf]
      · have h01:b'=1:=by omega
        have hxo:dg U (k+i)<off:=by
         rcases Nat.lt_or_ge (dg U (k+i)) off with h | h
         · exact h
         · have:=b13.2 (by omega);omega
        have e4:(dg U (k+i):Int)+4294967296 - (off:Int)=(y:Int):=by omega
        subst h01
        clear b1 b2 b3 b4 b5 b6 b7 b8 b9 b10 b12 b13 hS hDo hbw ho hol hbu hxU hcr hc' hc0 hv0 e1 e2
        go_wp2
        go_roundw
        case rel=>exact ⟨i+1,c',1,o.set i y,by go_num,by go_num,rfl,by omega,Hb7.out,by omega,Hhc.out,hS',hD',hblk',ho'⟩
        case measure=>simp [intOf]
  · have hin:i=n+1:=by omega
    have hcz:=hc0 (by omega)
    subst hin hcz
    have hDo':Dig o:=by rwa [List.take_of_length_le (by omega)] at hDo
    rw [←hol] at hS
    have hkl:k+o.length≤U.length:=by rw [HUm.out];omega
    have hle':¬ (n:Int)+1≤(n:Int):=by omega
    rcases Nat.eq_zero_or_pos b with h0 | h0
    · subst h0
      have hy:=Lib.hid (hS.yes hkl)
      have hcp:=copy_put _ g gw k (n+1) (m - k) (n+1) U o 3 hbu hbw hol (by rw [HUm.out];omega) (by rw [HUm.out])
      have Hol:=Lib.hid hol
      have Hkl:=Lib.hid hkl
      clear hol hkl hS hDo
      have hbu2:=hbu.put (putAt U o k)
      have hbw2:Blk (World.setRow _ g (nts (putAt U o k)).toArray) gw o:=((Only.refl g _).put _ |>.block gw (Ne.symm Hgg.out)).trans hbw
      have htwo:=ho.two ((Only.refl g _).put (nts (putAt U o k)).toArray)
      go_wp2
      go_ret
      exact ⟨putAt U o k,hbu2,putAt_dig hDU hDo',(putAt_length Hkl.out).trans HUm.out,o,hbw2,Hol.out,htwo,.inl ⟨rfl,hy.out⟩⟩
    · have hb1:b=1:=by omega
      subst hb1
      have hno:=Lib.hid (hS.no hDo' hDU (fun j hj=>Hz.out j (by omega)) hkl)
      have Hol:=Lib.hid hol
      clear hS hDo hol hkl
      go_wp2
      go_ret
      exact ⟨U,hbu,hDU,HUm.out,o,hbw,Hol.out,(Only.refl g _ |> fun r=>ho.two r),.inr ⟨rfl,rfl,hno.out⟩⟩
structure Just (g:Nat) (w w':World):Prop where
 os:w'.os=w.os
 tape:w'.tape=w.tape
 output:w'.output=w.output
 size:w.heap.size≤w'.heap.size
 block:∀ b,b<w.heap.size→b≠g→w'.heap[b]?=w.heap[b]?
theorem Just.refl (g:Nat) (w:World):Just g w w:=⟨rfl,rfl,rfl,Nat.le_refl _,fun _ _ _=>rfl⟩
theorem Just.trans {g:Nat} {a b c:World} (h:Just g a b) (k:Just g b c):Just g a c :=
 ⟨k.os.trans h.os,k.tape.trans h.tape,k.output.trans h.output,Nat.le_trans h.size k.size,fun i hi hn=>(k.block i (Nat.lt_of_lt_of_le hi h.size) hn).trans (h.block i hi hn)⟩
theorem Just.set {g:Nat} {a b:World} (h:Just g a b) (i:Nat) (v:Value):Just g a (b.setCell ⟨g,i,none⟩ v) :=
 ⟨h.os,h.tape,h.output,by simpa [World.setCell] using h.size,fun j hj hn=>(Below.heap_setCell _ _ _ _ (by exact hn)).trans (h.block j hj hn)⟩
theorem Just.drewN {g:Nat} {a b:World} (h:Just g a b) (n:Nat):Just g a (b.drewN n):=⟨h.os,h.tape,h.output,h.size,h.block⟩
theorem Just.cell {g:Nat} {w w':World} (h:Just g w w') {p:Addr} (hp:p.block<w.heap.size) (hn:p.block≠g):w'.cell? p=w.cell? p:=World.cell?_of_block (h.block _ hp hn)
theorem Just.below {g B:Nat} {w w':World} (h:Just g w w') (hB:B≤g) (hw:B≤w.heap.size):Below B w w':=⟨h.os,h.tape,h.output,h.size,fun b hb=>h.block b (Nat.lt_of_lt_of_le hb hw) (by omega)⟩
theorem RN.just {w w':World} {g:Nat} {P:Nat→Prop} {A:Option Addr} {c:Nat} {l:List Nat} (h:RN w P A c l) (hj:Just g w w') (hP:∀ b,P b→b<w.heap.size∧b≠g):RN w' P A c l :=
 h.keep fun _ hp=>hj.cell (hP _ hp).1 (hP _ hp).2
theorem setRow_below {B g:Nat} {w w':World} (h:Below B w w') (hg:B≤g) (v:Array Value):Below B w (w'.setRow g v) :=
  ⟨h.os, h.tape, h.output, by have : (w'.setRow g v).heap.size = w'.heap.size := by simp [World.setRow]
                              rw [this];exact h.size,fun k hk=>by
    have:(w'.setRow g v).heap[k]?=w'.heap[k]?:=by simp [World.setRow,Array.getElem?_modify,show ¬ g=k by omega]
    exact this.trans (h.block k hk)⟩
def offM (v M:Nat):Nat:=if v<M then v else v - M
structure MontAt (B M:Nat) (a b t:List Nat) (i n:Nat):Prop where
 len:t.length=n+2
 top:dg t (n+1)=0
 bound:val B t<M+val B b
 cong:∃ k,val B t*B ^ i=val B (a.take i)*val B b+k*M
theorem MontAt.zero {B M:Nat} (a b:List Nat) (n:Nat) (hM:0<M):MontAt B M a b (List.replicate (n+2) 0) 0 n :=
 ⟨by simp,by rw [dg,List.getD_eq_getElem?_getD,List.getElem?_replicate];split <;> rfl,by rw [val_replicate];omega,0,by simp [val_replicate]⟩
theorem dg_zero_mod {B:Nat} {t:List Nat} (ht:∀ x∈t,x<B) (_hB:0<B):val B t % B=dg t 0:=by
 cases t with
 | nil=>simp [dg]
 | cons x l=>rw [val_cons,Nat.add_mul_mod_self_left,Nat.mod_eq_of_lt (ht x (by simp))];rfl
/-! What a round does to the numbers. -/
theorem mont_low {B M inv d q v:Nat} (hi:(inv*M+1) % B=0) (hv:v % B=d) (hq:q=d*inv % B):(v+q*M) % B=0:=by
 have h1:(v+q*M) % B=(d*(inv*M+1)) % B:=by
  subst hq hv
  rw [Nat.mul_add,Nat.mul_one,Nat.add_mod,Nat.mod_mul_mod,←Nat.mul_assoc,Nat.add_comm (v % B*inv*M),Nat.add_mod_mod]
 rw [h1,Nat.mul_mod,hi]
 simp
theorem mont_eq {M t0 ai b q t2 Bi A A' k:Nat} (h2:t2=t0+ai*b+q*M) (hk:t0*Bi=A*b+k*M) (hA:A'=A+Bi*ai):t2*Bi=A'*b+(k+q*Bi)*M:=by
 subst h2 hA
 rw [Nat.add_mul,Nat.add_mul,hk,Nat.add_mul,Nat.add_mul]
 have e1:ai*b*Bi=Bi*ai*b:=by rw [Nat.mul_comm Bi ai,Nat.mul_assoc,Nat.mul_assoc,Nat.mul_comm b Bi]
 have e2:q*M*Bi=q*Bi*M:=by rw [Nat.mul_assoc,Nat.mul_assoc,Nat.mul_comm M Bi]
 omega
theorem mont_bound {B M t0 ai b q t2 t4:Nat} (hB:0<B) (h2:t2=t0+ai*b+q*M) (hb:t0<M+b) (ha:ai<B) (hq:q<B) (h4:t2=B*t4):t4<M+b:=by
 have e1:ai*b≤(B - 1)*b:=Nat.mul_le_mul_right _ (by omega)
 have e2:q*M≤(B - 1)*M:=Nat.mul_le_mul_right _ (by omega)
 have e3:(B - 1)*b+b=B*b:=by rw [←Nat.succ_mul,Nat.succ_eq_add_one,Nat.sub_add_cancel hB]
 have e4:(B - 1)*M+M=B*M:=by rw [←Nat.succ_mul,Nat.succ_eq_add_one,Nat.sub_add_cancel hB]
 have e5:B*t4<B*(M+b):=by rw [Nat.mul_add,←h4];omega
 exact Nat.lt_of_mul_lt_mul_left e5
theorem MontAt.step {B M inv n i q:Nat} {a b t t2:List Nat} (hB:2≤B) (h:MontAt B M a b t i n) (ha:dg a i<B) (hi:(inv*M+1) % B=0) (hl2:t2.length=n+2) (hlim:∀ x∈t2,x<B)
 (hq:q=(val B t+dg a i*val B b) % B*inv % B) (hv2:val B t2=val B t+dg a i*val B b+q*M):MontAt B M a b (t2.drop 1++[0]) (i+1) n:=by
 have h0:val B t2 % B=0:=by rw [hv2];exact mont_low hi rfl hq
 have hq':q<B:=by rw [hq];exact Nat.mod_lt _ (by omega)
 obtain ⟨x,l,rfl⟩:∃ x l,t2=x :: l:=by
  cases t2 with
  | nil=>simp at hl2
  | cons x l=>exact ⟨x,l,rfl⟩
 rw [dg_zero_mod hlim (by omega)] at h0
 have hx:x=0:=h0
 subst hx
 have hlen:l.length=n+1:=by simpa using hl2
 have e4:val B (0 :: l)=B*val B l:=by rw [val_cons];omega
 have e5:val B ((0 :: l).drop 1++[0])=val B l:=by simp [val_append]
 obtain ⟨k,hk⟩:=h.cong
 refine ⟨by simp [hlen],?_,?_,k+q*B ^ i,?_⟩
 · simp [dg,List.getD_eq_getElem?_getD,hlen]
 · rw [e5]
   exact mont_bound (by omega) hv2 h.bound ha hq' e4
 · rw [e5,Nat.pow_succ,show val B l*(B ^ i*B)=(B*val B l)*B ^ i by rw [Nat.mul_comm (B ^ i),←Nat.mul_assoc,Nat.mul_comm (val B l)],←e4]
   exact mont_eq hv2 hk (val_take_getD B a i)
theorem offM_lt {v M:Nat} (h:v<2*M):offM v M<M:=by rw [offM];split <;> omega
theorem offM_mod {v M R x k:Nat} (h:v*R=x+k*M):offM v M*R % M=x % M:=by
 have h1:v*R % M=x % M:=by rw [h,Nat.add_mul_mod_self_right]
 rw [offM]
 split
 · exact h1
 · rename_i hge
   rw [←h1]
   have:v*R=(v - M)*R+R*M:=by rw [Nat.mul_comm R M,←Nat.add_mul,Nat.sub_add_cancel (by omega)]
   rw [this,Nat.add_mul_mod_self_right]
theorem wrap_mul (x y:Nat):IntKind.u64.wrap ((x:Int)*(y:Int))=((x*y % 18446744073709551616:Nat):Int):=by
 rw [IntKind.wrap_u64,←Int.natCast_mul]
 omega
theorem cancelR {B M inv n a b:Nat} (hi:(inv*M+1) % B=0) (h:a*B ^ n % M=b*B ^ n % M):a % M=b % M:=by
  obtain ⟨u,hu⟩:∃ u,inv*M+1=B*u:=⟨(inv*M+1) / B,by have:=Nat.div_add_mod (inv*M+1) B;omega⟩
  have h1:∀ x,x*(B*u) % M=x % M:=fun x=>by rw [←hu,Nat.mul_add,Nat.mul_one,←Nat.mul_assoc,Nat.add_comm,Nat.add_mul_mod_self_right]
  have h2:∀ k x,x*B ^ k*u ^ k % M=x % M:=by
    intro k
    induction k with
    | zero=>intro x;simp
    | succ k ih =>
      intro x
      have e:x*B ^ (k+1)*u ^ (k+1)=(x*(B*u))*B ^ k*u ^ k:=by
        rw [Nat.pow_succ,Nat.pow_succ]
        simp only [Nat.mul_assoc,Nat.mul_comm,Nat.mul_left_comm]
      rw [e,ih,h1]
  rw [←h2 n a,←h2 n b,Nat.mul_mod,h,←Nat.mul_mod]
theorem newton {m y y' t z:Int} {k j:Nat} (hy:m*y=1+2 ^ k*t) (h':y'=y*(2 - m*y)+18446744073709551616*z) (hj:k+k+j=64):∃ s,m*y'=1+2 ^ (k+k)*s:=by
 refine ⟨-(t*t)+m*2 ^ j*z,?_⟩
 have e1:m*y'=m*y*(2 - m*y)+m*18446744073709551616*z:=by rw [h',Int.mul_add,←Int.mul_assoc,←Int.mul_assoc]
 have e2:(18446744073709551616:Int)=2 ^ (k+k)*2 ^ j:=by rw [←Int.pow_add,hj];rfl
 rw [e1,hy,e2,Int.pow_add]
 generalize (2:Int) ^ k=p
 generalize (2:Int) ^ j=r
 grind
theorem newton_wrap {m y:Int} : ∃ z,(y*((2 - m*y % 18446744073709551616) % 18446744073709551616)) % 18446744073709551616=y*(2 - m*y)+18446744073709551616*z:=by
 have e1:=Int.mul_ediv_add_emod (m*y) 18446744073709551616
 have e2:=Int.mul_ediv_add_emod (2 - m*y % 18446744073709551616) 18446744073709551616
 have e3:=Int.mul_ediv_add_emod (y*((2 - m*y % 18446744073709551616) % 18446744073709551616)) 18446744073709551616
 generalize (2 - m*y % 18446744073709551616) / 18446744073709551616=d2 at *
 generalize (y*((2 - m*y % 18446744073709551616) % 18446744073709551616)) / 18446744073709551616=d3 at *
 generalize (y*((2 - m*y % 18446744073709551616) % 18446744073709551616)) % 18446744073709551616=r3 at *
 generalize (2 - m*y % 18446744073709551616) % 18446744073709551616=r2 at *
 generalize (m*y) / 18446744073709551616=d1 at *
 generalize (m*y) % 18446744073709551616=r1 at *
 refine ⟨y*d1 - y*d2 - d3,?_⟩
 grind
theorem neg_inv {m0 M:Nat} {y:Int} {t:Int} (hm:M % 18446744073709551616=m0) (h:(m0:Int)*y=1+18446744073709551616*t):((((-y) % 18446744073709551616).toNat)*M+1) % 18446744073709551616=0:=by
 have e1:=Int.mul_ediv_add_emod (-y) 18446744073709551616
 have h0:0≤(-y) % 18446744073709551616:=Int.emod_nonneg _ (by decide)
 obtain ⟨v,hv⟩:∃ v:Nat,(-y) % 18446744073709551616=(v:Int):=⟨_,(Int.toNat_of_nonneg h0).symm⟩
 rw [hv] at e1 ⊢
 rw [Int.toNat_natCast]
 obtain ⟨q,hq⟩:∃ q,M=m0+18446744073709551616*q:=⟨M / 18446744073709551616,by omega⟩
 have e2:((v*M+1:Nat):Int)=18446744073709551616*((v:Int)*q - t - (m0:Int)*((-y) / 18446744073709551616)):=by
  rw [hq]
  simp only [Int.natCast_add,Int.natCast_mul,Int.cast_ofNat_Int]
  generalize (-y) / 18446744073709551616=d at *
  grind
 omega
def nl (M:Nat):Nat:=(digs 18446744073709551616 M).length
def RM (M:Nat):Nat:=18446744073709551616 ^ nl M
theorem val_pad (B:Nat) (a:List Nat) (k:Nat):val B (a++List.replicate k 0)=val B a:=by rw [val_append,val_replicate,Nat.mul_zero,Nat.add_zero]
theorem blk_set {w:World} {g:Nat} {t:TypeId} {cs:Array Value} (h:w.heap[g]?=some (.cells cs t (0,0))) (i:Nat) (u:Value):(w.setCell ⟨g,i,none⟩ u).heap[g]?=some (.cells (cs.setIfInBounds i u) t (0,0)):=by
 simp [World.setCell,Array.getElem?_modify,h]
theorem Ext.drewN (w:World) (n:Nat):Ext w (w.drewN n):=below_drewN (Below.refl _ w) n
theorem wp_storeV {op:Oper} {a:Act} {X:World} {K:Act→World→Prop} {Q:Exit→Act→World→Prop} (ty:TypeId) (x y:Operand) (ho:op.op=.store ty x y) (hd:op.dst=none) {b:Nat} {cs cs':Array Value} {t:TypeId}
 (hx:a.eval x=.pointer (some ⟨b,0,none⟩)) (hy:a.eval y=.agg cs') (hg:X.heap[b]?=some (.cells cs t (0,0))) (hi:(Tryz.prog.info? ty).map (·.size)=some cs'.size) (hold:cs.size=cs'.size) (h1:cs'.all (·.oneCell')=true)
 (hK:∀ Y,Y.heap[b]?=some (.cells cs' t (0,0))→Just b X Y→Y.heap.size=X.heap.size→K a Y):op.wp Tryz.prog a X K Q:=by
 refine wp_store_row ty x y ho b cs' hx hy t cs hg hi hold h1 ?_
 rw [hd]
 exact hK _ (Go.setRow_heap X b cs cs' t _ hg) ⟨rfl,rfl,rfl,by simp [World.setRow],fun k _ hk=>Go.setRow_other X b k cs' hk⟩ (by simp [World.setRow])
theorem wp_loadV {op:Oper} {a:Act} {X:World} {K:Act→World→Prop} {Q:Exit→Act→World→Prop} (ty:TypeId) (x:Operand) (ho:op.op=.load ty x) {b:Nat} {cs:Array Value} {t:TypeId} {d:TypeDesc} (hx:a.eval x=.pointer (some ⟨b,0,none⟩)) (hg:X.heap[b]?=some (.cells cs t (0,0)))
 (hu:Tryz.prog.underlying ty=some d) (hd:d.isRow=true) (hi:(Tryz.prog.info? ty).map (·.size)=some cs.size) {v:Value} (hv:v=.agg cs) (hK:K (a.put op.dst v) X):op.wp Tryz.prog a X K Q :=
 wp_load_row ty x ho b hx t cs (0,0) d hg hu (by cases d <;> first | rfl | exact hd) hi (by rw [←hv];exact hK)
theorem Just.ext {b:Nat} {w X Y:World} (h:Just b X Y) (hE:Ext w X) (hb:w.heap.size≤b):Ext w Y:=Below.trans hE (h.below hb hE.bsize)
theorem Just.at_ {b c:Nat} {X Y:World} {o:Obj} (h:Just b X Y) (hc:c≠b) (hx:X.heap[c]?=some o):Y.heap[c]?=some o:=(h.block c (blk_lt hx) hc).trans hx
section
variable {Q:Exit→Act→World→Prop} {ol:List Oper} {m:Nat} {L AL:List Nat} {R:Nat→(Nat→Value)→World→Prop} {a:Act} {w:World} {F:List Oper→Prop} {k n:Nat} {o:Oper} {l:List Oper} {u:Value}
end
def EV (l:List Nat):Value:=.agg (nts l).toArray
theorem six {l:List Nat} (h:l.length=6):∃ a b c d e f,l=[a,b,c,d,e,f]:=by
 match l,h with
 | [a,b,c,d,e,f],_=>exact ⟨a,b,c,d,e,f,rfl⟩
theorem eql_zero (a b c d e f:Nat) (w:World):(Op.equalIn 10000 160 (.agg #[.int .u64 (a:Int),.int .u64 (b:Int),.int .u64 (c:Int),.int .u64 (d:Int),.int .u64 (e:Int),.int .u64 (f:Int)]) (.agg #[.int .u64 0,.int .u64 0,.int .u64 0,.int .u64 0,.int .u64 0,.int .u64 0])).run Tryz.prog w =
 .ok (decide ([a,b,c,d,e,f]=[0,0,0,0,0,0])) w:=by
 obtain ⟨i0,hi,hz0,hz1,hz2⟩:=info_parts info64
 have hc:Tryz.prog.cellsOf 139=1:=by kernel_rfl
 rw [show (10000:Nat)=9999+1 by rfl,run_equalIn_array _ _ _ _ Tryz.underlying160 hi,hc]
 rw [show List.range 6=[0,1,2,3,4,5] by rfl]
 have he:∀ x y:Int,(Op.equalIn 9999 139 (.int .u64 x) (.int .u64 y)).run Tryz.prog w=.ok (x==y) w:=fun x y=>run_equalIn_int w 9998 _ .u64 .u64 x y Tryz.underlying139
 have hp:∀ (xs:Array Value) (j:Nat) (x:Value),xs[j]?=some x→(part 139 xs j).run Tryz.prog w=.ok x w:=fun xs j x h=>by
  simp [part,h,go_sem]
 have hs:∀ (xs ys:Array Value) (j:Nat) (x y:Int) (is:List Nat),xs[j]?=some (.int .u64 x)→ys[j]?=some (.int .u64 y) →
  (Op.eqItems 9999 139 1 xs ys (j :: is)).run Tryz.prog w=if x=y then (Op.eqItems 9999 139 1 xs ys is).run Tryz.prog w else .ok false w:=by
  intro xs ys j x y is h1 h2
  have p1:=hp xs j _ h1
  have p2:=hp ys j _ h2
  simp only [Op.eqItems,Sem.run_bind,Nat.mul_one,p1,p2,he,Result.andThen_ok]
  by_cases hxy:x=y
  · simp [hxy]
  · simp [hxy]
 rw [hs _ _ 0 a 0 _ rfl rfl,hs _ _ 1 b 0 _ rfl rfl,hs _ _ 2 c 0 _ rfl rfl,hs _ _ 3 d 0 _ rfl rfl,hs _ _ 4 e 0 _ rfl rfl,hs _ _ 5 f 0 _ rfl rfl]
 have hn:(Op.eqItems 9999 139 1 #[.int .u64 (a:Int),.int .u64 (b:Int),.int .u64 (c:Int),.int .u64 (d:Int),.int .u64 (e:Int),.int .u64 (f:Int)] #[.int .u64 0,.int .u64 0,.int .u64 0,.int .u64 0,.int .u64 0,.int .u64 0] []).run Tryz.prog w=.ok true w:=by simp [Op.eqItems]
 rw [hn]
 have hd:decide ([a,b,c,d,e,f]=[0,0,0,0,0,0])=decide ((a:Int)=0∧(b:Int)=0∧(c:Int)=0∧(d:Int)=0∧(e:Int)=0∧(f:Int)=0):=by
  rw [decide_eq_decide];simp
 rw [hd]
 by_cases h1:(a:Int)=0 <;> by_cases h2:(b:Int)=0 <;> by_cases h3:(c:Int)=0 <;> by_cases h4:(d:Int)=0 <;> by_cases h5:(e:Int)=0 <;> by_cases h6:(f:Int)=0 <;> simp only [h1,h2,h3,h4,h5,h6,if_true,if_false,and_self,and_true,and_false,decide_true,decide_false]
theorem zero_any (l:List Nat) (w:World) (hl:l.length=6):Calls Tryz.prog 177 #[EV l] w fun e w'=>e=.returned (.bool (decide (l=[0,0,0,0,0,0])))∧Below w.heap.size w w':=by
 obtain ⟨a,b,c,d,e,f,rfl⟩:=six hl
 simp only [EV,nts,List.map_cons,List.map_nil]
 have heq:=eql_zero a b c d e f
 generalize decide ([a,b,c,d,e,f]=[0,0,0,0,0,0])=r at *
 go_enter Tryz.func177,Tryz.ntmps177
 go_wp2
 go_ret
 exact ⟨rfl,(Below.refl _ w).alloc (Nat.le_refl _) _⟩
def MontT (B M:Nat) (a b:List Nat) (T i:Nat):Prop:=T<M+val B b∧∃ k,T*B ^ i=val B (a.take i)*val B b+k*M
theorem MontT.zero {B M:Nat} (a b:List Nat) (hM:0<M):MontT B M a b 0 0:=⟨by omega,0,by simp⟩
theorem MontT.step {B M inv i q T T2 T4:Nat} {a b:List Nat} (hB:2≤B) (h:MontT B M a b T i) (ha:dg a i<B) (hq:q=(T+dg a i*val B b) % B*inv % B) (h2:T2=T+dg a i*val B b+q*M) (h4:T2=B*T4):MontT B M a b T4 (i+1):=by
 have hq':q<B:=by rw [hq];exact Nat.mod_lt _ (by omega)
 obtain ⟨hb,k,hk⟩:=h
 refine ⟨mont_bound (by omega) h2 hb ha hq' h4,k+q*B ^ i,?_⟩
 rw [Nat.pow_succ,show T4*(B ^ i*B)=(B*T4)*B ^ i by rw [Nat.mul_comm (B ^ i),←Nat.mul_assoc,Nat.mul_comm T4],←h4]
 exact mont_eq h2 hk (val_take_getD B a i)
def FirstAt (B:Nat) (t b o:List Nat) (f j c:Nat):Prop:=o.length=t.length∧(∀ p,j≤p→dg o p=dg t p)∧val B (o.take j)+B ^ j*c=val B (t.take j)+f*val B (b.take j)
theorem FirstAt.zero (B:Nat) (t b:List Nat) (f:Nat):FirstAt B t b t f 0 0:=⟨rfl,fun _ _=>rfl,by simp⟩
theorem FirstAt.step {B f j c s c':Nat} {t b o:List Nat} (h:FirstAt B t b o f j c) (hj:j<t.length) (he:s+B*c'=dg o j+f*dg b j+c):FirstAt B t b (o.set j s) f (j+1) c':=by
 obtain ⟨h1,h2,h3⟩:=h
 refine ⟨by simpa using h1,fun p hp=>by rw [getD_set_ne (by omega)];exact h2 p (by omega),?_⟩
 rw [val_take_set B (by omega),val_take_getD,val_take_getD,Nat.pow_succ,Nat.mul_assoc]
 have e:=congrArg (fun z=>B ^ j*z) he
 simp only [Nat.mul_add] at e
 rw [h2 j (Nat.le_refl _)] at e
 have e2:B ^ j*(f*dg b j)=f*(B ^ j*dg b j):=Nat.mul_left_comm _ _ _
 rw [Nat.mul_add f]
 omega
theorem FirstAt.fin {B f n c s c':Nat} {t b o:List Nat} (h:FirstAt B t b o f n c) (hn:n+2≤t.length) (hb:b.take n=b∨val B (b.take n)=val B b) (he:s+B*c'=dg o n+c) :
    ((o.set n s).set (n+1) c').length=t.length∧val B (((o.set n s).set (n+1) c').take (n+2))=val B (t.take (n+1))+f*val B b:=by
  obtain ⟨h1,h2,h3⟩:=h
  have hb' : val B (b.take n) = val B b := by rcases hb with h | h; · rw [h]
                                              · exact h
  refine ⟨by simpa using h1,?_⟩
  rw [val_take_set B (by simp;omega),val_take_set B (by omega),val_take_getD B t n,Nat.pow_succ]
  have e:=congrArg (fun z=>B ^ n*z) he
  simp only [Nat.mul_add] at e
  rw [h2 n (Nat.le_refl _),←Nat.mul_assoc] at e
  rw [hb'] at h3
  omega
def ShiftAt (B:Nat) (t m o:List Nat) (u k c:Nat):Prop:=o.length=t.length∧(∀ p,k≤p→dg o p=dg t p)∧B*val B (o.take k)+B ^ (k+1)*c=val B (t.take (k+1))+u*val B (m.take (k+1))
theorem ShiftAt.zero {B u c:Nat} {t m:List Nat} (he:B*c=dg t 0+u*dg m 0):ShiftAt B t m t u 0 c:=by
 refine ⟨rfl,fun _ _=>rfl,?_⟩
 rw [val_take_getD,val_take_getD]
 simp
 exact he
theorem ShiftAt.step {B u k c s c':Nat} {t m o:List Nat} (h:ShiftAt B t m o u k c) (hk:k<t.length) (he:s+B*c'=dg o (k+1)+u*dg m (k+1)+c):ShiftAt B t m (o.set k s) u (k+1) c':=by
 obtain ⟨h1,h2,h3⟩:=h
 refine ⟨by simpa using h1,fun p hp=>by rw [getD_set_ne (by omega)];exact h2 p (by omega),?_⟩
 rw [val_take_set B (by omega),val_take_getD B t (k+1),val_take_getD B m (k+1)]
 have e:=congrArg (fun z=>B ^ (k+1)*z) he
 simp only [Nat.mul_add] at e
 rw [h2 (k+1) (by omega)] at e
 have e2:B ^ (k+1)*(u*dg m (k+1))=u*(B ^ (k+1)*dg m (k+1)):=Nat.mul_left_comm _ _ _
 have e3:B ^ (k+1)*(B*c')=B ^ (k+1+1)*c':=by rw [←Nat.mul_assoc,←Nat.pow_succ]
 have e4:B*(B ^ k*s)=B ^ (k+1)*s:=by rw [←Nat.mul_assoc,Nat.mul_comm B,←Nat.pow_succ]
 rw [Nat.mul_add B,Nat.mul_add u,e4]
 omega
theorem ShiftAt.fin {B u k c s c':Nat} {t m o:List Nat} (h:ShiftAt B t m o u k c) (hn:k+3≤t.length) (hm:val B (m.take (k+1))=val B m) (he:s+B*c'=dg o (k+1)+c) :
 ((o.set k s).set (k+1) (dg o (k+2)+c')).length=t.length∧B*val B (((o.set k s).set (k+1) (dg o (k+2)+c')).take (k+2))=val B (t.take (k+3))+u*val B m:=by
 obtain ⟨h1,h2,h3⟩:=h
 refine ⟨by simpa using h1,?_⟩
 rw [val_take_set B (by simp;omega),val_take_set B (by omega),val_take_getD B t (k+2),val_take_getD B t (k+1),h2 (k+2) (by omega)]
 have e:=congrArg (fun z=>B ^ (k+1)*z) he
 simp only [Nat.mul_add] at e
 rw [h2 (k+1) (by omega)] at e
 rw [hm] at h3
 have e3:B ^ (k+1)*(B*c')=B ^ (k+2)*c':=by rw [←Nat.mul_assoc,←Nat.pow_succ]
 have e4:B*(B ^ k*s)=B ^ (k+1)*s:=by rw [←Nat.mul_assoc,Nat.mul_comm B,←Nat.pow_succ]
 have e5:B*(B ^ (k+1)*(dg t (k+2)+c'))=B ^ (k+2)*dg t (k+2)+B ^ (k+2)*c':=by rw [←Nat.mul_assoc,Nat.mul_comm B,←Nat.pow_succ,Nat.mul_add]
 rw [Nat.mul_add B,Nat.mul_add B,e4,e5]
 omega
def fcells (n inv:Nat) (ml ol rl:List Nat):List Value:=.int .i64 (n:Int) :: (nts ml++.int .u64 (inv:Int) :: (nts ol++nts rl))
structure Fld (w:World) (g n inv:Nat) (ml ol rl:List Nat):Prop where
 blk:w.heap[g]?=some (.cells (fcells n inv ml ol rl).toArray 231 (0,0))
 m6:ml.length=6
 o6:ol.length=6
 r6:rl.length=6
variable {w w':World} {g n inv:Nat} {ml ol rl:List Nat}
theorem Fld.below {B:Nat} (h:Fld w g n inv ml ol rl) (hb:Below B w w') (hg:g<B):Fld w' g n inv ml ol rl:=⟨(hb.block g hg).trans h.blk,h.m6,h.o6,h.r6⟩
theorem Fld.lt (h:Fld w g n inv ml ol rl):g<w.heap.size:=blk_lt h.blk
theorem Fld.n0 (h:Fld w g n inv ml ol rl):w.cell? ⟨g,0,none⟩=some (.int .i64 (n:Int)):=by
 rw [blk_cell h.blk 0];rfl
theorem Fld.inv_ (h:Fld w g n inv ml ol rl):w.cell? ⟨g,7,none⟩=some (.int .u64 (inv:Int)):=by
 rw [blk_cell h.blk 7]
 obtain ⟨a,b,c,d,e,f,rfl⟩:=six h.m6
 rfl
theorem Fld.m_ (h:Fld w g n inv ml ol rl) {j:Nat} (hj:j<6):w.cell? ⟨g,1+j,none⟩=some (.int .u64 (dg ml j:Int)):=by
 rw [blk_cell h.blk (1+j)]
 obtain ⟨a,b,c,d,e,f,rfl⟩:=six h.m6
 match j,hj with
 | 0,_ | 1,_ | 2,_ | 3,_ | 4,_ | 5,_=>rfl
def ARow (w:World) (g:Nat) (ty:TypeId) (l:List Nat):Prop:=w.heap[g]?=some (.cells (nts l).toArray ty (0,0))
theorem ARow.cell {ty:TypeId} {l:List Nat} (h:ARow w g ty l) {i:Nat} (hi:i<l.length):w.cell? ⟨g,i,none⟩=some (.int .u64 (dg l i:Int)):=by
 rw [blk_cell h i,List.getElem?_toArray,nts_get hi]
theorem ARow.free {ty:TypeId} {l:List Nat} (h:ARow w g ty l) (i:Nat):w.frozen? ⟨g,i,none⟩=false:=blk_free h i
theorem ARow.set {ty:TypeId} {l:List Nat} (h:ARow w g ty l) (i x:Nat):ARow (w.setCell ⟨g,i,none⟩ (.int .u64 (x:Int))) g ty (l.set i x):=by
 have:=blk_set h i (.int .u64 (x:Int))
 rw [ARow,this]
 simp [nts,List.map_set]
theorem ARow.below {ty:TypeId} {l:List Nat} {B:Nat} (h:ARow w g ty l) (hb:Below B w w') (hg:g<B):ARow w' g ty l:=(hb.block g hg).trans h
theorem ARow.lt {ty:TypeId} {l:List Nat} (h:ARow w g ty l):g<w.heap.size:=blk_lt h
theorem cells6 {w:World} {g:Nat} {ty:TypeId} {a b c d e f:Value} (h:w.heap[g]?=some (.cells #[a,b,c,d,e,f] ty (0,0))) :
 w.cell? ⟨g,0,none⟩=some a∧w.cell? ⟨g,1,none⟩=some b∧w.cell? ⟨g,2,none⟩=some c∧w.cell? ⟨g,3,none⟩=some d∧w.cell? ⟨g,4,none⟩=some e∧w.cell? ⟨g,5,none⟩=some f :=
 ⟨blk_cell h 0,blk_cell h 1,blk_cell h 2,blk_cell h 3,blk_cell h 4,blk_cell h 5⟩
theorem six_set {w:World} {g:Nat} {ty:TypeId} {x0 x1 x2 x3 x4 x5:Value} (h:w.heap[g]?=some (.cells #[x0,x1,x2,x3,x4,x5] ty (0,0))) (a b c d e f:Value) :
 ((((((w.setCell ⟨g,0,none⟩ a).setCell ⟨g,1,none⟩ b).setCell ⟨g,2,none⟩ c).setCell ⟨g,3,none⟩ d).setCell ⟨g,4,none⟩ e).setCell ⟨g,5,none⟩ f).heap[g]?=some (.cells #[a,b,c,d,e,f] ty (0,0)):=by
 have h1:=blk_set (blk_set (blk_set (blk_set (blk_set (blk_set h 0 a) 1 b) 2 c) 3 d) 4 e) 5 f
 rw [h1]
 rfl
theorem six_below {B g:Nat} {w0 w:World} (h:Below B w0 w) (hg:B≤g) (a b c d e f:Value):Below B w0 ((((((w.setCell ⟨g,0,none⟩ a).setCell ⟨g,1,none⟩ b).setCell ⟨g,2,none⟩ c).setCell ⟨g,3,none⟩ d).setCell ⟨g,4,none⟩ e).setCell ⟨g,5,none⟩ f) :=
 (((((h.setCell (p:=⟨g,0,none⟩) hg a).setCell (p:=⟨g,1,none⟩) hg b).setCell (p:=⟨g,2,none⟩) hg c).setCell (p:=⟨g,3,none⟩) hg d).setCell (p:=⟨g,4,none⟩) hg e).setCell (p:=⟨g,5,none⟩) hg f
theorem end6 {fn:Func} {R:Ending→World→Prop} {a:Act} {W:World} {p:Tmp} {g:Nat} {ty:TypeId} {fr:Nat×Nat} {x0 x1 x2 x3 x4 x5:Value} (hr:fn.results=#[.cell p 160]) (hp:a.tmps.getD p undef=.pointer (some ⟨g,0,none⟩)) (hd:a.defers=[])
 (hg:W.heap[g]?=some (.cells #[x0,x1,x2,x3,x4,x5] ty fr)) (hR:R (.returned (.agg #[x0,x1,x2,x3,x4,x5])) W):bodyPost Tryz.prog fn R .ret a W :=
 bodyPost_ret (results_cell_row hr a.tmps W g _ _ _ (.array 6 139) hp hg Tryz.underlying160 rfl (by kernel_rfl)) hd hR
theorem copy_arow (w:World) (g gt n c c':Nat) (ty ty':TypeId) (u src:List Nat) (hu:ARow w g ty u) (hs:ARow w gt ty' src) (hn:n≤src.length) (hn':n≤u.length) (_hpos:0<n) :
 (Builtin.copy_ #[89,89] 3 #[.slice (some ⟨g,0,none⟩) n c,.slice (some ⟨gt,0,none⟩) n c']).run Tryz.prog w=.ok (goInt n) (w.setRow g (nts (src.take n++u.drop n)).toArray):=by
 have hl:(nts (src.take n)).length=n:=by rw [nts_length,List.length_take];omega
 have h:=run_copy_row (P:=Tryz.prog) w 89 89 3 139 g 0 n c ⟨gt,0,none⟩ n c' (nts u).toArray ty (nts (src.take n)) Tryz.underlying89 info64size hu
  (by rw [hl]; simp) (fun j v hj => by
   have hj':j<n:=by have:=(List.getElem?_eq_some_iff.1 hj).1;omega
   rw [add_blk,blk_cell hs j,List.getElem?_toArray]
   rw [nts,List.getElem?_map,List.getElem?_take,if_pos hj'] at hj
   rw [nts,List.getElem?_map]
   exact hj) (by rw [hl];simp [nts];omega) (oneCell_nts _)
 rw [hl] at h
 rw [h]
 simp [nts,List.map_drop]
theorem val_take_lt {B:Nat} {l:List Nat} (h:∀ x∈l,x<B) (k:Nat) (hB:0<B:=by omega):val B (l.take k)<B ^ k:=by
 have h1:=val_lt (B:=B) (l:=l.take k) fun x hx=>h x (List.mem_of_mem_take hx)
 exact Nat.lt_of_lt_of_le h1 (Nat.pow_le_pow_right hB (by rw [List.length_take];omega))
theorem val_take_zeros {B k:Nat} {l:List Nat} (h:∀ p,k≤p→dg l p=0):val B (l.take k)=val B l:=by
 rcases Nat.lt_or_ge k l.length with h1 | h1
 · rw [val_take_drop B l (n:=k) (by omega),val_zeros (l:=l.drop k) ?_,Nat.mul_zero,Nat.add_zero]
   intro x hx
   obtain ⟨j,hj,rfl⟩:=List.mem_iff_getElem.1 hx
   have h2:=h (k+j) (by omega)
   rw [List.length_drop] at hj
   rw [List.getElem_drop]
   rwa [dg,getD_eq' (by omega)] at h2
 · rw [List.take_of_length_le h1]
theorem zbelow_any (gt over:Nat) (t:List Nat) (w:World) (hF:Fld w g n inv ml ol rl) (hml:∀ x∈ml,x<18446744073709551616) (hT:ARow w gt 232 t) (_hgt:gt≠g) (ht8:t.length=8) (ht:∀ x∈t,x<18446744073709551616) (hn:n≤6) (hn1:0<n)
 (hmv:val 18446744073709551616 (ml.take n)=val 18446744073709551616 ml) (ho:over<18446744073709551616) (hv:val 18446744073709551616 (t.take n)+18446744073709551616 ^ n*over<2*val 18446744073709551616 ml) :
 Calls Tryz.prog 213 #[.pointer (some ⟨g,0,none⟩),.pointer (some ⟨gt,0,none⟩),.int .u64 (over:Int)] w fun e w'=>∃ o,e=.returned (EV o)∧o.length=6∧(∀ x∈o,x<18446744073709551616) ∧
  val 18446744073709551616 o=offM (val 18446744073709551616 (t.take n)+18446744073709551616 ^ n*over) (val 18446744073709551616 ml)∧Below w.heap.size w w':=by
 have h0:=hF.n0
 have hg:=hF.lt
 have hgtl:=hT.lt
 have hB0:Below w.heap.size w ((w.alloc (.cells #[.int .u64 0,.int .u64 0,.int .u64 0,.int .u64 0,.int .u64 0,.int .u64 0] 160)).alloc (.cells #[.int .u64 0,.int .u64 0,.int .u64 0,.int .u64 0,.int .u64 0,.int .u64 0] 160)):=((Below.refl _ w).alloc (Nat.le_refl _) _).alloc (by simp) _
 have hr0:ARow ((w.alloc (.cells #[.int .u64 0,.int .u64 0,.int .u64 0,.int .u64 0,.int .u64 0,.int .u64 0] 160)).alloc (.cells #[.int .u64 0,.int .u64 0,.int .u64 0,.int .u64 0,.int .u64 0,.int .u64 0] 160)) (w.heap.size+1) 160 [0,0,0,0,0,0]:=by
  have:=heap_alloc_new (w.alloc (.cells #[.int .u64 0,.int .u64 0,.int .u64 0,.int .u64 0,.int .u64 0,.int .u64 0] 160)) (.cells #[.int .u64 0,.int .u64 0,.int .u64 0,.int .u64 0,.int .u64 0,.int .u64 0] 160)
  rw [World.size_alloc] at this
  exact this
 have hres:((w.alloc (.cells #[.int .u64 0,.int .u64 0,.int .u64 0,.int .u64 0,.int .u64 0,.int .u64 0] 160)).alloc (.cells #[.int .u64 0,.int .u64 0,.int .u64 0,.int .u64 0,.int .u64 0,.int .u64 0] 160)).heap[w.heap.size]?=some (.cells #[.int .u64 0,.int .u64 0,.int .u64 0,.int .u64 0,.int .u64 0,.int .u64 0] 160 (0,0)):=(Below.heap_alloc _ _ _ (by simp)).trans (heap_alloc_new w _)
 go_enter Tryz.func213,Tryz.ntmps213
 go_wp2_with fail
 generalize (w.alloc (.cells #[.int .u64 0,.int .u64 0,.int .u64 0,.int .u64 0,.int .u64 0,.int .u64 0] 160)).alloc (.cells #[.int .u64 0,.int .u64 0,.int .u64 0,.int .u64 0,.int .u64 0,.int .u64 0] 160)=W0 at *
 have hW0:w.heap.size+2≤W0.heap.size:=by have:=hr0.lt;omega
 have Hv:=Lib.hid hv
 have Hmv:=Lib.hid hmv
 have Hml:=Lib.hid hml
 have Ht:=Lib.hid ht
 have Ht8:=Lib.hid ht8
 have hm6:=Lib.hid hF.m6
 clear hv hmv hml ht ht8
 go_loopw [8,14] (fun cv iv wr=>∃ (k cr:Nat) (o:List Nat),iv=.int .i64 (k:Int)∧cv=.int .u64 (cr:Int)∧k≤n∧cr≤1∧SubAt 18446744073709551616 t ml o k cr∧Hid (o.length=6)∧Hid (∀ x∈o,x<18446744073709551616)∧Hid (∀ p,k≤p→dg o p=0)∧ARow wr (w.heap.size+1) 160 o∧Below (w.heap.size+1) W0 wr) (fun _ iv _=>n - (intOf iv).toNat)
 case atStart=>exact ⟨0,0,_,rfl,rfl,by omega,by omega,SubAt.zero _ _ _ _,Lib.hid rfl,Lib.hid (by simp),Lib.hid (fun p _=>by match p with | 0 | 1 | 2 | 3 | 4 | 5=>rfl | p+6=>rfl),hr0,Below.refl _ _⟩
 case round =>
  obtain ⟨k,cr,o,rfl,rfl,hk,hcr,hA,Ho,Hlo,Hz,hblk,hB⟩:=hrel
  have hBw:Below w.heap.size w wr:=hB0.trans (hB.mono (by omega))
  have hFr:=hF.below hBw hg
  have hTr:=hT.below hBw hgtl
  have c0:=hFr.n0
  by_cases hlt:k<n
  · have q1:=hTr.cell (i:=k) (by have:=Ht8.out;omega)
    have q2:=hFr.m_ (j:=k) (by omega)
    have dt:dg t k<18446744073709551616:=getD_lt (by omega) Ht.out k
    have dm:dg ml k<18446744073709551616:=getD_lt (by omega) Hml.out k
    obtain ⟨s,cr',hs,hcr',he⟩:=borrow_of (dg t k) (dg ml k) cr dt dm hcr
    have hok:k<o.length:=by have:=Ho.out;omega
    have q3:=hblk.cell hok
    have q4:=hblk.free k
    have hA':=hA.step hok he
    have hblk':=hblk.set k s
    have hB':=hB.setCell (p:=⟨w.heap.size+1,k,none⟩) (Nat.le_refl _) (.int .u64 (s:Int))
    have Ho':Hid ((o.set k s).length=6):=Lib.hid (by rw [List.length_set];exact Ho.out)
    have Hlo':Hid (∀ x∈o.set k s,x<18446744073709551616):=Lib.hid (set_lt Hlo.out hs)
    have Hz':Hid (∀ p,k+1≤p→dg (o.set k s) p=0):=Lib.hid fun p hp=>by rw [getD_set_ne (by omega)];exact Hz.out p (by omega)
    have hsub:=fun w=>sub64_at (dg t k) (dg ml k) cr s cr' hcr dt dm hs he hcr' w
    have ki:(k:Int)<8:=by omega
    have ki6:(k:Int)<6:=by omega
    clear he hA hblk hB hok hBw hFr hTr
    go_wp2_with fail
    have hfar:∀ q:Addr,q.block<w.heap.size→(wr.setCell ⟨w.heap.size+1,k,none⟩ (.int .u64 (s:Int))).drew.cell? q=wr.cell? q:=fun q hq=>World.cell?_of_block (Below.heap_setCell _ _ _ _ (by show q.block≠w.heap.size+1;omega))
    have f1:=(hfar ⟨gt,k,none⟩ hgtl).trans q1
    have f2:=(hfar ⟨g,1+k,none⟩ hg).trans q2
    clear hfar
    go_region_held3 (fun w'=>w'.cell? ⟨gt,k,none⟩=some (.int .u64 (dg t k:Int))∧w'.cell? ⟨g,1+k,none⟩=some (.int .u64 (dg ml k:Int))) (first | exact ⟨q1,q2⟩ | exact ⟨f1,f2⟩ | go_keep) (fail)
    go_wp2
    go_roundw
    case rel=>exact ⟨k+1,cr',o.set k s,by go_num,rfl,by omega,hcr',hA',Ho',Hlo',Hz',hblk',hB'.drew⟩
    case measure=>simp [intOf];omega
  · obtain rfl:k=n:=by omega
    have hfin:val 18446744073709551616 o+val 18446744073709551616 ml=val 18446744073709551616 (t.take k)+18446744073709551616 ^ k*cr:=by
     have h1:val 18446744073709551616 (o.take k)+val 18446744073709551616 (ml.take k)=val 18446744073709551616 (t.take k)+18446744073709551616 ^ k*cr:=hA
     rw [Hmv.out] at h1
     have h2:val 18446744073709551616 (o.take k)=val 18446744073709551616 o:=val_take_zeros Hz.out
     omega
    have hvo:val 18446744073709551616 o<18446744073709551616 ^ k:=by
     rw [←val_take_zeros Hz.out]
     exact val_take_lt Hlo.out k
    have hvm:val 18446744073709551616 ml<18446744073709551616 ^ k:=by rw [←Hmv.out];exact val_take_lt Hml.out k
    have hvt:=val_take_lt Ht.out k
    have hv:=Hv.out
    by_cases hcase:over<cr
    · obtain rfl:cr=1:=by omega
      obtain rfl:over=0:=by omega
      rw [Nat.mul_zero,Nat.add_zero] at hv
      have hoff:offM (val 18446744073709551616 (t.take k)+18446744073709551616 ^ k*0) (val 18446744073709551616 ml)=val 18446744073709551616 (t.take k):=by rw [Nat.mul_zero,Nat.add_zero,offM,if_pos (by omega)]
      have hcp:=copy_arow wr.drew (w.heap.size+1) gt k 6 8 160 232 o t hblk hTr (by have:=Ht8.out;omega) (by have:=Ho.out;omega) hn1
      have hvv:val 18446744073709551616 (t.take k++o.drop k)=val 18446744073709551616 (t.take k):=by
       rw [val_append,val_zeros (l:=o.drop k) ?_,Nat.mul_zero,Nat.add_zero]
       intro x hx
       obtain ⟨j,hj,rfl⟩:=List.mem_iff_getElem.1 hx
       have h2:=Hz.out (k+j) (by omega)
       rw [List.length_drop] at hj
       rw [List.getElem_drop]
       rwa [dg,getD_eq' (by omega)] at h2
      have hlen:(t.take k++o.drop k).length=6:=by rw [List.length_append,List.length_take,List.length_drop,Ho.out,Ht8.out];omega
      have hlim:∀ x∈t.take k++o.drop k,x<18446744073709551616:=fun x hx=>by
       rcases List.mem_append.1 hx with h | h
       · exact Ht.out x (List.mem_of_mem_take h)
       · exact Hlo.out x (List.mem_of_mem_drop h)
      generalize t.take k++o.drop k=o2 at *
      have hb2:ARow (wr.drew.setRow (w.heap.size+1) (nts o2).toArray) (w.heap.size+1) 160 o2:=setRow_heap wr.drew _ _ _ _ _ hblk
      have hB2:=setRow_below hB.drew (Nat.le_refl (w.heap.size+1)) (nts o2).toArray
      obtain ⟨a,b,c,d,e,f,hoe⟩:=six hlen
      have hcb:((wr.drew.setRow (w.heap.size+1) (nts o2).toArray).heap[w.heap.size+1]?=some (.cells #[.int .u64 (a:Int),.int .u64 (b:Int),.int .u64 (c:Int),.int .u64 (d:Int),.int .u64 (e:Int),.int .u64 (f:Int)] 160 (0,0))):=by
       have h:=hb2
       rw [ARow] at h
       rw [h,hoe]
       rfl
      have hrb:(wr.drew.setRow (w.heap.size+1) (nts o2).toArray).heap[w.heap.size]?=some (.cells #[.int .u64 0,.int .u64 0,.int .u64 0,.int .u64 0,.int .u64 0,.int .u64 0] 160 (0,0)):=(hB2.block w.heap.size (by omega)).trans hres
      obtain ⟨e0,e1,e2,e3,e4,e5⟩:=cells6 hcb
      obtain ⟨r0,r1,r2,r3,r4,r5⟩:=cells6 hrb
      have z:=fun i=>blk_free hrb i
      have z0:=z 0
      have z1:=z 1
      have z2:=z 2
      have z3:=z 3
      have z4:=z 4
      have z5:=z 5
      have hrb':=hrb
      have hBf:Below w.heap.size w (wr.drew.setRow (w.heap.size+1) (nts o2).toArray):=hB0.trans (hB2.mono (by omega))
      have Hoff:=Lib.hid (hvv.trans hoff.symm)
      have Hoe:=Lib.hid hoe
      have Hlen:=Lib.hid hlen
      have Hlim:=Lib.hid hlim
      have k6:(k:Int)≤6:=by omega
      have k8:(k:Int)≤8:=by omega
      clear hvo hv hfin hvm hvt hoff hA hblk hFr hTr z hcb hrb hvv hoe hlen hlim hb2 hB2
      go_wp2_with fail
      go_region
      generalize wr.drew.setRow (w.heap.size+1) (nts o2).toArray=W9 at *
      go_wp2_with fail
      refine end6 rfl rfl rfl (six_set hrb' _ _ _ _ _ _) ?_
      exact ⟨o2,by rw [Hoe.out];rfl,Hlen.out,Hlim.out,Hoff.out,six_below hBf (Nat.le_refl _) _ _ _ _ _ _⟩
    · have hoff:val 18446744073709551616 o=offM (val 18446744073709551616 (t.take k)+18446744073709551616 ^ k*over) (val 18446744073709551616 ml):=by
       have hcr':cr=0∨cr=1:=by omega
       generalize 18446744073709551616 ^ k=R at *
       rcases Nat.eq_zero_or_pos over with rfl | hpo
       · obtain rfl:cr=0:=by omega
         rw [Nat.mul_zero,Nat.add_zero] at hfin hv ⊢
         rw [offM,if_neg (by omega)]
         omega
       · have h1:R*1≤R*over:=Nat.mul_le_mul_left _ hpo
         have h2:over=1:=by
          rcases Nat.lt_or_ge over 2 with h | h
          · omega
          · have:R*2≤R*over:=Nat.mul_le_mul_left _ h
            omega
         subst h2
         rw [offM,if_neg (by omega)]
         rcases hcr' with rfl | rfl
         · rw [Nat.mul_zero,Nat.add_zero] at hfin
           omega
         · omega
      have Hoff:=Lib.hid hoff
      obtain ⟨a,b,c,d,e,f,hoe⟩:=six Ho.out
      have hcb:(wr.heap[w.heap.size+1]?=some (.cells #[.int .u64 (a:Int),.int .u64 (b:Int),.int .u64 (c:Int),.int .u64 (d:Int),.int .u64 (e:Int),.int .u64 (f:Int)] 160 (0,0))):=by
       rw [hoe] at hblk;exact hblk
      have hrb:wr.heap[w.heap.size]?=some (.cells #[.int .u64 0,.int .u64 0,.int .u64 0,.int .u64 0,.int .u64 0,.int .u64 0] 160 (0,0)):=(hB.block w.heap.size (by omega)).trans hres
      obtain ⟨e0,e1,e2,e3,e4,e5⟩:=cells6 hcb
      obtain ⟨r0,r1,r2,r3,r4,r5⟩:=cells6 hrb
      have z:=fun i=>blk_free hrb i
      have z0:=z 0
      have z1:=z 1
      have z2:=z 2
      have z3:=z 3
      have z4:=z 4
      have z5:=z 5
      have hrb':=hrb
      clear hvo hv hfin hvm hvt hoff hA hblk hFr hTr z hcb hrb
      go_wp2_with fail
      refine end6 rfl rfl rfl (six_set hrb' _ _ _ _ _ _) ?_
      exact ⟨o,by rw [hoe];rfl,Ho.out,Hlo.out,Hoff.out,six_below hBw (Nat.le_refl _) _ _ _ _ _ _⟩
structure FF (w:World) (g n inv M:Nat) (ml ol rl:List Nat):Prop where
 fld:Fld w g n inv ml ol rl
 mlt:∀ x∈ml,x<18446744073709551616
 mval:val 18446744073709551616 ml=M
 mtake:val 18446744073709551616 (ml.take n)=M
 npos:0<n
 nle:n≤6
 big:1<M
 invLt:inv<18446744073709551616
 invV:(inv*M+1) % 18446744073709551616=0
theorem FF.below {w w':World} {g n inv M B:Nat} {ml ol rl:List Nat} (h:FF w g n inv M ml ol rl) (hb:Below B w w') (hg:g<B):FF w' g n inv M ml ol rl :=
 ⟨h.fld.below hb hg,h.mlt,h.mval,h.mtake,h.npos,h.nle,h.big,h.invLt,h.invV⟩
theorem FF.room {w:World} {g n inv M:Nat} {ml ol rl:List Nat} (h:FF w g n inv M ml ol rl):M<18446744073709551616 ^ n:=by rw [←h.mtake];exact val_take_lt h.mlt n
structure Elt (M:Nat) (l:List Nat):Prop where
 six:l.length=6
 lim:∀ x∈l,x<18446744073709551616
 lt:val 18446744073709551616 l<M
theorem Elt.take {w:World} {g n inv M:Nat} {ml ol rl l:List Nat} (h:FF w g n inv M ml ol rl) (he:Elt M l):val 18446744073709551616 (l.take n)=val 18446744073709551616 l:=by
 have h1:=val_take_drop 18446744073709551616 l (n:=n) (by rw [he.six];exact h.nle)
 have h2:=h.room
 rcases Nat.eq_zero_or_pos (val 18446744073709551616 (l.drop n)) with h3 | h3
 · rw [h3] at h1;omega
 · have h4:18446744073709551616 ^ n*1≤18446744073709551616 ^ n*val 18446744073709551616 (l.drop n):=Nat.mul_le_mul_left _ h3
   have h5:=he.lt
   omega
theorem lay4 (w:World) (o1 o2 o3 o4:Obj):((((w.alloc o1).alloc o2).alloc o3).alloc o4).heap[w.heap.size]?=some o1∧((((w.alloc o1).alloc o2).alloc o3).alloc o4).heap[w.heap.size+1]?=some o2∧((((w.alloc o1).alloc o2).alloc o3).alloc o4).heap[w.heap.size+1+1]?=some o3∧((((w.alloc o1).alloc o2).alloc o3).alloc o4).heap[w.heap.size+1+1+1]?=some o4 ∧
 ((((w.alloc o1).alloc o2).alloc o3).alloc o4).heap.size=w.heap.size+4∧Below w.heap.size w ((((w.alloc o1).alloc o2).alloc o3).alloc o4):=by
 have e1:=heap_alloc_new w o1
 have e2:=heap_alloc_new (w.alloc o1) o2
 have e3:=heap_alloc_new ((w.alloc o1).alloc o2) o3
 have e4:=heap_alloc_new (((w.alloc o1).alloc o2).alloc o3) o4
 simp only [World.size_alloc] at e2 e3 e4
 refine ⟨?_,?_,?_,e4,by simp,(((((Below.refl _ w).alloc (Nat.le_refl _) _).alloc (by simp) _).alloc (by simp;omega) _).alloc (by simp;omega) _)⟩
 · exact (Below.heap_alloc _ _ _ (by simp <;> omega)).trans ((Below.heap_alloc _ _ _ (by simp <;> omega)).trans ((Below.heap_alloc _ _ _ (by simp)).trans e1))
 · exact (Below.heap_alloc _ _ _ (by simp <;> omega)).trans ((Below.heap_alloc _ _ _ (by simp)).trans e2)
 · exact (Below.heap_alloc _ _ _ (by simp)).trans e3
theorem zadd_any {g n inv M:Nat} {ml ol rl:List Nat} (a b:List Nat) (w:World) (hF:FF w g n inv M ml ol rl) (ha:Elt M a) (hb:Elt M b) :
 Calls Tryz.prog 174 #[.pointer (some ⟨g,0,none⟩),EV a,EV b] w fun e w'=>∃ o,e=.returned (EV o)∧Elt M o∧val 18446744073709551616 o=offM (val 18446744073709551616 a+val 18446744073709551616 b) M∧Below w.heap.size w w':=by
 have hg:=hF.fld.lt
 have h0:=hF.fld.n0
 have hn:=hF.nle
 have hn1:=hF.npos
 have ta:=ha.take hF
 have tb:=hb.take hF
 obtain ⟨a0,a1,a2,a3,a4,a5,hae⟩:=six ha.six
 obtain ⟨b0,b1,b2,b3,b4,b5,hbe⟩:=six hb.six
 obtain ⟨l1,l2,l3,l4,hz,hB0⟩:=lay4 w (.cells #[.int .u64 (a0:Int),.int .u64 (a1:Int),.int .u64 (a2:Int),.int .u64 (a3:Int),.int .u64 (a4:Int),.int .u64 (a5:Int)] 160)
  (.cells #[.int .u64 (b0:Int),.int .u64 (b1:Int),.int .u64 (b2:Int),.int .u64 (b3:Int),.int .u64 (b4:Int),.int .u64 (b5:Int)] 160) (.cells #[.int .u64 0,.int .u64 0,.int .u64 0,.int .u64 0,.int .u64 0,.int .u64 0] 160)
  (.cells #[.int .u64 0,.int .u64 0,.int .u64 0,.int .u64 0,.int .u64 0,.int .u64 0,.int .u64 0,.int .u64 0] 232)
 have hva:EV a=.agg #[.int .u64 (a0:Int),.int .u64 (a1:Int),.int .u64 (a2:Int),.int .u64 (a3:Int),.int .u64 (a4:Int),.int .u64 (a5:Int)]:=by rw [hae];rfl
 have hvb:EV b=.agg #[.int .u64 (b0:Int),.int .u64 (b1:Int),.int .u64 (b2:Int),.int .u64 (b3:Int),.int .u64 (b4:Int),.int .u64 (b5:Int)]:=by rw [hbe];rfl
 rw [hva,hvb]
 have h00:=(hB0.cell (p:=⟨g,0,none⟩) hg).trans h0
 go_enter Tryz.func174,Tryz.ntmps174
 go_wp2_with fail
 generalize (((w.alloc (.cells #[.int .u64 (a0:Int),.int .u64 (a1:Int),.int .u64 (a2:Int),.int .u64 (a3:Int),.int .u64 (a4:Int),.int .u64 (a5:Int)] 160)).alloc
  (.cells #[.int .u64 (b0:Int),.int .u64 (b1:Int),.int .u64 (b2:Int),.int .u64 (b3:Int),.int .u64 (b4:Int),.int .u64 (b5:Int)] 160)).alloc (.cells #[.int .u64 0,.int .u64 0,.int .u64 0,.int .u64 0,.int .u64 0,.int .u64 0] 160)).alloc
  (.cells #[.int .u64 0,.int .u64 0,.int .u64 0,.int .u64 0,.int .u64 0,.int .u64 0,.int .u64 0,.int .u64 0] 232)=W0 at *
 have A0:ARow W0 w.heap.size 160 a:=by rw [hae];exact l1
 have B0:ARow W0 (w.heap.size+1) 160 b:=by rw [hbe];exact l2
 have T0:ARow W0 (w.heap.size+1+1+1) 232 [0,0,0,0,0,0,0,0]:=l4
 have hW0:w.heap.size+4≤W0.heap.size:=by omega
 have Ha:=Lib.hid ha
 have Hb:=Lib.hid hb
 have Hae:=Lib.hid hae
 have Hbe:=Lib.hid hbe
 have HF:=Lib.hid hF
 clear l1 l2 l4 hz ha hb hae hbe hva hvb hF
 go_loopw [8,14] (fun cv iv wr=>∃ (k cr:Nat) (o:List Nat),iv=.int .i64 (k:Int)∧cv=.int .u64 (cr:Int)∧k≤n∧cr≤1∧AddAt 18446744073709551616 a b o k cr∧Hid (o.length=8)∧Hid (∀ x∈o,x<18446744073709551616)∧ARow wr (w.heap.size+1+1+1) 232 o∧Below (w.heap.size+1+1+1) W0 wr) (fun _ iv _=>n - (intOf iv).toNat)
 case atStart=>exact ⟨0,0,_,rfl,rfl,by omega,by omega,AddAt.zero _ _ _ _,Lib.hid rfl,Lib.hid (by simp),T0,Below.refl _ _⟩
 case round =>
  obtain ⟨k,cr,o,rfl,rfl,hk,hcr,hA,Ho,Hlo,hblk,hB⟩:=hrel
  have hBw:Below w.heap.size w wr:=hB0.trans (hB.mono (by omega))
  have hFr:=HF.out.below hBw hg
  have c0:=hFr.fld.n0
  have hAr:=A0.below hB (by omega)
  have hBr:=B0.below hB (by omega)
  by_cases hlt:k<n
  · have q1:=hAr.cell (i:=k) (by rw [Ha.out.six];omega)
    have q2:=hBr.cell (i:=k) (by rw [Hb.out.six];omega)
    have dt:dg a k<18446744073709551616:=getD_lt (by omega) Ha.out.lim k
    have dm:dg b k<18446744073709551616:=getD_lt (by omega) Hb.out.lim k
    obtain ⟨s,cr',hs,hcr',he⟩:=carry_of (dg a k) (dg b k) cr dt dm hcr
    have hok:k<o.length:=by have:=Ho.out;omega
    have q3:=hblk.cell hok
    have q4:=hblk.free k
    have hA':=hA.step hok (by omega)
    have hblk':=hblk.set k s
    have hB':=hB.setCell (p:=⟨w.heap.size+1+1+1,k,none⟩) (Nat.le_refl _) (.int .u64 (s:Int))
    have Ho':Hid ((o.set k s).length=8):=Lib.hid (by rw [List.length_set];exact Ho.out)
    have Hlo':Hid (∀ x∈o.set k s,x<18446744073709551616):=Lib.hid (set_lt Hlo.out hs)
    have hadd:=fun w=>add64_at (dg a k) (dg b k) cr s cr' hcr hs (by omega) w
    have ki:(k:Int)<8:=by omega
    have ki6:(k:Int)<6:=by omega
    clear he hA hblk hB hok hBw hFr hAr hBr
    go_wp2_with fail
    have hfar:∀ q:Addr,q.block<w.heap.size+1+1+1→(wr.setCell ⟨w.heap.size+1+1+1,k,none⟩ (.int .u64 (s:Int))).drew.cell? q=wr.cell? q:=fun q hq=>World.cell?_of_block (Below.heap_setCell _ _ _ _ (by show q.block≠w.heap.size+1+1+1;omega))
    have f1:=(hfar ⟨w.heap.size,k,none⟩ (by show w.heap.size<_;omega)).trans q1
    have f2:=(hfar ⟨w.heap.size+1,k,none⟩ (by show w.heap.size+1<_;omega)).trans q2
    clear hfar
    go_region_held3 (fun w'=>w'.cell? ⟨w.heap.size,k,none⟩=some (.int .u64 (dg a k:Int))∧w'.cell? ⟨w.heap.size+1,k,none⟩=some (.int .u64 (dg b k:Int))) (first | exact ⟨q1,q2⟩ | exact ⟨f1,f2⟩ | go_keep) (fail)
    go_wp2
    go_roundw
    case rel=>exact ⟨k+1,cr',o.set k s,by go_num,rfl,by omega,hcr',hA',Ho',Hlo',hblk',hB'.drew⟩
    case measure=>simp [intOf];omega
  · obtain rfl:k=n:=by omega
    have hsum:val 18446744073709551616 (o.take k)+18446744073709551616 ^ k*cr=val 18446744073709551616 a+val 18446744073709551616 b:=by
     have h1:val 18446744073709551616 (o.take k)+18446744073709551616 ^ k*cr=val 18446744073709551616 (a.take k)+val 18446744073709551616 (b.take k):=by have:=hA;unfold AddAt at this;omega
     rw [ta,tb] at h1
     exact h1
    have hbel:=zbelow_any (w.heap.size+1+1+1) cr o wr hFr.fld hFr.mlt hblk (by omega) Ho.out Hlo.out hn hn1 (by rw [hFr.mtake,hFr.mval]) (by omega) (by rw [hsum,hFr.mval];have:=Ha.out.lt;have:=Hb.out.lt;omega)
    rw [hsum,hFr.mval] at hbel
    have Hbel:=Lib.hid hbel
    clear hbel hA hblk hFr hAr hBr hsum
    go_wp2_with fail
    refine Hbel.out.mono ?_
    rintro e w2 ⟨o2,rfl,ho6,hlim,hv2,hB2⟩
    obtain ⟨x0,x1,x2,x3,x4,x5,hoe⟩:=six ho6
    have hrb:=(hB2.block (w.heap.size+1+1) (by have:=hB.size;omega)).trans ((hB.block (w.heap.size+1+1) (by omega)).trans l3)
    obtain ⟨r0,r1,r2,r3,r4,r5⟩:=cells6 hrb
    have z:=fun i=>blk_free hrb i
    have z0:=z 0
    have z1:=z 1
    have z2:=z 2
    have z3:=z 3
    have z4:=z 4
    have z5:=z 5
    have hrb':=hrb
    have hBf:Below w.heap.size w w2:=hBw.trans (hB2.mono hBw.size)
    have Hv2:=Lib.hid hv2
    have Ho6:=Lib.hid ho6
    have Hlim:=Lib.hid hlim
    have Hoe:=Lib.hid hoe
    have hve:EV o2=.agg #[.int .u64 (x0:Int),.int .u64 (x1:Int),.int .u64 (x2:Int),.int .u64 (x3:Int),.int .u64 (x4:Int),.int .u64 (x5:Int)]:=by rw [hoe];rfl
    rw [hve]
    clear hve hoe hv2 ho6 hlim z hrb hB2 hB Hbel
    go_wp2_with fail
    refine end6 rfl rfl rfl (six_set hrb' _ _ _ _ _ _) ?_
    exact ⟨o2,by rw [Hoe.out];rfl,⟨Ho6.out,Hlim.out,by rw [Hv2.out];exact offM_lt (by have:=Ha.out.lt;have:=Hb.out.lt;omega)⟩,Hv2.out,six_below hBf (by omega) _ _ _ _ _ _⟩
def subM (x y M:Nat):Nat:=if y≤x then x - y else x+M - y
theorem subM_lt {x y M:Nat} (hx:x<M) (hy:y<M):subM x y M<M:=by unfold subM;split <;> omega
theorem subM_mod {x y M:Nat} (hx:x<M) (hy:y<M):subM x y M=(x+M - y) % M:=by
 unfold subM
 split
 · rw [show x+M - y=x - y+M by omega,Nat.add_mod_right,Nat.mod_eq_of_lt (by omega)]
 · rw [Nat.mod_eq_of_lt (by omega)]
theorem zsub_any {g n inv M:Nat} {ml ol rl:List Nat} (a b:List Nat) (w:World) (hF:FF w g n inv M ml ol rl) (ha:Elt M a) (hb:Elt M b) :
 Calls Tryz.prog 176 #[.pointer (some ⟨g,0,none⟩),EV a,EV b] w fun e w'=>∃ o,e=.returned (EV o)∧Elt M o∧val 18446744073709551616 o=subM (val 18446744073709551616 a) (val 18446744073709551616 b) M∧Below w.heap.size w w':=by
 have hg:=hF.fld.lt
 have h0:=hF.fld.n0
 have hn:=hF.nle
 have hn1:=hF.npos
 have ta:=ha.take hF
 have tb:=hb.take hF
 obtain ⟨a0,a1,a2,a3,a4,a5,hae⟩:=six ha.six
 obtain ⟨b0,b1,b2,b3,b4,b5,hbe⟩:=six hb.six
 obtain ⟨l1,l2,l3,l4,hz,hB0⟩:=lay4 w (.cells #[.int .u64 (a0:Int),.int .u64 (a1:Int),.int .u64 (a2:Int),.int .u64 (a3:Int),.int .u64 (a4:Int),.int .u64 (a5:Int)] 160)
  (.cells #[.int .u64 (b0:Int),.int .u64 (b1:Int),.int .u64 (b2:Int),.int .u64 (b3:Int),.int .u64 (b4:Int),.int .u64 (b5:Int)] 160) (.cells #[.int .u64 0,.int .u64 0,.int .u64 0,.int .u64 0,.int .u64 0,.int .u64 0] 160)
  (.cells #[.int .u64 0,.int .u64 0,.int .u64 0,.int .u64 0,.int .u64 0,.int .u64 0] 160)
 have hva:EV a=.agg #[.int .u64 (a0:Int),.int .u64 (a1:Int),.int .u64 (a2:Int),.int .u64 (a3:Int),.int .u64 (a4:Int),.int .u64 (a5:Int)]:=by rw [hae];rfl
 have hvb:EV b=.agg #[.int .u64 (b0:Int),.int .u64 (b1:Int),.int .u64 (b2:Int),.int .u64 (b3:Int),.int .u64 (b4:Int),.int .u64 (b5:Int)]:=by rw [hbe];rfl
 rw [hva,hvb]
 have h00:=(hB0.cell (p:=⟨g,0,none⟩) hg).trans h0
 go_enter Tryz.func176,Tryz.ntmps176
 go_wp2_with fail
 generalize (((w.alloc (.cells #[.int .u64 (a0:Int),.int .u64 (a1:Int),.int .u64 (a2:Int),.int .u64 (a3:Int),.int .u64 (a4:Int),.int .u64 (a5:Int)] 160)).alloc
  (.cells #[.int .u64 (b0:Int),.int .u64 (b1:Int),.int .u64 (b2:Int),.int .u64 (b3:Int),.int .u64 (b4:Int),.int .u64 (b5:Int)] 160)).alloc (.cells #[.int .u64 0,.int .u64 0,.int .u64 0,.int .u64 0,.int .u64 0,.int .u64 0] 160)).alloc
  (.cells #[.int .u64 0,.int .u64 0,.int .u64 0,.int .u64 0,.int .u64 0,.int .u64 0] 160)=W0 at *
 have A0:ARow W0 w.heap.size 160 a:=by rw [hae];exact l1
 have B0:ARow W0 (w.heap.size+1) 160 b:=by rw [hbe];exact l2
 have T0:ARow W0 (w.heap.size+1+1+1) 160 [0,0,0,0,0,0]:=l4
 have hW0:w.heap.size+4≤W0.heap.size:=by omega
 have Ha:=Lib.hid ha
 have Hb:=Lib.hid hb
 have Hae:=Lib.hid hae
 have Hbe:=Lib.hid hbe
 have HF:=Lib.hid hF
 clear l1 l2 l4 hz ha hb hae hbe hva hvb hF
 go_loopw [8,16] (fun cv iv wr=>∃ (k cr:Nat) (o:List Nat),iv=.int .i64 (k:Int)∧cv=.int .u64 (cr:Int)∧k≤n∧cr≤1∧SubAt 18446744073709551616 a b o k cr∧Hid (o.length=6)∧Hid (∀ x∈o,x<18446744073709551616)∧Hid (∀ p,k≤p→dg o p=0)∧ARow wr (w.heap.size+1+1+1) 160 o∧Below (w.heap.size+1+1+1) W0 wr) (fun _ iv _=>n - (intOf iv).toNat)
 case atStart=>exact ⟨0,0,_,rfl,rfl,by omega,by omega,SubAt.zero _ _ _ _,Lib.hid rfl,Lib.hid (by simp),Lib.hid (fun p _=>by match p with | 0 | 1 | 2 | 3 | 4 | 5=>rfl | p+6=>rfl),T0,Below.refl _ _⟩
 case round =>
  obtain ⟨k,cr,o,rfl,rfl,hk,hcr,hA,Ho,Hlo,Hz,hblk,hB⟩:=hrel
  have hBw:Below w.heap.size w wr:=hB0.trans (hB.mono (by omega))
  have hFr:=HF.out.below hBw hg
  have c0:=hFr.fld.n0
  have hAr:=A0.below hB (by omega)
  have hBr:=B0.below hB (by omega)
  by_cases hlt:k<n
  · have q1:=hAr.cell (i:=k) (by rw [Ha.out.six];omega)
    have q2:=hBr.cell (i:=k) (by rw [Hb.out.six];omega)
    have dt:dg a k<18446744073709551616:=getD_lt (by omega) Ha.out.lim k
    have dm:dg b k<18446744073709551616:=getD_lt (by omega) Hb.out.lim k
    obtain ⟨s,cr',hs,hcr',he⟩:=borrow_of (dg a k) (dg b k) cr dt dm hcr
    have hok:k<o.length:=by have:=Ho.out;omega
    have q3:=hblk.cell hok
    have q4:=hblk.free k
    have hA':=hA.step hok he
    have hblk':=hblk.set k s
    have hB':=hB.setCell (p:=⟨w.heap.size+1+1+1,k,none⟩) (Nat.le_refl _) (.int .u64 (s:Int))
    have Ho':Hid ((o.set k s).length=6):=Lib.hid (by rw [List.length_set];exact Ho.out)
    have Hlo':Hid (∀ x∈o.set k s,x<18446744073709551616):=Lib.hid (set_lt Hlo.out hs)
    have Hz':Hid (∀ p,k+1≤p→dg (o.set k s) p=0):=Lib.hid fun p hp=>by rw [getD_set_ne (by omega)];exact Hz.out p (by omega)
    have hsub:=fun w=>sub64_at (dg a k) (dg b k) cr s cr' hcr dt dm hs he hcr' w
    have ki6:(k:Int)<6:=by omega
    clear he hA hblk hB hok hBw hFr hAr hBr
    go_wp2_with fail
    have hfar:∀ q:Addr,q.block<w.heap.size+1+1+1→(wr.setCell ⟨w.heap.size+1+1+1,k,none⟩ (.int .u64 (s:Int))).drew.cell? q=wr.cell? q:=fun q hq=>World.cell?_of_block (Below.heap_setCell _ _ _ _ (by show q.block≠w.heap.size+1+1+1;omega))
    have f1:=(hfar ⟨w.heap.size,k,none⟩ (by show w.heap.size<_;omega)).trans q1
    have f2:=(hfar ⟨w.heap.size+1,k,none⟩ (by show w.heap.size+1<_;omega)).trans q2
    clear hfar
    go_region_held3 (fun w'=>w'.cell? ⟨w.heap.size,k,none⟩=some (.int .u64 (dg a k:Int))∧w'.cell? ⟨w.heap.size+1,k,none⟩=some (.int .u64 (dg b k:Int))) (first | exact ⟨q1,q2⟩ | exact ⟨f1,f2⟩ | go_keep) (fail)
    go_wp2
    go_roundw
    case rel=>exact ⟨k+1,cr',o.set k s,by go_num,rfl,by omega,hcr',hA',Ho',Hlo',Hz',hblk',hB'.drew⟩
    case measure=>simp [intOf];omega
  · obtain rfl:k=n:=by omega
    have hdif:val 18446744073709551616 o+val 18446744073709551616 b=val 18446744073709551616 a+18446744073709551616 ^ k*cr:=by
     have h1:val 18446744073709551616 (o.take k)+val 18446744073709551616 (b.take k)=val 18446744073709551616 (a.take k)+18446744073709551616 ^ k*cr:=hA
     rw [ta,tb,val_take_zeros Hz.out] at h1
     exact h1
    have hvo:val 18446744073709551616 o<18446744073709551616 ^ k:=by rw [←val_take_zeros Hz.out];exact val_take_lt Hlo.out k
    have hroom:=hFr.room
    have hal:=Ha.out.lt
    have hbl:=Hb.out.lt
    have hrb:=(hB.block (w.heap.size+1+1) (by omega)).trans l3
    rcases Nat.eq_zero_or_pos cr with h0c | h0c
    · subst h0c
      have hv2:val 18446744073709551616 o=subM (val 18446744073709551616 a) (val 18446744073709551616 b) M:=by
       rw [Nat.mul_zero,Nat.add_zero] at hdif
       rw [subM,if_pos (by omega)]
       omega
      obtain ⟨x0,x1,x2,x3,x4,x5,hoe⟩:=six Ho.out
      have hcb:wr.heap[w.heap.size+1+1+1]?=some (.cells #[.int .u64 (x0:Int),.int .u64 (x1:Int),.int .u64 (x2:Int),.int .u64 (x3:Int),.int .u64 (x4:Int),.int .u64 (x5:Int)] 160 (0,0)):=by
       rw [hoe] at hblk;exact hblk
      obtain ⟨e0,e1,e2,e3,e4,e5⟩:=cells6 hcb
      obtain ⟨r0,r1,r2,r3,r4,r5⟩:=cells6 hrb
      have z:=fun i=>blk_free hrb i
      have z0:=z 0
      have z1:=z 1
      have z2:=z 2
      have z3:=z 3
      have z4:=z 4
      have z5:=z 5
      have hrb':=hrb
      have Hv2:=Lib.hid hv2
      have Hoe:=Lib.hid hoe
      clear hv2 hoe hcb hrb z hdif hvo hroom hal hbl hA hblk hFr hAr hBr hB
      go_wp2_with fail
      refine end6 rfl rfl rfl (six_set hrb' _ _ _ _ _ _) ?_
      exact ⟨o,by rw [Hoe.out];rfl,⟨Ho.out,Hlo.out,by rw [Hv2.out];exact subM_lt Ha.out.lt Hb.out.lt⟩,Hv2.out,six_below hBw (by omega) _ _ _ _ _ _⟩
    · obtain rfl:cr=1:=by omega
      rw [Nat.mul_one] at hdif
      have Hdif:=Lib.hid hdif
      have Hvo:=Lib.hid hvo
      have Hroom:=Lib.hid hroom
      have hB1:=hB
      have hblk1:=hblk
      have hAs:=AddAt.zero 18446744073709551616 o ml o
      have HBw:=Lib.hid hBw
      clear hA hdif hvo hroom hal hbl hFr hAr hBr hrb hB hblk hBw
      go_wp2_with fail
      have HT:=Lib.hid (⟨Ho.out,Hlo.out,Hz.out⟩:o.length=6∧(∀ x∈o,x<18446744073709551616)∧∀ p,k≤p→dg o p=0)
      go_loopw [10,40] (fun cv iv wx=>∃ (j cr:Nat) (o2:List Nat),iv=.int .i64 (j:Int)∧cv=.int .u64 (cr:Int)∧j≤k∧cr≤1∧AddAt 18446744073709551616 o ml o2 j cr∧Hid (∀ p,j≤p→dg o2 p=dg o p)∧Hid (o2.length=6)∧Hid (∀ x∈o2,x<18446744073709551616)∧Hid (∀ p,k≤p→dg o2 p=0)∧ARow wx (w.heap.size+1+1+1) 160 o2∧Below (w.heap.size+1+1+1) W0 wx) (fun _ iv _=>k - (intOf iv).toNat)
      case atStart=>exact ⟨0,0,o,rfl,rfl,by omega,by omega,hAs,Lib.hid fun _ _=>rfl,Ho,Hlo,Hz,hblk1,hB1⟩
      case round =>
       clear hAs hblk1 hB1
       obtain ⟨j,cr,o2,rfl,rfl,hj,hcr2,hA,Hsame,Ho2,Hlo2,Hz2,hblk,hB⟩:=hrel
       have hBw:Below w.heap.size w wr:=hB0.trans (hB.mono (by omega))
       have hFr:=HF.out.below hBw hg
       have c0:=hFr.fld.n0
       by_cases hlt2:j<k
       · have q1:=hblk.cell (i:=j) (by have:=Ho2.out;omega)
         rw [Hsame.out j (Nat.le_refl _)] at q1
         have q2:=hFr.fld.m_ (j:=j) (by omega)
         have dt:dg o j<18446744073709551616:=getD_lt (by omega) HT.out.2.1 j
         have dm:dg ml j<18446744073709551616:=getD_lt (by omega) hFr.mlt j
         obtain ⟨s,cr',hs,hcr',he⟩:=carry_of (dg o j) (dg ml j) cr dt dm hcr2
         have hok:j<o2.length:=by have:=Ho2.out;omega
         have q4:=hblk.free j
         have hA':=hA.step hok (by omega)
         have hblk':=hblk.set j s
         have hB':=hB.setCell (p:=⟨w.heap.size+1+1+1,j,none⟩) (Nat.le_refl _) (.int .u64 (s:Int))
         have Ho':Hid ((o2.set j s).length=6):=Lib.hid (by rw [List.length_set];exact Ho2.out)
         have Hlo':Hid (∀ x∈o2.set j s,x<18446744073709551616):=Lib.hid (set_lt Hlo2.out hs)
         have Hz':Hid (∀ p,k≤p→dg (o2.set j s) p=0):=Lib.hid fun p hp=>by rw [getD_set_ne (by omega)];exact Hz2.out p hp
         have Hs':Hid (∀ p,j+1≤p→dg (o2.set j s) p=dg o p):=Lib.hid fun p hp=>by rw [getD_set_ne (by omega)];exact Hsame.out p (by omega)
         have hadd:=fun w=>add64_at (dg o j) (dg ml j) cr s cr' hcr2 hs (by omega) w
         have ki6:(j:Int)<6:=by omega
         clear he hA hblk hB hok hBw hFr
         go_wp2_with fail
         go_region_with (fail)
         all_goals
          go_wp2
          go_roundw
          case rel =>
           refine ⟨_,_,_,_,_,_,_,_,_,_,_,_,_,_,_,_,_,_,_,_,_,_,?_,rfl⟩
           exact ⟨j+1,cr',o2.set j s,by go_num,rfl,by omega,hcr',hA',Hs',Ho',Hlo',Hz',hblk',hB'.drew⟩
          case measure=>simp [intOf];omega
       · obtain rfl:j=k:=by omega
         have hsum:val 18446744073709551616 o2+18446744073709551616 ^ j*cr=val 18446744073709551616 o+M:=by
          have h1:val 18446744073709551616 (o2.take j)+18446744073709551616 ^ j*cr=val 18446744073709551616 (o.take j)+val 18446744073709551616 (ml.take j):=hA
          rwa [val_take_zeros Hz2.out,val_take_zeros HT.out.2.2,hFr.mtake] at h1
         have hv2:val 18446744073709551616 o2=subM (val 18446744073709551616 a) (val 18446744073709551616 b) M:=by
          have h1:=Hdif.out
          have h2:=Hroom.out
          have h3:=Ha.out.lt
          have h4:=Hb.out.lt
          have h5:val 18446744073709551616 o2<18446744073709551616 ^ j:=by rw [←val_take_zeros Hz2.out];exact val_take_lt Hlo2.out j
          have h6:=Hvo.out
          generalize 18446744073709551616 ^ j=R at *
          have h7:cr=0∨cr=1:=by omega
          rw [subM,if_neg (by omega)]
          rcases h7 with rfl | rfl
          · rw [Nat.mul_zero] at hsum;omega
          · omega
         have hrb:=(hB.block (w.heap.size+1+1) (by omega)).trans l3
         obtain ⟨x0,x1,x2,x3,x4,x5,hoe⟩:=six Ho2.out
         have hcb:wr.heap[w.heap.size+1+1+1]?=some (.cells #[.int .u64 (x0:Int),.int .u64 (x1:Int),.int .u64 (x2:Int),.int .u64 (x3:Int),.int .u64 (x4:Int),.int .u64 (x5:Int)] 160 (0,0)):=by
          rw [hoe] at hblk;exact hblk
         obtain ⟨e0,e1,e2,e3,e4,e5⟩:=cells6 hcb
         obtain ⟨r0,r1,r2,r3,r4,r5⟩:=cells6 hrb
         have z:=fun i=>blk_free hrb i
         have z0:=z 0
         have z1:=z 1
         have z2:=z 2
         have z3:=z 3
         have z4:=z 4
         have z5:=z 5
         have hrb':=hrb
         have Hv2:=Lib.hid hv2
         have Hoe:=Lib.hid hoe
         clear hv2 hoe hcb hrb z hsum hA hblk hFr hB
         go_wp2_with fail
         refine end6 rfl rfl rfl (six_set hrb' _ _ _ _ _ _) ?_
         exact ⟨o2,by rw [Hoe.out];rfl,⟨Ho2.out,Hlo2.out,by rw [Hv2.out];exact subM_lt Ha.out.lt Hb.out.lt⟩,Hv2.out,six_below hBw (by omega) _ _ _ _ _ _⟩
theorem val_take_mod {B:Nat} {l:List Nat} (h:∀ x∈l,x<B) (_hB:0<B) (k:Nat):val B (l.take (k+1)) % B=dg l 0:=by
 cases l with
 | nil=>simp [dg]
 | cons x m=>rw [List.take_succ_cons,val_cons,Nat.add_mul_mod_self_left,Nat.mod_eq_of_lt (h x (by simp))];rfl
theorem low_gone {B M inv V u t0 m0:Nat} (_hB:0<B) (hi:(inv*M+1) % B=0) (hV:V % B=t0) (hm:M % B=m0) (hu:u=t0*inv % B):(t0+u*m0) % B=0:=by
 have h1:=mont_low (v:=V) hi hV hu
 rw [←hV,←hm,Nat.add_mod,Nat.mod_mod,Nat.mul_mod_mod,←Nat.add_mod]
 exact h1
theorem low_parts {u m0 t0:Nat} (hu:u<18446744073709551616) (hm:m0<18446744073709551616) (ht:t0<18446744073709551616) (hz:(t0+u*m0) % 18446744073709551616=0) :
 ∃ hi lo c:Nat,lo<18446744073709551616∧lo+18446744073709551616*hi=u*m0∧c≤1∧0+18446744073709551616*c=lo+t0+0∧hi+c<18446744073709551616∧18446744073709551616*(hi+c)=t0+u*m0:=by
 have hb:=mul_bound hu hm ht (show 0<18446744073709551616 by omega)
 refine ⟨u*m0 / 18446744073709551616,u*m0 % 18446744073709551616,(u*m0 % 18446744073709551616+t0) / 18446744073709551616,Nat.mod_lt _ (by omega),Nat.mod_add_div _ _,?_,?_,?_,?_⟩
 all_goals
  generalize u*m0=p at *
  omega
theorem top_small {M vb T x R top:Nat} (e1:T=x+R*top) (h2:T<M+vb) (hM:M≤R) (hb:vb<M):top≤1:=by
 rcases Nat.lt_or_ge top 2 with h | h
 · omega
 · have e5:R*2≤R*top:=Nat.mul_le_mul_left _ h
   omega
theorem zmul_any {g n inv M:Nat} {ml ol rl:List Nat} (a b:List Nat) (w:World) (hF:FF w g n inv M ml ol rl) (ha:Elt M a) (hb:Elt M b) :
 Calls Tryz.prog 175 #[.pointer (some ⟨g,0,none⟩),EV a,EV b] w fun e w'=>∃ o,e=.returned (EV o)∧Elt M o∧val 18446744073709551616 o*18446744073709551616 ^ n % M=val 18446744073709551616 a*val 18446744073709551616 b % M∧Below w.heap.size w w':=by
 have hg:=hF.fld.lt
 have h0:=hF.fld.n0
 have hn:=hF.nle
 have hn1:=hF.npos
 have ta:=ha.take hF
 have tb:=hb.take hF
 obtain ⟨a0,a1,a2,a3,a4,a5,hae⟩:=six ha.six
 obtain ⟨b0,b1,b2,b3,b4,b5,hbe⟩:=six hb.six
 obtain ⟨l1,l2,l3,l4,hz,hB0⟩:=lay4 w (.cells #[.int .u64 (a0:Int),.int .u64 (a1:Int),.int .u64 (a2:Int),.int .u64 (a3:Int),.int .u64 (a4:Int),.int .u64 (a5:Int)] 160)
  (.cells #[.int .u64 (b0:Int),.int .u64 (b1:Int),.int .u64 (b2:Int),.int .u64 (b3:Int),.int .u64 (b4:Int),.int .u64 (b5:Int)] 160) (.cells #[.int .u64 0,.int .u64 0,.int .u64 0,.int .u64 0,.int .u64 0,.int .u64 0] 160)
  (.cells #[.int .u64 0,.int .u64 0,.int .u64 0,.int .u64 0,.int .u64 0,.int .u64 0,.int .u64 0,.int .u64 0] 232)
 have hva:EV a=.agg #[.int .u64 (a0:Int),.int .u64 (a1:Int),.int .u64 (a2:Int),.int .u64 (a3:Int),.int .u64 (a4:Int),.int .u64 (a5:Int)]:=by rw [hae];rfl
 have hvb:EV b=.agg #[.int .u64 (b0:Int),.int .u64 (b1:Int),.int .u64 (b2:Int),.int .u64 (b3:Int),.int .u64 (b4:Int),.int .u64 (b5:Int)]:=by rw [hbe];rfl
 rw [hva,hvb]
 have h00:=(hB0.cell (p:=⟨g,0,none⟩) hg).trans h0
 go_enter Tryz.func175,Tryz.ntmps175
 go_wp2_with fail
 generalize (((w.alloc (.cells #[.int .u64 (a0:Int),.int .u64 (a1:Int),.int .u64 (a2:Int),.int .u64 (a3:Int),.int .u64 (a4:Int),.int .u64 (a5:Int)] 160)).alloc
  (.cells #[.int .u64 (b0:Int),.int .u64 (b1:Int),.int .u64 (b2:Int),.int .u64 (b3:Int),.int .u64 (b4:Int),.int .u64 (b5:Int)] 160)).alloc (.cells #[.int .u64 0,.int .u64 0,.int .u64 0,.int .u64 0,.int .u64 0,.int .u64 0] 160)).alloc
  (.cells #[.int .u64 0,.int .u64 0,.int .u64 0,.int .u64 0,.int .u64 0,.int .u64 0,.int .u64 0,.int .u64 0] 232)=W0 at *
 have A0:ARow W0 w.heap.size 160 a:=by rw [hae];exact l1
 have B0:ARow W0 (w.heap.size+1) 160 b:=by rw [hbe];exact l2
 have T0:ARow W0 (w.heap.size+1+1+1) 232 [0,0,0,0,0,0,0,0]:=l4
 have hW0:w.heap.size+4≤W0.heap.size:=by omega
 have Ha:=Lib.hid ha
 have Hb:=Lib.hid hb
 have Hae:=Lib.hid hae
 have Hbe:=Lib.hid hbe
 have HF:=Lib.hid hF
 clear l1 l2 l4 hz ha hb hae hbe hva hvb hF
 have hmg:Hid (∀ j,j<6→True):=Lib.hid fun _ _=>trivial
 go_loopw [24] (fun iv wr=>∃ (i:Nat) (o:List Nat),iv=.int .i64 (i:Int)∧i≤n∧Hid (MontT 18446744073709551616 M a b (val 18446744073709551616 (o.take (n+1))) i)∧Hid (o.length=8)∧Hid (∀ x∈o,x<18446744073709551616)∧ARow wr (w.heap.size+1+1+1) 232 o∧Below (w.heap.size+1+1+1) W0 wr) (fun iv _=>n - (intOf iv).toNat)
 case atStart=>exact ⟨0,_,rfl,by omega,Lib.hid (by
  have h1:val 18446744073709551616 (([0,0,0,0,0,0,0,0]:List Nat).take (n+1))=0:=val_zeros fun x hx=>by have:=List.mem_of_mem_take hx;simp at this;exact this
  rw [h1];exact MontT.zero _ _ (by have:=HF.out.big;omega)),Lib.hid rfl,Lib.hid (by simp),T0,Below.refl _ _⟩
 case round =>
  obtain ⟨i,o,rfl,hi,HM,Ho,Hlo,hblk,hB⟩:=hrel
  have hBw:Below w.heap.size w wr:=hB0.trans (hB.mono (by omega))
  have c0:=(HF.out.below hBw hg).fld.n0
  by_cases hlt:i<n
  · have dai:dg a i<18446744073709551616:=getD_lt (by omega) Ha.out.lim i
    obtain ⟨ai,hai⟩:∃ ai,dg a i=ai:=⟨_,rfl⟩
    rw [hai] at dai
    have Hai:=Lib.hid hai
    have ki6:(i:Int)<6:=by omega
    have hstart:=FirstAt.zero 18446744073709551616 o b ai
    have Hstart:=Lib.hid hstart
    clear hai hstart hBw
    go_wp2_with fail
    go_loopw [11,28] (fun cv jv wr=>∃ (j cr:Nat) (o1:List Nat),jv=.int .i64 (j:Int)∧cv=.int .u64 (cr:Int)∧j≤n∧cr<18446744073709551616∧Hid (FirstAt 18446744073709551616 o b o1 ai j cr)∧Hid (∀ x∈o1,x<18446744073709551616)∧ARow wr (w.heap.size+1+1+1) 232 o1∧Below (w.heap.size+1+1+1) W0 wr) (fun _ jv _=>n - (intOf jv).toNat)
    case atStart=>exact ⟨0,0,o,rfl,rfl,by omega,by omega,Hstart,Hlo,hblk,hB⟩
    case round =>
     clear hblk hB c0
     obtain ⟨j,cr,o1,rfl,rfl,hj,hcr,HA,Hlo1,hblk,hB⟩:=hrel
     have hl1:o1.length=8:=by have:=HA.out.1;have:=Ho.out;omega
     have hBw:Below w.heap.size w wr:=hB0.trans (hB.mono (by omega))
     have hAr:=A0.below hB (by omega)
     have hBr:=B0.below hB (by omega)
     by_cases hjt:j<n
     · have q1:=hAr.cell (i:=i) (by rw [Ha.out.six];omega)
       rw [Hai.out] at q1
       have q2:=hBr.cell (i:=j) (by rw [Hb.out.six];omega)
       have q3:=hblk.cell (i:=j) (by omega)
       have q4:=hblk.free j
       have db:dg b j<18446744073709551616:=getD_lt (by omega) Hb.out.lim j
       have d1:dg o1 j<18446744073709551616:=getD_lt (by omega) Hlo1.out j
       obtain ⟨hi',lo,s1,c1,s2,c2,b1,b2,b3,b4,b5,b6,b7,b8,b9,b10,he⟩:=mul_round ai (dg b j) (dg o1 j) cr dai db d1 hcr
       have hmul:=Lib.hid (fun k=>(mul64_at ai (dg b j) hi' lo dai db b1 b2 (World.drewN wr k)).mono fun e w' (h:e=_∧_=w')=>(⟨h.1,h.2.symm⟩:e=.returned (.tuple #[.int .u64 (hi':Int),.int .u64 (lo:Int)])∧w'=World.drewN wr k))
       have hadd1:=fun w=>add64_at lo (dg o1 j) 0 s1 c1 (by omega) b3 b4 w
       have hadd2:=fun w=>add64_at s1 cr 0 s2 c2 (by omega) b5 b6 w
       simp only [Int.cast_ofNat_Int] at hadd1 hadd2
       have hA':=Lib.hid (HA.out.step (s:=s2) (c':=hi'+c1+c2) (by have:=Ho.out;omega) (by rw [he];omega))
       have hblk':=hblk.set j s2
       have hB':=hB.setCell (p:=⟨w.heap.size+1+1+1,j,none⟩) (Nat.le_refl _) (.int .u64 (s2:Int))
       have Hlo':Hid (∀ x∈o1.set j s2,x<18446744073709551616):=Lib.hid (set_lt Hlo1.out b5)
       have kj8:(j:Int)<8:=by omega
       have kj6:(j:Int)<6:=by omega
       have hl8:(o1.set j s2).length=8:=by simpa using hl1
       clear he b2 b4 b6 HA hB hBw hAr hBr hl1 hblk
       go_wp2_with fail
       go_quiet (first | (go_at_call 163;exact Calls.quiet_of_same (hmul.out _)))
       go_wp2_with fail
       go_roundw
       case rel=>exact ⟨j+1,hi'+c1+c2,o1.set j s2,by go_num,by go_num,by omega,b10,hA',Hlo',hblk',below_drewN hB' _⟩
       case measure=>simp [intOf];omega
     · obtain rfl:j=n:=by omega
       have q3:=hblk.cell (i:=j) (by omega)
       have q4:=hblk.free j
       have d1:dg o1 j<18446744073709551616:=getD_lt (by omega) Hlo1.out j
       obtain ⟨s,c1,hs1,hs2,hs3⟩:=carry_of (dg o1 j) cr 0 d1 hcr (by omega)
       have hadd:=fun w=>add64_at (dg o1 j) cr 0 s c1 (by omega) hs1 hs3 w
       simp only [Int.cast_ofNat_Int] at hadd
       obtain ⟨hl2,hv2⟩:=HA.out.fin (s:=s) (c':=c1) (by have:=Ho.out;omega) (.inr tb) (by omega)
       have hlim2:∀ x∈(o1.set j s).set (j+1) c1,x<18446744073709551616:=set_lt (set_lt Hlo1.out hs1) (by omega)
       have hblk1:=hblk.set j s
       have q5:=hblk1.cell (i:=j+1) (by simp;omega)
       have q6:=hblk1.free (j+1)
       have hblk2:=hblk1.set (j+1) c1
       have hB2:=(hB.setCell (p:=⟨w.heap.size+1+1+1,j,none⟩) (Nat.le_refl _) (.int .u64 (s:Int))).setCell (p:=⟨w.heap.size+1+1+1,j+1,none⟩) (Nat.le_refl _) (.int .u64 (c1:Int))
       have kj8:(j:Int)<8:=by omega
       have kj9:(j:Int)+1<8:=by omega
       have hl2':((o1.set j s).set (j+1) c1).length=8:=by rw [hl2];exact Ho.out
       generalize ho2:(o1.set j s).set (j+1) c1=o2 at *
       have hW2:=hB2.size
       have m0:dg ml 0<18446744073709551616:=getD_lt (by omega) HF.out.mlt 0
       have t0:dg o2 0<18446744073709551616:=getD_lt (by omega) hlim2 0
       have HV2:=Lib.hid hv2
       have Hl2:=Lib.hid hl2'
       have Hlim2:=Lib.hid hlim2
       clear hs3 HA hv2 hl2 hl2' hlim2 hblk hblk1 hB ho2 hBw hAr hBr
       go_wp2_with fail
       generalize (World.setCell wr ⟨w.heap.size+1+1+1,j,none⟩ (.int .u64 (s:Int))).setCell ⟨w.heap.size+1+1+1,j+1,none⟩ (.int .u64 (c1:Int))=W2 at *
       have hBw2:Below w.heap.size w W2:=hB0.trans (hB2.mono (by omega))
       have hF2:=HF.out.below hBw2 hg
       have i7:=hF2.fld.inv_
       have i1:=hF2.fld.m_ (j:=0) (by omega)
       have e0:=hblk2.cell (i:=0) (by have:=Hl2.out;omega)
       obtain ⟨u,hu⟩:∃ u,dg o2 0*inv % 18446744073709551616=u:=⟨_,rfl⟩
       have hub:u<18446744073709551616:=by rw [←hu];exact Nat.mod_lt _ (by omega)
       have hwu:=wrap_mul (dg o2 0) inv
       rw [hu] at hwu
       have hV0:(val 18446744073709551616 (o.take (j+1))+ai*val 18446744073709551616 b) % 18446744073709551616=dg o2 0:=by rw [←HV2.out];exact val_take_mod Hlim2.out (by omega) _
       have hM0:M % 18446744073709551616=dg ml 0:=by
        obtain ⟨k,hk⟩:∃ k,j=k+1:=⟨j - 1,by omega⟩
        rw [←HF.out.mtake,hk]
        exact val_take_mod HF.out.mlt (by omega) _
       have hz:=low_gone (by omega) HF.out.invV hV0 hM0 hu.symm
       obtain ⟨hi',lo,c2,b1,b2,b3,b4,b5,b6⟩:=low_parts hub m0 t0 hz
       have hmul:=Lib.hid (fun w=>mul64_at u (dg ml 0) hi' lo hub m0 b1 b2 w)
       have hadd3:=fun w=>add64_at lo (dg o2 0) 0 0 c2 (by omega) (by omega) b4 w
       simp only [Int.cast_ofNat_Int] at hadd3
       obtain ⟨p0,hp0⟩:∃ p0,p0+1=j:=⟨j - 1,by omega⟩
       have Hs0:=Lib.hid (ShiftAt.zero (t:=o2) (m:=ml) (u:=u) (c:=hi'+c2) b6)
       have Hu:=Lib.hid (show u=(val 18446744073709551616 (o.take (j+1))+dg a i*val 18446744073709551616 b) % 18446744073709551616*inv % 18446744073709551616 by rw [Hai.out,hV0,hu])
       have Hp0:=Lib.hid hp0
       clear hu hV0 hM0 hz b2 b4 b6 hp0
       go_quiet (fail)
       go_wp2_with fail
       refine (hmul.out _).mono ?_
       rintro e w3 ⟨rfl,rfl⟩
       go_wp2_with fail
       have hblk3:ARow (W2.drewN nq) (w.heap.size+1+1+1) 232 o2:=hblk2
       have hB3:=below_drewN hB2 nq
       clear hblk2 hB2 e0 i7 i1 hF2 hBw2 q3 q4 q5 q6 hmul
       generalize W2.drewN nq=W3 at *
       go_loopw [11,18] (fun cv qv wr=>∃ (k cr:Nat) (o3:List Nat),qv=.int .i64 ((k:Int)+1)∧cv=.int .u64 (cr:Int)∧k+1≤j∧cr<18446744073709551616∧Hid (ShiftAt 18446744073709551616 o2 ml o3 u k cr)∧Hid (∀ x∈o3,x<18446744073709551616)∧ARow wr (w.heap.size+1+1+1) 232 o3∧Below (w.heap.size+1+1+1) W0 wr) (fun _ qv _=>j - (intOf qv).toNat)
       case atStart=>exact ⟨0,hi'+c2,o2,rfl,by go_num,by omega,b5,Hs0,Hlim2,hblk3,hB3⟩
       case round =>
        clear hblk3 hB3
        obtain ⟨k,cr,o3,rfl,rfl,hk,hcr,HS,Hlo3,hblk,hB⟩:=hrel
        have hl3:o3.length=8:=by have:=HS.out.1;have:=Hl2.out;omega
        have hBw:Below w.heap.size w wr:=hB0.trans (hB.mono (by omega))
        have hFr:=(HF.out.below hBw hg).fld
        by_cases hkt:k+1<j
        · have i1:=hFr.m_ (j:=k+1) (by omega)
          have q3:=hblk.cell (i:=k+1) (by omega)
          have q4:=hblk.free k
          have q5:=hblk.cell (i:=k) (by omega)
          have dm:dg ml (k+1)<18446744073709551616:=getD_lt (by omega) HF.out.mlt (k+1)
          have d1:dg o3 (k+1)<18446744073709551616:=getD_lt (by omega) Hlo3.out (k+1)
          obtain ⟨hi',lo,s1,c1,s2,c2,b1,b2,b3,b4,b5,b6,b7,b8,b9,b10,he⟩:=mul_round u (dg ml (k+1)) (dg o3 (k+1)) cr hub dm d1 hcr
          have hmul:=Lib.hid (fun w=>mul64_at u (dg ml (k+1)) hi' lo hub dm b1 b2 w)
          have hadd1:=fun w=>add64_at lo (dg o3 (k+1)) 0 s1 c1 (by omega) b3 b4 w
          have hadd2:=fun w=>add64_at s1 cr 0 s2 c2 (by omega) b5 b6 w
          simp only [Int.cast_ofNat_Int] at hadd1 hadd2
          have hS':=Lib.hid (HS.out.step (s:=s2) (c':=hi'+c1+c2) (by have:=Hl2.out;omega) (by rw [he];omega))
          have hblk':=hblk.set k s2
          have hB':=hB.setCell (p:=⟨w.heap.size+1+1+1,k,none⟩) (Nat.le_refl _) (.int .u64 (s2:Int))
          have Hlo':Hid (∀ x∈o3.set k s2,x<18446744073709551616):=Lib.hid (set_lt Hlo3.out b5)
          have kj8:(k:Int)+1<8:=by omega
          have kj6:(k:Int)+1<6:=by omega
          have kk8:(k:Int)<8:=by omega
          clear he b2 b4 b6 HS hB hBw hFr hl3 hblk
          go_wp2_with fail
          refine (hmul.out _).mono ?_
          rintro e w3 ⟨rfl,rfl⟩
          go_wp2
          go_roundw
          case rel=>exact ⟨k+1,hi'+c1+c2,o3.set k s2,by go_num,by go_num,by omega,b10,hS',Hlo',hblk',hB'⟩
          case measure=>simp [intOf];omega
        · have hkj:k+1=j:=by omega
          have q3:=hblk.cell (i:=j) (by omega)
          have q4:=hblk.free k
          have q5:=hblk.cell (i:=k) (by omega)
          have d1:dg o3 j<18446744073709551616:=getD_lt (by omega) Hlo3.out j
          obtain ⟨s,c1,hs1,hs2,hs3⟩:=carry_of (dg o3 j) cr 0 d1 hcr (by omega)
          have hadd:=fun w=>add64_at (dg o3 j) cr 0 s c1 (by omega) hs1 hs3 w
          simp only [Int.cast_ofNat_Int] at hadd
          obtain ⟨hl4,hv4⟩:=HS.out.fin (s:=s) (c':=c1) (by have:=Hl2.out;omega) (by rw [hkj,HF.out.mtake,HF.out.mval]) (by rw [hkj];omega)
          rw [HF.out.mval,show k+3=j+2 by omega,HV2.out] at hv4
          have hM4:=MontT.step (by omega) HM.out (by rw [Hai.out];exact dai) Hu.out rfl (T4:=val 18446744073709551616 (((o3.set k s).set (k+1) (dg o3 (k+2)+c1)).take (k+2))) (by rw [Hai.out];exact hv4.symm)
          have htop:dg o3 (k+2)+c1≤1:=by
           have e1:=val_take_getD 18446744073709551616 ((o3.set k s).set (k+1) (dg o3 (k+2)+c1)) (k+1)
           rw [getD_set_eq (by simp;omega)] at e1
           have e2:=hM4.1
           have e3:=HF.out.room
           rw [←hkj] at e3
           exact top_small e1 e2 (Nat.le_of_lt e3) Hb.out.lt
          have hlim4:∀ x∈(o3.set k s).set (k+1) (dg o3 (k+2)+c1),x<18446744073709551616:=set_lt (set_lt Hlo3.out hs1) (by omega)
          rw [show k+2=j+1 by omega,hkj] at hM4 hlim4 hl4
          rw [show k+2=j+1 by omega] at htop
          have hblk1:=hblk.set k s
          have q6:=hblk1.cell (i:=j+1) (by simp;omega)
          rw [getD_set_ne (by omega)] at q6
          have q7:=hblk1.cell (i:=j) (by simp;omega)
          have q8:=hblk1.free j
          have hblk2:=hblk1.set j (dg o3 (j+1)+c1)
          have hB2:=(hB.setCell (p:=⟨w.heap.size+1+1+1,k,none⟩) (Nat.le_refl _) (.int .u64 (s:Int))).setCell (p:=⟨w.heap.size+1+1+1,j,none⟩) (Nat.le_refl _) (.int .u64 ((dg o3 (j+1)+c1:Nat):Int))
          have kj8:(j:Int)<8:=by omega
          have kj9:(j:Int)+1<8:=by omega
          have kk8:(k:Int)<8:=by omega
          have hl5:((o3.set k s).set j (dg o3 (j+1)+c1)).length=8:=by simpa using hl3
          have HM4:=Lib.hid hM4
          have Hlim4:=Lib.hid hlim4
          have Hl5:=Lib.hid hl5
          have hwt:=IntWalk.u64_in ((dg o3 (j+1):Int)+(c1:Int)) (by omega)
          have Hwt:=Lib.hid hwt
          have Hkj:=Lib.hid hkj
          clear hs3 HS hv4 hM4 hlim4 hl4 hl5 hblk hblk1 hB hBw hFr htop hkj hwt
          go_upto_region 30 with fail
          have i0:(j:Int) - 1=(k:Int):=by have:=Hkj.out;omega
          go_upto_region 31 with fail
          have hwt:=Hwt.out
          go_wp2_with fail
          refine ⟨⟨i+1,(o3.set k s).set j (dg o3 (j+1)+c1),by go_num,by omega,HM4,Hl5,Hlim4,by simpa using hblk2,by simpa using hB2⟩,by simp [intOf];omega⟩
  · obtain rfl:i=n:=by omega
    obtain ⟨hTb,kk,hTk⟩:=HM.out
    have hFr:=HF.out.below hBw hg
    have hT:val 18446744073709551616 (o.take i)+18446744073709551616 ^ i*dg o i=val 18446744073709551616 (o.take (i+1)):=(val_take_getD _ _ _).symm
    have q1:=hblk.cell (i:=i) (by have:=Ho.out;omega)
    have hbel:=zbelow_any (w.heap.size+1+1+1) (dg o i) o wr hFr.fld hFr.mlt hblk (by omega) Ho.out Hlo.out hn hn1 (by rw [hFr.mtake,hFr.mval]) (getD_lt (by omega) Hlo.out i) (by rw [hT,hFr.mval];have:=Hb.out.lt;omega)
    rw [hT,hFr.mval] at hbel
    have hoff:=offM_mod (v:=val 18446744073709551616 (o.take (i+1))) (M:=M) (R:=18446744073709551616 ^ i) hTk
    rw [ta] at hoff
    have hltm:=offM_lt (v:=val 18446744073709551616 (o.take (i+1))) (M:=M) (by have:=Hb.out.lt;omega)
    have Hoff:=Lib.hid hoff
    have Hltm:=Lib.hid hltm
    have Hbel:=Lib.hid hbel
    have ki8:(i:Int)<8:=by omega
    clear hbel hT hFr hTb hTk hoff hltm hblk
    go_wp2_with fail
    refine Hbel.out.mono ?_
    rintro e w2 ⟨o2,rfl,ho6,hlim,hv2,hB2⟩
    obtain ⟨x0,x1,x2,x3,x4,x5,hoe⟩:=six ho6
    have hrb:=(hB2.block (w.heap.size+1+1) (by have:=hB.size;omega)).trans ((hB.block (w.heap.size+1+1) (by omega)).trans l3)
    obtain ⟨r0,r1,r2,r3,r4,r5⟩:=cells6 hrb
    have z:=fun i=>blk_free hrb i
    have z0:=z 0
    have z1:=z 1
    have z2:=z 2
    have z3:=z 3
    have z4:=z 4
    have z5:=z 5
    have hrb':=hrb
    have hBf:Below w.heap.size w w2:=hBw.trans (hB2.mono hBw.size)
    have Hv2:=Lib.hid hv2
    have Ho6:=Lib.hid ho6
    have Hlim:=Lib.hid hlim
    have Hoe:=Lib.hid hoe
    have hve:EV o2=.agg #[.int .u64 (x0:Int),.int .u64 (x1:Int),.int .u64 (x2:Int),.int .u64 (x3:Int),.int .u64 (x4:Int),.int .u64 (x5:Int)]:=by rw [hoe];rfl
    rw [hve]
    clear hve hoe hv2 ho6 hlim z hrb hB2 hB Hbel
    go_wp2_with fail
    refine end6 rfl rfl rfl (six_set hrb' _ _ _ _ _ _) ?_
    exact ⟨o2,by rw [Hoe.out];rfl,⟨Ho6.out,Hlim.out,by rw [Hv2.out];exact Hltm.out⟩,by rw [Hv2.out];exact Hoff.out,six_below hBf (by omega) _ _ _ _ _ _⟩
theorem add_cancel_mod {a b c M:Nat} (h:(a+c) % M=(b+c) % M):a % M=b % M:=by
 have h1:=congrArg (fun z:Nat=>(z:Int)) h
 simp only [Int.natCast_emod,Int.natCast_add] at h1
 have h2:((a:Int)+c - c) % M=((b:Int)+c - c) % M:=by rw [Int.sub_emod,h1,←Int.sub_emod]
 rw [Int.add_sub_cancel,Int.add_sub_cancel] at h2
 exact_mod_cast h2
theorem sub_mod_form {x y M R:Nat} (hM:0<M) (hy:y≤M):subM (x*R % M) (y*R % M) M=(x+M - y)*R % M:=by
 have h1:=Nat.mod_lt (x*R) hM
 have h2:=Nat.mod_lt (y*R) hM
 rw [subM_mod h1 h2]
 refine add_cancel_mod (c:=y*R % M) ?_
 rw [show x*R % M+M - y*R % M+y*R % M=x*R % M+M by omega,Nat.add_mod_right,Nat.mod_mod]
 rw [Nat.add_mod_mod,←Nat.add_mul,show x+M - y+y=x+M by omega,Nat.add_mul,Nat.add_mul_mod_self_left]
theorem off_mod {x M:Nat} (h:x<2*M):offM x M=x % M:=by
 rw [offM]
 split
 · rw [Nat.mod_eq_of_lt (by assumption)]
 · rw [show x=x - M+M by omega,Nat.add_mod_right,Nat.mod_eq_of_lt (by omega)];omega
structure FE (M n:Nat) (l:List Nat) (x:Nat):Prop where
 elt:Elt M l
 form:val 18446744073709551616 l=x*18446744073709551616 ^ n % M
theorem FE.mod {M n:Nat} {l:List Nat} {x:Nat} (h:FE M n l x):FE M n l (x % M):=⟨h.elt,by rw [Nat.mod_mul_mod];exact h.form⟩
theorem FE.zero_iff {w:World} {g n inv M:Nat} {ml ol rl l:List Nat} {x:Nat} (h:FE M n l x) (hF:FF w g n inv M ml ol rl):l=[0,0,0,0,0,0]↔x % M=0:=by
 constructor
 · intro hz
   have h1:=h.form
   rw [hz] at h1
   have h2:x*18446744073709551616 ^ n % M=0*18446744073709551616 ^ n % M:=by rw [←h1];simp
   have:=cancelR hF.invV h2
   simpa using this
 · intro hz
   have h1:=h.form
   rw [←Nat.mod_mul_mod,hz,Nat.zero_mul,Nat.zero_mod] at h1
   obtain ⟨a,b,c,d,e,f,rfl⟩:=six h.elt.six
   simp only [val_cons,val_nil] at h1
   simp
   omega
theorem fmul_any {g n inv M:Nat} {ml ol rl:List Nat} {a b:List Nat} {x y:Nat} (w:World) (hF:FF w g n inv M ml ol rl) (ha:FE M n a x) (hb:FE M n b y) :
 Calls Tryz.prog 175 #[.pointer (some ⟨g,0,none⟩),EV a,EV b] w fun e w'=>∃ o,e=.returned (EV o)∧FE M n o (x*y)∧Below w.heap.size w w':=by
 refine (zmul_any a b w hF ha.elt hb.elt).mono ?_
 rintro e w' ⟨o,rfl,ho,hv,hB⟩
 refine ⟨o,rfl,⟨ho,?_⟩,hB⟩
 rw [ha.form,hb.form,←Nat.mul_mod] at hv
 have h1:val 18446744073709551616 o*18446744073709551616 ^ n % M=(x*y*18446744073709551616 ^ n)*18446744073709551616 ^ n % M:=by
  rw [hv]
  congr 1
  generalize 18446744073709551616 ^ n=R
  rw [Nat.mul_mul_mul_comm,Nat.mul_assoc (x*y)]
 have h2:=cancelR hF.invV h1
 rwa [Nat.mod_eq_of_lt ho.lt] at h2
theorem fadd_any {g n inv M:Nat} {ml ol rl:List Nat} {a b:List Nat} {x y:Nat} (w:World) (hF:FF w g n inv M ml ol rl) (ha:FE M n a x) (hb:FE M n b y) :
 Calls Tryz.prog 174 #[.pointer (some ⟨g,0,none⟩),EV a,EV b] w fun e w'=>∃ o,e=.returned (EV o)∧FE M n o (x+y)∧Below w.heap.size w w':=by
 refine (zadd_any a b w hF ha.elt hb.elt).mono ?_
 rintro e w' ⟨o,rfl,ho,hv,hB⟩
 refine ⟨o,rfl,⟨ho,?_⟩,hB⟩
 have h1:=ha.elt.lt
 have h2:=hb.elt.lt
 rw [hv,off_mod (by omega),ha.form,hb.form,←Nat.add_mod,←Nat.add_mul]
theorem fsub_any {g n inv M:Nat} {ml ol rl:List Nat} {a b:List Nat} {x y:Nat} (w:World) (hF:FF w g n inv M ml ol rl) (ha:FE M n a x) (hb:FE M n b y) (hy:y≤M) :
 Calls Tryz.prog 176 #[.pointer (some ⟨g,0,none⟩),EV a,EV b] w fun e w'=>∃ o,e=.returned (EV o)∧FE M n o (x+M - y)∧Below w.heap.size w w':=by
 refine (zsub_any a b w hF ha.elt hb.elt).mono ?_
 rintro e w' ⟨o,rfl,ho,hv,hB⟩
 refine ⟨o,rfl,⟨ho,?_⟩,hB⟩
 rw [hv,ha.form,hb.form,sub_mod_form (by have:=hF.big;omega) hy]
theorem curve_eq {x y b M:Nat} (hM:3<M):(y*y+M - (((x*x+M - 3)*x+b) % M)) % M=0↔y*y % M=((x*x % M*x % M+M - 3*x % M) % M+b) % M:=by
 have h0:0<M:=by omega
 have hr:=Nat.mod_lt ((x*x+M - 3)*x+b) h0
 have e1:(y*y+M - (((x*x+M - 3)*x+b) % M)) % M=0↔y*y % M=((x*x+M - 3)*x+b) % M:=by
  constructor
  · intro h
    have h1:(y*y+M - (((x*x+M - 3)*x+b) % M)+(((x*x+M - 3)*x+b) % M)) % M=(0+((x*x+M - 3)*x+b) % M) % M:=by rw [Nat.add_mod,h,Nat.mod_mod,Nat.zero_add]
    rw [show y*y+M - (((x*x+M - 3)*x+b) % M)+(((x*x+M - 3)*x+b) % M)=y*y+M by omega,Nat.add_mod_right,Nat.zero_add,Nat.mod_mod] at h1
    exact h1
  · intro h
    have h1:(y*y+M - (((x*x+M - 3)*x+b) % M)+(((x*x+M - 3)*x+b) % M)) % M=(0+((x*x+M - 3)*x+b) % M) % M:=by
     rw [show y*y+M - (((x*x+M - 3)*x+b) % M)+(((x*x+M - 3)*x+b) % M)=y*y+M by omega,Nat.add_mod_right,Nat.zero_add,Nat.mod_mod]
     exact h
    have h2:=add_cancel_mod h1
    rwa [Nat.zero_mod] at h2
 have h3:=Nat.mod_lt (3*x) h0
 have h4:(x*x+M - 3)*x % M=(x*x % M*x % M+M - 3*x % M) % M:=by
  refine add_cancel_mod (c:=3*x) ?_
  rw [←Nat.add_mul,show x*x+M - 3+3=x*x+M by omega,Nat.add_mul,Nat.add_mul_mod_self_left]
  rw [Nat.add_mod (x*x % M*x % M+M - 3*x % M),←Nat.mod_mod (3*x) M,←Nat.add_mod,Nat.mod_mod,show x*x % M*x % M+M - 3*x % M+3*x % M=x*x % M*x % M+M by omega,Nat.add_mod_right,Nat.mod_mod,Nat.mod_mul_mod]
 rw [e1,Nat.add_mod ((x*x+M - 3)*x),h4,Nat.add_mod_mod]
end Go.Proofs.YtendnkpiidhogaaGreat
