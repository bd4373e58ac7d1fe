/- Laws that the proof rests on. -/
import Derived.RangeFuncFrom
import Derived.RangeFuncLeaves
import Derived.OwnWalkIn
import Derived.Deep.Draws
import Derived.Lib.Hide
import Derived.WalkKit
import Derived.WalkSpells
import Derived.WalkLawsBesides
import Derived.Deep.AppendLies
import Derived.Maps.AppendAt
import Derived.Shelf.Small.Bits
import Derived.Shelf.Strconv.Itoa0
import Derived.Shelf.Bits.Mul64
import Derived.Shelf.Spec.BitsCarry
import Derived.Deep.OwnRows
import Derived.Deep.DeepCutAuto
import Derived.Deep.QuietTactic
import Derived.BigQuiet
import Derived.Lib.BitFns
import Derived.Lib.ItoaNum
import Derived.Deep.CutBlock
import Derived.IntWalk
import Derived.Laws.Bits64b
import Derived.WalkMore
import Derived.RegionTactic
import Derived.ChangeAlike
import Derived.Laws.CopyRow
import Derived.Laws.IdiomCopy
import Derived.StillTailTactics
import Derived.Deep.RegionHeld3
import Derived.Laws.BytesArg
import Derived.Lib.Bytes
import Derived.RangeFuncNested
import Derived.RangeFuncBound
import Derived.RangeFuncCalls
import Derived.Shelf.Abstract
import Derived.Shelf.RegionOpen
import Derived.TacticsInMore
import Derived.LoopNIn
import Derived.LoopIn
import Derived.ControlIn
import Derived.Laws.EntriesVeiled
import Derived.ProofKit
import Derived.OpenShut
import Derived.ShutString
import Derived.ChangeOld
import Derived.ChangeSame
import Derived.Deep.Slices
import Derived.SizedLaws
import Derived.Lib.SmallJoins
import Derived.Below
import Derived.Deep.MidRow
import Derived.Laws.Bits128
import Derived.OrdersIn
import Derived.ChangeKeysEq
import Derived.Laws.StructEq
import Derived.Deep.RegionWith
import Derived.Sort.AtCall
import Derived.Laws.ResultCell
import Derived.Sort.CutIn
import Derived.Sort.AtCallIn
import Derived.Deep.Fields
import Derived.Test.YtmlbicgpehchhaaGreatProg
import Derived.Test.YtmlbicgpehchhaaGreatRows
set_option maxRecDepth 100000
set_option maxHeartbeats 16000000
namespace Go.Proofs.YtmlbicgpehchhaaGreat
theorem eV {α:Type}(a:α):∃ v,a=v:=⟨a,rfl⟩
theorem eW {α:Type}(a:α):∃ v,v=a:=⟨a,rfl⟩
theorem eG {α:Type}(a:α):∃ v,Go.RowKit.Hid (a=v):=⟨a,Lib.hid rfl⟩
theorem zF:type_of% @Go.Lib.hid:=@Go.Lib.hid
theorem zH:type_of% @Nat.le_refl:=@Nat.le_refl
theorem zK:type_of% @List.getElem?_toArray:=@List.getElem?_toArray
theorem zL:type_of% @List.getElem?_cons_zero:=@List.getElem?_cons_zero
theorem zN:type_of% @Go.RowKit.Below.heap_setCell:=@Go.RowKit.Below.heap_setCell
theorem zO:type_of% @Go.RowKit.Below.refl:=@Go.RowKit.Below.refl
theorem zP:type_of% @Go.heap_alloc_new:=@Go.heap_alloc_new
theorem zQ:type_of% @Nat.le_trans:=@Nat.le_trans
theorem zR:type_of% @Nat.lt_of_lt_of_le:=@Nat.lt_of_lt_of_le
theorem zS:type_of% @List.getElem?_cons_succ:=@List.getElem?_cons_succ
theorem zT:type_of% @Go.World.cell?_of_block:=@Go.World.cell?_of_block
theorem za:type_of% @Nat.eq_zero_or_pos:=@Nat.eq_zero_or_pos
theorem zd:type_of% @Nat.mul_assoc:=@Nat.mul_assoc
theorem zh:type_of% @List.getD_eq_getElem?_getD:=@List.getD_eq_getElem?_getD
theorem zi:type_of% @Nat.mul_le_mul_left:=@Nat.mul_le_mul_left
theorem zj:type_of% @Nat.mul_comm:=@Nat.mul_comm
theorem zk:type_of% @List.take_of_length_le:=@List.take_of_length_le
theorem zr:type_of% @Nat.mul_add:=@Nat.mul_add
theorem zt:type_of% @List.length_append:=@List.length_append
theorem zu:type_of% @Nat.pow_succ:=@Nat.pow_succ
theorem zx:type_of% @Go.RowKit.Below.heap_alloc:=@Go.RowKit.Below.heap_alloc
theorem zz:type_of% @Nat.lt_or_ge:=@Nat.lt_or_ge
theorem qA:type_of% @if_neg:=@if_neg
theorem qB:type_of% @List.length_take:=@List.length_take
theorem qC:type_of% @List.eq_nil_of_length_eq_zero:=@List.eq_nil_of_length_eq_zero
theorem qF:type_of% @Nat.pow_le_pow_right:=@Nat.pow_le_pow_right
theorem qG:type_of% @Nat.mod_eq_of_lt:=@Nat.mod_eq_of_lt
theorem qI:type_of% @Nat.pow_add:=@Nat.pow_add
theorem qK:type_of% @if_pos:=@if_pos
theorem qL:type_of% @Go.World.size_alloc:=@Go.World.size_alloc
theorem qO:type_of% @List.getElem?_eq_getElem:=@List.getElem?_eq_getElem
theorem qP:type_of% @Nat.mod_lt:=@Nat.mod_lt
theorem qS:type_of% @Go.bodyPost_ret:=@Go.bodyPost_ret
theorem qV:type_of% @Nat.div_lt_of_lt_mul:=@Nat.div_lt_of_lt_mul
theorem qW:type_of% @List.mem_of_mem_take:=@List.mem_of_mem_take
theorem qX:type_of% @decide_eq_true:=@decide_eq_true
theorem qY:type_of% @Go.World.putObj_heap_other:=@Go.World.putObj_heap_other
theorem qZ:type_of% @Nat.pow_pos:=@Nat.pow_pos
theorem qa:type_of% @List.drop_eq_getElem_cons:=@List.drop_eq_getElem_cons
theorem qb:type_of% @decide_eq_false:=@decide_eq_false
theorem qc:type_of% @Nat.min_eq_left:=@Nat.min_eq_left
theorem qe:type_of% @Int.cast_ofNat_Int:=@Int.cast_ofNat_Int
theorem qf:type_of% @Nat.mul_le_mul_right:=@Nat.mul_le_mul_right
theorem qh:type_of% @List.length_cons:=@List.length_cons
theorem qi:type_of% @Array.getElem?_eq_getElem:=@Array.getElem?_eq_getElem
theorem qn:type_of% @Nat.div_eq_of_lt:=@Nat.div_eq_of_lt
theorem qr:type_of% @Nat.add_mul:=@Nat.add_mul
theorem qt:type_of% @Nat.le_of_lt:=@Nat.le_of_lt
theorem qu:type_of% @Nat.add_zero:=@Nat.add_zero
theorem qx:type_of% @List.getElem?_eq_none:=@List.getElem?_eq_none
theorem qy:type_of% @Go.Result.andThen_ok:=@Go.Result.andThen_ok
theorem jB:type_of% @Nat.lt_of_le_of_lt:=@Nat.lt_of_le_of_lt
theorem jC:type_of% @List.length_drop:=@List.length_drop
theorem jD:type_of% @Go.IntWalk.u64_in:=@Go.IntWalk.u64_in
theorem jE:type_of% @Go.Exit.noGoto_ret:=@Go.Exit.noGoto_ret
theorem jF:type_of% @List.size_toArray:=@List.size_toArray
theorem jH:type_of% @Go.run_make_row':=@Go.run_make_row'
theorem jI:type_of% @List.length_nil:=@List.length_nil
theorem jJ:type_of% @Go.IntKind.wrap_i64:=@Go.IntKind.wrap_i64
theorem jK:type_of% @Nat.mul_zero:=@Nat.mul_zero
theorem jN:type_of% @List.take_length:=@List.take_length
theorem jR:type_of% @Nat.mul_left_comm:=@Nat.mul_left_comm
theorem jS:type_of% @Nat.mul_one:=@Nat.mul_one
theorem jU:type_of% @Nat.add_sub_cancel:=@Nat.add_sub_cancel
theorem jc:type_of% @Nat.zero_add:=@Nat.zero_add
theorem jd:type_of% @Nat.div_div_eq_div_mul:=@Nat.div_div_eq_div_mul
theorem jt:type_of% @List.length_set:=@List.length_set
theorem j6:type_of% @Nat.zero_le:=@Nat.zero_le
theorem kH:type_of% @Int.tdiv_eq_ediv_of_nonneg:=@Int.tdiv_eq_ediv_of_nonneg
theorem kI:type_of% @List.nil_append:=@List.nil_append
theorem kL:type_of% @Nat.add_comm:=@Nat.add_comm
theorem kM:type_of% @List.getElem_mem:=@List.getElem_mem
theorem kN:type_of% @List.cons_append:=@List.cons_append
theorem kR:type_of% @Nat.add_mul_mod_self_left:=@Nat.add_mul_mod_self_left
theorem kT:type_of% @List.append_assoc:=@List.append_assoc
theorem kU:type_of% @Int.toNat_natCast:=@Int.toNat_natCast
theorem kY:type_of% @Array.getElem?_modify:=@Array.getElem?_modify
theorem kg:type_of% @Nat.add_assoc:=@Nat.add_assoc
theorem kl:type_of% @Nat.pow_zero:=@Nat.pow_zero
theorem kr:type_of% @Go.World.ownsRow_nil:=@Go.World.ownsRow_nil
theorem vC:type_of% @Nat.mul_lt_mul_of_pos_left:=@Nat.mul_lt_mul_of_pos_left
theorem vK:type_of% @Int.natCast_add:=@Int.natCast_add
theorem vN:type_of% @List.set_append_right:=@List.set_append_right
theorem vU:type_of% @Option.getD_some:=@Option.getD_some
theorem vZ:type_of% @Nat.mul_mod:=@Nat.mul_mod
theorem vg:type_of% @decide_eq_true_eq:=@decide_eq_true_eq
theorem vh:type_of% @Go.Sem.run_bind:=@Go.Sem.run_bind
theorem vi:type_of% @Nat.div_add_mod:=@Nat.div_add_mod
theorem vj:type_of% @Bool.or_eq_true:=@Bool.or_eq_true
theorem wE:type_of% @Nat.pow_mul:=@Nat.pow_mul
theorem wH:type_of% @Nat.one_mul:=@Nat.one_mul
theorem wI:type_of% @List.map_cons:=@List.map_cons
theorem wM:type_of% @Go.info_parts:=@Go.info_parts
theorem wN:type_of% @Bool.and_eq_true:=@Bool.and_eq_true
theorem wT:type_of% @beq_iff_eq:=@beq_iff_eq
theorem wU:type_of% @Nat.add_mul_mod_self_right:=@Nat.add_mul_mod_self_right
theorem wc:type_of% @Go.IntKind.wrap_u64:=@Go.IntKind.wrap_u64
theorem wg:type_of% @Nat.div_le_self:=@Nat.div_le_self
theorem wh:type_of% @Bool.eq_iff_iff:=@Bool.eq_iff_iff
theorem wl:type_of% @List.take_succ_eq_append_getElem:=@List.take_succ_eq_append_getElem
theorem wm:type_of% @List.map_nil:=@List.map_nil
theorem wn:type_of% @List.getElem?_map:=@List.getElem?_map
theorem wq:type_of% @Go.IntWalk.i64_in:=@Go.IntWalk.i64_in
theorem ws:type_of% @Array.replicate_zero:=@Array.replicate_zero
theorem wt:type_of% @Array.replicate_succ:=@Array.replicate_succ
theorem xF:type_of% @Nat.sub_le:=@Nat.sub_le
theorem xI:type_of% @List.append_toArray:=@List.append_toArray
theorem xS:type_of% @decide_eq_false_iff_not:=@decide_eq_false_iff_not
theorem xT:type_of% @List.not_mem_nil:=@List.not_mem_nil
theorem xr:type_of% @Nat.mod_mod:=@Nat.mod_mod
theorem x8:type_of% @Nat.mul_right_comm:=@Nat.mul_right_comm
theorem x9:type_of% @Nat.le_of_eq:=@Nat.le_of_eq
theorem yG:type_of% @List.drop_of_length_le:=@List.drop_of_length_le
theorem yH:type_of% @Array.getElem?_eq_none:=@Array.getElem?_eq_none
theorem yK:type_of% @Go.grownBy_keeps_cells:=@Go.grownBy_keeps_cells
theorem yL:type_of% @Go.RowKit.Below.trans:=@Go.RowKit.Below.trans
theorem yV:type_of% @Go.results_cell_row:=@Go.results_cell_row
theorem yW:type_of% @Int.natCast_mul:=@Int.natCast_mul
theorem ya:type_of% @List.mem_cons:=@List.mem_cons
theorem yx:type_of% @List.push_toArray:=@List.push_toArray
theorem yy:type_of% @List.getElem_drop:=@List.getElem_drop
theorem uO:type_of% @Nat.add_mul_div_left:=@Nat.add_mul_div_left
theorem uP:type_of% @List.setIfInBounds_toArray:=@List.setIfInBounds_toArray
theorem uQ:type_of% @List.mem_of_mem_drop:=@List.mem_of_mem_drop
theorem ub:type_of% @Ne.symm:=@Ne.symm
theorem uc:type_of% @Classical.byContradiction:=@Classical.byContradiction
end Go.Proofs.YtmlbicgpehchhaaGreat
namespace Go.Proofs.YtmlbicgpehchhaaGreat
open Go.RowKit
structure jP (B C m:Nat) (W W':World):Prop where
 size:W.heap.size≤W'.heap.size
 others:∀ (k:Nat) (o:Obj),B≤k→W.heap[k]?=some o→o.isCells=false→W'.heap[k]?=some o
 cells:∀ k,C≤k→k<C+m→k<W.heap.size→W'.heap[k]?=W.heap[k]?
theorem jP.refl (B C m:Nat) (W:World):jP B C m W W:=⟨zH _,fun _ _ _ h _=>h,fun _ _ _ _=>rfl⟩
theorem jP.trans {B C m:Nat}{W W' W'':World}(h:jP B C m W W') (k:jP B C m W' W''):jP B C m W W'' :=
 ⟨zQ h.size k.size,fun i o hb hi ho=>k.others i o hb (h.others i o hb hi ho) ho,fun i hc hm hi=>(k.cells i hc hm (zR hi h.size)).trans (h.cells i hc hm hi)⟩
theorem jP.mono {B B' C C' m m':Nat}{W W':World}(h:jP B C m W W') (hB:B≤B') (hC:C≤C') (hm:C'+m'≤C+m):jP B' C' m' W W' :=
 ⟨h.size,fun k o hb=>h.others k o (zQ hB hb),fun k hc hk=>h.cells k (zQ hC hc) (zR hk hm)⟩
theorem jP.none {B C C' m:Nat}{W W':World}(h:jP B C m W W'):jP B C' 0 W W':=⟨h.size,h.others,fun k h1 h2=>absurd h2 (by omega)⟩
theorem jP.setCell (B C m:Nat) (W:World){a:Addr}(ha:a.block<C∨C+m≤a.block) (v:Value):jP B C m W (W.setCell a v) :=
 ⟨(KeepsOthers.setCell W a v).size,fun k o _=>(KeepsOthers.setCell W a v).same k o,fun k h1 h2 _=>zN W a v k (by omega)⟩
theorem jP.alloc (B C m:Nat) (W:World) (o:Obj):jP B C m W (W.alloc o):=⟨by simp,fun k o' _=>(KeepsOthers.alloc W o).same k o',fun k _ _ hk=>zx W o k hk⟩
theorem jP.drew (B C m:Nat) (W:World):jP B C m W W.drew:=⟨zH _,fun _ _ _ h _=>h,fun _ _ _ _=>rfl⟩
theorem jP.drewN (B C m:Nat) (W:World) (n:Nat):jP B C m W (W.drewN n):=⟨zH _,fun _ _ _ h _=>h,fun _ _ _ _=>rfl⟩
theorem jP.below {B C m D:Nat}{W W':World}(h:Below D W W') (hD:W.heap.size≤D):jP B C m W W' :=
 ⟨h.size,fun k _ _ hk _=>(h.block k (zR (Array.getElem?_eq_some_iff.1 hk).1 hD)).trans hk,fun k _ _ hk=>h.block k (zR hk hD)⟩
theorem jP.putObj {B C m:Nat}{W:World}{l:Nat}{o:Obj}(hl:l<B) (hC:l<C):jP B C m W (W.putObj l o) :=
 ⟨by simp,fun k _ hb hk _=>(qY (by omega)).trans hk,fun k hc _ _=>qY (by omega)⟩
def zCM (P:Program) (g:Nat) (lb:Array Value) (xs:Nat→Array Value) (Nd:Nat→World→Prop) (T:Nat→Nat→World→World→Prop) (Kp:World→World→Prop) (m N:Nat) (fin:Bool) (w:World):Prop :=
  ∀ (n l : Nat) (J J' Jx : Nat → World → Prop) (W : World), 1 ≤ n → Below w.heap.size w W → l < W.heap.size → OwnFrom W.heap.size J → OwnFrom W.heap.size J' → OwnFrom W.heap.size Jx →
    (∀ k W1,k≤N→J k W1→Nd k W1)→(∀ k W1 W2,k≤N→J k W1→T W.heap.size k W1 W2→J' k W2)→(fin=false→∀ W',¬ J' N W') →
    (∀ k W1,J' k W1→k<N→W.heap.size+m≤W1.heap.size→YieldAt Fence.wide (n - 1) P l (xs k) W1 fun e W' =>
      (e=.returned (.bool true)∧J (k+1) W'∧Kp W1 W'∧jP W.heap.size W.heap.size m W1 W')∨(e=.returned (.bool false)∧Jx (k+1) W'∧jP W.heap.size W.heap.size m W1 W')) →
    J 0 W →
    CallsIn Fence.wide n P g (#[.func (.yield l) #[] #[]]++lb) W fun e W'=>(∃ v,e=.returned v)∧(J' N W'∨∃ k,0<k∧k≤N∧Jx k W')
def zBK (_:Nat) (_:World):Prop:=True
def nC (_B _k:Nat) (W W':World):Prop:=W.grownBy W' none
def oS (B m:Nat) (Kp:World→World→Prop) (I:Nat→World→Prop) (Ix:Code→Nat→World→Prop) (k:Nat) (W:World):Exit→Act→World→Prop
 | .normal,_,W'=>jP B (B+2) m W W'∧Kp W W'∧I k W'
 | .ret,_,W'=>jP B (B+2) m W W'∧Ix .ret k W'
 | .exit id,_,W'=>jP B (B+2) m W W'∧Ix (.exit id) k W'
 | .goto t,_,W'=>jP B (B+2) m W W'∧Ix (.goto t) k W'
 | .panic _,_,_=>False
 | .outgrown,_,_=>False
theorem wK {β:Type}{B C:Nat}{I:β→World→Prop}(h:OwnFrom B I) (hc:B≤C):OwnFrom C I :=
 fun s W W' row hs hg hr=>h s W W' row hs hg fun r e=>⟨zQ hc (hr r e).1,(hr r e).2⟩
theorem xW {β:Type}{B g:Nat}(o:Obj) (hg:g<B):OwnFrom B (fun (_:β) W=>g<W.heap.size∧W.heap[g]?=some o):=fun _ W W' row hs hw hr =>
 ⟨zR hs.1 hw.size,(hw.block g hs.1 fun e=>by have:=(hr g e.symm).1;omega).trans hs.2⟩
theorem dB {n:Nat}{P:Program}{g:Operand}{ps:Array Tmp}{assign body:Code}{Q:Exit→Act→World→Prop}{a:Act}{w:World}
   (h2:2≤n) {gf:Nat} {lb:Array Value} (hg:a.eval g=.func (.func gf) #[] lb) (eg:∀ args w,(callFunc gf args).run P w=.ok (.enter gf args) w)
   {xs:Nat→Array Value} {Nd:Nat→World→Prop} {T:Nat→Nat→World→World→Prop} {Kp:World→World→Prop} {m N:Nat} {fin:Bool} {w0:World} (hseq:zCM P gf lb xs Nd T Kp m N fin w0)
   (hKt:∀ {A B C:World},Kp A B→Kp B C→Kp A C) (hKb:∀ (W:World) (l:Nat) (o o':Obj),w.heap.size≤l→W.heap[l]?=some o→o.isCells=false→o.isWalk=false→Kp W (W.putObj l o'))
   (hT:∀ B k W1 W2,T B k W1 W2→W1.heap.size≤W2.heap.size∧∀ b o,b<B→W1.heap[b]?=some o→o.isCells=false→W2.heap[b]?=some o)
   (hb0:Below w0.heap.size w0 w) (hps:∀ k,(xs k).size=ps.size)
   (I I':Nat→World→Prop) (Ix:Code→Nat→World→Prop) (hI:OwnFrom w.heap.size I) (hI':OwnFrom w.heap.size I') (hIx:∀ c,OwnFrom w.heap.size (Ix c))
   (hNd:∀ k W,k≤N→I k W→Nd k W) (hIT:∀ B k W1 W2,w.heap.size≤B→k≤N→I k W1→T B k W1 W2→I' k W2) (hfin:fin=false→∀ W',¬ I' N W') (h0:I 0 w) (a₁:Nat→Act)
   (hassign:∀ (l k:Nat) (W:World) (K:Act→World→Prop),K (a₁ k) W →
     assign.wpIn (Fence.wide.inRound l) (n - 1 - 1) P (Exit.then K (fun _ _ _=>False)) { tmps:=(ps.zip (xs k)).foldl (fun t (p,v)=>t.setIfInBounds p v) a.tmps,defers:=[] } W)
   (hbody:∀ (l k:Nat) (W:World),I' k W→k<N→w.heap.size+2+m≤W.heap.size→body.wpIn (Fence.wide.inRound l) (n - 1 - 1) P (oS w.heap.size m Kp I Ix (k+1) W) (a₁ k) W)
   (hdone:∀ (D:Nat) (W:World),w.heap.size≤D→I' N W→W.heap[D]?=some (.deferred (some []))→Q .normal { a with defers:={ target:=.collected D,args:=#[] } :: a.defers } W)
   (hstop:∀ (D:Nat) (c:Code) (k:Nat) (W:World),w.heap.size≤D→0<k→k≤N→Ix c k W→W.heap[D]?=some (.deferred (some []))→c.wpIn Fence.wide n P Q { a with defers:={ target:=.collected D,args:=#[] } :: a.defers } W) :
   (Code.rangeFunc g ps assign body).wpIn Fence.wide n P Q a w:=by
 refine wpIn_rangeFunc ?_;intro fn hfn;obtain ⟨rc,hrc⟩:∃ rc:LoopState→Option Code→Loop,rc=fun st pe=>{ state:=st,pending:=pe,fn,tmps:=a.tmps,params:=ps,assign,body,defers:=w.heap.size }:=⟨_,rfl⟩
 obtain ⟨L,hL⟩:=eV (w.heap.size+1);obtain ⟨D,hD⟩:=eV w.heap.size;obtain ⟨W1,hW1⟩:=eV ((w.alloc (.deferred (some []))).alloc (.loop (rc .ready none)));have hz1:W1.heap.size=D+2:=by rw [←hW1,←hD];simp
 have hl1:W1.heap[L]?=some (.loop (rc .ready none)):=by
   rw [←hW1,←hL];have:=World.alloc_heap_new (w.alloc (.deferred (some []))) (.loop (rc .ready none));rwa [qL] at this
 have hd1:W1.heap[D]?=some (.deferred (some [])):=by
   rw [←hW1,←hD];exact (zx _ _ _ (by simp)).trans (World.alloc_heap_new w _)
 have hi1:I 0 W1:=by rw [←hW1];exact hI.alloc _ (hI.alloc _ h0)
 have hb1:Below w0.heap.size w0 W1:=by rw [←hW1];exact hb0.trans ((((zO _ w).alloc (zH _) _).alloc (by simp) _).mono hb0.size)
 have hlD:L=D+1:=by omega
 refine ⟨L,[{ target:=.collected D,args:=#[] }],W1,{ target:=.fn (.func gf) lb,args:=#[.func (.yield L) #[] #[]] },W1,gf,
   #[.func (.yield L) #[] #[]]++lb,W1,?_,?_,?_,?_,fun _=>by omega,?_⟩
 · rw [←hW1,hrc,←hL,←hD];exact run_enterLoop_outer _ _ _ _ _
 · simp only [resolve,hg];simp [go_sem]
 · exact fun _ _=>trivial
 · simp [invoke,go_sem,eg]
 -- the record's two blocks,beside what the caller holds
 have recs:∀ (st:LoopState) (pe:Option Code),OwnFrom W1.heap.size (fun (_:Nat) (W:World)=>(L<W.heap.size∧W.heap[L]?=some (.loop (rc st pe)))∧D<W.heap.size∧W.heap[D]?=some (.deferred (some []))):=fun st pe =>
   OwnFrom.and (xW _ (by omega)) (xW _ (by omega))
 have lt:∀ {W:World} {b:Nat} {o:Obj},W.heap[b]?=some o→b<W.heap.size:=fun h=>(Array.getElem?_eq_some_iff.1 h).1
 refine (hseq (n - 1) L
   (fun k W=>I k W∧(L<W.heap.size∧W.heap[L]?=some (.loop (rc .ready none)))∧D<W.heap.size∧W.heap[D]?=some (.deferred (some [])))
   (fun k W=>I' k W∧(L<W.heap.size∧W.heap[L]?=some (.loop (rc .ready none)))∧D<W.heap.size∧W.heap[D]?=some (.deferred (some [])))
   (fun k W=>∃ c,Ix c k W∧(L<W.heap.size∧W.heap[L]?=some (.loop (rc .done (some c))))∧D<W.heap.size∧W.heap[D]?=some (.deferred (some [])))
   W1 (by omega) hb1 (by omega) (OwnFrom.and (wK hI (by omega)) (recs _ _)) (OwnFrom.and (wK hI' (by omega)) (recs _ _))
   (fun k A B row hs hg' hr=>by obtain ⟨c,hc,hr2⟩:=hs;exact ⟨c,wK (hIx c) (by omega) k A B row hc hg' hr,recs _ _ k A B row hr2 hg' hr⟩)
   (fun k A hk hs=>hNd k A hk hs.1) ?_ (fun hf W' hs=>hfin hf W' hs.1) ?_ ⟨hi1,⟨lt hl1,hl1⟩,lt hd1,hd1⟩).mono ?_
 · rintro k A B hk ⟨hi,⟨_,hl⟩,_,hd⟩ ht;have hl':=(hT _ _ _ _ ht).2 L _ (by omega) hl rfl;have hd':=(hT _ _ _ _ ht).2 D _ (by omega) hd rfl;exact ⟨hIT _ k A B (by omega) hk hi ht,⟨lt hl',hl'⟩,lt hd',hd'⟩
 · -- one round
   rintro k W ⟨hi,⟨_,hl⟩,_,hd⟩ hlen hm;have hlt:L<W.heap.size:=lt hl;have hy:=run_yield (P:=P) (args:=xs k) hl (by rw [hrc];exact hps k);rw [hrc] at hy;refine ⟨fn,_,assign,body,hy,roundIn_of_wpIn hfn (hassign _ k W _ ⟨_,run_beginRound hl (by rw [hrc]),?_⟩)⟩;have hl2:(W.putObj L (.loop { rc .ready none with state:=.busy })).heap[L]?=some (.loop { rc .ready none with state:=.busy }):=World.putObj_heap_same hlt;have hd2:(W.putObj L (.loop { rc .ready none with state:=.busy })).heap[D]?=some (.deferred (some [])):=(qY (by omega)).trans hd;have hw2:Kp W (W.putObj L (.loop { rc .ready none with state:=.busy })):=hKb _ _ _ _ (by omega) hl rfl rfl;have hk2:jP W1.heap.size W1.heap.size m W (W.putObj L (.loop { rc .ready none with state:=.busy })):=jP.putObj (by omega) (by omega);refine wpIn_mono (hbody _ k _ (hI'.putObj _ hi (by omega) hl rfl) hlen (by simp;omega)) ?_
   have fin:∀ (jump:Option Code) (W3:World),jP w.heap.size (w.heap.size+2) m (W.putObj L (.loop { rc .ready none with state:=.busy })) W3 →
       (Instr.endRound L jump).run P W3=.ok (.bool jump.isNone) (W3.putObj L (.loop (rc (if jump.isNone then .ready else .done) jump))) ∧
       W3.heap[L]?=some (.loop { rc .ready none with state:=.busy }) ∧
       (W3.putObj L (.loop (rc (if jump.isNone then .ready else .done) jump))).heap[L]?=some (.loop (rc (if jump.isNone then .ready else .done) jump)) ∧
       (W3.putObj L (.loop (rc (if jump.isNone then .ready else .done) jump))).heap[D]?=some (.deferred (some [])) ∧
       jP W1.heap.size W1.heap.size m W (W3.putObj L (.loop (rc (if jump.isNone then .ready else .done) jump))):=fun jump W3 hk3=>by
     have hl3:=hk3.others L _ (by omega) hl2 rfl;have hd3:=hk3.others D _ (by omega) hd2 rfl;have:=run_endRound (P:=P) jump hl3;rw [hrc] at this ⊢;exact ⟨this,by rw [hrc] at hl3;exact hl3,World.putObj_heap_same (lt hl3),(qY (by omega)).trans hd3,by rw [hrc] at hk2 hk3;exact hk2.trans ((hk3.mono (by omega) (by omega) (by omega)).trans (jP.putObj (by omega) (by omega)))⟩
   rintro e a3 W3 hp;cases e with
   | normal =>
     obtain ⟨hk3,hkp3,hi3⟩:=hp;obtain ⟨hr,hl3,hl4,hd4,hk4⟩:=fin none W3 hk3;exact ⟨_,_,hr,.inl ⟨rfl,⟨hI.putObj _ hi3 (by omega) hl3 rfl,⟨lt hl4,hl4⟩,lt hd4,hd4⟩,hKt (hKt hw2 hkp3) (hKb _ _ _ _ (by omega) hl3 rfl rfl),hk4⟩⟩
   | ret =>
     obtain ⟨hk3,hi3⟩:=hp;obtain ⟨hr,hl3,hl4,hd4,hk4⟩:=fin (some .ret) W3 hk3;exact ⟨_,_,hr,.inr ⟨rfl,⟨.ret,(hIx _).putObj _ hi3 (by omega) hl3 rfl,⟨lt hl4,hl4⟩,lt hd4,hd4⟩,hk4⟩⟩
   | exit id =>
     obtain ⟨hk3,hi3⟩:=hp;obtain ⟨hr,hl3,hl4,hd4,hk4⟩:=fin (some (.exit id)) W3 hk3;exact ⟨_,_,hr,.inr ⟨rfl,⟨.exit id,(hIx _).putObj _ hi3 (by omega) hl3 rfl,⟨lt hl4,hl4⟩,lt hd4,hd4⟩,hk4⟩⟩
   | goto t =>
     obtain ⟨hk3,hi3⟩:=hp;obtain ⟨hr,hl3,hl4,hd4,hk4⟩:=fin (some (.goto t)) W3 hk3;exact ⟨_,_,hr,.inr ⟨rfl,⟨.goto t,(hIx _).putObj _ hi3 (by omega) hl3 rfl,⟨lt hl4,hl4⟩,lt hd4,hd4⟩,hk4⟩⟩
   | panic ch=>exact hp.elim
   | outgrown=>exact hp.elim
 · -- behind the iterator
   rintro e W2 ⟨⟨v,rfl⟩,(⟨hi,⟨_,hl⟩,_,hd⟩ | ⟨k,hk0,hk,c,hi,⟨_,hl⟩,_,hd⟩)⟩
   · exact ⟨none,_,by have:=run_endLoop (P:=P) hl (by rw [hrc];simp);rw [hrc] at this;exact this,hdone _ _ (by omega) (hI'.putObj _ hi (by omega) hl rfl) ((qY (by omega)).trans hd)⟩
   · exact ⟨some c,_,by have:=run_endLoop (P:=P) hl (by rw [hrc];simp);rw [hrc] at this;exact this,hstop _ c k _ (by omega) hk0 hk ((hIx c).putObj _ hi (by omega) hl rfl) ((qY (by omega)).trans hd)⟩
theorem yM:∀ B k W1 W2,nC B k W1 W2→W1.heap.size≤W2.heap.size∧∀ b o,b<B→W1.heap[b]?=some o→o.isCells=false→W2.heap[b]?=some o:=fun _ _ _ _ h =>
 ⟨h.size,fun b o _ hb _=>(h.block b (Array.getElem?_eq_some_iff.1 hb).1 (by simp)).trans hb⟩
theorem xV {B:Nat}{I:Nat→World→Prop}(h:OwnFrom B I){C k:Nat}{W1 W2:World}(hi:I k W1) (ht:nC C k W1 W2):I k W2:=h k W1 W2 none hi ht (fun r e=>by cases e)
def zBI {β:Type} (P:Program) (g:Nat) (lb:Array Value) (xs:Nat→β→Array Value) (Vs:Nat→β→World→Prop) (Nd:Nat→World→Prop) (T:Nat→Nat→World→World→Prop) (Kp:World→World→Prop) (m N:Nat) (fin:Bool) (w:World):Prop :=
  ∀ (n l : Nat) (J J' Jx : Nat → World → Prop) (W : World), 1 ≤ n → Below w.heap.size w W → l < W.heap.size → OwnFrom W.heap.size J → OwnFrom W.heap.size J' → OwnFrom W.heap.size Jx →
    (∀ k W1,k≤N→J k W1→Nd k W1)→(∀ k W1 W2,k≤N→J k W1→T W.heap.size k W1 W2→J' k W2)→(fin=false→∀ W',¬ J' N W') →
    (∀ k b W1,J' k W1→Vs k b W1→k<N→W.heap.size+m≤W1.heap.size→YieldAt Fence.wide (n - 1) P l (xs k b) W1 fun e W' =>
      (e=.returned (.bool true)∧J (k+1) W'∧Kp W1 W'∧jP W.heap.size W.heap.size m W1 W')∨(e=.returned (.bool false)∧Jx (k+1) W'∧jP W.heap.size W.heap.size m W1 W')) →
    J 0 W →
    CallsIn Fence.wide n P g (#[.func (.yield l) #[] #[]]++lb) W fun e W'=>(∃ v,e=.returned v)∧(J' N W'∨∃ k,0<k∧k≤N∧Jx k W')
theorem pQ {β:Type}{n:Nat}{P:Program}{g:Operand}{ps:Array Tmp}{assign body:Code}{Q:Exit→Act→World→Prop}{a:Act}{w:World}
   (h2:2≤n) {gf:Nat} {lb:Array Value} (hg:a.eval g=.func (.func gf) #[] lb) (eg:∀ args w,(callFunc gf args).run P w=.ok (.enter gf args) w)
   {xs:Nat→β→Array Value} {Vs:Nat→β→World→Prop} {Nd:Nat→World→Prop} {T:Nat→Nat→World→World→Prop} {Kp:World→World→Prop} {m N:Nat} {fin:Bool} {w0:World} (hseq:zBI P gf lb xs Vs Nd T Kp m N fin w0)
   (hKt:∀ {A B C:World},Kp A B→Kp B C→Kp A C) (hKb:∀ (W:World) (l:Nat) (o o':Obj),w.heap.size≤l→W.heap[l]?=some o→o.isCells=false→o.isWalk=false→Kp W (W.putObj l o'))
   (hT:∀ B k W1 W2,T B k W1 W2→W1.heap.size≤W2.heap.size∧∀ b o,b<B→W1.heap[b]?=some o→o.isCells=false→W2.heap[b]?=some o)
   (hb0:Below w0.heap.size w0 w) (hps:∀ k b,(xs k b).size=ps.size) (hVp:∀ k b (W:World) (l:Nat) (o o':Obj),Vs k b W→W.heap[l]?=some o→o.isCells=false→Vs k b (W.putObj l o'))
   (I I':Nat→World→Prop) (Ix:Code→Nat→World→Prop) (hI:OwnFrom w.heap.size I) (hI':OwnFrom w.heap.size I') (hIx:∀ c,OwnFrom w.heap.size (Ix c))
   (hNd:∀ k W,k≤N→I k W→Nd k W) (hIT:∀ B k W1 W2,w.heap.size≤B→k≤N→I k W1→T B k W1 W2→I' k W2) (hfin:fin=false→∀ W',¬ I' N W') (h0:I 0 w) (a₁:Nat→β→Act)
   (hassign:∀ (l k:Nat) (b:β) (W:World) (K:Act→World→Prop),K (a₁ k b) W →
     assign.wpIn (Fence.wide.inRound l) (n - 1 - 1) P (Exit.then K (fun _ _ _=>False)) { tmps:=(ps.zip (xs k b)).foldl (fun t (p,v)=>t.setIfInBounds p v) a.tmps,defers:=[] } W)
   (hbody:∀ (l k:Nat) (b:β) (W:World),I' k W→Vs k b W→k<N→w.heap.size+2+m≤W.heap.size→body.wpIn (Fence.wide.inRound l) (n - 1 - 1) P (oS w.heap.size m Kp I Ix (k+1) W) (a₁ k b) W)
   (hdone:∀ (D:Nat) (W:World),w.heap.size≤D→I' N W→W.heap[D]?=some (.deferred (some []))→Q .normal { a with defers:={ target:=.collected D,args:=#[] } :: a.defers } W)
   (hstop:∀ (D:Nat) (c:Code) (k:Nat) (W:World),w.heap.size≤D→0<k→k≤N→Ix c k W→W.heap[D]?=some (.deferred (some []))→c.wpIn Fence.wide n P Q { a with defers:={ target:=.collected D,args:=#[] } :: a.defers } W) :
   (Code.rangeFunc g ps assign body).wpIn Fence.wide n P Q a w:=by
 refine wpIn_rangeFunc ?_;intro fn hfn;obtain ⟨rc,hrc⟩:∃ rc:LoopState→Option Code→Loop,rc=fun st pe=>{ state:=st,pending:=pe,fn,tmps:=a.tmps,params:=ps,assign,body,defers:=w.heap.size }:=⟨_,rfl⟩
 obtain ⟨L,hL⟩:=eV (w.heap.size+1);obtain ⟨D,hD⟩:=eV w.heap.size;obtain ⟨W1,hW1⟩:=eV ((w.alloc (.deferred (some []))).alloc (.loop (rc .ready none)));have hz1:W1.heap.size=D+2:=by rw [←hW1,←hD];simp
 have hl1:W1.heap[L]?=some (.loop (rc .ready none)):=by
   rw [←hW1,←hL];have:=World.alloc_heap_new (w.alloc (.deferred (some []))) (.loop (rc .ready none));rwa [qL] at this
 have hd1:W1.heap[D]?=some (.deferred (some [])):=by
   rw [←hW1,←hD];exact (zx _ _ _ (by simp)).trans (World.alloc_heap_new w _)
 have hi1:I 0 W1:=by rw [←hW1];exact hI.alloc _ (hI.alloc _ h0)
 have hb1:Below w0.heap.size w0 W1:=by rw [←hW1];exact hb0.trans ((((zO _ w).alloc (zH _) _).alloc (by simp) _).mono hb0.size)
 have hlD:L=D+1:=by omega
 refine ⟨L,[{ target:=.collected D,args:=#[] }],W1,{ target:=.fn (.func gf) lb,args:=#[.func (.yield L) #[] #[]] },W1,gf,
   #[.func (.yield L) #[] #[]]++lb,W1,?_,?_,?_,?_,fun _=>by omega,?_⟩
 · rw [←hW1,hrc,←hL,←hD];exact run_enterLoop_outer _ _ _ _ _
 · simp only [resolve,hg];simp [go_sem]
 · exact fun _ _=>trivial
 · simp [invoke,go_sem,eg]
 -- the record's two blocks,beside what the caller holds
 have recs:∀ (st:LoopState) (pe:Option Code),OwnFrom W1.heap.size (fun (_:Nat) (W:World)=>(L<W.heap.size∧W.heap[L]?=some (.loop (rc st pe)))∧D<W.heap.size∧W.heap[D]?=some (.deferred (some []))):=fun st pe =>
   OwnFrom.and (xW _ (by omega)) (xW _ (by omega))
 have lt:∀ {W:World} {b:Nat} {o:Obj},W.heap[b]?=some o→b<W.heap.size:=fun h=>(Array.getElem?_eq_some_iff.1 h).1
 refine (hseq (n - 1) L
   (fun k W=>I k W∧(L<W.heap.size∧W.heap[L]?=some (.loop (rc .ready none)))∧D<W.heap.size∧W.heap[D]?=some (.deferred (some [])))
   (fun k W=>I' k W∧(L<W.heap.size∧W.heap[L]?=some (.loop (rc .ready none)))∧D<W.heap.size∧W.heap[D]?=some (.deferred (some [])))
   (fun k W=>∃ c,Ix c k W∧(L<W.heap.size∧W.heap[L]?=some (.loop (rc .done (some c))))∧D<W.heap.size∧W.heap[D]?=some (.deferred (some [])))
   W1 (by omega) hb1 (by omega) (OwnFrom.and (wK hI (by omega)) (recs _ _)) (OwnFrom.and (wK hI' (by omega)) (recs _ _))
   (fun k A B row hs hg' hr=>by obtain ⟨c,hc,hr2⟩:=hs;exact ⟨c,wK (hIx c) (by omega) k A B row hc hg' hr,recs _ _ k A B row hr2 hg' hr⟩)
   (fun k A hk hs=>hNd k A hk hs.1) ?_ (fun hf W' hs=>hfin hf W' hs.1) ?_ ⟨hi1,⟨lt hl1,hl1⟩,lt hd1,hd1⟩).mono ?_
 · rintro k A B hk ⟨hi,⟨_,hl⟩,_,hd⟩ ht;have hl':=(hT _ _ _ _ ht).2 L _ (by omega) hl rfl;have hd':=(hT _ _ _ _ ht).2 D _ (by omega) hd rfl;exact ⟨hIT _ k A B (by omega) hk hi ht,⟨lt hl',hl'⟩,lt hd',hd'⟩
 · -- one round
   rintro k b W ⟨hi,⟨_,hl⟩,_,hd⟩ hvs hlen hm;have hlt:L<W.heap.size:=lt hl;have hy:=run_yield (P:=P) (args:=xs k b) hl (by rw [hrc];exact hps k b);rw [hrc] at hy;refine ⟨fn,_,assign,body,hy,roundIn_of_wpIn hfn (hassign _ k b W _ ⟨_,run_beginRound hl (by rw [hrc]),?_⟩)⟩;have hl2:(W.putObj L (.loop { rc .ready none with state:=.busy })).heap[L]?=some (.loop { rc .ready none with state:=.busy }):=World.putObj_heap_same hlt;have hd2:(W.putObj L (.loop { rc .ready none with state:=.busy })).heap[D]?=some (.deferred (some [])):=(qY (by omega)).trans hd;have hw2:Kp W (W.putObj L (.loop { rc .ready none with state:=.busy })):=hKb _ _ _ _ (by omega) hl rfl rfl;have hk2:jP W1.heap.size W1.heap.size m W (W.putObj L (.loop { rc .ready none with state:=.busy })):=jP.putObj (by omega) (by omega);refine wpIn_mono (hbody _ k b _ (hI'.putObj _ hi (by omega) hl rfl) (hVp k b W _ _ _ hvs hl rfl) hlen (by simp;omega)) ?_
   have fin:∀ (jump:Option Code) (W3:World),jP w.heap.size (w.heap.size+2) m (W.putObj L (.loop { rc .ready none with state:=.busy })) W3 →
       (Instr.endRound L jump).run P W3=.ok (.bool jump.isNone) (W3.putObj L (.loop (rc (if jump.isNone then .ready else .done) jump))) ∧
       W3.heap[L]?=some (.loop { rc .ready none with state:=.busy }) ∧
       (W3.putObj L (.loop (rc (if jump.isNone then .ready else .done) jump))).heap[L]?=some (.loop (rc (if jump.isNone then .ready else .done) jump)) ∧
       (W3.putObj L (.loop (rc (if jump.isNone then .ready else .done) jump))).heap[D]?=some (.deferred (some [])) ∧
       jP W1.heap.size W1.heap.size m W (W3.putObj L (.loop (rc (if jump.isNone then .ready else .done) jump))):=fun jump W3 hk3=>by
     have hl3:=hk3.others L _ (by omega) hl2 rfl;have hd3:=hk3.others D _ (by omega) hd2 rfl;have:=run_endRound (P:=P) jump hl3;rw [hrc] at this ⊢;exact ⟨this,by rw [hrc] at hl3;exact hl3,World.putObj_heap_same (lt hl3),(qY (by omega)).trans hd3,by rw [hrc] at hk2 hk3;exact hk2.trans ((hk3.mono (by omega) (by omega) (by omega)).trans (jP.putObj (by omega) (by omega)))⟩
   rintro e a3 W3 hp;cases e with
   | normal =>
     obtain ⟨hk3,hkp3,hi3⟩:=hp;obtain ⟨hr,hl3,hl4,hd4,hk4⟩:=fin none W3 hk3;exact ⟨_,_,hr,.inl ⟨rfl,⟨hI.putObj _ hi3 (by omega) hl3 rfl,⟨lt hl4,hl4⟩,lt hd4,hd4⟩,hKt (hKt hw2 hkp3) (hKb _ _ _ _ (by omega) hl3 rfl rfl),hk4⟩⟩
   | ret =>
     obtain ⟨hk3,hi3⟩:=hp;obtain ⟨hr,hl3,hl4,hd4,hk4⟩:=fin (some .ret) W3 hk3;exact ⟨_,_,hr,.inr ⟨rfl,⟨.ret,(hIx _).putObj _ hi3 (by omega) hl3 rfl,⟨lt hl4,hl4⟩,lt hd4,hd4⟩,hk4⟩⟩
   | exit id =>
     obtain ⟨hk3,hi3⟩:=hp;obtain ⟨hr,hl3,hl4,hd4,hk4⟩:=fin (some (.exit id)) W3 hk3;exact ⟨_,_,hr,.inr ⟨rfl,⟨.exit id,(hIx _).putObj _ hi3 (by omega) hl3 rfl,⟨lt hl4,hl4⟩,lt hd4,hd4⟩,hk4⟩⟩
   | goto t =>
     obtain ⟨hk3,hi3⟩:=hp;obtain ⟨hr,hl3,hl4,hd4,hk4⟩:=fin (some (.goto t)) W3 hk3;exact ⟨_,_,hr,.inr ⟨rfl,⟨.goto t,(hIx _).putObj _ hi3 (by omega) hl3 rfl,⟨lt hl4,hl4⟩,lt hd4,hd4⟩,hk4⟩⟩
   | panic ch=>exact hp.elim
   | outgrown=>exact hp.elim
 · -- behind the iterator
   rintro e W2 ⟨⟨v,rfl⟩,(⟨hi,⟨_,hl⟩,_,hd⟩ | ⟨k,hk0,hk,c,hi,⟨_,hl⟩,_,hd⟩)⟩
   · exact ⟨none,_,by have:=run_endLoop (P:=P) hl (by rw [hrc];simp);rw [hrc] at this;exact this,hdone _ _ (by omega) (hI'.putObj _ hi (by omega) hl rfl) ((qY (by omega)).trans hd)⟩
   · exact ⟨some c,_,by have:=run_endLoop (P:=P) hl (by rw [hrc];simp);rw [hrc] at this;exact this,hstop _ c k _ (by omega) hk0 hk ((hIx c).putObj _ hi (by omega) hl rfl) ((qY (by omega)).trans hd)⟩
end Go.Proofs.YtmlbicgpehchhaaGreat
namespace Go.Proofs.YtmlbicgpehchhaaGreat
def val (B:Nat):List Nat→Nat
 | []=>0
 | x :: l=>x+B*val B l
def digs (B:Nat) (n:Nat):List Nat:=if _h:2≤B∧0<n then n % B :: digs B (n / B) else []
termination_by n
decreasing_by exact Nat.div_lt_self _h.2 _h.1
@[simp] theorem zBO (B:Nat):val B []=0:=rfl
@[simp] theorem ju (B x:Nat) (l:List Nat):val B (x :: l)=x+B*val B l:=rfl
theorem qU (B:Nat):digs B 0=[]:=by rw [digs];simp
theorem jT {B n:Nat}(hB:2≤B) (hn:0<n):digs B n=n % B :: digs B (n / B):=by rw [digs];simp [hB,hn]
theorem zc {B:Nat}(hB:2≤B) (n:Nat):val B (digs B n)=n:=by
 induction n using Nat.strongRecOn with
 | ind n ih =>
   rcases za n with h | h
   · subst h;rw [qU];rfl
   · rw [jT hB h,ju,ih _ (Nat.div_lt_self h hB)];exact Nat.mod_add_div n B
theorem kQ {B:Nat}(hB:2≤B) (n:Nat):∀ x∈digs B n,x<B:=by
 induction n using Nat.strongRecOn with
 | ind n ih =>
   rcases za n with h | h
   · subst h;rw [qU];simp
   · rw [jT hB h];intro x hx;rcases List.mem_cons.1 hx with rfl | hx
     · exact qP _ (by omega)
     · exact ih _ (Nat.div_lt_self h hB) x hx
theorem kJ (B:Nat) (l m:List Nat):val B (l++m)=val B l+B ^ l.length*val B m:=by
 induction l with
 | nil=>simp
 | cons x l ih=>simp [ih,zu,zr,zd,zj,kg]
theorem jf {B:Nat}{l:List Nat}(h:∀ x∈l,x<B):val B l<B ^ l.length:=by
 induction l with
 | nil=>simp
 | cons x l ih =>
   have h1:=h x (by simp);have h2:=ih fun y hy=>h y (by simp [hy]);simp only [ju,qh,zu];have:B*(val B l+1)≤B*B ^ l.length:=zi _ h2;rw [zr] at this;rw [zj (B ^ l.length)];omega
theorem wJ {B:Nat}{l:List Nat}(h:∀ x∈l,x=0):val B l=0:=by
 induction l with
 | nil=>rfl
 | cons x l ih=>rw [ju,h x (by simp),ih fun y hy=>h y (by simp [hy])];simp
theorem kO (B n:Nat):val B (List.replicate n 0)=0:=wJ (by simp)
theorem jL (B:Nat) (l:List Nat){n:Nat}(hn:n≤l.length):val B l=val B (l.take n)+B ^ n*val B (l.drop n):=by
 have:=kJ B (l.take n) (l.drop n);rwa [List.take_append_drop,qB,qc hn] at this
theorem uG (B:Nat){l:List Nat}{n:Nat}(hn:n<l.length):val B (l.take (n+1))=val B (l.take n)+B ^ n*l[n]:=by
 rw [wl hn,kJ,qB,qc (by omega)];simp
theorem zBN (B:Nat){l:List Nat}{n:Nat}(hn:n<l.length) (x:Nat):val B (l.set n x)+B ^ n*l[n]=val B l+B ^ n*x:=by
 have h1:=jL B l (qt hn);have h2:=jL B (l.set n x) (n:=n) (by simp;omega);have h3:l.drop n=l[n] :: l.drop (n+1):=qa hn;have h4:(l.set n x).drop n=x :: l.drop (n+1):=by
  rw [List.drop_set,qA (Nat.lt_irrefl _),h3,Nat.sub_self,List.set_cons_zero]
 have h5:(l.set n x).take n=l.take n:=by rw [List.take_set];apply List.set_eq_of_length_le;simp;omega
 rw [h4,h5,ju] at h2;rw [h3,ju] at h1;rw [h1,h2];simp only [zr];omega
theorem gW {B:Nat}(hB:2≤B):∀ {l:List Nat},(∀ x∈l,x<B)→(∀ h:l≠[],l.getLast h≠0)→digs B (val B l)=l
 | [],_,_=>qU B
 | x :: l, h, hl => by
   have hx:=h x (by simp);have hpos:0<val B (x :: l):=by
     rcases za (val B (x :: l)) with h0 | h0
     · exfalso;have hz:∀ (m:List Nat) (hm:m≠[]),val B m=0→m.getLast hm=0:=by
         intro m;induction m with
         | nil=>intro hm;exact absurd rfl hm
         | cons y m ih =>
           intro hm hv;rw [ju] at hv;have hy:y=0:=by omega
           have hB0:B*val B m=0:=by omega
           rcases Nat.mul_eq_zero.1 hB0 with h' | h'
           · omega
           · rcases m with _ | ⟨z,m⟩
             · simpa using hy
             · rw [List.getLast_cons (by simp)];exact ih (by simp) h'
       exact hl (by simp) (hz _ _ h0)
     · exact h0
   rw [jT hB hpos];have e1:val B (x :: l) % B=x:=by rw [ju,kR,qG hx]
   have e2:val B (x :: l) / B=val B l:=by rw [ju,uO _ _ (by omega),qn hx];omega
   rw [e1,e2,gW hB (fun y hy=>h y (by simp [hy])) fun hne=>by
     have:=hl (by simp)
     rwa [List.getLast_cons hne] at this]
theorem uY {B:Nat}(hB:2≤B) (n:Nat) (h:digs B n≠[]):(digs B n).getLast h≠0:=by
 induction n using Nat.strongRecOn with
 | ind n ih =>
   rcases za n with h0 | h0
   · subst h0;exact absurd (qU B) h
   · rcases za (n / B) with h1 | h1
     · have e:digs B n=[n % B]:=by rw [jT hB h0,h1,qU]
       have hlt:n<B:=by rcases zz n B with h | h;exact h;have:=Nat.div_pos h (by omega);omega
       simp only [e,List.getLast_singleton];rw [qG hlt];omega
     · have e:=jT hB h0;have hne:digs B (n / B)≠[]:=by rw [jT hB h1];simp
       simp only [e,List.getLast_cons hne];exact ih _ (Nat.div_lt_self h0 hB) hne
theorem oo {B:Nat}(hB:2≤B){n:Nat} : digs B n=[]↔n=0 :=
 ⟨fun h=>by have:=zc hB n;rw [h] at this;simpa using this.symm,fun h=>by rw [h,qU]⟩
theorem dF {B:Nat}(hB:2≤B){l:List Nat}(hl:∀ x∈l,x<B){n:Nat}(hn:n≤l.length) (hz:∀ x∈l.drop n,x=0) (h0:0<n→l.getD (n - 1) 0≠0):l.take n=digs B (val B l):=by
 have e:val B l=val B (l.take n):=by rw [jL B l hn,wJ hz];simp
 rw [e];refine (gW hB (fun x hx=>hl x (qW hx)) fun hne=>?_).symm;have hn0:0<n:=by
  rcases za n with h | h
  · subst h;simp at hne
  · exact h
 have:=h0 hn0;rw [List.getLast_eq_getElem,List.getElem_take];simp only [qB,qc hn];rwa [zh,qO (by omega),vU] at this
theorem ql {B:Nat}(hB:2≤B){l:List Nat}(hl:∀ x∈l,x<B):(digs B (val B l)).length≤l.length:=by
 rcases zz l.length (digs B (val B l)).length with h | h
 · exfalso;have h1:=jf hl;have hne:digs B (val B l)≠[]:=by intro e;rw [e] at h;simp at h
   have h2:B ^ ((digs B (val B l)).length - 1)≤val B l:=by
     generalize val B l=v at hne ⊢;have:=uY hB v hne;have h3:=zc hB v;obtain ⟨m,x,hm⟩:∃ m x,digs B v=m++[x]:=⟨_,_,(List.dropLast_concat_getLast hne).symm⟩
     have hx : x ≠ 0 := by have h4 : (digs B v).getLast hne = x := by simp [hm]
                           rw [h4] at this;exact this
     rw [hm,kJ] at h3;rw [hm];simp at h3 ⊢;rw [←h3];have:B ^ m.length*1≤B ^ m.length*x:=zi _ (by omega);omega
   have h3:B ^ l.length≤B ^ ((digs B (val B l)).length - 1):=qF (by omega) (by omega);omega
 · exact h
theorem gJ {B:Nat}(hB:2≤B){v:Nat}(hv:0<v):B ^ ((digs B v).length - 1)≤v:=by
 have hne:digs B v≠[]:=by rw [jT hB hv];simp
 have:=uY hB v hne;have h3:=zc hB v;obtain ⟨m,x,hm⟩:∃ m x,digs B v=m++[x]:=⟨_,_,(List.dropLast_concat_getLast hne).symm⟩
 have hx:x≠0:=by
  have h4:(digs B v).getLast hne=x:=by simp [hm]
  rw [h4] at this;exact this
 rw [hm,kJ] at h3;rw [hm];simp at h3 ⊢;rw [←h3];have:B ^ m.length*1≤B ^ m.length*x:=zi _ (by omega);omega
theorem jl {B:Nat}(hB:2≤B) (v:Nat):v<B ^ (digs B v).length:=by
 have:=jf (kQ hB v);rwa [zc hB] at this
theorem qp {B:Nat}(hB:2≤B){v n:Nat}(h:v<B ^ n):(digs B v).length≤n:=by
 rcases za v with h0 | h0
 · subst h0;rw [qU];simp
 · have h1:=gJ hB h0;rcases zz n (digs B v).length with h2 | h2
   · have:B ^ n≤B ^ ((digs B v).length - 1):=qF (by omega) (by omega);omega
   · exact h2
theorem qg {B:Nat}(hB:2≤B){m n:Nat}(h:m≤n):(digs B m).length≤(digs B n).length :=
 qp hB (jB h (jl hB n))
theorem vm {B:Nat}(hB:2≤B){m n:Nat}(h:(digs B m).length<(digs B n).length):m<n:=by
 rcases zz m n with h1 | h1
 · exact h1
 · have:=qg hB h1;omega
theorem aG {B:Nat}{l m:List Nat}(hl:∀ x∈l,x<B) (hlen:l.length=m.length){i:Nat}(hi:i<l.length) (hd:l.drop (i+1)=m.drop (i+1)) (h:l[i]<m[i]'(by omega)):val B l<val B m:=by
 have h1:=jL B l (n:=i+1) (by omega);have h2:=jL B m (n:=i+1) (by omega);rw [uG B hi] at h1;rw [uG B (by omega)] at h2;have h3:val B (l.take i)<B ^ i:=by
  have:=jf (B:=B) (l:=l.take i) fun x hx=>hl x (qW hx);rwa [qB,qc (by omega)] at this
 have h4:B ^ i*(l[i]+1)≤B ^ i*m[i]'(by omega):=zi _ h;rw [zr] at h4;rw [hd] at h1;omega
def dg (l:List Nat) (i:Nat):Nat:=l.getD i 0
theorem jW {l:List Nat}{i:Nat}(h:i<l.length):l.getD i 0=l[i]:=by
 rw [zh,qO h,vU]
theorem qD (B:Nat) (l:List Nat) (k:Nat):val B (l.take (k+1))=val B (l.take k)+B ^ k*dg l k:=by
 rcases zz k l.length with h | h
 · rw [uG B h,dg,zh,qO h,vU]
 · rw [zk (by omega),zk h,dg,zh,qx h];simp
theorem je (B:Nat){o:List Nat}{k:Nat}(h:k<o.length) (s:Nat):val B ((o.set k s).take (k+1))=val B (o.take k)+B ^ k*s:=by
 rw [qD,List.take_set,List.set_eq_of_length_le (by simp;omega),dg,zh,List.getElem?_set_self h,vU]
def wf (B:Nat) (a b o:List Nat) (k c:Nat):Prop:=val B (o.take k)+B ^ k*c=val B (a.take k)+val B (b.take k)
theorem wf.zero (B:Nat) (a b o:List Nat):wf B a b o 0 0:=by simp [wf]
theorem wf.step {B:Nat}{a b o:List Nat}{k c s c':Nat}(h:wf B a b o k c) (hk:k<o.length) (he:s+B*c'=dg a k+dg b k+c):wf B a b (o.set k s) (k+1) c':=by
 unfold wf at *;rw [je B hk,qD,qD,zu];have:B ^ k*(s+B*c')=B ^ k*(dg a k+dg b k+c):=by rw [he]
 simp only [zr,←zd] at this;omega
theorem wf.fin {B:Nat}{a b o:List Nat}{k c:Nat}(h:wf B a b o k c) (hk:o.length=k+1) (ha:a.length≤k) (hb:b.length≤k):val B (o.set k c)=val B a+val B b:=by
 unfold wf at h;rw [zk ha,zk hb] at h;have:=je B (o:=o) (k:=k) (by omega) c;rw [zk (by simp;omega)] at this;rw [this,h]
def vz (B:Nat) (a b o:List Nat) (k c:Nat):Prop:=val B (o.take k)+val B (b.take k)=val B (a.take k)+B ^ k*c
theorem vz.zero (B:Nat) (a b o:List Nat):vz B a b o 0 0:=by simp [vz]
theorem vz.step {B:Nat}{a b o:List Nat}{k c s c':Nat}(h:vz B a b o k c) (hk:k<o.length) (he:s+dg b k+c=dg a k+B*c'):vz B a b (o.set k s) (k+1) c':=by
 unfold vz at *;rw [je B hk,qD,qD,zu];have:B ^ k*(s+dg b k+c)=B ^ k*(dg a k+B*c'):=by rw [he]
 simp only [zr,←zd] at this;omega
theorem vz.fin {B:Nat}{a b o:List Nat}{k c:Nat}(h:vz B a b o k c) (hk:o.length=k) (ho:∀ x∈o,x<B) (ha:a.length=k) (hb:b.length≤k) (hle:val B b≤val B a):val B o=val B a - val B b:=by
 unfold vz at h;rw [zk (by omega),zk hb,zk (by omega)] at h;have h1:=jf ho;rw [hk] at h1;rcases za c with h0 | h0
 · subst h0;omega
 · have:B ^ k*1≤B ^ k*c:=zi _ h0;omega
def yJ (B:Nat) (o0 b:List Nat) (x i:Nat) (o:List Nat) (j c:Nat):Prop :=
 o.length=o0.length∧val B o+B ^ (i+j)*c=val B o0+B ^ i*(x*val B (b.take j))∧(∀ n,i+j≤n→dg o n=dg o0 n)
theorem yJ.zero (B:Nat) (o0 b:List Nat) (x i:Nat):yJ B o0 b x i o0 0 0:=by simp [yJ]
theorem getD_set_ne {l:List Nat}{i j x:Nat}(h:i≠j):dg (l.set i x) j=dg l j:=by
 simp [dg,zh,List.getElem?_set_ne h]
theorem vV {l:List Nat}{i x:Nat}(h:i<l.length):dg (l.set i x) i=x:=by
 simp [dg,zh,List.getElem?_set_self h]
theorem uD {l:List Nat}{i:Nat}(h:i<l.length):dg l i=l[i]:=by
 rw [dg,zh,qO h,vU]
theorem vp (B:Nat){l:List Nat}{n:Nat}(hn:n<l.length) (x:Nat):val B (l.set n x)+B ^ n*dg l n=val B l+B ^ n*x:=by
 rw [uD hn];exact zBN B hn x
theorem yJ.step {B:Nat}{o0 b o:List Nat}{x i j c s c':Nat}(h:yJ B o0 b x i o j c) (hk:i+j<o.length) (he:s+B*c'=x*dg b j+dg o (i+j)+c) :
 yJ B o0 b x i (o.set (i+j) s) (j+1) c':=by
 obtain ⟨h1,h2,h3⟩:=h
 refine ⟨by simpa using h1,?_,fun n hn=>by rw [getD_set_ne (by omega),h3 n (by omega)]⟩
 have hs:=vp B hk s
 rw [qD,←kg,zu]
 have e1:B ^ (i+j)*(s+B*c')=B ^ (i+j)*(x*dg b j+dg o (i+j)+c):=by rw [he]
 simp only [zr,←zd] at e1 ⊢
 have e2:B ^ i*x*B ^ j*dg b j=B ^ (i+j)*x*dg b j:=by
  rw [qI];simp only [zj,zd]
 simp only [←zd] at h2
 omega
theorem yJ.fin {B:Nat}{o0 b o:List Nat}{x i n c:Nat}(h:yJ B o0 b x i o n c) (hn:b.length=n) (hk:i+n<o.length) (h0:dg o0 (i+n)=0):val B (o.set (i+n) c)=val B o0+B ^ i*(x*val B b):=by
 obtain ⟨h1,h2,h3⟩:=h;have hs:=vp B hk c;rw [h3 _ (zH _),h0] at hs;rw [zk (by omega)] at h2;omega
def gY (B:Nat) (a b o:List Nat) (i:Nat):Prop:=o.length=a.length+b.length∧val B o=val B (a.take i)*val B b∧∀ n,i+b.length≤n→dg o n=0
theorem gY.zero (B:Nat) (a b:List Nat):gY B a b (List.replicate (a.length+b.length) 0) 0:=by
 refine ⟨by simp,by simp [kO],fun n _=>?_⟩;rw [dg,zh,List.getElem?_replicate];split <;> rfl
theorem gY.step {B:Nat}{a b o0 o:List Nat}{i c:Nat}(h:gY B a b o0 i) (hi:i<a.length) (hm:yJ B o0 b (dg a i) i o b.length c):gY B a b (o.set (i+b.length) c) (i+1):=by
 obtain ⟨h1,h2,h3⟩:=h;have hl:=hm.1;refine ⟨by simpa [hl] using h1,?_,fun n hn=>?_⟩
 · rw [hm.fin rfl (by omega) (h3 _ (zH _)),h2,qD,qr,zd]
 · rw [getD_set_ne (by omega),hm.2.2 n (by omega),h3 n (by omega)]
theorem gY.fin {B:Nat}{a b o:List Nat}(h:gY B a b o a.length):val B o=val B a*val B b:=by
 have:=h.2.1;rwa [jN] at this
theorem wu {B:Nat}{o:List Nat}(h:∀ x∈o,x<B){k s:Nat}(hs:s<B):∀ x∈o.set k s,x<B:=by
 intro x hx;rcases List.mem_or_eq_of_mem_set hx with hx | rfl
 · exact h x hx
 · exact hs
theorem yX {B x y u c:Nat}(hx:x<B) (hy:y<B) (hu:u<B) (hc:c<B):x*y+u+c<B*B:=by
 obtain ⟨n,rfl⟩:∃ n,B=n+1:=⟨B - 1,by omega⟩
 have:x*y≤n*n:=Nat.mul_le_mul (by omega) (by omega);simp only [qr,zr,jS,wH];omega
theorem jZ {B:Nat}(hB:0<B){l:List Nat}(h:∀ x∈l,x<B) (i:Nat):dg l i<B:=by
 rcases zz i l.length with hi | hi
 · rw [uD hi];exact h _ (kM hi)
 · rw [dg,zh,qx hi];exact hB
end Go.Proofs.YtmlbicgpehchhaaGreat
namespace Go.Proofs.YtmlbicgpehchhaaGreat
open Go.RowKit
theorem dr {k:IntKind}{a b:Int}(h:a=b):Ending.returned (.int k a)=.returned (.int k b):=by rw [h]
theorem xC (a:Addr) (n:Nat):(a.add n).block=a.block:=by unfold Addr.add;split <;> rfl
theorem gA (a:Addr) (i j:Nat):(a.add i).add j=a.add (i+j):=by
 unfold Addr.add;by_cases hi:i=0 <;> by_cases hj:j=0 <;> simp [hi,hj,kg]
def In (lo hi b:Nat):Prop:=lo≤b∧b<hi
def RS (w:World) (P:Nat→Prop) (size:Nat) (A:Option Addr) (n c:Nat) (cs:List Value):Prop :=
  n ≤ c ∧ c ≤ maxLen ∧ cs.length = n * size ∧
    (0<n→∃ ad,A=some ad∧P ad.block∧∀ j u,cs[j]?=some u→w.cell? (ad.add j)=some u)
section
variable {w w':World} {P P':Nat→Prop} {size n c:Nat} {A:Option Addr} {cs:List Value}
theorem RS.keep (h:RS w P size A n c cs) (hk:∀ p:Addr,P p.block→w'.cell? p=w.cell? p):RS w' P size A n c cs:=by
 obtain ⟨h1,h2,h3,h4⟩:=h;refine ⟨h1,h2,h3,fun hn=>?_⟩;obtain ⟨ad,e,hb,hc⟩:=h4 hn;exact ⟨ad,e,hb,fun j u hu=>(hk _ (by rw [xC];exact hb)).trans (hc j u hu)⟩
theorem RS.mono (h:RS w P size A n c cs) (hp:∀ b,P b→P' b):RS w P' size A n c cs:=by
 obtain ⟨h1,h2,h3,h4⟩:=h;refine ⟨h1,h2,h3,fun hn=>?_⟩;obtain ⟨ad,e,hb,hc⟩:=h4 hn;exact ⟨ad,e,hp _ hb,hc⟩
theorem RS.below {B:Nat}(h:RS w P size A n c cs) (hb:Below B w w') (hB:∀ b,P b→b<B):RS w' P size A n c cs:=h.keep fun _ hp=>hb.cell (hB _ hp)
theorem RS.nil_ (w:World) (P:Nat→Prop) (size:Nat):RS w P size none 0 0 []:=⟨by omega,by unfold maxLen;omega,by simp,fun h=>absurd h (by omega)⟩
theorem RS.of_own {base:Nat}{e:TypeId}(h:w.ownsRow base e size (.slice A n c) n cs):RS w (In base w.heap.size) size A n c cs:=by
 have hlt:=h.lt;have hcell:=fun g=>h.cells (g:=g);obtain ⟨h0,⟨e1,rfl⟩ | ⟨g,cap,cur,e1,hg,hh,h5,h6,h7,h8⟩⟩:=h
 · injection e1 with e1 e2 e3
   subst e1 e3;exact ⟨by omega,by unfold maxLen;omega,h0,fun h=>absurd h (by omega)⟩
 · injection e1 with e1 e2 e3
   subst e1 e3;have:=hlt g rfl;exact ⟨h5,h6,h0,fun _=>⟨_,rfl,⟨hg,this.2⟩,hcell g rfl⟩⟩
theorem dH {base:Nat}{e:TypeId}{v:Value}(h:w.ownsRow base e size v n cs):∃ A c,v=.slice A n c:=by
 obtain ⟨h0,⟨rfl,rfl⟩ | ⟨g,cap,cur,rfl,hg,hh,h5,h6,h7,h8⟩⟩:=h
 · exact ⟨_,_,rfl⟩
 · exact ⟨_,_,rfl⟩
theorem zAV {w w':World}{base:Nat}{e:TypeId}{v:Value}(h:w.ownsRow base e size v n cs) (hg:w.grownBy w' none):w'.ownsRow base e size v n cs :=
 h.kept hg (by cases v.ownBlock <;> simp)
theorem qR {B:Nat}{a w:World}(h:Below B a w) (n:Nat):Below B a (w.drewN n):=⟨h.os,h.tape,h.output,h.size,h.block⟩
theorem zJ {w:World}{B:Nat}{cs:Array Value}{t:TypeId}(h:w.heap[B]?=some (.cells cs t (0,0))) (i:Nat):w.cell? ⟨B,i,none⟩=cs[i]?:=cell_of_row w B i cs t (0,0) h
theorem zv {w:World}{B:Nat}{cs:Array Value}{t:TypeId}(h:w.heap[B]?=some (.cells cs t (0,0))) (i:Nat):w.frozen? ⟨B,i,none⟩=false:=by simp [World.frozen?,h]
theorem qw {w:World}{B:Nat}{o:Obj}(h:w.heap[B]?=some o):B<w.heap.size:=(Array.getElem?_eq_some_iff.1 h).1
theorem RS.fresh {w:World}{P:Nat→Prop}(cs:Array Value) (t:TypeId) (size n:Nat) (h:cs.size=n*size) (hn:n≤maxLen) (hP:P w.heap.size):RS (w.alloc (.cells cs t)) P size (some ⟨w.heap.size,0,none⟩) n n cs.toList :=
 ⟨zH _,hn,by simpa using h,fun _=>⟨_,rfl,hP,World.news_of_block (zP w _)⟩⟩
theorem RS.sub {c' k m:Nat}(h:RS w P size A n c cs) (hkm:k≤m) (hm:m≤n) (hc:m - k≤c') (hc':c'≤maxLen){A':Option Addr}(hA:k<m→A'=A.map (·.add (k*size))) :
 RS w P size A' (m - k) c' ((cs.drop (k*size)).take ((m - k)*size)):=by
 obtain ⟨h1,h2,h3,h4⟩:=h
 refine ⟨hc,hc',?_,fun hn=>?_⟩
 · rw [qB,jC,h3,←Nat.sub_mul];exact qc (qf _ (by omega))
 · obtain ⟨ad,rfl,hb,hc⟩:=h4 (by omega);rw [hA (by omega)];refine ⟨ad.add (k*size),rfl,by rw [xC];exact hb,fun j u hu=>?_⟩;rw [gA];apply hc;rw [List.getElem?_take] at hu;split at hu
   · rw [←hu,List.getElem?_drop]
   · cases hu
theorem RS.pre {m:Nat}(h:RS w P size A n c cs) (hm:m≤n):RS w P size A m c (cs.take (m*size)):=by
 have:=h.1;have:=h.2.1;have:=h.sub (k:=0) (m:=m) (c':=c) (A':=A) (by omega) hm (by omega) (by omega) (fun _=>by cases A <;> simp [Addr.add]);simpa using this
end
def bys (bs:List Nat):List Value:=bs.map fun b:Nat=>.int .u8 (b:Int)
def RB (w:World) (P:Nat→Prop) (A:Option Addr) (c:Nat) (bs:List Nat):Prop:=RS w P 1 A bs.length c (bys bs)∧(∀ b∈bs,b<256)∧bs.length≤140737488355328
def RA (w:World) (P:Nat→Prop) (A:Option Addr) (c:Nat) (l:List (Int×List Nat)):Prop :=
 ∃ cs,RS w P 2 A l.length c cs∧∀ j x,l[j]?=some x→cs[j*2]?=some (.int .i64 x.1)∧∃ A' c',cs[j*2+1]?=some (.slice A' x.2.length c')∧RB w P A' c' x.2
section
variable {w w':World} {P P':Nat→Prop} {A:Option Addr} {c:Nat} {bs:List Nat} {l:List (Int×List Nat)}
theorem RB.keep (h:RB w P A c bs) (hk:∀ p:Addr,P p.block→w'.cell? p=w.cell? p):RB w' P A c bs:=⟨h.1.keep hk,h.2⟩
theorem RB.mono (h:RB w P A c bs) (hp:∀ b,P b→P' b):RB w P' A c bs:=⟨h.1.mono hp,h.2⟩
theorem RB.below {B:Nat}(h:RB w P A c bs) (hb:Below B w w') (hB:∀ b,P b→b<B):RB w' P A c bs:=⟨h.1.below hb hB,h.2⟩
theorem RB.cap (h:RB w P A c bs):bs.length≤c∧c≤9223372036854775807∧bs.length≤140737488355328:=⟨h.1.1,h.1.2.1,h.2.2⟩
theorem RB.nil_ (w:World) (P:Nat→Prop):RB w P none 0 []:=⟨RS.nil_ _ _ _,by simp,by simp⟩
theorem RA.keep (h:RA w P A c l) (hk:∀ p:Addr,P p.block→w'.cell? p=w.cell? p):RA w' P A c l:=by
 obtain ⟨cs,h1,h2⟩:=h;exact ⟨cs,h1.keep hk,fun j x hx=>by obtain ⟨h3,A',c',h4,h5⟩:=h2 j x hx;exact ⟨h3,A',c',h4,h5.keep hk⟩⟩
theorem RA.mono (h:RA w P A c l) (hp:∀ b,P b→P' b):RA w P' A c l:=by
 obtain ⟨cs,h1,h2⟩:=h;exact ⟨cs,h1.mono hp,fun j x hx=>by obtain ⟨h3,A',c',h4,h5⟩:=h2 j x hx;exact ⟨h3,A',c',h4,h5.mono hp⟩⟩
theorem RA.below {B:Nat}(h:RA w P A c l) (hb:Below B w w') (hB:∀ b,P b→b<B):RA w' P A c l:=h.keep fun _ hp=>hb.cell (hB _ hp)
theorem RA.cap (h:RA w P A c l):l.length≤c∧c≤9223372036854775807:=by obtain ⟨cs,h1,h2⟩:=h;exact ⟨h1.1,h1.2.1⟩
theorem RA.nil_ (w:World) (P:Nat→Prop):RA w P none 0 []:=⟨[],RS.nil_ _ _ _,by simp⟩
theorem RA.at_ (h:RA w P A c l){i:Nat}(hi':i<l.length) :
 ∃ ad A' c',A=some ad∧P ad.block∧w.cell? (ad.add (i*2))=some (.int .i64 (l[i]).1)∧w.cell? ⟨(ad.add (i*2)).block,(ad.add (i*2)).off+1,none⟩=some (.slice A' (l[i]).2.length c')∧RB w P A' c' (l[i]).2:=by
 obtain ⟨cs,⟨h1,h2,h3,h4⟩,h5⟩:=h
 obtain ⟨ad,rfl,hb,hc⟩:=h4 (by omega)
 obtain ⟨h6,A',c',h7,h8⟩:=h5 i _ (qO hi')
 exact ⟨ad,A',c',rfl,hb,hc _ _ h6,by have:=hc _ _ h7;rwa [←gA] at this,h8⟩
theorem RB.at_ (h:RB w P A c bs){i:Nat}(hi':i<bs.length):∃ ad,A=some ad∧P ad.block∧w.cell? (ad.add i)=some (.int .u8 (bs[i]:Int))∧(bs[i]:Int)<256:=by
 obtain ⟨⟨h1,h2,h3,h4⟩,h5,_⟩:=h;obtain ⟨ad,rfl,hb,hc⟩:=h4 (by omega);exact ⟨ad,rfl,hb,hc _ _ (by simp [bys,qO hi']),by have:=h5 _ (kM hi');omega⟩
end
section
variable {P:Program} (w:World)
theorem fW (base:Nat) (t ty e:TypeId) (i:TypeInfo) (size:Nat) (ht:P.underlying t=some (.slice e)) (hi:P.info? e=some i)
 (v:Value) (n:Nat) (xs:List Value) (hown:w.ownsRow base e size v n xs) (c:Nat):(Builtin.append_ #[t,t] ty #[v,.slice none 0 c]).run P w=.ok v w:=by
 rcases hown.2 with ⟨rfl,rfl⟩ | ⟨g,cap,cur,rfl,_,_,hnc,_⟩
 · simp [Builtin.append_,run_underlying ht,sizeOf,typeInfo,hi,Builtin.lenOf,Builtin.firstCells]
 · simp [Builtin.append_,run_underlying ht,sizeOf,typeInfo,hi,Builtin.lenOf,Builtin.firstCells,hnc,storeCells]
theorem bn (base:Nat) (t ty e:TypeId) (i:TypeInfo) (z:Value) (size bytes:Nat) (ht:P.underlying t=some (.slice e)) (hi:P.info? e=some i) (hz:i.zero=some z)
   (hsize:i.size=size) (hby:i.bytes=bytes) (hzs:z.cells.size=size) (hsz:0<size)
   (v:Value) (n:Nat) (xs:List Value) (hown:w.ownsRow base e size v n xs)
   (Q:Nat→Prop) (A:Option Addr) (m c:Nat) (news:List Value) (hr:RS w Q size A m c news) (h1:∀ u∈news,u.oneCell'=true)
   (h63:n+m≤maxLen) (hbytes:(n+m)*bytes≤140737488355328) (hbase:base≤w.heap.size) :
   ∃ A' c' w', (Builtin.append_ #[t, t] ty #[v, .slice A m c]).run P w = .ok (.slice A' (n + m) c') w' ∧ w'.ownsRow base e size (.slice A' (n + m) c') (n + m) (xs ++ news) ∧ w.grownBy w' v.ownBlock ∧
     ((Value.slice A' (n+m) c').ownBlock=v.ownBlock∨(Value.slice A' (n+m) c').ownBlock=some w.heap.size):=by
 rcases A with _ | ad
 · have hm:m=0:=by
     rcases za m with h0 | h0
     · exact h0
     · obtain ⟨ad,h,_⟩:=hr.2.2.2 h0;cases h
   subst hm;have hn:news=[]:=qC (by simpa using hr.2.2.1);subst hn;obtain ⟨A',c',rfl⟩:=dH hown;exact ⟨A',c',w,fW w base t ty e i size ht hi _ n xs hown c,by simpa using hown,World.grownBy.refl w _,.inl rfl⟩
 · have hcells:∀ j u,news[j]?=some u→w.cell? (ad.add j)=some u:=by
     intro j u hu;rcases za m with h0 | h0
     · subst h0;have hn:news=[]:=qC (by simpa using hr.2.2.1);subst hn;simp at hu
     · obtain ⟨ad',h,_,hc⟩:=hr.2.2.2 h0;injection h with h
       subst h;exact hc j u hu
   obtain ⟨v',w',hrun,h2,h3,_,h5⟩:=run_append_own_at (P:=P) w base t ty e i z size bytes ht hi hz hsize hby hzs hsz v n xs hown ad m c news hr.2.2.1 hcells h1 h63 hbytes hbase;obtain ⟨A',c',rfl⟩:=dH h2;exact ⟨A',c',w',hrun,h2,h3,h5⟩
theorem mM {o:Oper}{a:Act}{K:Act→World→Prop}{Q:Exit→Act→World→Prop}(s x:Operand) (t:TypeId)
 (ho:o.op=.call { callee:=.builtin .append,args:=#[s,x],argTypes:=#[t,t] })
 (base:Nat) (e:TypeId) (i:TypeInfo) (z:Value) (size bytes:Nat) (ht:P.underlying t=some (.slice e)) (hi:P.info? e=some i) (hz:i.zero=some z)
 (hsize:i.size=size) (hby:i.bytes=bytes) (hzs:z.cells.size=size) (hsz:0<size)
 (v:Value) (n:Nat) (xs:List Value) (hs:a.eval s=v) (hown:w.ownsRow base e size v n xs)
 (B:Nat→Prop) (A:Option Addr) (m c:Nat) (news:List Value) (hx:a.eval x=.slice A m c) (hr:RS w B size A m c news) (h1:∀ u∈news,u.oneCell'=true)
 (k:Nat) (hk:n+m=k) (h63:n+m≤maxLen) (hbytes:(n+m)*bytes≤140737488355328) (hbase:base≤w.heap.size)
 (h:∀ A' c' w',w'.ownsRow base e size (.slice A' k c') k (xs++news)→w.grownBy w' v.ownBlock→((Value.slice A' k c').ownBlock=v.ownBlock∨(Value.slice A' k c').ownBlock=some w.heap.size)→K (a.put o.dst (.slice A' k c')) w'):o.wp P a w K Q:=by
 subst hk
 obtain ⟨A',c',w',hrun,h2,h3,h4⟩:=bn (P:=P) w base t o.type e i z size bytes ht hi hz hsize hby hzs hsz v n xs hown B A m c news hr h1 h63 hbytes hbase
 unfold Oper.wp execOp
 simp only [ho,resolve,invoke,builtin,vh,Sem.run_pure,qy,List.map_toArray,wI,wm,hs,hx,hrun]
 exact h A' c' w' h2 h3 h4
theorem jG {ops:Array Oper}{rest:List Oper}{o:Oper}{a:Act}{Q:Exit→Act→World→Prop}(hgd:o.guard=none) (s x:Operand) (t:TypeId)
 (ho:o.op=.call { callee:=.builtin .append,args:=#[s,x],argTypes:=#[t,t] })
 (base:Nat) (e:TypeId) (i:TypeInfo) (z:Value) (size bytes:Nat) (ht:P.underlying t=some (.slice e)) (hi:P.info? e=some i) (hz:i.zero=some z)
 (hsize:i.size=size) (hby:i.bytes=bytes) (hzs:z.cells.size=size) (hsz:0<size)
 (v:Value) (n:Nat) (xs:List Value) (hs:a.eval s=v) (hown:w.ownsRow base e size v n xs)
 (B:Nat→Prop) (A:Option Addr) (m c:Nat) (news:List Value) (hx:a.eval x=.slice A m c) (hr:RS w B size A m c news) (h1:∀ u∈news,u.oneCell'=true)
 (k:Nat) (hk:n+m=k) (h63:n+m≤maxLen) (hbytes:(n+m)*bytes≤140737488355328) (hbase:base≤w.heap.size)
 (h:∀ A' c' w',w'.ownsRow base e size (.slice A' k c') k (xs++news)→w.grownBy w' v.ownBlock→((Value.slice A' k c').ownBlock=v.ownBlock∨(Value.slice A' k c').ownBlock=some w.heap.size)→wpList P ops Q rest (a.put o.dst (.slice A' k c')) w'):wpList P ops Q (o :: rest) a w :=
 wpList_plain hgd fun _ hK=>mM w s x t ho base e i z size bytes ht hi hz hsize hby hzs hsz v n xs hs hown B A m c news hx hr h1 k hk h63 hbytes hbase fun A' c' w' h2 h3 h4=>hK _ _ (h A' c' w' h2 h3 h4)
end
end Go.Proofs.YtmlbicgpehchhaaGreat
namespace Go.Proofs.YtmlbicgpehchhaaGreat
theorem jM:type_of% @RS.fresh:=@RS.fresh
theorem vn:type_of% @RB.nil_:=@RB.nil_
end Go.Proofs.YtmlbicgpehchhaaGreat
namespace Go.Proofs
open Go.Shelf
def Tryz.lays134_ren:Go.Shelf.Ren:=⟨fun | 134=>160 | 129=>130 | n=>n,fun | 53=>69 | 3=>3 | 4=>4 | 46=>135 | 5=>5 | 9=>9 | n=>n,fun | n=>n⟩
theorem Tryz.lays134:Go.Proofs.Lays.n134 Tryz.prog Tryz.lays134_ren:={
 mixed:=by kernel_rfl
 f129:=Tryz.func130.trans (congrArg some (by kernel_rfl))
 f134:=Tryz.func160.trans (congrArg some (by kernel_rfl))
 t3:=Tryz.underlying3
 a3:=Tryz.isAgg3
 z3:=Tryz.sizeOf3
 v3:=Tryz.zeroValue3
 t4:=Tryz.underlying4
 a4:=Tryz.isAgg4
 z4:=Tryz.sizeOf4
 v4:=Tryz.zeroValue4
 t5:=Tryz.underlying5
 a5:=Tryz.isAgg5
 z5:=Tryz.sizeOf5
 v5:=Tryz.zeroValue5
 t9:=Tryz.underlying9
 a9:=Tryz.isAgg9
 z9:=Tryz.sizeOf9
 v9:=Tryz.zeroValue9
 t46:=Tryz.underlying135
 a46:=Tryz.isAgg135
 z46:=Tryz.sizeOf135
 v46:=Tryz.zeroValue135
 t53:=Tryz.underlying69
 a53:=Tryz.isAgg69
 z53:=Tryz.sizeOf69
 v53:=Tryz.zeroValue69 }
theorem Tryz.bits_LeadingZeros64 (x:Int) (w:World) (h0:0≤x) (h1:x≤18446744073709551615) :
 Calls Tryz.prog 160 #[.int .u64 x] w fun e w'=>e=.returned (.int .i64 (64 - (Lib.bitLen x.toNat:Int)))∧w'=w:=Any.bits_LeadingZeros64 Tryz.lays134 x w h0 h1
def Tryz.lays129_ren:Go.Shelf.Ren:=⟨fun | 129=>130 | n=>n,fun | 53=>69 | 3=>3 | 4=>4 | 46=>135 | 5=>5 | 9=>9 | n=>n,fun | n=>n⟩
theorem Tryz.lays129:Go.Proofs.Lays.n129 Tryz.prog Tryz.lays129_ren:={
 mixed:=by kernel_rfl
 f129:=Tryz.func130.trans (congrArg some (by kernel_rfl))
 t3:=Tryz.underlying3
 a3:=Tryz.isAgg3
 z3:=Tryz.sizeOf3
 v3:=Tryz.zeroValue3
 t4:=Tryz.underlying4
 a4:=Tryz.isAgg4
 z4:=Tryz.sizeOf4
 v4:=Tryz.zeroValue4
 t5:=Tryz.underlying5
 a5:=Tryz.isAgg5
 z5:=Tryz.sizeOf5
 v5:=Tryz.zeroValue5
 t9:=Tryz.underlying9
 a9:=Tryz.isAgg9
 z9:=Tryz.sizeOf9
 v9:=Tryz.zeroValue9
 t46:=Tryz.underlying135
 a46:=Tryz.isAgg135
 z46:=Tryz.sizeOf135
 v46:=Tryz.zeroValue135
 t53:=Tryz.underlying69
 a53:=Tryz.isAgg69
 z53:=Tryz.sizeOf69
 v53:=Tryz.zeroValue69 }
theorem Tryz.bits_Len64 (x:Int) (w:World) (h0:0≤x) (h1:x≤18446744073709551615) :
 Calls Tryz.prog 130 #[.int .u64 x] w fun e w'=>e=.returned (.int .i64 (Lib.bitLen x.toNat))∧w'=w:=Any.bits_Len64 Tryz.lays129 x w h0 h1
def Tryz.lays264_ren:Go.Shelf.Ren:=⟨fun | 264=>154 | n=>n,fun | 53=>69 | 46=>135 | n=>n,fun | n=>n⟩
theorem Tryz.lays264:Go.Proofs.Lays.n264 Tryz.prog Tryz.lays264_ren:={
 mixed:=by kernel_rfl
 f264:=Tryz.func154.trans (congrArg some (by kernel_rfl))
 t46:=Tryz.underlying135
 a46:=Tryz.isAgg135
 z46:=Tryz.sizeOf135
 v46:=Tryz.zeroValue135
 t53:=Tryz.underlying69
 a53:=Tryz.isAgg69
 z53:=Tryz.sizeOf69
 v53:=Tryz.zeroValue69 }
open Go.RowKit Go.Lib in
theorem Tryz.bits_Mul64 (x y:Nat) (hx:x<18446744073709551616) (hy:y<18446744073709551616) (w:World) :
 Calls Tryz.prog 154 #[.int .u64 x,.int .u64 y] w fun e w'=>e=.returned (.tuple #[.int .u64 ((x*y / 18446744073709551616:Nat):Int),.int .u64 ((x*y % 18446744073709551616:Nat):Int)])∧w'=w:=Any.bits_Mul64 Tryz.lays264 x y hx hy w
theorem Tryz.add64_run (x y c:Nat) (hc:c≤1) (w:World) :
 (callFunc 155 #[.int .u64 x, .int .u64 y, .int .u64 c]).run Tryz.prog w =
  .ok (.value (.tuple #[.int .u64 (((x+y+c) % 18446744073709551616:Nat):Int),.int .u64 (((x+y+c) / 18446744073709551616:Nat):Int)])) w:=by
 rw [run_callFunc_extern Tryz.func155 (by kernel_rfl) (by kernel_rfl) (by kernel_rfl) (e:=add64Entry) (by kernel_rfl),run_add64 x y c (by omega) (by omega) (by omega) (by omega)]
 simp only [Result.andThen]
 congr 5 <;> omega
theorem Tryz.sub64_run (x y b:Nat) (hb:b≤1) (w:World) :
 (callFunc 166 #[.int .u64 x, .int .u64 y, .int .u64 b]).run Tryz.prog w =
  .ok (.value (.tuple #[.int .u64 (((x+18446744073709551616 - y - b) % 18446744073709551616:Nat):Int),.int .u64 ((if x<y+b then 1 else 0:Nat):Int)])) w:=by
 rw [run_callFunc_extern Tryz.func166 (by kernel_rfl) (by kernel_rfl) (by kernel_rfl) (e:=sub64Entry) (by kernel_rfl),run_sub64 x y b hb]
 rfl
end Go.Proofs
namespace Go.Proofs.YtmlbicgpehchhaaGreat
open Go.RowKit
theorem eqB {a b:Int}(h:a≠b):(a==b)=false:=by simpa using h
theorem neB {a b:Int}(h:a≠b):(a != b)=true:=by simpa using h
theorem gj (w:World) (n m:Nat):(w.drewN n).drewN m=w.drewN (n+m):=by simp [World.drewN,kg]
theorem sD (w:World) (n m k:Nat):((w.drewN n).drewN m).drewN k=w.drewN (n+m+k):=by simp [World.drewN,kg]
theorem pG (a:Addr) (n:Nat):a.add (n+1)=⟨a.block,a.off+(n+1),none⟩:=by simp [Addr.add]
theorem dr1 (w:World) (n:Nat):∃ k,w.drewN n=w.drewN k:=⟨n,rfl⟩
theorem dr2 (w:World) (n m:Nat):∃ k,(w.drewN n).drewN m=w.drewN k:=⟨_,gj _ _ _⟩
theorem dr3 (w:World) (n m k:Nat):∃ d,((w.drewN n).drewN m).drewN k=w.drewN d:=⟨_,sD _ _ _ _⟩
theorem xZ (g j:Nat):(⟨g,0,none⟩:Addr).add j=⟨g,j,none⟩:=by
 rcases za j with h | h
 · subst h;rfl
 · simp [Addr.add,Nat.pos_iff_ne_zero.1 h]
def nts (l:List Nat):List Value:=l.map fun x:Nat=>.int .u64 (x:Int)
theorem qj (l:List Nat):(nts l).length=l.length:=by simp [nts]
theorem uk {l:List Nat}{i:Nat}(h:i<l.length):(nts l)[i]?=some (.int .u64 (dg l i:Int)):=by
 rw [uD h];simp [nts,qO h]
theorem cq (l:List Nat) (n:Nat):(nts l).take n=nts (l.take n):=by simp [nts]
theorem kG (l:List Nat):∀ u∈nts l,u.oneCell'=true:=by
 intro u hu;obtain ⟨x,_,rfl⟩:=List.mem_map.1 hu;rfl
def Lim (l:List Nat):Prop:=(∀ x∈l,x<18446744073709551616)∧l.length≤1000000
def RN (w:World) (P:Nat→Prop) (A:Option Addr) (c:Nat) (l:List Nat):Prop:=RS w P 1 A l.length c (nts l)∧Lim l
def Blk (w:World) (g:Nat) (l:List Nat):Prop:=w.heap[g]?=some (.cells (nts l).toArray 69 (0,0))
def OB (w:World) (base:Nat) (A:Option Addr) (c:Nat) (l:List Nat):Prop :=
 Lim l∧l.length≤c∧c≤maxLen∧(0<l.length→∃ g cur,A=some ⟨g,0,none⟩∧base≤g∧w.heap[g]?=some (.cells cur 69 (0,0))∧∀ (j:Nat) u,(nts l)[j]?=some u→cur[j]?=some u)
section
variable {w w':World} {P P':Nat→Prop} {A:Option Addr} {c g base:Nat} {l:List Nat}
theorem Lim.nil_:Lim []:=⟨by simp,by simp⟩
theorem Lim.take (h:Lim l) (n:Nat):Lim (l.take n):=⟨fun x hx=>h.1 x (qW hx),by rw [qB];have:=h.2;omega⟩
theorem Lim.set (h:Lim l) (i x:Nat) (hx:x<18446744073709551616):Lim (l.set i x):=⟨wu h.1 hx,by simpa using h.2⟩
theorem Lim.dgLt (h:Lim l) (i:Nat):dg l i<18446744073709551616:=jZ (by omega) h.1 i
theorem Lim.digs {B v:Nat}(hB:2≤B) (hB':B≤18446744073709551616) (hl:v<B ^ 1000000):Lim (digs B v):=⟨fun x hx=>zR (kQ hB v x hx) hB',qp hB hl⟩
theorem Lim.trim (h:Lim l):∃ n,n≤l.length∧Go.Proofs.YtmlbicgpehchhaaGreat.digs 18446744073709551616 (val 18446744073709551616 l)=l.take n:=by
 refine ⟨(Go.Proofs.YtmlbicgpehchhaaGreat.digs 18446744073709551616 (val 18446744073709551616 l)).length,ql (by omega) h.1,?_⟩;obtain ⟨n,hn,hz,h0⟩:∃ n,n≤l.length∧(∀ x∈l.drop n,x=0)∧(0<n→dg l (n - 1)≠0):=by
   have:∀ k,k≤l.length→(∀ x∈l.drop k,x=0)→∃ n,n≤l.length∧(∀ x∈l.drop n,x=0)∧(0<n→dg l (n - 1)≠0):=by
     intro k;induction k with
     | zero=>intro _ hz;exact ⟨0,by omega,hz,by omega⟩
     | succ k ih =>
       intro hk hz;by_cases h:dg l k=0
       · refine ih (by omega) fun x hx=>?_;rw [qa (by omega:k<l.length)] at hx;rcases List.mem_cons.1 hx with rfl | hx
         · rwa [uD (by omega)] at h
         · exact hz x hx
       · exact ⟨k+1,hk,hz,fun _=>by simpa using h⟩
   exact this l.length (zH _) (by simp)
 have h1:=dF (B:=18446744073709551616) (by omega) h.1 hn hz h0;rw [←h1,qB,qc hn]
theorem RN.keep (h:RN w P A c l) (hk:∀ p:Addr,P p.block→w'.cell? p=w.cell? p):RN w' P A c l:=⟨h.1.keep hk,h.2⟩
theorem RN.mono (h:RN w P A c l) (hp:∀ b,P b→P' b):RN w P' A c l:=⟨h.1.mono hp,h.2⟩
theorem RN.below {B:Nat}(h:RN w P A c l) (hb:Below B w w') (hB:∀ b,P b→b<B):RN w' P A c l:=⟨h.1.below hb hB,h.2⟩
theorem RN.drewN (h:RN w P A c l) (n:Nat):RN (w.drewN n) P A c l:=h
theorem RN.cap (h:RN w P A c l):l.length≤c∧c≤9223372036854775807∧l.length≤1000000:=⟨h.1.1,h.1.2.1,h.2.2⟩
theorem RN.nil_ (w:World) (P:Nat→Prop):RN w P none 0 []:=⟨RS.nil_ _ _ _,Lim.nil_⟩
theorem RN.take (h:RN w P A c l) (n:Nat):RN w P A c (l.take n):=by
 by_cases hn:n≤l.length
 · refine ⟨?_,h.2.take n⟩;have:=h.1.pre hn;rw [jS,cq] at this;rwa [qB,qc hn]
 · rw [zk (by omega)];exact h
theorem RN.at_ (h:RN w P A c l){i:Nat}(hi':i<l.length):∃ ad,A=some ad∧P ad.block∧w.cell? (ad.add i)=some (.int .u64 (dg l i:Int)):=by
 obtain ⟨⟨h1,h2,h3,h4⟩,h5⟩:=h;obtain ⟨ad,rfl,hb,hc⟩:=h4 (by omega);exact ⟨ad,rfl,hb,hc _ _ (uk hi')⟩
theorem RN.cells {ad:Addr}(h:RN w P (some ad) c l):∀ i,i<l.length→w.cell? (ad.add i)=some (.int .u64 (dg l i:Int)):=by
 intro i hi;obtain ⟨ad',e,_,hc⟩:=h.at_ hi;cases e;exact hc
theorem RN.lt (h:RN w P A c l) (i:Nat):(dg l i:Int)<18446744073709551616:=by have:=h.2.dgLt i;omega
theorem Blk.cell (h:Blk w g l){i:Nat}(hi:i<l.length):w.cell? ⟨g,i,none⟩=some (.int .u64 (dg l i:Int)):=by
 rw [zJ h i,zK,uk hi]
theorem Blk.free (h:Blk w g l) (i:Nat):w.frozen? ⟨g,i,none⟩=false:=zv h i
theorem Blk.lt (h:Blk w g l):g<w.heap.size:=qw h
theorem Blk.set (h:Blk w g l) (i:Nat) (x:Nat):Blk (w.setCell ⟨g,i,none⟩ (.int .u64 (x:Int))) g (l.set i x):=by
 unfold Blk at *;simp [World.setCell,kY,h,nts]
theorem Blk.below {B:Nat}(h:Blk w g l) (hb:Below B w w') (hg:g<B):Blk w' g l:=(hb.block g hg).trans h
theorem Blk.drewN (h:Blk w g l) (n:Nat):Blk (w.drewN n) g l:=h
theorem Blk.other (h:Blk w g l){p:Addr}(hp:g≠p.block) (v:Value):Blk (w.setCell p v) g l:=(zN w p v g hp).trans h
theorem Blk.alloc (h:Blk w g l) (o:Obj):Blk (w.alloc o) g l:=(zx w o g (qw h)).trans h
theorem Blk.made (w:World) (n:Nat):Blk (w.alloc (.cells (madeCells #[.int .u64 0] n) 69)) w.heap.size (List.replicate n 0):=by
 unfold Blk;rw [zP];congr 1;congr 1;apply Array.ext_getElem?;intro i;by_cases hi:i<n
 · have hs:i<(madeCells #[Value.int .u64 0] n).size:=by rw [size_madeCells];simpa using hi
   rw [qi hs];simp [madeCells,nts,hi,Nat.mod_one]
 · rw [yH (by rw [size_madeCells];omega),yH (by simp [nts];omega)]
theorem OB.rn (h:OB w base A c l):RN w (In base w.heap.size) A c l:=by
 obtain ⟨h1,h2,h3,h4⟩:=h;refine ⟨⟨h2,h3,by simp [nts],fun hn=>?_⟩,h1⟩;obtain ⟨g,cur,rfl,hg,hh,hc⟩:=h4 hn;refine ⟨_,rfl,⟨hg,qw hh⟩,fun j u hu=>?_⟩;have:=zJ hh j;rw [hc j u hu] at this;rw [xZ];exact this
theorem OB.nil_ (w:World) (base:Nat):OB w base none 0 []:=⟨Lim.nil_,zH _,by unfold maxLen;omega,fun h=>absurd h (by simp)⟩
theorem OB.below {B:Nat}(h:OB w base A c l) (hb:Below B w w') (hB:w.heap.size≤B):OB w' base A c l:=by
 obtain ⟨h1,h2,h3,h4⟩:=h;refine ⟨h1,h2,h3,fun hn=>?_⟩;obtain ⟨g,cur,rfl,hg,hh,hc⟩:=h4 hn;exact ⟨g,cur,rfl,hg,(hb.block g (zR (qw hh) hB)).trans hh,hc⟩
theorem OB.drewN (h:OB w base A c l) (n:Nat):OB (w.drewN n) base A c l:=h
theorem OB.mono {base':Nat}(h:OB w base A c l) (hb:base'≤base):OB w base' A c l:=by
 obtain ⟨h1,h2,h3,h4⟩:=h;refine ⟨h1,h2,h3,fun hn=>?_⟩;obtain ⟨g,cur,e,hg,hh,hc⟩:=h4 hn;exact ⟨g,cur,e,by omega,hh,hc⟩
theorem OB.cap (h:OB w base A c l):l.length≤c∧c≤9223372036854775807∧l.length≤1000000:=⟨h.2.1,h.2.2.1,h.1.2⟩
theorem OB.take (h:OB w base A c l) (n:Nat):OB w base A c (l.take n):=by
 obtain ⟨h1,h2,h3,h4⟩:=h;refine ⟨h1.take n,by rw [qB];omega,h3,fun hn=>?_⟩;obtain ⟨g,cur,e,hg,hh,hc⟩:=h4 (by rw [qB] at hn;omega);refine ⟨g,cur,e,hg,hh,fun j u hu=>hc j u ?_⟩;rw [←cq,List.getElem?_take] at hu;split at hu
 · exact hu
 · cases hu
theorem OB.of_blk (h:Blk w g l) (hg:base≤g) (hl:Lim l){c:Nat}(hc:l.length≤c) (hc':c≤maxLen):OB w base (some ⟨g,0,none⟩) c l :=
 ⟨hl,hc,hc',fun _=>⟨g,_,rfl,hg,h,fun j u hu=>by rw [zK];exact hu⟩⟩
theorem OB.of_own (h:w.ownsRow base 69 1 (.slice A l.length c) l.length (nts l)) (hl:Lim l):OB w base A c l:=by
 obtain ⟨h0,⟨e1,e2⟩ | ⟨g,cap,cur,e1,hg,hh,h5,h6,h7,h8⟩⟩:=h
 · injection e1 with e1 e3 e4
   have:l=[]:=qC e2;subst e1 e4 this;exact OB.nil_ w base
 · injection e1 with e1 e2 e3
   subst e1 e3;refine ⟨hl,h5,h6,fun _=>⟨g,cur,rfl,hg,hh,fun j u hu=>?_⟩⟩;rw [←h8,List.getElem?_take] at hu;split at hu
   · rwa [Array.getElem?_toList] at hu
   · cases hu
end
theorem j9:(Tryz.prog.info? 69).map (fun i=>(i.zero,i.size,i.bytes))=some (some (.int .u64 0),1,8):=by kernel_rfl
end Go.Proofs.YtmlbicgpehchhaaGreat
namespace Go.Proofs.YtmlbicgpehchhaaGreat
theorem kA:type_of% @OB.of_blk:=@OB.of_blk
theorem vA:type_of% @Blk.made:=@Blk.made
end Go.Proofs.YtmlbicgpehchhaaGreat
namespace Go.Proofs.YtmlbicgpehchhaaGreat
open Go.RowKit
def ua (l:List Nat) (k:Nat):Prop:=k≤l.length∧∀ x∈l.drop k,x=0
theorem ua.zero (l:List Nat):ua l l.length:=⟨zH _,by simp⟩
theorem ua.step {l:List Nat}{k:Nat}(h:ua l (k+1)) (h0:dg l k=0):ua l k:=by
 obtain ⟨h1,h2⟩:=h;refine ⟨by omega,fun x hx=>?_⟩;rw [qa (by omega:k<l.length)] at hx;rcases List.mem_cons.1 hx with rfl | hx
 · rwa [uD (by omega)] at h0
 · exact h2 x hx
theorem ua.fin {B:Nat}(hB:2≤B){l:List Nat}(hl:∀ x∈l,x<B){k:Nat}(h:ua l k) (h0:0<k→dg l (k - 1)≠0):l.take k=digs B (val B l) :=
 dF hB hl h.1 h.2 h0
theorem ua.len {B:Nat}(hB:2≤B){l:List Nat}(hl:∀ x∈l,x<B){k:Nat}(h:ua l k) (h0:0<k→dg l (k - 1)≠0):(digs B (val B l)).length=k:=by
 rw [←h.fin hB hl h0,qB,qc h.1]
theorem jV (P:Nat→Prop) (A:Option Addr) (c:Nat) (l:List Nat) (w:World) (h:RN w P A c l) :
 Calls Tryz.prog 111 #[.slice A l.length c] w fun e w'=>e=.returned (.slice A (digs 18446744073709551616 (val 18446744073709551616 l)).length c)∧w=w':=by
 obtain ⟨h1,h2,h3⟩:=h.cap
 go_enter Tryz.func111,Tryz.ntmps111
 go_wp2
 go_loop [3] (fun n=>∃ k:Nat,ua l k∧n=.int .i64 k) (fun n=>(intOf n).toNat)
 case atStart=>exact ⟨l.length,ua.zero l,rfl⟩
 case round =>
  obtain ⟨k,hk,rfl⟩:=hrel;rcases k with _ | k
  · have hl:=zF (hk.len (B:=18446744073709551616) (by omega) h.2.1 (by omega));go_wp2;go_ret;rw [hl.out];exact ⟨rfl,rfl⟩
  · obtain ⟨ad,rfl,_,hc⟩:=h.at_ (i:=k) (by have:=hk.1;omega);have hkl:=hk.1;by_cases h0:dg l k=0
    · rw [h0] at hc;have hk':=hk.step h0;clear hk h0;go_wp2;go_round;case rel=>exact ⟨k,hk',by go_num⟩
      case measure=>simp [intOf]
    · have hl:=zF (hk.len (B:=18446744073709551616) (by omega) h.2.1 (fun _=>h0));have h0':(((dg l k:Nat):Int)==0)=false:=eqB (by omega);clear h0;go_wp2;go_ret;rw [hl.out];exact ⟨rfl,rfl⟩
theorem RN.trim {w:World}{P:Nat→Prop}{A:Option Addr}{c:Nat}{l:List Nat}(h:RN w P A c l):RN w P A c (digs 18446744073709551616 (val 18446744073709551616 l)):=by
 obtain ⟨n,_,e⟩:=h.2.trim;rw [e];exact h.take n
theorem OB.trim {w:World}{base:Nat}{A:Option Addr}{c:Nat}{l:List Nat}(h:OB w base A c l):OB w base A c (digs 18446744073709551616 (val 18446744073709551616 l)):=by
 obtain ⟨n,_,e⟩:=h.1.trim;rw [e];exact h.take n
def Dig (l:List Nat):Prop:=∀ x∈l,x<4294967296
theorem Dig.cut {l:List Nat}(h:Dig l):∃ n,n≤l.length∧l.take n=digs 4294967296 (val 4294967296 l):=by
 have:∀ k,k≤l.length→(∀ x∈l.drop k,x=0)→∃ n,n≤l.length∧(∀ x∈l.drop n,x=0)∧(0<n→l.getD (n - 1) 0≠0):=by
   intro k;induction k with
   | zero=>intro _ hz;exact ⟨0,by omega,hz,by omega⟩
   | succ k ih =>
     intro hk hz;by_cases h:l.getD k 0=0
     · refine ih (by omega) fun x hx=>?_;rw [qa (by omega:k<l.length)] at hx;rcases List.mem_cons.1 hx with rfl | hx
       · rwa [show l.getD k 0=l[k] from uD (by omega)] at h
       · exact hz x hx
     · exact ⟨k+1,hk,hz,fun _=>by simpa using h⟩
 obtain ⟨n,hn,hz,h0⟩:=this l.length (zH _) (by simp);exact ⟨n,hn,dF (by omega) h hn hz h0⟩
theorem RS.recap {w:World}{P:Nat→Prop}{size:Nat}{A:Option Addr}{n c c':Nat}{cs:List Value}(h:RS w P size A n c cs) (hc:n≤c') (hc':c'≤maxLen):RS w P size A n c' cs:=⟨hc,hc',h.2.2⟩
theorem RN.trim32 {w:World}{P:Nat→Prop}{A:Option Addr}{c:Nat}{l:List Nat}(h:RN w P A c l) (hl:Dig l):RN w P A (digs 4294967296 (val 4294967296 l)).length (digs 4294967296 (val 4294967296 l)):=by
 obtain ⟨n,_,e⟩:=hl.cut;rw [←e];have:=h.take n;exact ⟨this.1.recap (zH _) (by have:=this.cap;unfold maxLen;omega),this.2⟩
theorem RN.recap {w:World}{P:Nat→Prop}{A:Option Addr}{c c':Nat}{l:List Nat}(h:RN w P A c l) (hc:l.length≤c') (hc':c'≤maxLen):RN w P A c' l:=⟨h.1.recap hc hc',h.2⟩
theorem vG (P:Nat→Prop) (A:Option Addr) (c:Nat) (l:List Nat) (w:World) (h:RN w P A c l) (hd:Dig l) :
 Calls Tryz.prog 36 #[.slice A l.length c] w fun e w'=>e=.returned (.slice A (digs 4294967296 (val 4294967296 l)).length (digs 4294967296 (val 4294967296 l)).length)∧w=w':=by
 obtain ⟨h1,h2,h3⟩:=h.cap
 go_enter Tryz.func36,Tryz.ntmps36
 go_wp2
 go_loop [3] (fun n=>∃ k:Nat,ua l k∧n=.int .i64 k) (fun n=>(intOf n).toNat)
 case atStart=>exact ⟨l.length,ua.zero l,rfl⟩
 case round =>
  obtain ⟨k,hk,rfl⟩:=hrel;rcases k with _ | k
  · have hl:=zF (hk.len (B:=4294967296) (by omega) hd (by omega));go_wp2;go_ret;rw [hl.out];exact ⟨rfl,rfl⟩
  · obtain ⟨ad,rfl,_,hc⟩:=h.at_ (i:=k) (by have:=hk.1;omega);have hkl:=hk.1;by_cases h0:dg l k=0
    · rw [h0] at hc;have hk':=hk.step h0;clear hk h0;go_wp2;go_round;case rel=>exact ⟨k,hk',by go_num⟩
      case measure=>simp [intOf]
    · have hl:=zF (hk.len (B:=4294967296) (by omega) hd (fun _=>h0));have h0':(((dg l k:Nat):Int)==0)=false:=eqB (by omega);clear h0;go_wp2;go_ret;rw [hl.out];exact ⟨rfl,rfl⟩
theorem fk (P:Nat→Prop) (A:Option Addr) (c:Nat) (l:List Nat) (w:World) (h:RN w P A c l) :
 Calls Tryz.prog 146 #[.slice A l.length c] w fun e w'=>∃ A' c',e=.returned (.slice A' (digs 18446744073709551616 (val 18446744073709551616 l)).length c')∧OB w' w.heap.size A' c' (digs 18446744073709551616 (val 18446744073709551616 l))∧Below w.heap.size w w':=by
 obtain ⟨i0,hi,hz0,hz1,hz2⟩:=wM j9
 have ht:=h.trim
 obtain ⟨n,_,e⟩:=h.2.trim
 have hcap:=ht.cap
 obtain ⟨d,hd⟩:=eV (digs 18446744073709551616 (val 18446744073709551616 l))
 have Htr:=zF (jV P A c l w h)
 rw [hd] at ht hcap Htr ⊢
 obtain ⟨h1,h2,h3⟩:=hcap
 clear hd e
 go_enter Tryz.func146,Tryz.ntmps146
 go_wp2_with fail
 refine Htr.out.mono ?_
 rintro e w1 ⟨rfl,rfl⟩
 go_wp2_with (at_builtin;refine jG _ rfl _ _ 23 rfl w.heap.size 69 i0 (.int .u64 0) 1 8 Tryz.underlying23 hi hz0 hz1 hz2 rfl (by decide) _ 0 [] rfl (kr _ _ _ _) P A d.length c (nts d) rfl ht.1 (kG d) d.length (by omega) (by unfold maxLen;omega) (by omega) (zH _) ?_)
 intro A' c' w1 hown hgrow hblk
 go_wp2
 go_ret
 exact ⟨A',c',rfl,OB.of_own (by simpa using hown) ht.2,(zO _ w).grown hgrow (zH _) (by intro k hk;simp [Value.ownBlock] at hk)⟩
theorem wy (P:Nat→Prop) (A:Option Addr) (c:Nat) (l:List Nat) (w:World) (h:RN w P A c l) :
 Calls Tryz.prog 122 #[.slice A l.length c] w fun e w'=>∃ A' c',e=.returned (.slice A' (digs 18446744073709551616 (val 18446744073709551616 l)).length c')∧OB w' w.heap.size A' c' (digs 18446744073709551616 (val 18446744073709551616 l))∧Below w.heap.size w w':=by
 go_enter Tryz.func122,Tryz.ntmps122
 go_wp2_with fail
 refine (fk P A c l w h).mono ?_
 rintro e w1 ⟨A',c',rfl,hO,hB⟩
 go_wp2
 go_ret
 exact ⟨A',c',rfl,hO,hB⟩
theorem xN (x:Nat) (w:World) (hx:x<18446744073709551616) :
 Calls Tryz.prog 103 #[.int .u64 (x:Int)] w fun e w'=>∃ A' c',e=.returned (.slice A' (digs 18446744073709551616 x).length c')∧OB w' w.heap.size A' c' (digs 18446744073709551616 x)∧Below w.heap.size w w':=by
 have hv:val 18446744073709551616 [x]=x:=by simp
 have hm:=fun P A c w=>fk P A c [x] w
 rw [hv] at hm
 have Hm:=zF hm
 clear hm hv
 go_enter Tryz.func103,Tryz.ntmps103
 go_wp2_with fail
 refine (Hm.out (In w.heap.size (w.heap.size+1)) _ _ _ ⟨jM #[.int .u64 (x:Int)] 69 1 1 rfl (by unfold maxLen;omega) ⟨zH _,by omega⟩,by simpa [Lim] using hx⟩).mono ?_
 rintro e w1 ⟨A',c',rfl,hO,hB⟩
 go_wp2
 go_ret
 exact ⟨A',c',rfl,hO.mono (by simp),((zO _ w).alloc (zH _) _).trans (hB.mono (by simp))⟩
def jo (x y:Nat):Int:=if x<y then -1 else if x=y then 0 else 1
theorem xY {x y:Nat}(h:x<y):jo x y=-1:=by simp [jo,h]
theorem gn {x y:Nat}(h:y<x):jo x y=1:=by simp [jo,show ¬ x<y by omega,show ¬ x=y by omega]
theorem gp (x:Nat):jo x x=0:=by simp [jo]
theorem jb (x y:Nat):(x<y∧jo x y=-1)∨(x=y∧jo x y=0)∨(y<x∧jo x y=1):=by
 rcases Nat.lt_trichotomy x y with h | h | h
 · exact .inl ⟨h,xY h⟩
 · exact .inr (.inl ⟨h,by rw [h];exact gp y⟩)
 · exact .inr (.inr ⟨h,gn h⟩)
def xq (l m:List Nat) (k:Nat) (i:Int):Prop:=k≤l.length∧l.drop k=m.drop k∧((k=0∧i=-1)∨∃ j:Nat,k=j+1∧i=(j:Int))
theorem xq.start {l m:List Nat}(h:l.length=m.length):xq l m l.length ((l.length:Int) - 1):=by
 refine ⟨zH _,by rw [List.drop_length,h,List.drop_length],?_⟩;rcases hl:l.length with _ | n
 · exact .inl ⟨rfl,by simp⟩
 · exact .inr ⟨n,rfl,by omega⟩
theorem xq.step {l m:List Nat}{j:Nat}{i:Int}(h:xq l m (j+1) i) (hl:l.length=m.length) (he:dg l j=dg m j):xq l m j ((j:Int) - 1):=by
 obtain ⟨h1,h2,_⟩:=h;refine ⟨by omega,?_,?_⟩
 · rw [qa (by omega:j<l.length),qa (by omega:j<m.length),h2];rw [dg,dg,jW (by omega),jW (by omega)] at he;rw [he]
 · rcases j with _ | j
   · exact .inl ⟨rfl,by simp⟩
   · exact .inr ⟨j,rfl,by omega⟩
theorem xq.done {l m:List Nat}{i:Int}(h:xq l m 0 i):l=m:=by simpa using h.2.1
theorem xq.lt {B:Nat}{l m:List Nat}{j:Nat}{i:Int}(h:xq l m (j+1) i) (hl:l.length=m.length) (hB:∀ x∈l,x<B) (hd:dg l j<dg m j):val B l<val B m:=by
 obtain ⟨h1,h2,_⟩:=h;refine aG hB hl (i:=j) (by omega) h2 ?_;rwa [dg,dg,jW (by omega),jW (by omega)] at hd
theorem xq.gt {B:Nat}{l m:List Nat}{j:Nat}{i:Int}(h:xq l m (j+1) i) (hl:l.length=m.length) (hB:∀ x∈m,x<B) (hd:dg m j<dg l j):val B m<val B l:=by
 obtain ⟨h1,h2,_⟩:=h;refine aG hB hl.symm (i:=j) (by omega) h2.symm ?_;rwa [dg,dg,jW (by omega),jW (by omega)] at hd
theorem vW (P P':Nat→Prop) (A A':Option Addr) (c c':Nat) (x y:Nat) (w:World) (h:RN w P A c (digs 4294967296 x)) (h':RN w P' A' c' (digs 4294967296 y)) :
 Calls Tryz.prog 104 #[.slice A (digs 4294967296 x).length c,.slice A' (digs 4294967296 y).length c'] w fun e w'=>e=.returned (.int .i64 (jo x y))∧∃ n,w'=w.drewN n:=by
 have hx:=zc (B:=4294967296) (by omega) x
 have hy:=zc (B:=4294967296) (by omega) y
 have bx:=kQ (B:=4294967296) (by omega) x
 have byy:=kQ (B:=4294967296) (by omega) y
 have hlt:=vm (B:=4294967296) (m:=x) (n:=y) (by omega)
 have hgt:=vm (B:=4294967296) (m:=y) (n:=x) (by omega)
 generalize digs 4294967296 x=l at *
 generalize digs 4294967296 y=m at *
 obtain ⟨h1,h2,h3⟩:=h.cap
 obtain ⟨g1,g2,g3⟩:=h'.cap
 have Hx:=zF hx
 have Hy:=zF hy
 clear hx hy
 by_cases hl:l.length=m.length
 · have hs:=xq.start hl;have Hl:=zF hl;have hl1:((l.length:Int) != (m.length:Int))=false:=by simp [hl]
   clear hl hlt hgt;have Hs:=zF hs;clear hs;go_enter Tryz.func104,Tryz.ntmps104;go_wp2;go_loopw [5] (fun i wr=>∃ (k n:Nat) (z:Int),xq l m k z∧i=.int .i64 z∧wr=w.drewN n) (fun i _=>(intOf i+1).toNat);case atStart=>exact ⟨l.length,0,_,Hs.out,rfl,rfl⟩
   case round =>
    obtain ⟨k,n,z,hk,rfl,rfl⟩:=hrel;obtain ⟨hk1,hk2,⟨rfl,rfl⟩ | ⟨j,rfl,rfl⟩⟩:=hk
    · have he:l=m:=by simpa using hk2
      have hxy:x=y:=by rw [←Hx.out,←Hy.out,he]
      have hc:=zF (show jo x y=0 by rw [hxy];exact gp y);clear he hxy hk2;go_wp2;go_ret;rw [hc.out];exact ⟨rfl,n,rfl⟩
    · have hlm:=Hl.out;obtain ⟨ad,rfl,_,q1⟩:=h.at_ (i:=j) (by omega);obtain ⟨ae,rfl,_,q2⟩:=h'.at_ (i:=j) (by omega);have hj1:(j:Int)<(l.length:Int):=by omega
      have hj2:(j:Int)<(m.length:Int):=by omega
      have hkk:xq l m (j+1) (j:Int):=⟨hk1,hk2,.inr ⟨j,rfl,rfl⟩⟩
      rcases Nat.lt_trichotomy (dg l j) (dg m j) with hd | hd | hd
      · have hv:=hkk.lt hlm bx hd;rw [Hx.out,Hy.out] at hv;have hc:=zF (xY hv);have hd1:decide (dg l j<dg m j)=true:=by simpa using hd
        clear hkk hk1 hk2 hlm hd hv;go_wp2;go_quiet (fail);go_wp2;go_ret;rw [hc.out];exact ⟨rfl,by first | exact dr2 _ _ _ | exact dr1 _ _⟩
      · have hkk':=hkk.step hlm hd;rw [←hd] at q2;clear hkk hk1 hk2 hlm hd;go_wp2;go_quiet (fail);go_wp2;go_quiet (fail);go_wp2;go_roundw;case rel=>exact ⟨j,_,_,hkk',rfl,by first | rfl | exact sD _ _ _ _⟩
        case measure=>simp [intOf]
      · have hv:=hkk.gt hlm byy hd;rw [Hx.out,Hy.out] at hv;have hc:=zF (gn hv);have hd1:decide (dg l j<dg m j)=false:=by simp;omega
        have hd2:decide (dg m j<dg l j)=true:=by simpa using hd
        clear hkk hk1 hk2 hlm hd hv;go_wp2;go_quiet (fail);go_wp2;go_quiet (fail);go_wp2;go_ret;rw [hc.out];exact ⟨rfl,by first | exact dr3 _ _ _ _ | exact dr1 _ _⟩
 · have hl1:((l.length:Int) != (m.length:Int))=true:=neB (by omega);rcases zz l.length m.length with hd | hd
   · have hc:=zF (xY (hlt hd));clear hl hlt hgt;go_enter Tryz.func104,Tryz.ntmps104;go_wp2;go_ret;rw [hc.out];exact ⟨rfl,0,rfl⟩
   · have hc:=zF (gn (hgt (by omega)));clear hl hlt hgt;go_enter Tryz.func104,Tryz.ntmps104;go_wp2;go_ret;rw [hc.out];exact ⟨rfl,0,rfl⟩
theorem wL (P P':Nat→Prop) (A A':Option Addr) (c c':Nat) (a b:List Nat) (w:World) (h:RN w P A c a) (h':RN w P' A' c' b) :
 Calls Tryz.prog 114 #[.slice A a.length c,.slice A' b.length c'] w fun e w'=>e=.returned (.int .i64 (jo (val 18446744073709551616 a) (val 18446744073709551616 b)))∧∃ n,w'=w.drewN n:=by
 have ta:=zF (jV P A c a w h)
 have tb:=zF (jV P' A' c' b w h')
 replace h:=h.trim
 replace h':=h'.trim
 generalize val 18446744073709551616 a=x at *
 generalize val 18446744073709551616 b=y at *
 have hx:=zc (B:=18446744073709551616) (by omega) x
 have hy:=zc (B:=18446744073709551616) (by omega) y
 have bx:=kQ (B:=18446744073709551616) (by omega) x
 have byy:=kQ (B:=18446744073709551616) (by omega) y
 have hlt:=vm (B:=18446744073709551616) (m:=x) (n:=y) (by omega)
 have hgt:=vm (B:=18446744073709551616) (m:=y) (n:=x) (by omega)
 generalize digs 18446744073709551616 x=l at *
 generalize digs 18446744073709551616 y=m at *
 obtain ⟨h1,h2,h3⟩:=h.cap
 obtain ⟨g1,g2,g3⟩:=h'.cap
 have Hx:=zF hx
 have Hy:=zF hy
 clear hx hy
 by_cases hl:l.length=m.length
 · have hs:=xq.start hl;have Hl:=zF hl;have hl1:((l.length:Int) != (m.length:Int))=false:=by simp [hl]
   clear hl hlt hgt;have Hs:=zF hs;clear hs;go_enter Tryz.func114,Tryz.ntmps114;go_wp2_with fail;refine ta.out.mono ?_;rintro e w1 ⟨rfl,rfl⟩;go_wp2_with fail;refine tb.out.mono ?_;rintro e w1 ⟨rfl,rfl⟩;go_wp2;go_loopw [5] (fun i wr=>∃ (k n:Nat) (z:Int),xq l m k z∧i=.int .i64 z∧wr=w.drewN n) (fun i _=>(intOf i+1).toNat);case atStart=>exact ⟨l.length,0,_,Hs.out,rfl,rfl⟩
   case round =>
    obtain ⟨k,n,z,hk,rfl,rfl⟩:=hrel;obtain ⟨hk1,hk2,⟨rfl,rfl⟩ | ⟨j,rfl,rfl⟩⟩:=hk
    · have he:l=m:=by simpa using hk2
      have hxy:x=y:=by rw [←Hx.out,←Hy.out,he]
      have hc:=zF (show jo x y=0 by rw [hxy];exact gp y);clear he hxy hk2;go_wp2;go_ret;rw [hc.out];exact ⟨rfl,n,rfl⟩
    · have hlm:=Hl.out;obtain ⟨ad,rfl,_,q1⟩:=h.at_ (i:=j) (by omega);obtain ⟨ae,rfl,_,q2⟩:=h'.at_ (i:=j) (by omega);have hj1:(j:Int)<(l.length:Int):=by omega
      have hj2:(j:Int)<(m.length:Int):=by omega
      have hkk:xq l m (j+1) (j:Int):=⟨hk1,hk2,.inr ⟨j,rfl,rfl⟩⟩
      rcases Nat.lt_trichotomy (dg l j) (dg m j) with hd | hd | hd
      · have hv:=hkk.lt hlm bx hd;rw [Hx.out,Hy.out] at hv;have hc:=zF (xY hv);have hd0:(((dg l j:Nat):Int) != ((dg m j:Nat):Int))=true:=neB (by omega);have hd1:decide (dg l j<dg m j)=true:=by simpa using hd
        clear hkk hk1 hk2 hlm hd hv;go_wp2;go_quiet (fail);go_wp2;go_quiet (fail);go_wp2;go_ret;rw [hc.out];exact ⟨rfl,by first | exact dr3 _ _ _ _ | exact dr1 _ _⟩
      · have hkk':=hkk.step hlm hd;rw [←hd] at q2;clear hkk hk1 hk2 hlm hd;go_wp2;go_quiet (fail);go_wp2;go_roundw;case rel=>exact ⟨j,_,_,hkk',rfl,by first | rfl | exact gj _ _ _⟩
        case measure=>simp [intOf]
      · have hv:=hkk.gt hlm byy hd;rw [Hx.out,Hy.out] at hv;have hc:=zF (gn hv);have hd0:(((dg l j:Nat):Int) != ((dg m j:Nat):Int))=true:=neB (by omega);have hd1:decide (dg l j<dg m j)=false:=by simp;omega
        clear hkk hk1 hk2 hlm hd hv;go_wp2;go_quiet (fail);go_wp2;go_quiet (fail);go_wp2;go_ret;rw [hc.out];exact ⟨rfl,by first | exact dr3 _ _ _ _ | exact dr1 _ _⟩
 · have hl1:((l.length:Int) != (m.length:Int))=true:=neB (by omega);rcases zz l.length m.length with hd | hd
   · have hc:=zF (xY (hlt hd));clear hl hlt hgt;go_enter Tryz.func114,Tryz.ntmps114;go_wp2_with fail;refine ta.out.mono ?_;rintro e w1 ⟨rfl,rfl⟩;go_wp2_with fail;refine tb.out.mono ?_;rintro e w1 ⟨rfl,rfl⟩;go_wp2;go_ret;rw [hc.out];exact ⟨rfl,0,rfl⟩
   · have hc:=zF (gn (hgt (by omega)));clear hl hlt hgt;go_enter Tryz.func114,Tryz.ntmps114;go_wp2_with fail;refine ta.out.mono ?_;rintro e w1 ⟨rfl,rfl⟩;go_wp2_with fail;refine tb.out.mono ?_;rintro e w1 ⟨rfl,rfl⟩;go_wp2;go_ret;rw [hc.out];exact ⟨rfl,0,rfl⟩
theorem kF (x y c s c':Nat) (hc:c≤1) (hs:s<18446744073709551616) (he:s+18446744073709551616*c'=x+y+c) (w:World) :
 (callFunc 155 #[.int .u64 (x:Int),.int .u64 (y:Int),.int .u64 (c:Int)]).run Tryz.prog w=.ok (.value (.tuple #[.int .u64 (s:Int),.int .u64 (c':Int)])) w:=by
 rw [Tryz.add64_run x y c hc w,show (x+y+c) % 18446744073709551616=s by omega,show (x+y+c) / 18446744073709551616=c' by omega]
theorem ye (x y c s c':Nat) (hc:c≤1) (hx:x<18446744073709551616) (hy:y<18446744073709551616) (hs:s<18446744073709551616) (he:s+y+c=x+18446744073709551616*c') (hc':c'≤1) (w:World) :
 (callFunc 166 #[.int .u64 (x:Int),.int .u64 (y:Int),.int .u64 (c:Int)]).run Tryz.prog w=.ok (.value (.tuple #[.int .u64 (s:Int),.int .u64 (c':Int)])) w:=by
 rw [Tryz.sub64_run x y c hc w,show (x+18446744073709551616 - y - c) % 18446744073709551616=s by omega,show (if x<y+c then 1 else 0:Nat)=c' by split <;> omega]
theorem xp (x y c:Nat) (hx:x<18446744073709551616) (hy:y<18446744073709551616) (hc:c≤1):∃ s c',s<18446744073709551616∧c'≤1∧s+18446744073709551616*c'=x+y+c :=
 ⟨(x+y+c) % 18446744073709551616,(x+y+c) / 18446744073709551616,by omega,by omega,by omega⟩
theorem yY (x y c:Nat) (hx:x<18446744073709551616) (hy:y<18446744073709551616) (hc:c≤1):∃ s c',s<18446744073709551616∧c'≤1∧s+y+c=x+18446744073709551616*c':=by
 by_cases h:y+c≤x
 · exact ⟨x - y - c,0,by omega,by omega,by omega⟩
 · exact ⟨x+18446744073709551616 - y - c,1,by omega,by omega,by omega⟩
theorem vH {l:List Nat}{k:Nat}(h:l.length≤k):dg l k=0:=by
 rw [dg,zh,qx h];rfl
theorem fU (P P':Nat→Prop) (A A':Option Addr) (c c':Nat) (a b:List Nat) (w:World) (h:RN w P A c a) (h':RN w P' A' c' b) (hP:∀ b,P b→b<w.heap.size) (hP':∀ b,P' b→b<w.heap.size) (hl:a.length<100000)
 (hge:val 18446744073709551616 b≤val 18446744073709551616 a) :
 Calls Tryz.prog 125 #[.slice A a.length c,.slice A' b.length c'] w fun e w'=>∃ A1 c1,e=.returned (.tuple #[.slice A1 (digs 18446744073709551616 (val 18446744073709551616 a - val 18446744073709551616 b)).length c1,.bool true]) ∧
  OB w' w.heap.size A1 c1 (digs 18446744073709551616 (val 18446744073709551616 a - val 18446744073709551616 b))∧Below w.heap.size w w':=by
 have ta:=zF (jV P A c a w h)
 have tb:=zF (jV P' A' c' b w h')
 have tc:=wL P P' A A' c c' _ _ w h.trim h'.trim
 rw [zc (by omega),zc (by omega)] at tc
 have la:=ql (B:=18446744073709551616) (by omega) h.2.1
 have hml:=qg (B:=18446744073709551616) (by omega) hge
 replace h:=h.trim
 replace h':=h'.trim
 generalize val 18446744073709551616 a=x at *
 generalize val 18446744073709551616 b=y at *
 have hx:=zc (B:=18446744073709551616) (by omega) x
 have hy:=zc (B:=18446744073709551616) (by omega) y
 generalize digs 18446744073709551616 x=l at *
 generalize digs 18446744073709551616 y=m at *
 have hlen:l.length<100000:=by omega
 clear la hl
 have hge':val 18446744073709551616 m≤val 18446744073709551616 l:=by rw [hx,hy];exact hge
 have Hv:=zF (show val 18446744073709551616 l - val 18446744073709551616 m=x - y by rw [hx,hy])
 have hcv:0≤jo x y:=by rcases jb x y with h | h | h <;> omega
 generalize jo x y=v at tc hcv
 have Tc:=zF tc
 have Hge:=zF hge'
 clear hx hy tc hge hge'
 obtain ⟨h1,h2,h3⟩:=h.cap
 obtain ⟨g1,g2,g3⟩:=h'.cap
 go_enter Tryz.func125,Tryz.ntmps125
 go_wp2_with fail
 refine ta.out.mono ?_
 rintro e w1 ⟨rfl,rfl⟩
 go_wp2_with fail
 refine tb.out.mono ?_
 rintro e w1 ⟨rfl,rfl⟩
 go_wp2_with fail
 refine Tc.out.mono ?_
 rintro e w1 ⟨rfl,n,rfl⟩
 have hmk:=jH (P:=Tryz.prog) 23 69 (.int .u64 0) 8 Tryz.underlying23 j9 rfl .i64 .i64 l.length (by omega) (by omega)
 go_wp2
 go_loopw [7,23] (fun cv iv wr=>∃ (k cr:Nat) (o:List Nat),iv=.int .i64 (k:Int)∧cv=.int .u64 (cr:Int)∧k≤l.length∧cr≤1∧vz 18446744073709551616 l m o k cr∧Hid (o.length=l.length)∧Lim o∧Blk wr w.heap.size o∧Below w.heap.size w wr) (fun _ iv _=>l.length - (intOf iv).toNat)
 case atStart=>exact ⟨0,0,List.replicate l.length 0,rfl,rfl,by omega,by omega,vz.zero _ _ _ _,zF (by simp),⟨by simp,by simp;omega⟩,vA (w.drewN n) _,(qR (zO _ w) n).alloc (zH _) _⟩
 case round =>
  obtain ⟨k,cr,o,rfl,rfl,hk,hcr,hA,Ho,hLo,hblk,hB⟩:=hrel;by_cases hlt:k<l.length
  · obtain ⟨ad,rfl,_,q1⟩:=(h.below hB hP).at_ hlt;obtain ⟨s,cr',hs,hcr',he⟩:=yY (dg l k) (dg m k) cr (h.2.dgLt k) (h'.2.dgLt k) hcr;have hok:k<o.length:=by have:=Ho.out;omega
    have q3:=hblk.cell hok;have q4:=hblk.free k;have hA':=hA.step hok he;have hblk':=hblk.set k s;have hLo':=hLo.set k s hs;have hB':=hB.setCell (p:=⟨w.heap.size,k,none⟩) (zH _) (.int .u64 (s:Int));have Ho':Hid ((o.set k s).length=l.length):=zF (by rw [jt];exact Ho.out);have hl64:=h.2.dgLt k;have hm64:=h'.2.dgLt k;by_cases hm:k<m.length
    · obtain ⟨ae,rfl,_,q2⟩:=(h'.below hB hP').at_ hm;have hsub:=fun w=>ye (dg l k) (dg m k) cr s cr' hcr hl64 hm64 hs he hcr' w;clear he hA hblk hLo hB hl64 hm64;go_wp2;go_roundw;case rel=>exact ⟨k+1,cr',o.set k s,by go_num,rfl,by omega,hcr',hA',Ho',hLo',hblk',hB'⟩
      case measure=>simp [intOf];omega
    · have hsub:=fun w=>ye (dg l k) 0 cr s cr' hcr hl64 (by omega) hs (by rw [vH (by omega:m.length≤k)] at he;exact he) hcr' w;simp only [qe] at hsub;clear he hA hblk hLo hB hl64 hm64;go_wp2;go_roundw;case rel=>exact ⟨k+1,cr',o.set k s,by go_num,rfl,by omega,hcr',hA',Ho',hLo',hblk',hB'⟩
      case measure=>simp [intOf];omega
  · obtain rfl:k=l.length:=by omega
    have hfin:=hA.fin Ho.out hLo.1 rfl hml Hge.out;rw [Hv.out] at hfin;have hOB:OB wr w.heap.size (some ⟨w.heap.size,0,none⟩) l.length o:=kA hblk (zH _) hLo (by have:=Ho.out;omega) (by unfold maxLen;omega);have ht:=jV _ _ _ _ _ hOB.rn;have hOB':=hOB.trim;rw [hfin,Ho.out] at ht;rw [hfin] at hOB';have Ht:=zF ht;clear hA hblk hLo ht hfin hOB;go_wp2_with fail;refine Ht.out.mono ?_;rintro e w1 ⟨rfl,rfl⟩;go_wp2;go_ret2;exact ⟨_,_,rfl,hOB',hB⟩
theorem yk (x y hi lo:Nat) (hx:x<18446744073709551616) (hy:y<18446744073709551616) (hl:lo<18446744073709551616) (he:lo+18446744073709551616*hi=x*y) (w:World) :
 Calls Tryz.prog 154 #[.int .u64 (x:Int),.int .u64 (y:Int)] w fun e w'=>e=.returned (.tuple #[.int .u64 (hi:Int),.int .u64 (lo:Int)])∧w=w' :=
 (Tryz.bits_Mul64 x y hx hy w).mono fun e w' ⟨h1, h2⟩ => by
  rw [←he,show (lo+18446744073709551616*hi) / 18446744073709551616=hi by omega,show (lo+18446744073709551616*hi) % 18446744073709551616=lo by omega] at h1;exact ⟨h1,h2.symm⟩
theorem ge (x y u c:Nat) (hx:x<18446744073709551616) (hy:y<18446744073709551616) (hu:u<18446744073709551616) (hc:c<18446744073709551616) :
   ∃ hi lo s1 c1 s2 c2 : Nat, lo < 18446744073709551616 ∧ lo + 18446744073709551616 * hi = x * y ∧ s1 < 18446744073709551616 ∧ s1 + 18446744073709551616 * c1 = lo + u + 0 ∧ s2 < 18446744073709551616 ∧ s2 + 18446744073709551616 * c2 = s1 + c + 0 ∧
     c1≤1∧c2≤1∧hi+c1<18446744073709551616∧hi+c1+c2<18446744073709551616∧s2+18446744073709551616*(hi+c1+c2)=x*y+u+c:=by
 have hb:=yX hx hy hu hc
 refine ⟨x*y / 18446744073709551616,x*y % 18446744073709551616,(x*y % 18446744073709551616+u) % 18446744073709551616,(x*y % 18446744073709551616+u) / 18446744073709551616,
   ((x*y % 18446744073709551616+u) % 18446744073709551616+c) % 18446744073709551616,((x*y % 18446744073709551616+u) % 18446744073709551616+c) / 18446744073709551616,?_⟩
 generalize x*y=p at *;omega
theorem dw (P P':Nat→Prop) (A A':Option Addr) (c c':Nat) (a b:List Nat) (w:World) (h:RN w P A c a) (h':RN w P' A' c' b) (hP:∀ b,P b→b<w.heap.size) (hP':∀ b,P' b→b<w.heap.size) (hl:a.length<100000) (hl':b.length<100000) :
 Calls Tryz.prog 116 #[.slice A a.length c,.slice A' b.length c'] w fun e w'=>∃ A1 c1,e=.returned (.slice A1 (digs 18446744073709551616 (val 18446744073709551616 a*val 18446744073709551616 b)).length c1) ∧
  OB w' w.heap.size A1 c1 (digs 18446744073709551616 (val 18446744073709551616 a*val 18446744073709551616 b))∧Below w.heap.size w w':=by
 have ta:=zF (jV P A c a w h)
 have tb:=zF (jV P' A' c' b w h')
 have la:=ql (B:=18446744073709551616) (by omega) h.2.1
 have lb:=ql (B:=18446744073709551616) (by omega) h'.2.1
 replace h:=h.trim
 replace h':=h'.trim
 generalize val 18446744073709551616 a=x at *
 generalize val 18446744073709551616 b=y at *
 have hx:=zc (B:=18446744073709551616) (by omega) x
 have hy:=zc (B:=18446744073709551616) (by omega) y
 generalize digs 18446744073709551616 x=l at *
 generalize digs 18446744073709551616 y=m at *
 have la':l.length<100000:=by omega
 have lb':m.length<100000:=by omega
 clear la lb hl hl'
 have Hx:=zF hx
 have Hy:=zF hy
 clear hx hy
 obtain ⟨h1,h2,h3⟩:=h.cap
 obtain ⟨g1,g2,g3⟩:=h'.cap
 have hmk:=jH (P:=Tryz.prog) 23 69 (.int .u64 0) 8 Tryz.underlying23 j9 rfl .i64 .i64 (l.length+m.length) (by omega) (by omega)
 simp only [vK] at hmk
 go_enter Tryz.func116,Tryz.ntmps116
 go_wp2_with fail
 refine ta.out.mono ?_
 rintro e w1 ⟨rfl,rfl⟩
 go_wp2_with fail
 refine tb.out.mono ?_
 rintro e w1 ⟨rfl,rfl⟩
 go_wp2
 clear ta tb
 go_loopw [26] (fun iv wr=>∃ (i:Nat) (o:List Nat),iv=.int .i64 (i:Int)∧i≤l.length∧gY 18446744073709551616 l m o i∧Lim o∧Blk wr w.heap.size o∧Below w.heap.size w wr) (fun iv _=>l.length - (intOf iv).toNat)
 case atStart=>exact ⟨0,List.replicate (l.length+m.length) 0,rfl,by omega,gY.zero _ _ _,⟨by simp,by simp;omega⟩,vA w _,(zO _ w).alloc (zH _) _⟩
 case round =>
  obtain ⟨i,o0,rfl,hi,hR,hLo,hblk,hB⟩:=hrel;obtain ⟨wo,rfl⟩:=eW wr;by_cases hlt:i<l.length
  · obtain ⟨ad,rfl,_,q1⟩:=(h.below hB hP).at_ hlt;have hxi:=h.2.dgLt i;go_wp2;go_loopw [8,33] (fun cv jv wr=>∃ (j cr:Nat) (o:List Nat),jv=.int .i64 (j:Int)∧cv=.int .u64 (cr:Int)∧j≤m.length∧cr<18446744073709551616∧yJ 18446744073709551616 o0 m (dg l i) i o j cr∧Lim o∧Blk wr w.heap.size o∧Below w.heap.size w wr) (fun _ jv _=>m.length - (intOf jv).toNat);case atStart=>exact ⟨0,0,o0,rfl,rfl,by omega,by omega,yJ.zero _ _ _ _ _,hLo,hblk,hB⟩
    case round =>
     clear q1 hB hblk hLo;obtain ⟨j,cr,o,rfl,rfl,hj,hcr,hM,hLo,hblk,hB⟩:=hrel;have hol:o.length=l.length+m.length:=hM.1.trans hR.1;by_cases hjt:j<m.length
     · obtain ⟨ae,rfl,_,q2⟩:=(h'.below hB hP').at_ hjt;have hok:i+j<o.length:=by omega
       have q3:=hblk.cell hok;have q4:=hblk.free (i+j);obtain ⟨hi',lo,s1,c1,s2,c2,b1,b2,b3,b4,b5,b6,b7,b8,b9,b10,he⟩:=ge (dg l i) (dg m j) (dg o (i+j)) cr hxi (h'.2.dgLt j) (hLo.dgLt _) hcr;have hmul:=zF (fun w=>yk (dg l i) (dg m j) hi' lo hxi (h'.2.dgLt j) b1 b2 w);have hadd1:=fun w=>kF lo (dg o (i+j)) 0 s1 c1 (by omega) b3 b4 w;have hadd2:=fun w=>kF s1 cr 0 s2 c2 (by omega) b5 b6 w;simp only [qe] at hadd1 hadd2;have hM':=hM.step hok he;have hblk':=hblk.set (i+j) s2;have hLo':=hLo.set (i+j) s2 b5;have hB':=hB.setCell (p:=⟨w.heap.size,i+j,none⟩) (zH _) (.int .u64 (s2:Int));have k1:(i:Int)+(j:Int)<(l.length:Int)+(m.length:Int):=by omega
       clear he b2 b4 b6 hM hblk hLo hB hok hol;go_wp2_with fail;refine (hmul.out _).mono ?_;rintro e w1 ⟨rfl,rfl⟩;go_wp2;go_roundw;case rel=>exact ⟨j+1,hi'+c1+c2,o.set (i+j) s2,by go_num,by go_num,by omega,b10,hM',hLo',hblk',hB'⟩
       case measure=>simp [intOf];omega
     · obtain rfl:j=m.length:=by omega
       have hR':=hR.step hlt hM;have q3:=hblk.cell (i:=i+m.length) (by omega);have q4:=hblk.free (i+m.length);have hblk':=hblk.set (i+m.length) cr;have hLo':=hLo.set (i+m.length) cr hcr;have hB':=hB.setCell (p:=⟨w.heap.size,i+m.length,none⟩) (zH _) (.int .u64 (cr:Int));have k1:(i:Int)+(m.length:Int)<(l.length:Int)+(m.length:Int):=by omega
       clear hM hblk hLo hB hol;go_wp2;go_roundw;case rel=>exact ⟨i+1,o.set (i+m.length) cr,by go_num,by omega,hR',hLo',hblk',hB'⟩
       case measure=>simp [intOf];omega
  · obtain rfl:i=l.length:=by omega
    have hfin:=hR.fin;rw [Hx.out,Hy.out] at hfin;have hol:=hR.1;have hOB:OB wo w.heap.size (some ⟨w.heap.size,0,none⟩) (l.length+m.length) o0:=kA hblk (zH _) hLo (by omega) (by unfold maxLen;omega);have ht:=jV _ _ _ _ _ hOB.rn;have hOB':=hOB.trim;rw [hfin,hol] at ht;rw [hfin] at hOB';have Ht:=zF ht;clear hblk hLo ht hfin hOB hR hol;go_wp2_with fail;refine Ht.out.mono ?_;rintro e w1 ⟨rfl,rfl⟩;go_wp2;go_ret;exact ⟨_,_,rfl,hOB',hB⟩
theorem OB.recap {w:World}{base:Nat}{A:Option Addr}{c c':Nat}{l:List Nat}(h:OB w base A c l) (hc:l.length≤c') (hc':c'≤maxLen):OB w base A c' l:=⟨h.1,hc,hc',h.2.2.2⟩
theorem OB.trim32 {w:World}{base:Nat}{A:Option Addr}{c:Nat}{l:List Nat}(h:OB w base A c l) (hl:Dig l):OB w base A (digs 4294967296 (val 4294967296 l)).length (digs 4294967296 (val 4294967296 l)):=by
 obtain ⟨n,_,e⟩:=hl.cut;rw [←e];have:=h.take n;exact this.recap (zH _) (by have:=this.cap;unfold maxLen;omega)
theorem Dig.set {l:List Nat}(h:Dig l) (i x:Nat) (hx:x<4294967296):Dig (l.set i x):=wu h hx
theorem Dig.dgLt {l:List Nat}(h:Dig l) (i:Nat):dg l i<4294967296:=jZ (by omega) h i
theorem Dig.digs (x:Nat):Dig (Go.Proofs.YtmlbicgpehchhaaGreat.digs 4294967296 x):=kQ (by omega) x
def gC (l o:List Nat) (i:Nat):Prop:=o.length=2*l.length∧Dig o∧val 4294967296 (o.take (2*i))=val 18446744073709551616 (l.take i)
theorem dQ (i:Nat):4294967296 ^ (2*i)=18446744073709551616 ^ i:=by
 rw [wE]
theorem gC.zero (l:List Nat):gC l (List.replicate (2*l.length) 0) 0:=⟨by simp,by intro x hx;simp at hx;omega,by simp⟩
theorem gC.step {l o:List Nat}{i p q:Nat}(h:gC l o i) (hi:i<l.length) (hp:p<4294967296) (hq:q<4294967296) (he:p+4294967296*q=dg l i):gC l ((o.set (2*i) p).set (2*i+1) q) (i+1):=by
 obtain ⟨h1,h2,h3⟩:=h;refine ⟨by simpa using h1,(h2.set _ _ hp).set _ _ hq,?_⟩;rw [show 2*(i+1)=2*i+1+1 by omega,je _ (by simp;omega),je _ (by omega),h3,qD,←he,zu,dQ];simp only [zr,zd,kg]
theorem gC.fin {l o:List Nat}(h:gC l o l.length):val 4294967296 o=val 18446744073709551616 l:=by
 obtain ⟨h1,_,h3⟩:=h;rwa [zk (by omega),jN] at h3
theorem uW (P:Nat→Prop) (A:Option Addr) (c:Nat) (l:List Nat) (w:World) (h:RN w P A c l) (hP:∀ b,P b→b<w.heap.size) (hl:l.length<100000) :
 Calls Tryz.prog 8 #[.slice A l.length c] w fun e w'=>∃ A1 c1,e=.returned (.slice A1 (digs 4294967296 (val 18446744073709551616 l)).length c1) ∧
  OB w' w.heap.size A1 c1 (digs 4294967296 (val 18446744073709551616 l))∧Below w.heap.size w w':=by
 obtain ⟨h1,h2,h3⟩:=h.cap
 have hmk:=jH (P:=Tryz.prog) 26 69 (.int .u64 0) 8 Tryz.underlying26 j9 rfl .i64 .i64 (2*l.length) (by omega) (by omega)
 simp only [yW,qe] at hmk
 go_enter Tryz.func8,Tryz.ntmps8
 go_wp2
 go_loopw [4] (fun iv wr=>∃ (i:Nat) (o:List Nat),iv=.int .i64 (i:Int)∧i≤l.length∧gC l o i∧Lim o∧Blk wr w.heap.size o∧Below w.heap.size w wr) (fun iv _=>l.length - (intOf iv).toNat)
 case atStart=>exact ⟨0,List.replicate (2*l.length) 0,rfl,by omega,gC.zero _,⟨by simp,by simp;omega⟩,vA w _,(zO _ w).alloc (zH _) _⟩
 case round =>
  obtain ⟨i,o,rfl,hi,hF,hLo,hblk,hB⟩:=hrel;by_cases hlt:i<l.length
  · obtain ⟨ad,rfl,had,q1⟩:=(h.below hB hP).at_ hlt;have hol:=hF.1;have hxi:=h.2.dgLt i
    obtain ⟨p,q,hp,hq,he,e1,e2⟩:∃ p q:Nat,p<4294967296∧q<4294967296∧p+4294967296*q=dg l i∧(dg l i:Int) % 4294967296=(p:Int)∧(dg l i:Int) / 4294967296=(q:Int) :=
     ⟨dg l i % 4294967296,dg l i / 4294967296,by omega,by omega,by omega,by omega,by omega⟩
    have q3:=hblk.cell (i:=2*i) (by omega);have q4:=hblk.free (2*i);have hblk1:=hblk.set (2*i) p;have q5:=hblk1.cell (i:=2*i+1) (by simp;omega);have q6:=hblk1.free (2*i+1);have hblk2:=hblk1.set (2*i+1) q;have hLo':=(hLo.set (2*i) p (by omega)).set (2*i+1) q (by omega);have hB1:=hB.setCell (p:=⟨w.heap.size,2*i,none⟩) (zH _) (.int .u64 (p:Int));have q7:=((h.below hB1 hP).cells i hlt)
    have hB2:=hB1.setCell (p:=⟨w.heap.size,2*i+1,none⟩) (zH _) (.int .u64 (q:Int));have hF':=hF.step hlt hp hq he;have k1:(2:Int)*(i:Int)<2*(l.length:Int):=by omega
    have k2:(2:Int)*(i:Int)+1<2*(l.length:Int):=by omega
    clear hF hLo hblk hB hblk1 hB1 he hol hp hq;go_wp2;go_roundw;case rel=>exact ⟨i+1,(o.set (2*i) p).set (2*i+1) q,by go_num,by omega,hF',hLo',hblk2,hB2⟩
    case measure=>simp [intOf];omega
  · obtain rfl:i=l.length:=by omega
    have hfin:=hF.fin;have hOB:OB wr w.heap.size (some ⟨w.heap.size,0,none⟩) (2*l.length) o:=kA hblk (zH _) hLo (by have:=hF.1;omega) (by unfold maxLen;omega);have ht:=vG _ _ _ _ _ hOB.rn hF.2.1;have hOB':=hOB.trim32 hF.2.1;rw [hfin,hF.1] at ht;rw [hfin] at hOB';have Ht:=zF ht;clear hblk hLo ht hfin hOB hF;go_wp2_with fail;refine Ht.out.mono ?_;rintro e w1 ⟨rfl,rfl⟩;go_wp2;go_ret;exact ⟨_,_,rfl,hOB',hB⟩
theorem kW (x:Nat) (w:World) (hx:x<18446744073709551616) :
 Calls Tryz.prog 78 #[.int .u64 (x:Int)] w fun e w'=>∃ A' c',e=.returned (.slice A' (digs 4294967296 x).length c')∧OB w' w.heap.size A' c' (digs 4294967296 x)∧Below w.heap.size w w':=by
 have hv:val 18446744073709551616 [x]=x:=by simp
 have hm:=fun P A c w h hP=>uW P A c [x] w h hP (by simp)
 rw [hv] at hm
 have Hm:=zF hm
 clear hm hv
 go_enter Tryz.func78,Tryz.ntmps78
 go_wp2_with fail
 refine (Hm.out (In w.heap.size (w.heap.size+1)) _ _ _ ⟨jM #[.int .u64 (x:Int)] 69 1 1 rfl (by unfold maxLen;omega) ⟨zH _,by omega⟩,by simpa [Lim] using hx⟩ (fun b hb=>by have:=hb.2;simp;omega)).mono ?_
 rintro e w1 ⟨A',c',rfl,hO,hB⟩
 go_wp2
 go_ret
 exact ⟨A',c',rfl,hO.mono (by simp),((zO _ w).alloc (zH _) _).trans (hB.mono (by simp))⟩
def vM:List Nat→List Nat
 | []=>[]
 | [a]=>[a]
 | a :: b :: r=>(a+4294967296*b) :: vM r
theorem aT:∀ l:List Nat,val 18446744073709551616 (vM l)=val 4294967296 l
 | []=>rfl
 | [a]=>by simp [vM]
 | a :: b :: r=>by simp only [vM,ju,aT r];omega
theorem cX:∀ {l:List Nat},Dig l→∀ x∈vM l,x<18446744073709551616
 | [],_,x,hx=>by cases hx
 | [a], h, x, hx => by
   have:=h a (by simp);simp only [vM,List.mem_singleton] at hx;omega
 | a :: b :: r, h, x, hx => by
   have h1:=h a (by simp);have h2:=h b (by simp);simp only [vM,ya] at hx;rcases hx with rfl | hx
   · omega
   · exact cX (fun y hy=>h y (by simp [hy])) x hx
theorem zAU:∀ {l:List Nat},l≠[]→vM l≠[]
 | [],h=>absurd rfl h
 | [a],_=>by simp [vM]
 | a :: b :: r,_=>by simp [vM]
theorem cZ:∀ {l:List Nat}(h:l≠[]),l.getLast h≠0→∀ h':vM l≠[],(vM l).getLast h'≠0
 | [],h,_,_=>absurd rfl h
 | [a],_,h,h'=>by simpa [vM] using h
 | [a, b], _, h, h' => by
   simp at h;simp [vM];omega
 | a :: b :: d :: r, _, h, h' => by
   have e:vM (a :: b :: d :: r)=(a+4294967296*b) :: vM (d :: r):=rfl;have hne:vM (d :: r)≠[]:=zAU (by simp);simp only [e,List.getLast_cons hne];exact cZ (by simp) (by simpa using h) hne
theorem pZ (x:Nat):vM (digs 4294967296 x)=digs 18446744073709551616 x:=by
 have h1:=aT (digs 4294967296 x);rw [zc (by omega)] at h1;have h2:=gW (B:=18446744073709551616) (by omega) (cX (Dig.digs x)) fun hne=>by
  have hne':digs 4294967296 x≠[]:=by intro e;rw [e] at hne;exact hne rfl
  exact cZ hne' (uY (by omega) x hne') hne
 rw [h1] at h2;exact h2.symm
theorem fi:∀ l:List Nat,(vM l).length=(l.length+1) / 2
 | []=>rfl
 | [a]=>by simp [vM]
 | a :: b :: r=>by simp only [vM,qh,fi r];omega
theorem yS (a:Nat) (l:List Nat):dg (a :: l) 0=a:=rfl
theorem xA (a:Nat) (l:List Nat) (i:Nat):dg (a :: l) (i+1)=dg l i:=rfl
theorem rF (i:Nat):dg [] i=0:=rfl
theorem ns:∀ (l:List Nat) (k:Nat),dg (vM l) k=dg l (2*k)+4294967296*dg l (2*k+1)
 | [],k=>by simp [vM,rF]
 | [a],0=>by simp [vM,yS,xA,rF]
 | [a],k+1=>by rw [show 2*(k+1)=2*k+1+1 by omega];simp [vM,xA,rF]
 | a :: b :: r,0=>by simp [vM,yS,xA]
 | a :: b :: r, k + 1 => by
   rw [show 2*(k+1)=2*k+1+1 by omega];simp only [vM,xA,ns r k]
theorem ue {l:List Nat}{k:Nat}(h:k<l.length):l.take (k+1)=l.take k++[dg l k]:=by
 rw [wl h,dg,jW h]
theorem yO {w:World}{base n size:Nat}{e:TypeId}{v:Value}{xs:List Value}(h:w.ownsRow base e size v n xs){j:Nat}(hj:v.ownBlock=some j):base≤j:=by
 obtain ⟨h0,⟨rfl,_⟩ | ⟨g,cap,cur,rfl,hg,_⟩⟩:=h
 · simp [Value.ownBlock] at hj
 · simp [Value.ownBlock] at hj;omega
theorem zCQ (P:Nat→Prop) (A:Option Addr) (c:Nat) (x:Nat) (w:World) (h:RN w P A c (digs 4294967296 x)) (hP:∀ b,P b→b<w.heap.size) :
 Calls Tryz.prog 67 #[.slice A (digs 4294967296 x).length c] w fun e w'=>∃ A1 c1,e=.returned (.slice A1 (digs 18446744073709551616 x).length c1) ∧
  OB w' w.heap.size A1 c1 (digs 18446744073709551616 x)∧Below w.heap.size w w':=by
 obtain ⟨i0,hi,hz0,hz1,hz2⟩:=wM j9
 obtain ⟨h1,h2,h3⟩:=h.cap
 have hx:=pZ x
 have hd:=Dig.digs x
 rw [←hx]
 generalize digs 4294967296 x=l at *
 have hpl:=fi l
 have hpd:=ns l
 have hplt:=cX hd
 generalize vM l=m at *
 clear hx
 have Hpd:=zF hpd
 have Hpl:=zF hpl
 have hmb:m.length≤1000000:=by omega
 clear hpd hpl
 have hLm:Lim m:=⟨hplt,hmb⟩
 go_enter Tryz.func67,Tryz.ntmps67
 go_wp2
 go_loopw [3,4] (fun lv iv wr=>∃ (k:Nat),iv=.int .i64 (2*(k:Int))∧k≤m.length∧wr.ownsRow w.heap.size 69 1 lv k (nts (m.take k))∧Below w.heap.size w wr) (fun _ iv _=>l.length+1 - (intOf iv).toNat)
 case atStart=>exact ⟨0,rfl,by omega,kr _ _ _ _,zO _ _⟩
 case round =>
  obtain ⟨k,rfl,hk,hO,hB⟩:=hrel;have hkl:=Hpl.out;by_cases hlt:k<m.length
  · obtain ⟨ad,rfl,had,q1⟩:=(h.below hB hP).at_ (i:=2*k) (by omega);have hd1:=hd.dgLt (2*k);have hd2:=hd.dgLt (2*k+1);have he:=Hpd.out k;have hmk:=hLm.dgLt k;have hs:=hB.size;have htk:=ue hlt;have k1:(2:Int)*(k:Int)<(l.length:Int):=by omega
    by_cases h2:2*k+1<l.length
    · have q2:=(h.below hB hP).cells (2*k+1) h2;rw [pG] at q2;have k2:(2:Int)*(k:Int)+1<(l.length:Int):=by omega
      have e1:(dg l (2*k):Int)+(dg l (2*k+1):Int)*4294967296=(dg m k:Int):=by omega
      clear he hkl;go_wp2_with (at_builtin;refine jG _ rfl _ _ 23 rfl w.heap.size 69 i0 (.int .u64 0) 1 8 Tryz.underlying23 hi hz0 hz1 hz2 rfl (by decide) _ k (nts (m.take k)) rfl (hO.alloc _) (In wr.heap.size (wr.heap.size+1)) (some ⟨wr.heap.size,0,none⟩) 1 1 [.int .u64 (dg m k:Int)] rfl (jM #[.int .u64 (dg m k:Int)] 69 1 1 rfl (by unfold maxLen;omega) ⟨zH _,by omega⟩) (by simp [Value.oneCell']) (k+1) rfl (by unfold maxLen;omega) (by omega) (by simp;omega) ?_);intro A' c' w1 hown hgrow hblk;go_wp2;go_roundw;case rel=>exact ⟨k+1,by go_num,by omega,by rw [htk];simpa [nts] using hown,(hB.alloc hs _).grown hgrow (by simp;omega) (by intro j hj;exact yO hO hj)⟩
      case measure=>simp [intOf];omega
    · have e1:dg l (2*k)=dg m k:=by rw [he,vH (by omega:l.length≤2*k+1)];omega
      have k2:¬ (2:Int)*(k:Int)+1<(l.length:Int):=by omega
      rw [e1] at q1;clear he hkl e1;go_wp2_with (at_builtin;refine jG _ rfl _ _ 23 rfl w.heap.size 69 i0 (.int .u64 0) 1 8 Tryz.underlying23 hi hz0 hz1 hz2 rfl (by decide) _ k (nts (m.take k)) rfl (hO.alloc _) (In wr.heap.size (wr.heap.size+1)) (some ⟨wr.heap.size,0,none⟩) 1 1 [.int .u64 (dg m k:Int)] rfl (jM #[.int .u64 (dg m k:Int)] 69 1 1 rfl (by unfold maxLen;omega) ⟨zH _,by omega⟩) (by simp [Value.oneCell']) (k+1) rfl (by unfold maxLen;omega) (by omega) (by simp;omega) ?_);intro A' c' w1 hown hgrow hblk;go_wp2;go_roundw;case rel=>exact ⟨k+1,by go_num,by omega,by rw [htk];simpa [nts] using hown,(hB.alloc hs _).grown hgrow (by simp;omega) (by intro j hj;exact yO hO hj)⟩
      case measure=>simp [intOf];omega
  · obtain rfl:k=m.length:=by omega
    have k1:¬ (2:Int)*(m.length:Int)<(l.length:Int):=by omega
    obtain ⟨A1,c1,rfl⟩:=dH hO;rw [jN] at hO;clear hkl;go_wp2;go_ret;exact ⟨_,_,rfl,OB.of_own hO hLm,hB⟩
end Go.Proofs.YtmlbicgpehchhaaGreat
namespace Go.Proofs.YtmlbicgpehchhaaGreat
theorem wV:type_of% @Dig.digs:=@Dig.digs
end Go.Proofs.YtmlbicgpehchhaaGreat
namespace Go.Proofs.YtmlbicgpehchhaaGreat
open Go.RowKit
def dM (l m:List Nat) (k:Nat):Prop:=∀ j,j<k→dg l j=dg m j
theorem dM.step {l m:List Nat}{k:Nat}(h:dM l m k) (he:dg l k=dg m k):dM l m (k+1):=fun j hj=>by
 rcases zz j k with h1 | h1
 · exact h j h1
 · obtain rfl:j=k:=by omega
   exact he
theorem dM.fin {l m:List Nat}(h:dM l m l.length) (hl:l.length=m.length):l=m:=by
 apply List.ext_getElem hl;intro i h1 h2;have:=h i h1;rwa [dg,dg,jW h1,jW h2] at this
theorem zBu (P P':Nat→Prop) (A A':Option Addr) (c c':Nat) (l:List Nat) (x:Nat) (w:World) (h:RN w P A c l) (h':RN w P' A' c' (digs 4294967296 x)) (hP:∀ b,P b→b<w.heap.size) (hP':∀ b,P' b→b<w.heap.size) :
 Calls Tryz.prog 16 #[.slice A l.length c,.slice A' (digs 4294967296 x).length c'] w fun e w'=>e=.returned (.bool (decide (l=digs 18446744073709551616 x)))∧Below w.heap.size w w':=by
 obtain ⟨h1,h2,h3⟩:=h.cap
 have ht:=zF (zCQ P' A' c' x w h' hP')
 have hmc:=OB.cap (w:=w) (base:=0) (A:=none) (c:=1000000) (l:=l)
 clear hmc
 generalize digs 18446744073709551616 x=m at *
 by_cases hl:l.length=m.length
 · have Hl:=zF hl;have hl1:((l.length:Int) != (m.length:Int))=false:=by simp [hl]
   clear hl;go_enter Tryz.func16,Tryz.ntmps16;go_wp2_with fail;refine ht.out.mono ?_;rintro e w1 ⟨A1,c1,rfl,hO,hB⟩;obtain ⟨g1,g2,g3⟩:=hO.cap;go_wp2;go_loopw [6] (fun iv wr=>∃ (k n:Nat),iv=.int .i64 (k:Int)∧k≤l.length∧dM l m k∧wr=w1.drewN n) (fun iv _=>l.length - (intOf iv).toNat);case atStart=>exact ⟨0,0,rfl,by omega,fun j hj=>by omega,rfl⟩
   case round =>
    obtain ⟨k,n,rfl,hk,hS,rfl⟩:=hrel;have hlm:=Hl.out;by_cases hlt:k<l.length
    · obtain ⟨ad,rfl,had,q1⟩:=(h.below hB hP).at_ hlt;obtain ⟨ae,rfl,hae,q2⟩:=hO.rn.at_ (i:=k) (by omega);have k1:(k:Int)<(m.length:Int):=by omega
      by_cases he:dg l k=dg m k
      · have hS':=hS.step he;rw [←he] at q2;clear hlm he hS;go_wp2;go_quiet (fail);go_wp2;go_roundw;case rel=>exact ⟨k+1,_,by go_num,by omega,hS',by first | rfl | exact gj _ _ _⟩
        case measure=>simp [intOf];omega
      · have hne:decide (l=m)=false:=by
         rw [xS];rintro rfl;exact he rfl
        have Hne:=zF hne;have hd0:(((dg l k:Nat):Int) != ((dg m k:Nat):Int))=true:=neB (by omega);clear hlm he hS hne;go_wp2;go_quiet (fail);go_wp2;go_ret;rw [Hne.out];exact ⟨rfl,by first | exact qR hB _ | exact qR (qR hB _) _⟩
    · obtain rfl:k=l.length:=by omega
      have he:=hS.fin hlm;have Hne:=zF (show decide (l=m)=true by rw [he];simp);clear hlm he hS;go_wp2;go_ret;rw [Hne.out];exact ⟨rfl,qR hB _⟩
 · have hne:decide (l=m)=false:=by
    rw [xS];rintro rfl;exact hl rfl
   have Hne:=zF hne;have hl1:((l.length:Int) != (m.length:Int))=true:=neB (by omega);clear hl hne;go_enter Tryz.func16,Tryz.ntmps16;go_wp2_with fail;refine ht.out.mono ?_;rintro e w1 ⟨A1,c1,rfl,hO,hB⟩;go_wp2;go_ret;rw [Hne.out];exact ⟨rfl,hB⟩
theorem bJ (P P':Nat→Prop) (A A':Option Addr) (c c':Nat) (x:Nat) (w:World) (h:RN w P A c (digs 18446744073709551616 x)) (h':RN w P' A' c' (digs 4294967296 x)) (hP:∀ b,P b→b<w.heap.size) (hP':∀ b,P' b→b<w.heap.size) :
 Calls Tryz.prog 16 #[.slice A (digs 18446744073709551616 x).length c,.slice A' (digs 4294967296 x).length c'] w fun e w'=>e=.returned (.bool true)∧Below w.heap.size w w':=by
 have:=zBu P P' A A' c c' _ x w h h' hP hP'
 rwa [show decide (digs 18446744073709551616 x=digs 18446744073709551616 x)=true by simp] at this
def RL (w:World) (P:Nat→Prop) (A:Option Addr) (c:Nat) (l:List Nat):Prop:=RS w P 1 A l.length c (nts l)∧(∀ x∈l,x<18446744073709551616)∧l.length≤17592186044416
theorem RL.take {w:World}{P:Nat→Prop}{A:Option Addr}{c:Nat}{l:List Nat}(h:RL w P A c l){n:Nat}(hn:n≤1000000) (hn':n≤l.length):RN w P A c (l.take n):=by
 have:=h.1.pre hn';rw [jS,cq] at this;refine ⟨by rw [qB,qc hn'];exact this,fun x hx=>h.2.1 x (qW hx),by rw [qB];omega⟩
theorem RL.below {w w':World}{P:Nat→Prop}{A:Option Addr}{c B:Nat}{l:List Nat}(h:RL w P A c l) (hb:Below B w w') (hB:∀ b,P b→b<B):RL w' P A c l:=⟨h.1.below hb hB,h.2⟩
theorem fs (P:Nat→Prop) (A:Option Addr) (c:Nat) (l:List Nat) (n:Nat) (w:World) (h:RL w P A c l) (hn:n≤100000) :
 Calls Tryz.prog 7 #[.slice A l.length c,.int .i64 (n:Int)] w fun e w'=>∃ A1 c1,e=.returned (.slice A1 (l.take n).length c1)∧OB w' w.heap.size A1 c1 (l.take n)∧Below w.heap.size w w':=by
 obtain ⟨i0,hi,hz0,hz1,hz2⟩:=wM j9
 obtain ⟨⟨h1,h2,_⟩,h4,h5⟩:=id h
 unfold maxLen at h2
 by_cases hl:l.length<n
 · have ht:l.take n=l:=zk (by omega);have hR:RN w P A c l:=⟨h.1,h4,by omega⟩
   rw [ht];have hlB:decide (l.length<n)=true:=by simpa using hl
   clear ht h4;go_enter Tryz.func7,Tryz.ntmps7;go_wp2_with (at_builtin;refine jG _ rfl _ _ 23 rfl w.heap.size 69 i0 (.int .u64 0) 1 8 Tryz.underlying23 hi hz0 hz1 hz2 rfl (by decide) _ 0 [] rfl (kr _ _ _ _) P A l.length c (nts l) rfl hR.1 (kG l) l.length (by omega) (by unfold maxLen;omega) (by omega) (zH _) ?_);intro A' c' w1 hown hgrow hblk;go_wp2;go_ret;exact ⟨A',c',rfl,OB.of_own (by simpa using hown) hR.2,(zO _ w).grown hgrow (zH _) (by intro k hk;simp [Value.ownBlock] at hk)⟩
 · have hR:=h.take (n:=n) (by omega) (by omega);have hlen:(l.take n).length=n:=by rw [qB];omega
   have hlB:decide (l.length<n)=false:=by simpa using hl
   have k1:(n:Int)≤(c:Int):=by omega
   generalize l.take n=d at *;subst hlen;clear h4 hl;go_enter Tryz.func7,Tryz.ntmps7;go_wp2_with (at_builtin;refine jG _ rfl _ _ 23 rfl w.heap.size 69 i0 (.int .u64 0) 1 8 Tryz.underlying23 hi hz0 hz1 hz2 rfl (by decide) _ 0 [] rfl (kr _ _ _ _) P A d.length c (nts d) rfl hR.1 (kG d) d.length (by omega) (by unfold maxLen;omega) (by omega) (zH _) ?_);intro A' c' w1 hown hgrow hblk;go_wp2;go_ret;exact ⟨A',c',rfl,OB.of_own (by simpa using hown) hR.2,(zO _ w).grown hgrow (zH _) (by intro k hk;simp [Value.ownBlock] at hk)⟩
theorem pX (P P':Nat→Prop) (A A':Option Addr) (c c':Nat) (x y:Nat) (w:World) (h:RN w P A c (digs 4294967296 x)) (h':RN w P' A' c' (digs 4294967296 y)) (hP:∀ b,P b→b<w.heap.size) (hP':∀ b,P' b→b<w.heap.size)
 (hl:(digs 4294967296 x).length<100000) (hl':(digs 4294967296 y).length<100000) :
 Calls Tryz.prog 109 #[.slice A (digs 4294967296 x).length c,.slice A' (digs 4294967296 y).length c'] w fun e w'=>∃ A1 c1,e=.returned (.slice A1 (digs 4294967296 (x+y)).length c1) ∧
  OB w' w.heap.size A1 c1 (digs 4294967296 (x+y))∧Below w.heap.size w w':=by
 have hx:=zc (B:=4294967296) (by omega) x
 have hy:=zc (B:=4294967296) (by omega) y
 have dx:=wV x
 have dy:=wV y
 generalize digs 4294967296 x=l at *
 generalize digs 4294967296 y=m at *
 have Hx:=zF hx
 have Hy:=zF hy
 clear hx hy
 obtain ⟨h1,h2,h3⟩:=h.cap
 obtain ⟨g1,g2,g3⟩:=h'.cap
 go_enter Tryz.func109,Tryz.ntmps109
 go_upto_if 14 with fail
 go_cut [5] (fun s5 wx=>∃ n:Nat,s5=.int .i64 (n:Int)∧l.length≤n∧m.length≤n∧n<100000∧w=wx)
 case first =>
  by_cases hs:l.length<m.length
  · go_wp2_with fail;go_meet;case rel=>exact ⟨m.length,rfl,by omega,by omega,by omega,rfl⟩
  · go_wp2_with fail;go_meet;case rel=>exact ⟨l.length,rfl,by omega,by omega,by omega,rfl⟩
 case rest =>
  obtain ⟨n,rfl,hln,hmn,hn,rfl⟩:=hcut;have hmk:=jH (P:=Tryz.prog) 26 69 (.int .u64 0) 8 Tryz.underlying26 j9 rfl .i64 .i64 (n+1) (by omega) (by omega);simp only [vK,qe] at hmk;go_wp2;go_loopw [7,8] (fun cv iv wr=>∃ (k cr:Nat) (o:List Nat),iv=.int .i64 (k:Int)∧cv=.int .u64 (cr:Int)∧k≤n+1∧(k≤n→cr≤1)∧(k=n+1→cr=0)∧wf 4294967296 l m o k cr∧Hid (o.length=n+1)∧Dig o∧Blk wr w.heap.size o∧Below w.heap.size w wr) (fun _ iv _=>n+1 - (intOf iv).toNat);case atStart=>exact ⟨0,0,List.replicate (n+1) 0,rfl,rfl,by omega,by omega,by omega,wf.zero _ _ _ _,zF (by simp),by intro x hx;simp at hx;omega,vA w _,(zO _ w).alloc (zH _) _⟩
  case round =>
   obtain ⟨k,cr,o,rfl,rfl,hk,hcr,hcr0,hA,Ho,hD,hblk,hB⟩:=hrel;by_cases hlt:k≤n
   · have hok:k<o.length:=by have:=Ho.out;omega
     have q3:=hblk.cell hok;have q4:=hblk.free k;have hcr1:=hcr hlt;have b1:=dx.dgLt k;have b2:=dy.dgLt k;obtain ⟨s,cr',hs,hcr',he,hend⟩:∃ s c':Nat,s<4294967296∧c'≤1∧s+4294967296*c'=dg l k+dg m k+cr∧(k=n→c'=0):=by
      refine ⟨(dg l k+dg m k+cr) % 4294967296,(dg l k+dg m k+cr) / 4294967296,by omega,by omega,by omega,fun e=>?_⟩;rw [vH (by omega:l.length≤k),vH (by omega:m.length≤k)];omega
     have hA':=hA.step hok he;have hblk':=hblk.set k s;have hD':=hD.set k s hs;have hB':=hB.setCell (p:=⟨w.heap.size,k,none⟩) (zH _) (.int .u64 (s:Int));have Ho':Hid ((o.set k s).length=n+1):=zF (by rw [jt];exact Ho.out);have k1:(k:Int)<(n:Int)+1:=by omega
     by_cases hm1:k<l.length
     · obtain ⟨ad,rfl,had,q1⟩:=(h.below hB hP).at_ hm1;by_cases hm2:k<m.length
       · obtain ⟨ae,rfl,hae,q2⟩:=(h'.below hB hP').at_ hm2;have e1:((cr:Int)+(dg l k:Int)+(dg m k:Int)) % 4294967296=(s:Int):=by omega
         have e2:((cr:Int)+(dg l k:Int)+(dg m k:Int)) / 4294967296=(cr':Int):=by omega
         clear he hA hblk hD hB hok hcr;go_wp2;go_roundw;case rel=>exact ⟨k+1,cr',o.set k s,by go_num,(by first | rfl | exact congrArg (Value.int .u64) e2),by omega,fun _=>hcr',fun e=>hend (by omega),hA',Ho',hD',hblk',hB'⟩
         case measure=>simp [intOf];omega
       · have e0:dg m k=0:=vH (by omega);have e1:((cr:Int)+(dg l k:Int)) % 4294967296=(s:Int):=by omega
         have e2:((cr:Int)+(dg l k:Int)) / 4294967296=(cr':Int):=by omega
         clear he hA hblk hD hB hok hcr e0;go_wp2;go_roundw;case rel=>exact ⟨k+1,cr',o.set k s,by go_num,(by first | rfl | exact congrArg (Value.int .u64) e2),by omega,fun _=>hcr',fun e=>hend (by omega),hA',Ho',hD',hblk',hB'⟩
         case measure=>simp [intOf];omega
     · by_cases hm2:k<m.length
       · obtain ⟨ae,rfl,hae,q2⟩:=(h'.below hB hP').at_ hm2;have e0:dg l k=0:=vH (by omega);have e1:((cr:Int)+(dg m k:Int)) % 4294967296=(s:Int):=by omega
         have e2:((cr:Int)+(dg m k:Int)) / 4294967296=(cr':Int):=by omega
         clear he hA hblk hD hB hok hcr e0;go_wp2;go_roundw;case rel=>exact ⟨k+1,cr',o.set k s,by go_num,(by first | rfl | exact congrArg (Value.int .u64) e2),by omega,fun _=>hcr',fun e=>hend (by omega),hA',Ho',hD',hblk',hB'⟩
         case measure=>simp [intOf];omega
       · have e0:dg l k=0:=vH (by omega);have e00:dg m k=0:=vH (by omega);have e1:((cr:Int)) % 4294967296=(s:Int):=by omega
         have e2:((cr:Int)) / 4294967296=(cr':Int):=by omega
         clear he hA hblk hD hB hok hcr e0 e00;go_wp2;go_roundw;case rel=>exact ⟨k+1,cr',o.set k s,by go_num,(by first | rfl | exact congrArg (Value.int .u64) e2),by omega,fun _=>hcr',fun e=>hend (by omega),hA',Ho',hD',hblk',hB'⟩
         case measure=>simp [intOf];omega
   · obtain rfl:k=n+1:=by omega
     have hcr1:=hcr0 rfl;subst hcr1;have hfin:val 4294967296 o=x+y:=by
      have:=hA;unfold wf at this;rwa [zk (by rw [Ho.out];omega),zk (by omega),zk (by omega),Hx.out,Hy.out,jK,qu] at this
     have hLo:Lim o:=⟨fun z hz=>by have:=hD z hz;omega,by rw [Ho.out];omega⟩
     have hOB:OB wr w.heap.size (some ⟨w.heap.size,0,none⟩) (n+1) o:=kA hblk (zH _) hLo (by have:=Ho.out;omega) (by unfold maxLen;omega);have ht:=vG _ _ _ _ _ hOB.rn hD;have hOB':=hOB.trim32 hD;rw [hfin,Ho.out] at ht;rw [hfin] at hOB';have Ht:=zF ht;clear hblk hLo ht hfin hOB hA hcr hcr0;go_wp2_with fail;refine Ht.out.mono ?_;rintro e w1 ⟨rfl,rfl⟩;go_wp2;go_ret;exact ⟨_,_,rfl,hOB',hB⟩
theorem fD (P P':Nat→Prop) (A A':Option Addr) (c c':Nat) (x y:Nat) (w:World) (h:RN w P A c (digs 4294967296 x)) (h':RN w P' A' c' (digs 4294967296 y)) (hP:∀ b,P b→b<w.heap.size) (hP':∀ b,P' b→b<w.heap.size)
 (hl:(digs 4294967296 x).length<100000) (hle:y≤x) :
 Calls Tryz.prog 80 #[.slice A (digs 4294967296 x).length c,.slice A' (digs 4294967296 y).length c'] w fun e w'=>∃ A1 c1,e=.returned (.slice A1 (digs 4294967296 (x - y)).length c1) ∧
  OB w' w.heap.size A1 c1 (digs 4294967296 (x - y))∧Below w.heap.size w w':=by
 have hx:=zc (B:=4294967296) (by omega) x
 have hy:=zc (B:=4294967296) (by omega) y
 have hml:=qg (B:=4294967296) (by omega) hle
 have dx:=wV x
 have dy:=wV y
 generalize digs 4294967296 x=l at *
 generalize digs 4294967296 y=m at *
 have Hx:=zF hx
 have Hy:=zF hy
 clear hx hy
 obtain ⟨h1,h2,h3⟩:=h.cap
 obtain ⟨g1,g2,g3⟩:=h'.cap
 have hmk:=jH (P:=Tryz.prog) 26 69 (.int .u64 0) 8 Tryz.underlying26 j9 rfl .i64 .i64 l.length (by omega) (by omega)
 go_enter Tryz.func80,Tryz.ntmps80
 go_wp2
 go_loopw [6,7] (fun cv iv wr=>∃ (k cr:Nat) (o:List Nat),iv=.int .i64 (k:Int)∧cv=.int .u64 (cr:Int)∧k≤l.length∧cr≤1∧vz 4294967296 l m o k cr∧Hid (o.length=l.length)∧Dig o∧Blk wr w.heap.size o∧Below w.heap.size w wr) (fun _ iv _=>l.length - (intOf iv).toNat)
 case atStart=>exact ⟨0,0,List.replicate l.length 0,rfl,rfl,by omega,by omega,vz.zero _ _ _ _,zF (by simp),by intro x hx;simp at hx;omega,vA w _,(zO _ w).alloc (zH _) _⟩
 case round =>
  obtain ⟨k,cr,o,rfl,rfl,hk,hcr,hA,Ho,hD,hblk,hB⟩:=hrel;by_cases hlt:k<l.length
  · have hok:k<o.length:=by have:=Ho.out;omega
    have q3:=hblk.cell hok;have q4:=hblk.free k;have b1:=dx.dgLt k;have b2:=dy.dgLt k;obtain ⟨ad,rfl,had,q1⟩:=(h.below hB hP).at_ hlt;by_cases hm2:k<m.length
    · obtain ⟨ae,rfl,hae,q2⟩:=(h'.below hB hP').at_ hm2;by_cases hb:dg l k<cr+dg m k
      · obtain ⟨s,hs,e1⟩:∃ s:Nat,s<4294967296∧(dg l k:Int)+4294967296 - ((cr:Int)+(dg m k:Int))=(s:Int):=⟨dg l k+4294967296 - (cr+dg m k),by omega,by omega⟩
        have hA':=hA.step (s:=s) (c':=1) hok (by omega);have hblk':=hblk.set k s;have hD':=hD.set k s hs;have hB':=hB.setCell (p:=⟨w.heap.size,k,none⟩) (zH _) (.int .u64 (s:Int));have Ho':Hid ((o.set k s).length=l.length):=zF (by rw [jt];exact Ho.out);have t1:(dg l k:Int)<(cr:Int)+(dg m k:Int):=by omega
        clear hA hblk hD hB hok hb;go_wp2;go_roundw;case rel=>exact ⟨k+1,1,o.set k s,by go_num,by go_num,by omega,by omega,hA',Ho',hD',hblk',hB'⟩
        case measure=>simp [intOf];omega
      · obtain ⟨s,hs,e1⟩:∃ s:Nat,s<4294967296∧(dg l k:Int) - ((cr:Int)+(dg m k:Int))=(s:Int):=⟨dg l k - (cr+dg m k),by omega,by omega⟩
        have hA':=hA.step (s:=s) (c':=0) hok (by omega);have hblk':=hblk.set k s;have hD':=hD.set k s hs;have hB':=hB.setCell (p:=⟨w.heap.size,k,none⟩) (zH _) (.int .u64 (s:Int));have Ho':Hid ((o.set k s).length=l.length):=zF (by rw [jt];exact Ho.out);have t1:¬ (dg l k:Int)<(cr:Int)+(dg m k:Int):=by omega
        clear hA hblk hD hB hok hb;go_wp2;go_roundw;case rel=>exact ⟨k+1,0,o.set k s,by go_num,by go_num,by omega,by omega,hA',Ho',hD',hblk',hB'⟩
        case measure=>simp [intOf];omega
    · have e0:dg m k=0:=vH (by omega);by_cases hb:dg l k<cr
      · obtain ⟨s,hs,e1⟩:∃ s:Nat,s<4294967296∧(dg l k:Int)+4294967296 - (cr:Int)=(s:Int):=⟨dg l k+4294967296 - cr,by omega,by omega⟩
        have hA':=hA.step (s:=s) (c':=1) hok (by omega);have hblk':=hblk.set k s;have hD':=hD.set k s hs;have hB':=hB.setCell (p:=⟨w.heap.size,k,none⟩) (zH _) (.int .u64 (s:Int));have Ho':Hid ((o.set k s).length=l.length):=zF (by rw [jt];exact Ho.out);clear hA hblk hD hB hok e0;go_wp2;go_roundw;case rel=>exact ⟨k+1,1,o.set k s,by go_num,by go_num,by omega,by omega,hA',Ho',hD',hblk',hB'⟩
        case measure=>simp [intOf];omega
      · obtain ⟨s,hs,e1⟩:∃ s:Nat,s<4294967296∧(dg l k:Int) - (cr:Int)=(s:Int):=⟨dg l k - cr,by omega,by omega⟩
        have hA':=hA.step (s:=s) (c':=0) hok (by omega);have hblk':=hblk.set k s;have hD':=hD.set k s hs;have hB':=hB.setCell (p:=⟨w.heap.size,k,none⟩) (zH _) (.int .u64 (s:Int));have Ho':Hid ((o.set k s).length=l.length):=zF (by rw [jt];exact Ho.out);clear hA hblk hD hB hok e0;go_wp2;go_roundw;case rel=>exact ⟨k+1,0,o.set k s,by go_num,by go_num,by omega,by omega,hA',Ho',hD',hblk',hB'⟩
        case measure=>simp [intOf];omega
  · obtain rfl:k=l.length:=by omega
    have hfin:=hA.fin Ho.out hD rfl hml (by rw [Hx.out,Hy.out];exact hle);rw [Hx.out,Hy.out] at hfin;have hLo:Lim o:=⟨fun z hz=>by have:=hD z hz;omega,by rw [Ho.out];omega⟩
    have hOB:OB wr w.heap.size (some ⟨w.heap.size,0,none⟩) l.length o:=kA hblk (zH _) hLo (by have:=Ho.out;omega) (by unfold maxLen;omega);have ht:=vG _ _ _ _ _ hOB.rn hD;have hOB':=hOB.trim32 hD;rw [hfin,Ho.out] at ht;rw [hfin] at hOB';have Ht:=zF ht;clear hblk hLo ht hfin hOB hA;go_wp2_with fail;refine Ht.out.mono ?_;rintro e w1 ⟨rfl,rfl⟩;go_wp2;go_ret;exact ⟨_,_,rfl,hOB',hB⟩
theorem fF (P P':Nat→Prop) (A A':Option Addr) (c c':Nat) (x y:Nat) (w:World) (h:RN w P A c (digs 4294967296 x)) (h':RN w P' A' c' (digs 4294967296 y)) (hP:∀ b,P b→b<w.heap.size) (hP':∀ b,P' b→b<w.heap.size)
 (hl:(digs 4294967296 x).length<100000) (hl':(digs 4294967296 y).length<100000) :
 Calls Tryz.prog 127 #[.slice A (digs 4294967296 x).length c,.slice A' (digs 4294967296 y).length c'] w fun e w'=>∃ A1 c1,e=.returned (.slice A1 (digs 4294967296 (x*y)).length c1) ∧
  OB w' w.heap.size A1 c1 (digs 4294967296 (x*y))∧Below w.heap.size w w':=by
 have hx:=zc (B:=4294967296) (by omega) x
 have hy:=zc (B:=4294967296) (by omega) y
 have dx:=wV x
 have dy:=wV y
 generalize digs 4294967296 x=l at *
 generalize digs 4294967296 y=m at *
 have Hx:=zF hx
 have Hy:=zF hy
 clear hx hy
 obtain ⟨h1,h2,h3⟩:=h.cap
 obtain ⟨g1,g2,g3⟩:=h'.cap
 have hmk:=jH (P:=Tryz.prog) 26 69 (.int .u64 0) 8 Tryz.underlying26 j9 rfl .i64 .i64 (l.length+m.length) (by omega) (by omega)
 simp only [vK] at hmk
 go_enter Tryz.func127,Tryz.ntmps127
 go_wp2
 go_loopw [6] (fun iv wr=>∃ (i:Nat) (o:List Nat),iv=.int .i64 (i:Int)∧i≤l.length∧gY 4294967296 l m o i∧Dig o∧Blk wr w.heap.size o∧Below w.heap.size w wr) (fun iv _=>l.length - (intOf iv).toNat)
 case atStart=>exact ⟨0,List.replicate (l.length+m.length) 0,rfl,by omega,gY.zero _ _ _,by intro x hx;simp at hx;omega,vA w _,(zO _ w).alloc (zH _) _⟩
 case round =>
  obtain ⟨i,o0,rfl,hi,hR,hD,hblk,hB⟩:=hrel;obtain ⟨wo,rfl⟩:=eW wr;by_cases hlt:i<l.length
  · obtain ⟨ad,rfl,had,q1⟩:=(h.below hB hP).at_ hlt;have hxi:=dx.dgLt i;go_wp2;go_loopw [7,9] (fun cv jv wr=>∃ (j cr:Nat) (o:List Nat),jv=.int .i64 (j:Int)∧cv=.int .u64 (cr:Int)∧j≤m.length∧cr<4294967296∧yJ 4294967296 o0 m (dg l i) i o j cr∧Dig o∧Blk wr w.heap.size o∧Below w.heap.size w wr) (fun _ jv _=>m.length - (intOf jv).toNat);case atStart=>exact ⟨0,0,o0,rfl,rfl,by omega,by omega,yJ.zero _ _ _ _ _,hD,hblk,hB⟩
    case round =>
     clear q1 hB hblk hD;obtain ⟨j,cr,o,rfl,rfl,hj,hcr,hM,hD,hblk,hB⟩:=hrel;have hol:o.length=l.length+m.length:=hM.1.trans hR.1;by_cases hjt:j<m.length
     · obtain ⟨ae,rfl,hae,q2⟩:=(h'.below hB hP').at_ hjt;have hok:i+j<o.length:=by omega
       have q3:=hblk.cell hok;have q4:=hblk.free (i+j);have b2:=dy.dgLt j;have b3:=hD.dgLt (i+j);have hb:=yX hxi b2 b3 hcr;obtain ⟨pr,hpr⟩:=eV (dg l i*dg m j);have Hpr:=zF (show (dg l i:Int)*(dg m j:Int)=(pr:Int) by rw [←hpr,yW]);rw [hpr] at hb
       obtain ⟨s,cr',hs,hcr',he⟩:∃ s c':Nat,s<4294967296∧c'<4294967296∧s+4294967296*c'=pr+dg o (i+j)+cr :=
        ⟨(pr+dg o (i+j)+cr) % 4294967296,(pr+dg o (i+j)+cr) / 4294967296,by omega,by omega,by omega⟩
       have e1:((cr:Int)+((dg o (i+j):Int)+(pr:Int))) % 4294967296=(s:Int):=by omega
       have e2:((cr:Int)+((dg o (i+j):Int)+(pr:Int))) / 4294967296=(cr':Int):=by omega
       have hM':=hM.step hok (by rw [hpr];exact he);have hblk':=hblk.set (i+j) s;have hD':=hD.set (i+j) s hs;have hB':=hB.setCell (p:=⟨w.heap.size,i+j,none⟩) (zH _) (.int .u64 (s:Int));have k1:(i:Int)+(j:Int)<(l.length:Int)+(m.length:Int):=by omega
       have k3:(pr:Int)<18446744073709551616:=by omega
       have k4:(cr:Int)+((dg o (i+j):Int)+(pr:Int))<18446744073709551616:=by omega
       clear he hM hblk hD hB hok hol hb hpr;have hpr:=Hpr.out;go_wp2;go_quiet (fail);go_wp2;go_roundw;case rel=>exact ⟨j+1,cr',o.set (i+j) s,by go_num,(by first | rfl | exact congrArg (Value.int .u64) e2),by omega,hcr',hM',hD',hblk',qR hB' _⟩
       case measure=>simp [intOf];omega
     · obtain rfl:j=m.length:=by omega
       have hR':=hR.step hlt hM;have q3:=hblk.cell (i:=i+m.length) (by omega);have q4:=hblk.free (i+m.length);have hblk':=hblk.set (i+m.length) cr;have hD':=hD.set (i+m.length) cr hcr;have hB':=hB.setCell (p:=⟨w.heap.size,i+m.length,none⟩) (zH _) (.int .u64 (cr:Int));have k1:(i:Int)+(m.length:Int)<(l.length:Int)+(m.length:Int):=by omega
       clear hM hblk hD hB hol;go_wp2;go_roundw;case rel=>exact ⟨i+1,o.set (i+m.length) cr,by go_num,by omega,hR',hD',hblk',hB'⟩
       case measure=>simp [intOf];omega
  · obtain rfl:i=l.length:=by omega
    have hfin:=hR.fin;rw [Hx.out,Hy.out] at hfin;have hol:=hR.1;have hLo:Lim o0:=⟨fun z hz=>by have:=hD z hz;omega,by omega⟩
    have hOB:OB wo w.heap.size (some ⟨w.heap.size,0,none⟩) (l.length+m.length) o0:=kA hblk (zH _) hLo (by omega) (by unfold maxLen;omega);have ht:=vG _ _ _ _ _ hOB.rn hD;have hOB':=hOB.trim32 hD;rw [hfin,hol] at ht;rw [hfin] at hOB';have Ht:=zF ht;clear hblk hLo ht hfin hOB hR hol;go_wp2_with fail;refine Ht.out.mono ?_;rintro e w1 ⟨rfl,rfl⟩;go_wp2;go_ret;exact ⟨_,_,rfl,hOB',hB⟩
end Go.Proofs.YtmlbicgpehchhaaGreat
