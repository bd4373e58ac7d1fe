/- Laws that the proof rests on. -/
import Derived.RegionTactic
import Derived.WalkKit
import Derived.Below
import Derived.WalkSpells
import Derived.WalkLawsBesides
import Derived.Deep.Draws
import Derived.Deep.AppendLies
import Derived.Maps.AppendAt
import Derived.Lib.Hide
import Derived.Shelf.Small.Bits
import Derived.Shelf.Strconv.Itoa0
import Derived.Shelf.Bits.Mul64
import Derived.Shelf.Spec.BitsCarry
import Derived.Deep.OwnRows
import Derived.Deep.DeepCutAuto
import Derived.Deep.QuietTactic
import Derived.BigQuiet
import Derived.Lib.BitFns
import Derived.Lib.ItoaNum
import Derived.Deep.CutBlock
import Derived.IntWalk
import Derived.Laws.Bits64b
import Derived.WalkMore
import Derived.Laws.CopyRow
import Derived.Laws.IdiomCopy
import Derived.Deep.MidRow
import Derived.ChangeKeysEq
import Derived.Laws.StructEq
import Derived.StillTailTactics
import Derived.Deep.RegionHeld3
import Derived.Deep.RegionWith
import Derived.ChangeAlike
import Derived.Laws.BytesArg
import Derived.Lib.Bytes
import Derived.Sort.AtCall
import Derived.ProofKit
import Derived.OpenShut
import Derived.ShutString
import Derived.ChangeOld
import Derived.ChangeSame
import Derived.Deep.Slices
import Derived.SizedLaws
import Derived.Lib.SmallJoins
import Derived.Laws.ResultCell
import Derived.RangeFuncNested
import Derived.RangeFuncBound
import Derived.RangeFuncCalls
import Derived.RangeFuncLeaves
import Derived.Shelf.Abstract
import Derived.Shelf.RegionOpen
import Derived.OwnWalkIn
import Derived.TacticsInMore
import Derived.LoopNIn
import Derived.LoopIn
import Derived.RangeFuncFrom
import Derived.OrdersIn
import Derived.ControlIn
import Derived.Sort.CutIn
import Derived.Sort.AtCallIn
import Derived.Sort.LoopGhostIn
import Derived.Lib.MakeNoZero
import Derived.Laws.Externs
import Derived.Lib.SlBytesConst
import Derived.LaidMore
import Derived.MakeChecks
import Derived.Stop.Joined
import Derived.SevenTiedAt
import Derived.Test.YtaemogcomplhiaaGreatDoorProg
import Derived.Test.YtaemogcomplhiaaGreatDoorRows
import Derived.Test.YtaemogcomplhiaaGreatDoorCards
import Derived.Test.YtaemogcomplhiaaGreatDoorTie
set_option maxRecDepth 100000
set_option maxHeartbeats 16000000
namespace Go.Proofs.YtaemogcomplhiaaGreatDoor
theorem eV {α:Type}(a:α):∃ v,a=v:=⟨a,rfl⟩
theorem eW {α:Type}(a:α):∃ v,v=a:=⟨a,rfl⟩
theorem eG {α:Type}(a:α):∃ v,Go.RowKit.Hid (a=v):=⟨a,Lib.hid rfl⟩
theorem zF:type_of% @Go.Lib.hid:=@Go.Lib.hid
theorem zG:type_of% @Nat.le_refl:=@Nat.le_refl
theorem zH:type_of% @Nat.lt_of_lt_of_le:=@Nat.lt_of_lt_of_le
theorem zK:type_of% @Nat.le_trans:=@Nat.le_trans
theorem zQ:type_of% @List.getElem?_toArray:=@List.getElem?_toArray
theorem zS:type_of% @Go.heap_alloc_new:=@Go.heap_alloc_new
theorem za:type_of% @Nat.eq_zero_or_pos:=@Nat.eq_zero_or_pos
theorem zd:type_of% @Nat.mul_assoc:=@Nat.mul_assoc
theorem ze:type_of% @List.getElem?_cons_zero:=@List.getElem?_cons_zero
theorem zf:type_of% @List.length_append:=@List.length_append
theorem zh:type_of% @List.length_take:=@List.length_take
theorem zl:type_of% @Nat.mul_add:=@Nat.mul_add
theorem zo:type_of% @Go.RowKit.Below.refl:=@Go.RowKit.Below.refl
theorem zp:type_of% @Nat.mul_comm:=@Nat.mul_comm
theorem zu:type_of% @List.take_of_length_le:=@List.take_of_length_le
theorem zx:type_of% @Nat.pow_succ:=@Nat.pow_succ
theorem zy:type_of% @List.getD_eq_getElem?_getD:=@List.getD_eq_getElem?_getD
theorem zz:type_of% @Go.World.size_alloc:=@Go.World.size_alloc
theorem qB:type_of% @Go.World.cell?_of_block:=@Go.World.cell?_of_block
theorem qE:type_of% @Nat.pow_le_pow_right:=@Nat.pow_le_pow_right
theorem qF:type_of% @Nat.mod_eq_of_lt:=@Nat.mod_eq_of_lt
theorem qH:type_of% @Nat.lt_or_ge:=@Nat.lt_or_ge
theorem qI:type_of% @Nat.mul_le_mul_left:=@Nat.mul_le_mul_left
theorem qJ:type_of% @Array.getElem?_eq_getElem:=@Array.getElem?_eq_getElem
theorem qL:type_of% @List.getElem?_eq_getElem:=@List.getElem?_eq_getElem
theorem qM:type_of% @Go.World.putObj_heap_other:=@Go.World.putObj_heap_other
theorem qN:type_of% @List.mem_of_mem_take:=@List.mem_of_mem_take
theorem qO:type_of% @Int.cast_ofNat_Int:=@Int.cast_ofNat_Int
theorem qP:type_of% @Nat.mod_lt:=@Nat.mod_lt
theorem qQ:type_of% @Nat.pow_add:=@Nat.pow_add
theorem qS:type_of% @Nat.pow_pos:=@Nat.pow_pos
theorem qU:type_of% @Nat.min_eq_left:=@Nat.min_eq_left
theorem qV:type_of% @List.eq_nil_of_length_eq_zero:=@List.eq_nil_of_length_eq_zero
theorem qX:type_of% @List.drop_eq_getElem_cons:=@List.drop_eq_getElem_cons
theorem qZ:type_of% @List.size_toArray:=@List.size_toArray
theorem qa:type_of% @List.length_drop:=@List.length_drop
theorem qb:type_of% @Nat.add_mul:=@Nat.add_mul
theorem qe:type_of% @List.getElem?_cons_succ:=@List.getElem?_cons_succ
theorem qf:type_of% @Go.IntWalk.u64_in:=@Go.IntWalk.u64_in
theorem qg:type_of% @if_pos:=@if_pos
theorem ql:type_of% @Nat.div_eq_of_lt:=@Nat.div_eq_of_lt
theorem qm:type_of% @decide_eq_true:=@decide_eq_true
theorem qn:type_of% @Bool.or_eq_true:=@Bool.or_eq_true
theorem qo:type_of% @if_neg:=@if_neg
theorem qr:type_of% @Nat.mul_le_mul_right:=@Nat.mul_le_mul_right
theorem qt:type_of% @Go.run_make_row':=@Go.run_make_row'
theorem qu:type_of% @Go.IntWalk.i64_in:=@Go.IntWalk.i64_in
theorem qw:type_of% @Nat.add_mul_mod_self_left:=@Nat.add_mul_mod_self_left
theorem jB:type_of% @List.take_length:=@List.take_length
theorem jC:type_of% @Go.Result.andThen_ok:=@Go.Result.andThen_ok
theorem jF:type_of% @Nat.add_zero:=@Nat.add_zero
theorem jH:type_of% @List.getElem?_eq_none:=@List.getElem?_eq_none
theorem jJ:type_of% @Go.RowKit.Below.trans:=@Go.RowKit.Below.trans
theorem jL:type_of% @Nat.zero_add:=@Nat.zero_add
theorem jM:type_of% @Nat.mul_one:=@Nat.mul_one
theorem jN:type_of% @Nat.div_lt_of_lt_mul:=@Nat.div_lt_of_lt_mul
theorem jP:type_of% @List.length_cons:=@List.length_cons
theorem jT:type_of% @decide_eq_false:=@decide_eq_false
theorem jU:type_of% @Option.some.inj:=@Option.some.inj
theorem jY:type_of% @Nat.mul_left_comm:=@Nat.mul_left_comm
theorem je:type_of% @Nat.mul_zero:=@Nat.mul_zero
theorem jh:type_of% @Nat.lt_of_le_of_lt:=@Nat.lt_of_le_of_lt
theorem ji:type_of% @Go.RowKit.Below.heap_setCell:=@Go.RowKit.Below.heap_setCell
theorem jj:type_of% @Nat.div_add_mod:=@Nat.div_add_mod
theorem jk:type_of% @List.length_nil:=@List.length_nil
theorem jm:type_of% @beq_iff_eq:=@beq_iff_eq
theorem jn:type_of% @List.setIfInBounds_toArray:=@List.setIfInBounds_toArray
theorem jp:type_of% @Bool.and_eq_true:=@Bool.and_eq_true
theorem jr:type_of% @List.length_set:=@List.length_set
theorem ju:type_of% @Nat.le_of_ble_eq_true:=@Nat.le_of_ble_eq_true
theorem kA:type_of% @Nat.le_of_lt:=@Nat.le_of_lt
theorem kG:type_of% @Nat.add_sub_cancel:=@Nat.add_sub_cancel
theorem kH:type_of% @Nat.one_mul:=@Nat.one_mul
theorem kJ:type_of% @Go.RowKit.Below.heap_alloc:=@Go.RowKit.Below.heap_alloc
theorem kM:type_of% @List.set_append_right:=@List.set_append_right
theorem kN:type_of% @Nat.add_assoc:=@Nat.add_assoc
theorem kS:type_of% @Nat.zero_mod:=@Nat.zero_mod
theorem ka:type_of% @Nat.add_mul_div_left:=@Nat.add_mul_div_left
theorem km:type_of% @Go.Sem.run_bind:=@Go.Sem.run_bind
theorem kt:type_of% @Nat.mul_lt_mul_of_pos_left:=@Nat.mul_lt_mul_of_pos_left
theorem vC:type_of% @Nat.mul_mod:=@Nat.mul_mod
theorem vD:type_of% @Nat.div_le_self:=@Nat.div_le_self
theorem vI:type_of% @Array.getElem?_modify:=@Array.getElem?_modify
theorem vP:type_of% @Option.getD_some:=@Option.getD_some
theorem vQ:type_of% @List.set_cons_zero:=@List.set_cons_zero
theorem vW:type_of% @Nat.pow_mul:=@Nat.pow_mul
theorem vg:type_of% @Go.bodyPost_ret:=@Go.bodyPost_ret
theorem vh:type_of% @List.nil_append:=@List.nil_append
theorem vi:type_of% @Int.natCast_mul:=@Int.natCast_mul
theorem vj:type_of% @Int.natCast_add:=@Int.natCast_add
theorem wC:type_of% @Nat.add_comm:=@Nat.add_comm
theorem wE:type_of% @Go.World.block_lt_of_cell?:=@Go.World.block_lt_of_cell?
theorem wF:type_of% @Nat.mod_mod:=@Nat.mod_mod
theorem wG:type_of% @Nat.add_mod:=@Nat.add_mod
theorem wL:type_of% @List.getElem_mem:=@List.getElem_mem
theorem wR:type_of% @Nat.add_mul_mod_self_right:=@Nat.add_mul_mod_self_right
theorem wS:type_of% @List.length_replicate:=@List.length_replicate
theorem wu:type_of% @Go.results_cell_row:=@Go.results_cell_row
theorem wv:type_of% @List.getElem?_append_left:=@List.getElem?_append_left
theorem ww:type_of% @Go.IntKind.wrap_u64:=@Go.IntKind.wrap_u64
theorem xA:type_of% @of_decide_eq_true:=@of_decide_eq_true
theorem xB:type_of% @Nat.zero_le:=@Nat.zero_le
theorem xC:type_of% @List.mem_of_getElem?:=@List.mem_of_getElem?
theorem xD:type_of% @List.append_assoc:=@List.append_assoc
theorem xS:type_of% @List.getElem?_take_of_lt:=@List.getElem?_take_of_lt
theorem xa:type_of% @Ne.symm:=@Ne.symm
theorem xn:type_of% @Nat.mul_le_mul:=@Nat.mul_le_mul
theorem yK:type_of% @Nat.mul_right_comm:=@Nat.mul_right_comm
theorem yL:type_of% @Nat.dvd_of_mod_eq_zero:=@Nat.dvd_of_mod_eq_zero
theorem yM:type_of% @Nat.div_div_eq_div_mul:=@Nat.div_div_eq_div_mul
theorem yN:type_of% @List.drop_eq_nil_of_le:=@List.drop_eq_nil_of_le
theorem yO:type_of% @Bool.false_eq_true:=@Bool.false_eq_true
theorem yP:type_of% @Array.getElem?_eq_none:=@Array.getElem?_eq_none
theorem yS:type_of% @Go.grownBy_keeps_cells:=@Go.grownBy_keeps_cells
theorem ya:type_of% @if_false:=@if_false
theorem yc:type_of% @Option.map_some:=@Option.map_some
theorem ye:type_of% @Nat.mod_mul_mod:=@Nat.mod_mul_mod
theorem yw:type_of% @List.getElem?_map:=@List.getElem?_map
theorem yx:type_of% @Int.toNat_natCast:=@Int.toNat_natCast
theorem yz:type_of% @Go.info_parts:=@Go.info_parts
theorem uS:type_of% @List.getElem?_append_right:=@List.getElem?_append_right
theorem uT:type_of% @Int.tdiv_eq_ediv_of_nonneg:=@Int.tdiv_eq_ediv_of_nonneg
theorem uU:type_of% @Go.Exit.noGoto_ret:=@Go.Exit.noGoto_ret
theorem uk:type_of% @Nat.sub_self:=@Nat.sub_self
theorem ul:type_of% @List.cons_append:=@List.cons_append
theorem um:type_of% @Int.natCast_ediv:=@Int.natCast_ediv
end Go.Proofs.YtaemogcomplhiaaGreatDoor
namespace Go.Proofs.YtaemogcomplhiaaGreatDoor
open Go.RowKit
def Ext (w w':World):Prop:=Below w.heap.size w w'
theorem Ext.refl (w:World):Ext w w:=zo _ w
theorem Ext.trans {a b c:World}(h:Ext a b)(k:Ext b c):Ext a c:=jJ h (Below.mono k h.size)
theorem Ext.drew (w:World):Ext w w.drew:=(zo _ w).drew
theorem Ext.alloc (w:World)(o:Obj):Ext w (w.alloc o):=(zo _ w).alloc (zG _) o
theorem Ext.bsize {w w':World}(h:Ext w w'):w.heap.size≤w'.heap.size:=Below.size h
theorem Ext.at_ {w w':World}(h:Ext w w'){k:Nat}{o:Obj}(a:w.heap[k]?=some o):w'.heap[k]?=some o:=by
 have b:k<w.heap.size:=by
  rcases qH k w.heap.size with h|h
  · exact h
  · rw[yP h]at a;cases a
 exact(Below.block h k b).trans a
theorem Ext.cell {w w':World}(h:Ext w w'){a:Addr}{v:Value}(b:w.cell? a=some v):w'.cell? a=some v :=
 (qB (Below.block h _ (wE w a b))).trans b
namespace Par
def dst (ops:Array Oper) (j:Nat):Option Nat:=(ops[j]?).bind (·.dst)
def binds (e:Edge):Bool:=Region.binds .any e
def put (ops:Array Oper) (sel:Nat→Bool) (f:Nat→Value):List Nat→Act→Act
 | [],a=>a
 | j::l,a=>put ops sel f l (if sel j then a.put (dst ops j) (f j)else a)
def upd (f:Nat→Value) (i:Nat) (v:Value):Nat→Value:=fun j=>if j=i then v else f j
def qh (M:Nat→Nat) (j:Nat) (f:Nat→Value):Nat→Value:=fun k=>if(k==j||(M j).testBit k)=true then f k else undef
def nd (M:Nat→Nat) (i:Nat):Nat→Bool:=fun j=>j != i && !(M j).testBit i
theorem xh {ops:Array Oper}{sel c:Nat→Bool}{f b:Nat→Value}{l:List Nat}(h:∀ j∈l,sel j=c j∧f j=b j)(a:Act):put ops sel f l a=put ops c b l a:=by
 induction l generalizing a with
 | nil=>rfl
 | cons j l ih =>
   obtain⟨d,e⟩:=h j (by simp);simp only[put,d,e];exact ih (fun k g=>h k (by simp[g])) _
def sK (ops:Array Oper) (i j:Nat):Prop:=∃ d,dst ops i=some d∧dst ops j=some d
theorem zCK {ops:Array Oper}{sel:Nat→Bool}{f:Nat→Value}{l:List Nat}{i:Nat}{v:Value}(h:∀ j∈l,¬ sK ops i j)(a:Act):(put ops sel f l a).put (dst ops i) v=put ops sel f l (a.put (dst ops i) v):=by
 induction l generalizing a with
 | nil=>rfl
 | cons j l ih =>
   simp only[put];rw[ih (fun k e=>h k (by simp[e]))];cases sel j
   · rfl
   · simp only[if_true];rw[Act.put_comm a _ _ (fun d b c=>h j (by simp) ⟨d,c,b⟩)]
theorem bc {ops:Array Oper}{sel:Nat→Bool}{f:Nat→Value}{i:Nat}{v:Value} : ∀ {l:List Nat}(_:i∈l) (_:l.Nodup) (_:∀ j∈l,j≠i→¬ sK ops i j) (_:sel i=false) (a:Act),(put ops sel f l a).put (dst ops i) v=put ops (fun j=>sel j||j==i) (upd f i v) l a
 | [],hi,_,_,_,_=>by cases hi
 | j :: l, hi, hn, hc, hs, a => by
   rw[List.nodup_cons]at hn;by_cases hji:j=i
   · subst hji;simp only[put,hs,yO,ya,beq_self_eq_true,Bool.or_true,if_true,upd];rw[zCK (fun k b=>hc k (by simp[b]) (fun e=>hn.1 (e▸b)))];refine xh (fun k b=>?_) _;have m:k≠j:=fun e=>hn.1 (e▸b);simp[m,upd]
   · have g:i∈l:=by
       rcases List.mem_cons.1 hi with h|h
       · exact absurd h.symm hji
       · exact h
     simp only[put];rw[bc g hn.2 (fun k b=>hc k (by simp[b])) hs];have c:(sel j||j==i)=sel j:=by simp[hji]
     have d:upd f i v j=f j:=by simp[upd,hji]
     simp only[c,d]
theorem zCL (a:Act)(d:Option Nat)(v:Value)(h:∀ t,d=some t→v=a.tmps.getD t undef):a.put d v=a:=by
 cases d with
 | none=>rfl
 | some t =>
   have b:=h t rfl;subst b;show({ a with tmps:=a.tmps.setIfInBounds t (a.tmps.getD t undef) } : Act)=a;congr 1;apply Array.ext_getElem?;intro k;rw[Array.getElem?_setIfInBounds];split
   · rename_i htk;subst htk;split
     · rename_i hlt;simp[hlt]
     · rename_i hlt;simp[yP (Nat.le_of_not_lt hlt)]
   · rfl
theorem zAh {a:Act}{d:Option Nat}{v:Value}{t:Nat}(h:d≠some t):(a.put d v).tmps.getD t undef=a.tmps.getD t undef:=by
 cases d with
 | none=>rfl
 | some s =>
   have b:s≠t:=fun e=>h (by rw[e]);show(a.tmps.setIfInBounds s v).getD t undef=_;simp[Array.getD_eq_getD_getElem?,Array.getElem?_setIfInBounds_ne b]
theorem gS {ops:Array Oper}{D sel:Nat→Bool}{f g:Nat→Value}(b:Act):∀ {l:List Nat}(_:l.Nodup) (_:∀ i∈l,∀ j∈l,i≠j→¬ sK ops i j) (_:∀ j∈l,D j=true→sel j=true∧g j=f j) (a:Act) (_:∀ j∈l,D j=false→∀ t,dst ops j=some t→g j=a.tmps.getD t undef),put ops D f l a=put ops sel g l a
 | [],_,_,_,_,_=>rfl
 | j :: l, hn, hc, hD, a, hg => by
   rw[List.nodup_cons]at hn;simp only[put];have key:∀ a':Act,(∀ k∈l,∀ t,dst ops k=some t→a'.tmps.getD t undef=a.tmps.getD t undef)→put ops D f l a'=put ops sel g l a':=fun a' n =>
     gS b hn.2 (fun i p k c=>hc i (by simp[p]) k (by simp[c])) (fun k c=>hD k (by simp[c])) a' (fun k c h t d=>by rw[n k c t d];exact hg k (by simp[c]) h t d)
   have m:∀ v,∀ k∈l,∀ t,dst ops k=some t→(a.put (dst ops j) v).tmps.getD t undef=a.tmps.getD t undef:=fun v k c t d=>zAh (fun e=>hc j (by simp) k (by simp[c]) (fun e=>hn.1 (e▸c)) ⟨t,e,d⟩);cases hj:D j
   · have e:(if sel j=true then a.put (dst ops j) (g j)else a)=a:=by
       split
       · exact zCL _ _ _ (fun t d=>hg j (by simp) hj t d)
       · rfl
     rw[e];exact key a (fun _ _ _ _=>rfl)
   · obtain⟨h,o⟩:=hD j (by simp) hj;rw[h,o];exact key _ (m _)
def cnt (D:Nat→Bool):Nat→Nat
 | 0=>0
 | k+1=>cnt D k+(if D k then 1 else 0)
theorem m5 (D:Nat→Bool):∀ m,cnt D m≤m
 | 0=>zG _
 | k+1=>by have:=m5 D k;simp only[cnt];split<;>omega
theorem mG {D D':Nat→Bool} : ∀ {m:Nat},(∀ j,j<m→D j=D' j)→cnt D m=cnt D' m
 | 0,_=>rfl
 | k+1,h=>by simp only[cnt];rw[mG (fun j a=>h j (by omega)),h k (by omega)]
theorem dJ {D D':Nat→Bool}{i:Nat}(a:D i=false)(b:D' i=true)(h:∀ j,j≠i→D' j=D j):∀ {m:Nat},i<m→cnt D' m=cnt D m+1
 | 0,hi=>by omega
 | k + 1, hi => by
   simp only[cnt];by_cases hk:k=i
   · subst hk;rw[a,b,mG (fun j c=>h j (by omega))];simp
   · rw[dJ a b h (m:=k) (by omega),h k hk];omega
theorem aM {D:Nat→Bool} : ∀ {m:Nat},(∀ j,j<m→D j=true)→cnt D m=m
 | 0,_=>rfl
 | k+1,h=>by simp only[cnt];rw[aM (fun j a=>h j (by omega)),h k (by omega)];simp
theorem mw {D:Nat→Bool}{i:Nat}(a:D i=false):∀ {m:Nat},i<m→cnt D m<m
 | 0,hi=>by omega
 | k + 1, hi => by
   simp only[cnt];by_cases hk:k=i
   · subst hk;have:=m5 D k;rw[a];simp;omega
   · have:=mw a (m:=k) (by omega);split<;>omega
def ok (ops:Array Oper) (M:Nat→Nat) (m:Nat):Bool :=
  decide (m≤ops.size) &&
  ((List.range ops.size).all fun i => match ops[i]? with
    | none=>false
    | some o => (o.after.all fun e => !binds e || decide (e.on < i)) &&
      ((List.range ops.size).all fun k=>!(M i).testBit k||o.after.any fun e=>binds e&&(e.on==k||(M e.on).testBit k)) &&
      (decide (i<m)||(List.range i).all fun k=>(M i).testBit k)&&decide (M i<2^i)) &&
  ((List.range m).all fun i=>(List.range m).all fun j=>i==j||(match dst ops i,dst ops j with|some d,some e=>d != e|_,_=>true))
structure cq (ops:Array Oper) (M:Nat→Nat) (m:Nat):Prop where
 le:m≤ops.size
 up:∀ i o,ops[i]?=some o→∀ e∈o.after,binds e=true→e.on<i
 by_:∀ i o k,ops[i]?=some o→k<ops.size→(M i).testBit k=true→∃ e∈o.after,binds e=true∧(e.on=k∨(M e.on).testBit k=true)
 low:∀ i,i<ops.size→M i<2^i
 late:∀ i,m≤i→i<ops.size→∀ k,k<i→(M i).testBit k=true
 own:∀ i j,i<m→j<m→i≠j→¬ sK ops i j
theorem ok.form {ops:Array Oper}{M:Nat→Nat}{m:Nat}(h:ok ops M m=true):cq ops M m:=by
 unfold ok at h;rw[jp,jp,decide_eq_true_eq,List.all_eq_true,List.all_eq_true]at h;obtain⟨⟨x,u⟩,v⟩:=h;have key:∀ i o,ops[i]?=some o→(∀ e∈o.after,binds e=true→e.on<i)∧(∀ k,k<ops.size→(M i).testBit k=true→∃ e∈o.after,binds e=true∧(e.on=k∨(M e.on).testBit k=true))∧(m≤i→∀ k,k<i→(M i).testBit k=true)∧M i<2^i:=by
  intro i o b;have a:i<ops.size:=(Array.getElem?_eq_some_iff.1 b).1;have:=u i (List.mem_range.2 a);rw[b]at this;simp only[jp,Array.all_eq_true_iff_forall_mem,qn,Bool.not_eq_true',decide_eq_true_eq,List.all_eq_true,List.mem_range,Array.any_eq_true',jm]at this;obtain⟨⟨⟨q,r⟩,a3⟩,a4⟩:=this;refine⟨fun e n l=>(q e n).resolve_left (by simp[l]),fun k c l=>?_,fun p k c=>(a3.resolve_left (by omega)) k c,a4⟩;obtain⟨e,n,f,g⟩:=(r k c).resolve_left (by simp[l]);exact⟨e,n,f,g⟩
 refine⟨x,fun i o b=>(key i o b).1,fun i o k b=>(key i o b).2.1 k,fun i a=>(key i _ (qJ a)).2.2.2,fun i p a k c=>?_,fun i j a w y=>?_⟩
 · exact(key i _ (qJ a)).2.2.1 p k c
 · have f:=v i (List.mem_range.2 a);rw[List.all_eq_true]at f;have g:=f j (List.mem_range.2 w);rintro⟨d,s,t⟩;rw[s,t]at g;simp[y]at g
theorem cq.bit {ops:Array Oper}{M:Nat→Nat}{m:Nat}(h:cq ops M m)(i:Nat)(d:i<ops.size)(k:Nat)(a:(M i).testBit k=true):k<i:=by
 rcases qH k i with e|c
 · exact e
 · have b:=h.low i d;rw[Nat.testBit_lt_two_pow (zH b (qE (by omega) c))]at a;cases a
theorem anc {ops:Array Oper}{M:Nat→Nat}{m:Nat}(d:cq ops M m){listed:Array Bool}(q:∀ j o,ops[j]?=some o→listed.getD j false=true→∀ e∈o.after,binds e=true→listed.getD e.on false=true) :
   ∀ n i o,i≤n→ops[i]?=some o→(∀ e∈o.after,binds e=true→listed.getD e.on false=true)→∀ k,k<ops.size→(M i).testBit k=true→listed.getD k false=true:=by
 intro n;induction n with
 | zero =>
   intro i o r a l k f h;obtain⟨e,c,b,_⟩:=d.by_ i o k a f h;have:=d.up i o a e c b;omega
 | succ n ihn =>
   intro i o r a l k f h;obtain⟨e,c,b,g⟩:=d.by_ i o k a f h;rcases g with rfl|g
   · exact l e c b
   · have s:=d.up i o a e c b;have p:e.on<ops.size:=by have:=(Array.getElem?_eq_some_iff.1 a).1;omega
     exact ihn e.on _ (by omega) (qJ p) (q e.on _ (qJ p) (l e c b)) k f g
section
variable {P:Program} {ops:Array Oper} {Q:Exit→Act→World→Prop}
def tj (P:Program) (ops:Array Oper) (Q:Exit→Act→World→Prop) (E:World→World→Prop) (m:Nat) (M:Nat→Nat) (AL:Nat→Bool) (R:Nat→(Nat→Value)→World→Prop) (a:Act) (w:World) (i:Nat):Prop :=
  ∀ f X, E w X → (∀ j, (M i).testBit j = true → R j f X) → ∀ K : Act → World → Prop,
    (∀ a' v X',a'=(put ops (nd M i) f (List.range m) a).put (dst ops i) v→E X X'→(if AL i=true then v=.pointer (some ⟨X.heap.size,0,none⟩)∧X.heap.size<X'.heap.size else True)→(∀ Y,E X' Y→R i (upd f i v) Y)→K a' X') →
    wpOp P ops Q i K (put ops (nd M i) f (List.range m) a) X
theorem tj.intro {E:World→World→Prop}{m:Nat}{M:Nat→Nat}{AL:Nat→Bool}{R:Nat→(Nat→Value)→World→Prop}{a:Act}{w:World}{i:Nat}{o:Oper}(b:ops[i]?=some o)
 (h : ∀ f X, E w X → (∀ j, (M i).testBit j = true → R j f X) → ∀ K : Act → World → Prop,
  (∀ a' v X',a'=(put ops (nd M i) f (List.range m) a).put o.dst v→E X X'→(if AL i=true then v=.pointer (some ⟨X.heap.size,0,none⟩)∧X.heap.size<X'.heap.size else True)→(∀ Y,E X' Y→R i (upd f i v) Y)→K a' X') →
  if Region.wanted o (yielded ops (put ops (nd M i) f (List.range m) a).tmps)=true then Oper.wp P o (put ops (nd M i) f (List.range m) a) X K Q else K ((put ops (nd M i) f (List.range m) a).put o.dst undef) X) :
 tj P ops Q E m M AL R a w i:=fun f X n hR K g=>wpOp_step b fun c k=>h f X n hR c fun a' v X' p e d l=>k _ _ (g a' v X' (by rw[p,dst,b];rfl) e d l)
structure Inv (ops:Array Oper) (E:World→World→Prop) (m:Nat) (M:Nat→Nat) (AL:Nat→Bool) (R:Nat→(Nat→Value)→World→Prop) (a:Act) (w:World) (D:Nat→Bool) (f:Nat→Value) (a':Act) (X:World):Prop where
 act:a'=put ops D f (List.range m) a
 ext:E w X
 said:∀ j,j<m→D j=true→R j (qh M j f) X
 at_:∀ j,j<m→D j=true→AL j=true→∃ b,f j=.pointer (some ⟨b,0,none⟩)∧b<X.heap.size
 apart:∀ j k,j<m→k<m→D j=true→D k=true→AL j=true→AL k=true→j≠k→f j≠f k
theorem fin {E:World→World→Prop}{m:Nat}{M:Nat→Nat}{AL:Nat→Bool}{R:Nat→(Nat→Value)→World→Prop}{a:Act}{w:World}(_s:cq ops M m)
 (p : ∀ f X, E w X → (∀ j, j < m → R j (qh M j f) X) → (∀ j, j < m → AL j = true → ∃ b, f j = .pointer (some ⟨b, 0, none⟩) ∧ b < X.heap.size) → (∀ j k, j < m → k < m → AL j = true → AL k = true → j ≠ k → f j ≠ f k) →
  wpAny P .any ops Q (ops.size-m) (((List.range ops.size).map fun j=>decide (j<m)).toArray) (put ops (fun _=>true) f (List.range m) a) X)
 {fuel:Nat} {listed:Array Bool} {f:Nat→Value} {a':Act} {X:World} (r:listed.size=ops.size) (d:∀ j,j<m→listed.getD j false=true) (q:∀ j,listed.getD j false=true→j<m)
 (e:Inv ops E m M AL R a w (fun j=>listed.getD j false) f a' X) (t:fuel+m=ops.size):wpAny P .any ops Q fuel listed a' X:=by
 have l:listed=((List.range ops.size).map fun j=>decide (j<m)).toArray:=by
  apply Array.ext
  · simp[r]
  · intro k g i;simp only[List.getElem_toArray,List.getElem_map,List.getElem_range];by_cases hk:k<m
    · have:=d k hk;simpa[g,hk]using this
    · cases hd:listed[k]
      · simp[hk]
      · exact absurd (q k (by simp[g,hd])) hk
 have n:a'=put ops (fun _=>true) f (List.range m) a:=by
  rw[e.act];exact xh (fun j c=>⟨d j (List.mem_range.1 c),rfl⟩) _
 have o:fuel=ops.size-m:=by omega
 rw[l,n,o]
 exact p f X e.ext (fun j c=>e.said j c (d j c)) (fun j c h=>e.at_ j c (d j c) h) (fun j k c hk g i=>e.apart j k c hk (d j c) (d k hk) g i)
theorem par {E:World→World→Prop}(ak:∀ w,E w w)(al:∀ a b c,E a b→E b c→E a c)(am:∀ a b,E a b→a.heap.size≤b.heap.size)
   {m:Nat} {M:Nat→Nat} {AL:Nat→Bool} {R:Nat→(Nat→Value)→World→Prop} {a:Act} {w:World} (r:cq ops M m)
   (hR:∀ j,j<m→∀ f X,R j (qh M j f) X→∀ Y,E X Y→R j (qh M j f) Y)
   (ay:∀ i,i<m→tj P ops Q E m M AL (fun j f X=>R j (qh M j f) X) a w i)
   (ad:∀ f X,E w X→(∀ j,j<m→R j (qh M j f) X)→(∀ j,j<m→AL j=true→∃ b,f j=.pointer (some ⟨b,0,none⟩)∧b<X.heap.size)→(∀ j k,j<m→k<m→AL j=true→AL k=true→j≠k→f j≠f k) →
     wpAny P .any ops Q (ops.size-m) (((List.range ops.size).map fun j=>decide (j<m)).toArray) (put ops (fun _=>true) f (List.range m) a) X) :
   ∀ (fuel : Nat) (listed : Array Bool) (f : Nat → Value) (a' : Act) (X : World), listed.size = ops.size →
     (∀ j o,ops[j]?=some o→listed.getD j false=true→∀ e∈o.after,binds e=true→listed.getD e.on false=true) →
     (∀ j,listed.getD j false=true→j<m)→fuel+cnt (fun j=>listed.getD j false) m=ops.size →
     Inv ops E m M AL R a w (fun j=>listed.getD j false) f a' X→wpAny P .any ops Q fuel listed a' X:=by
 intro fuel;induction fuel with
 | zero =>
   intro listed f a' X U J S hc s;have ap:cnt (fun j=>listed.getD j false) m≤m:=m5 _ _;have aA:m=ops.size:=by have:=r.le;omega
   have C:∀ j,j<m→listed.getD j false=true:=fun j d=>by
     cases h:listed.getD j false
     · have:=mw (D:=fun j=>listed.getD j false) (i:=j) h d;omega
     · rfl
   exact fin r ad U C S s (by omega)
 | succ fuel ih =>
   intro listed f a' X U J S hc s;by_cases C:∀ j,j<m→listed.getD j false=true
   · have ap:=aM (D:=fun j=>listed.getD j false) C;exact fin r ad U C S s (by omega)
   · refine⟨fun h=>?_,fun i hi=>?_⟩
     · exfalso
       -- the first that is not done may come up
       have:∀ n,n≤m→(∀ j,j<n→listed.getD j false=true):=by
         intro n;induction n with
         | zero=>intro _ j d;omega
         | succ n ihn =>
           intro hn j d;by_cases hjn:j<n
           · exact ihn (by omega) j hjn
           · obtain rfl:j=n:=by omega
             cases hd:listed.getD j false
             · exfalso;have y:j<ops.size:=by have:=r.le;omega
               have ah:j∈Region.ready .any ops listed:=by
                 rw[mem_ready];have au:j<listed.size:=by omega
                 refine⟨by simpa[au]using hd,_,qJ y,fun e N u=>ihn (by omega) _ (r.up j _ (qJ y) e N u)⟩
               rw[h]at ah;cases ah
             · rfl
       exact C (this m (zG _))
     · obtain⟨aq,o,T,aa⟩:=mem_ready.1 hi;have af:i<ops.size:=(Array.getElem?_eq_some_iff.1 T).1;have ae:i<listed.size:=by omega
       have K:listed.getD i false=false:=by simpa[ae]using aq
       have anc:=fun i o ar hd k l u=>anc r J i i o (zG _) ar hd k (zH l r.le) u;have F:i<m:=by
         rcases qH i m with h|h
         · exact h
         · exact absurd (fun k l=>anc i o T aa k l (r.late i h af k (by omega))) C
       -- what waits for it is not
       have ab:∀ j,j<m→listed.getD j false=true→nd M i j=true:=fun j d hd=>by
         have G:j≠i:=fun e=>by rw[e,K]at hd;cases hd
         have y:j<ops.size:=by have:=r.le;omega
         have L:(M j).testBit i=false:=by
           cases u:(M j).testBit i
           · rfl
           · have:=anc j _ (qJ y) (J j _ (qJ y) hd) i F u;rw[K]at this;cases this
         simp[nd,G,L]
       -- the slots as the step sees them
       obtain⟨g,hg⟩:∃ g:Nat→Value,g=fun j=>if listed.getD j false=true then f j else((dst ops j).map fun t=>a.tmps.getD t undef).getD undef:=⟨_,rfl⟩
       have O:∀ j,listed.getD j false=true→g j=f j:=fun j d=>by rw[hg];simp only[d,if_true]
       have ao:a'=put ops (nd M i) g (List.range m) a:=by
         rw[s.act];refine gS a List.nodup_range (fun p hp q hq=>r.own p q (List.mem_range.1 hp) (List.mem_range.1 hq)) (fun j d hd=>⟨ab j (List.mem_range.1 d) hd,O j hd⟩) a (fun j _ hd t ht=>?_);rw[hg];simp only[hd,yO,ya,ht,yc,vP]
       have ag:∀ j,j<m→listed.getD j false=true→qh M j g=qh M j f:=fun j d hd=>by
         funext k;unfold qh;split
         · rename_i l;rw[qn,jm]at l;rcases l with rfl|l
           · exact O _ hd
           · have y:j<ops.size:=by have:=r.le;omega
             have az:=r.bit j y k l;exact O k (anc j _ (qJ y) (J j _ (qJ y) hd) k (by omega) l)
         · rfl
       rw[ao];refine ay i F g X s.ext (fun j u=>?_) _ (fun aj v X' ha W H an=>?_)
       · have d:j<m:=by have:=r.bit i af j u;omega
         have hd:=anc i o T aa j d u;show R j (qh M j g) X;rw[ag j d hd];exact s.said j d hd
       · have z:∀ j,(listed.setIfInBounds i true).getD j false=(listed.getD j false||j==i):=fun j=>by
           by_cases hji:j=i
           · subst hji;simp[ae]
           · rw[Go.getD_set_ne false (fun e=>hji e.symm)];simp[hji]
         have ax:∀ j,j<m→listed.getD j false=true→j≠i:=fun j _ hd e=>by rw[e,K]at hd;cases hd
         have V:∀ j,listed.getD j false=true→upd g i v j=f j:=fun j hd=>by
           have x:j≠i:=fun e=>by rw[e,K]at hd;cases hd
           simp only[upd,x,ya];exact O j hd
         have ai:upd g i v i=v:=by simp[upd]
         have aw:∀ j,j<m→listed.getD j false=true→qh M j (upd g i v)=qh M j f:=fun j d hd=>by
           rw[←ag j d hd];funext k;unfold qh;split
           · rename_i l;rw[qn,jm]at l;have x:k≠i:=by
               rintro rfl;rcases l with rfl|l
               · exact ax _ d hd rfl
               · have:=ab j d hd;simp[nd,l]at this
             simp[upd,x]
           · rfl
         refine ih _ (upd g i v) aj X' (by simpa using U) (fun j oj ac hd e N u=>?_) (fun j hd=>?_) ?_ ⟨?_,al _ _ _ s.ext W,fun j d hd=>?_,fun j d hd A=>?_,fun j k d l hd Z A I x=>?_⟩
         · rw[z]at hd ⊢;rw[qn,jm]at hd ⊢;rcases hd with hd|rfl
           · exact .inl (J j oj ac hd e N u)
           · rw[T]at ac;cases ac;exact .inl (aa e N u)
         · rw[z,qn,jm]at hd;rcases hd with hd|rfl
           · exact S j hd
           · exact F
         · rw[dJ (D:=fun j=>listed.getD j false) (D':=fun j=>(listed.setIfInBounds i true).getD j false) K (by rw[z];simp) (fun j d=>by show(listed.setIfInBounds i true).getD j false=listed.getD j false;rw[z];simp[d]) F];omega
         · rw[ha,bc (List.mem_range.2 F) List.nodup_range (fun j d x=>r.own i j F (List.mem_range.1 d) (xa x)) (by simp[nd])];refine(gS a List.nodup_range (fun p hp q hq=>r.own p q (List.mem_range.1 hp) (List.mem_range.1 hq)) (fun j d hd=>⟨?_,rfl⟩) a (fun j d hd t ht=>?_)).symm
           · rw[z,qn,jm]at hd;rw[qn,jm];exact hd.imp (ab j (List.mem_range.1 d)) id
           · rw[z,Bool.or_eq_false_iff]at hd;have x:j≠i:=by simpa using hd.2
             simp only[upd,x,ya];rw[hg];simp only[hd.1,yO,ya,ht,yc,vP]
         · rw[z,qn,jm]at hd;by_cases hold:listed.getD j false=true
           · rw[aw j d hold];have:=s.said j d hold;exact hR j d f X this X' W
           · obtain rfl:j=i:=hd.resolve_left hold;exact an X' (ak _)
         · rw[z,qn,jm]at hd;by_cases hold:listed.getD j false=true
           · obtain⟨b,G,L⟩:=s.at_ j d hold A;exact⟨b,(V j hold).trans G,zH L (am _ _ W)⟩
           · obtain rfl:j=i:=hd.resolve_left hold;rw[qg A]at H;exact⟨X.heap.size,ai.trans H.1,H.2⟩
         · rw[z,qn,jm]at hd Z;have key:∀ j k,j<m→listed.getD j false=true→AL j=true→AL k=true→k=i→upd g i v j≠upd g i v k:=fun j k d hold A I av B=>by
             subst av;rw[qg I]at H;obtain⟨b,G,L⟩:=s.at_ j d hold A;rw[V j hold,ai,G,H.1]at B;injection B with B
             injection B with B
             injection B with B
             omega
           by_cases hold:listed.getD j false=true
           · by_cases hold':listed.getD k false=true
             · rw[V j hold,V k hold'];exact s.apart j k d l hold hold' A I x
             · exact key j k d hold A I (Z.resolve_left hold')
           · have hji:=hd.resolve_left hold;by_cases hold':listed.getD k false=true
             · exact fun e=>key k j l hold' I A hji e.symm
             · exact absurd (hji.trans (Z.resolve_left hold').symm) x
structure Way (p:Prop):Prop where
 out:p
def zX (P:Program) (ol:List Oper) (Q:Exit→Act→World→Prop):List Oper→Act→World→Prop
 | [],a,w=>Q .normal a w
 | o::l,a,w=>∀ K:Act→World→Prop,(∀ a w,zX P ol Q l a w→K a w)→if Region.wanted o (yielded ol.toArray a.tmps)=true then Oper.wp P o a w K Q else K (a.put o.dst undef) w
def wm (n m:Nat):Array Bool:=((List.range n).map fun j=>decide (j<m)).toArray
theorem uW {n m j:Nat}(h:j<n):(wm n m).getD j false=decide (j<m):=by
 simp[wm,h]
theorem nH {n m:Nat}(h:m<n):(wm n m).setIfInBounds m true=wm n (m+1):=by
 apply Array.ext
 · simp[wm]
 · intro k c b;have a:k<n:=by simpa[wm]using b
   by_cases hkm:k=m
   · subst hkm;simp[wm]
   · rw[Array.getElem_setIfInBounds_ne (by simpa[wm]using a) (fun e=>hkm e.symm)];simp only[wm,List.getElem_toArray,List.getElem_map,List.getElem_range,decide_eq_decide];omega
theorem zX.sound {ol:List Oper}{M:Nat→Nat}{m:Nat}(g:cq ol.toArray M m):∀(n b:Nat) (a:Act) (X:World),m≤b→b+n=ol.toArray.size→zX P ol Q (ol.drop b) a X→wpAny P .any ol.toArray Q n (wm ol.toArray.size b) a X:=by
 intro n;induction n with
 | zero =>
   intro b a X G v h;have H:ol.drop b=[]:=yN (by simp at v;omega);rw[H]at h;refine⟨?_,h⟩;cases hr:Region.ready .any ol.toArray (wm ol.toArray.size b)with
   | nil=>rfl
   | cons i l =>
     have u:i∈Region.ready .any ol.toArray (wm ol.toArray.size b):=by rw[hr];simp
     obtain⟨d,o,c,_⟩:=mem_ready.1 u;have k:=(Array.getElem?_eq_some_iff.1 c).1;have r:(wm ol.toArray.size b).getD i true=decide (i<b):=by
       have:i<ol.length:=by simpa using k
       simp[wm,this]
     rw[r,decide_eq_false_iff_not]at d;omega
 | succ n ih =>
   intro b a X G v h;have q:b<ol.length:=by simp at v;omega
   have f:b<ol.toArray.size:=by simpa using q
   have C:∀ j o,ol.toArray[j]?=some o→(wm ol.toArray.size b).getD j false=true→∀ e∈o.after,binds e=true→(wm ol.toArray.size b).getD e.on false=true:=fun j o c x e t s=>by
     have F:=(Array.getElem?_eq_some_iff.1 c).1;have p:=g.up j o c e t s;rw[uW F]at x;rw[uW (by omega)];simp at x ⊢;omega
   have y:b∈Region.ready .any ol.toArray (wm ol.toArray.size b):=by
     rw[mem_ready];refine⟨?_,_,qJ f,fun e t s=>?_⟩
     · simp[wm,q]
     · have p:=g.up b _ (qJ f) e t s;rw[uW (by omega)];simpa using p
   refine⟨fun d=>(by rw[d]at y;cases y),fun i u=>?_⟩;obtain⟨d,o,c,D⟩:=mem_ready.1 u;have k:=(Array.getElem?_eq_some_iff.1 c).1;have E:i=b:=by
     have r:(wm ol.toArray.size b).getD i true=decide (i<b):=by
       have:i<ol.length:=by simpa using k
       simp[wm,this]
     rw[r,decide_eq_false_iff_not]at d;rcases qH b i with p|J
     · have:=anc g C i i o (zG _) c D b f (g.late i (by omega) k b p);rw[uW f]at this;simp at this
     · omega
   subst E;rw[qX q]at h;have I:o=ol[i]:=by
     have:ol[i]?=some o:=by simpa using c
     rw[qL q]at this;injection this with this
     exact this.symm
   rw[nH f];refine wpOp_step c fun z A=>?_;rw[I];exact h z fun a w B=>A a w (ih (i+1) a w (by omega) (by omega) B)
theorem zX.next {ol:List Oper}{o:Oper}{l:List Oper}{a:Act}{w:World}(h:∀ K:Act→World→Prop,Way (∀ a w,Way (zX P ol Q l a w)→K a w)→Way (if Region.wanted o (yielded ol.toArray a.tmps)=true then Oper.wp P o a w K Q else K (a.put o.dst undef) w)):Way (zX P ol Q (o::l) a w) :=
 ⟨fun K b=>(h K ⟨fun a w c=>b a w c.out⟩).out⟩
theorem zX.done {ol:List Oper}{a:Act}{w:World}(h:Q .normal a w):Way (zX P ol Q [] a w):=⟨h⟩
def sel (ops:Array Oper) (s:Nat→Bool) (l:List Nat):List (Nat×Nat):=l.filterMap fun j=>if s j then(dst ops j).map fun d=>(d,j)else none
def vE (f:Nat→Value):List (Nat×Nat)→Act→Act
 | [],a=>a
 | p::l,a=>vE f l (a.put (some p.1) (f p.2))
theorem fs (s:Nat→Bool)(f:Nat→Value)(l:List Nat)(a:Act):put ops s f l a=vE f (sel ops s l) a:=by
 induction l generalizing a with
 | nil=>rfl
 | cons j l ih =>
   simp only[put,sel,List.filterMap_cons];rw[ih];cases s j
   · rfl
   · simp only[if_true];cases h:dst ops j with
     | none=>rfl
     | some d=>rfl
def xw (S:Nat→Prop):Nat→Nat→Prop
 | _,0=>True
 | k,n+1=>S k∧xw S (k+1) n
theorem xw.nil {S:Nat→Prop}{k:Nat} : xw S k 0:=trivial
theorem xw.cons {S:Nat→Prop}{k n:Nat}(a b:Nat)(c:k+1=a)(d:b+1=n)(h:S k)(e:xw S a b):xw S k n:=by
 subst c d;exact⟨h,e⟩
theorem xw.out {S:Nat→Prop} : ∀ {n k:Nat},xw S k n→∀ i,k≤i→i<k+n→S i
 | 0,k,_,i,h1,h2=>by omega
 | n + 1, k, h, i, h1, h2 => by
   by_cases hi:i=k
   · subst hi;exact h.1
   · exact h.2.out i (by omega) (by omega)
def aP (P:Program) (ops:Array Oper) (Q:Exit→Act→World→Prop) (E:World→World→Prop) (m:Nat) (L:List Nat) (AL:List Nat) (R:Nat→(Nat→Value)→World→Prop) (a:Act) (w:World) (i:Nat):Prop :=
 tj P ops Q E m (fun i=>L.getD i 0) (fun i=>AL.contains i) (fun j f X=>R j (qh (fun i=>L.getD i 0) j f) X) a w i
theorem aP.intro {E:World→World→Prop}{m:Nat}{L AL:List Nat}{R:Nat→(Nat→Value)→World→Prop}{a:Act}{w:World}{i:Nat}{o:Oper}(pl:List (Nat×Nat))(e:ops[i]?=some o)(g:sel ops (nd (fun i=>L.getD i 0) i) (List.range m)=pl)
 (h : ∀ f X, E w X → Way (∀ j, (L.getD i 0).testBit j = true → R j (qh (fun i => L.getD i 0) j f) X) → ∀ K : Act → World → Prop,
  Way (∀ a' v X',a'=(vE f pl a).put o.dst v→E X X'→(if AL.contains i=true then v=.pointer (some ⟨X.heap.size,0,none⟩)∧X.heap.size<X'.heap.size else True)→(∀ Y,E X' Y→R i (qh (fun i=>L.getD i 0) i (upd f i v)) Y)→K a' X') →
  Way (if Region.wanted o (yielded ops (vE f pl a).tmps)=true then Oper.wp P o (vE f pl a) X K Q else K ((vE f pl a).put o.dst undef) X)) :
 aP P ops Q E m L AL R a w i:=tj.intro e fun f X d hR K c=>by
 have b:=h f X d ⟨hR⟩ K
 rw[←g,←fs]at b
 exact(b ⟨c⟩).out
structure jV (P:Program) (ol:List Oper) (Q:Exit→Act→World→Prop) (E:World→World→Prop) (m:Nat) (L:List Nat) (AL:List Nat) (R:Nat→(Nat→Value)→World→Prop) (a:Act) (w:World) (i:Nat) (o:Oper):Prop where
 out:ol[i]?=some o→aP P ol.toArray Q E m L AL R a w i
theorem jV.intro {ol:List Oper}{E:World→World→Prop}{m:Nat}{L AL:List Nat}{R:Nat→(Nat→Value)→World→Prop}{a:Act}{w:World}{i:Nat}{o:Oper}(pl:List (Nat×Nat))(c:sel ol.toArray (nd (fun i=>L.getD i 0) i) (List.range m)=pl)
 (h : ∀ f X, E w X → Way (∀ j, (L.getD i 0).testBit j = true → R j (qh (fun i => L.getD i 0) j f) X) → ∀ K : Act → World → Prop,
  Way (∀ a' v X',a'=(vE f pl a).put o.dst v→E X X'→(if AL.contains i=true then v=.pointer (some ⟨X.heap.size,0,none⟩)∧X.heap.size<X'.heap.size else True)→(∀ Y,E X' Y→R i (qh (fun i=>L.getD i 0) i (upd f i v)) Y)→K a' X') →
  Way (if Region.wanted o (yielded ol.toArray (vE f pl a).tmps)=true then Oper.wp P o (vE f pl a) X K Q else K ((vE f pl a).put o.dst undef) X)) :
 jV P ol Q E m L AL R a w i o:=⟨fun b=>aP.intro pl (by simpa using b) c h⟩
inductive qT (S:Nat→Oper→Prop) (F:List Oper→Prop):Nat→Nat→List Oper→Prop
 | fin {k:Nat} {l:List Oper} (h:F l):qT S F k 0 l
 | step {k n:Nat} {o:Oper} {l:List Oper} (h:S k o) (hs:qT S F (k+1) n l):qT S F k (n+1) (o::l)
theorem qT.cons {S:Nat→Oper→Prop}{F:List Oper→Prop}{k n:Nat}{o:Oper}{l:List Oper}(a b:Nat)(c:k+1=a)(d:b+1=n)(h:S k o)(e:qT S F a b l):qT S F k n (o::l):=by
 subst c d;exact .step h e
theorem qT.out {S:Nat→Oper→Prop}{F:List Oper→Prop}{n k:Nat}{l:List Oper}(h:qT S F k n l):∀ i,i<n→∃ o,l[i]?=some o∧S (k+i) o:=by
 induction h with
 | fin _=>intro i c;omega
 | step h hs ih =>
   rename_i k n o l;intro i c;match i with
   | 0=>exact⟨o,rfl,h⟩
   | i + 1 =>
     obtain⟨o',a,b⟩:=ih i (by omega);exact⟨o',by simpa using a,by rw[show k+(i+1)=k+1+i by omega];exact b⟩
theorem qT.end_ {S:Nat→Oper→Prop}{F:List Oper→Prop}{n k:Nat}{l:List Oper}(h:qT S F k n l):F (l.drop n):=by
 induction h with
 | fin h=>exact h
 | step _ _ ih=>exact ih
theorem qc {b:Bool}{p q:Prop}(h:b=true)(a:p):if b=true then p else q:=by rw[qg h];exact a
theorem uF {n j:Nat} : (Array.replicate n false).getD j false=false:=by
 rw[Array.getD_eq_getD_getElem?,Array.getElem?_replicate];split<;>rfl
theorem zEc {E:World→World→Prop}(d:∀ w,E w w)(e:∀ a b c,E a b→E b c→E a c)(y:∀ a b,E a b→a.heap.size≤b.heap.size)
 {a:Act} {w X0:World} (C:E w X0) (m:Nat) (L AL:List Nat) (R:Nat→(Nat→Value)→World→Prop) (G:ok ops (fun i=>L.getD i 0) m=true)
 (I:xw (aP P ops Q E m L AL R a w) 0 m) (pl:List (Nat×Nat)) (H:sel ops (fun _=>true) (List.range m)=pl)
 (F : ∀ f X, E w X → (∀ j, j < m → R j (qh (fun i => L.getD i 0) j f) X) → (∀ j, j < m → AL.contains j = true → ∃ b, f j = .pointer (some ⟨b, 0, none⟩) ∧ b < X.heap.size) → (∀ j k, j < m → k < m → AL.contains j = true → AL.contains k = true → j ≠ k → f j ≠ f k) →
  wpAny P .any ops Q (ops.size-m) (((List.range ops.size).map fun j=>decide (j<m)).toArray) (vE f pl a) X):wpAny P .any ops Q ops.size (Array.replicate ops.size false) a X0:=by
 have z:=ok.form G
 refine par d e y (R:=fun j f X=>∀ Y,E X Y→R j f Y) (M:=fun i=>L.getD i 0) (AL:=fun i=>AL.contains i) (m:=m) (a:=a) (w:=w) z (fun j _ f X h Y p Z q=>h Z (e _ _ _ p q))
  (fun i J f X g hR K A=>?_) (fun f X g hR s t=>?_) ops.size _ (fun _=>undef) a X0 (by simp) (fun j o _ h=>(by rw[uF]at h;cases h)) (fun j h=>(by rw[uF]at h;cases h)) ?_ ⟨?_,C,fun j _ h=>(by rw[uF]at h;cases h),fun j _ h=>(by rw[uF]at h;cases h),fun j k _ _ h=>(by rw[uF]at h;cases h)⟩
 · refine I.out i (xB _) (by omega) f X g (fun j r=>hR j r X (d _)) K (fun a' v X' D x u B=>A a' v X' D x u (fun Y p Z q=>B Z (e _ _ _ p q)))
 · have:=F f X g (fun j r=>hR j r X (d _)) s t;rw[←H,←fs]at this;exact this
 · have:∀ n,cnt (fun j=>(Array.replicate ops.size false).getD j false) n=0:=fun n=>by
    induction n with
    | zero=>rfl
    | succ n ih=>rw[cnt,ih,uF];rfl
   rw[this];rfl
 · have:∀(l:List Nat) (a:Act),put ops (fun j=>(Array.replicate ops.size false).getD j false) (fun _=>undef) l a=a:=fun l=>by
    induction l with
    | nil=>intro a;rfl
    | cons j l ih=>intro a;rw[put,uF];exact ih _
   exact(this _ _).symm
structure Fin (P:Program) (ol:List Oper) (Q:Exit→Act→World→Prop) (E:World→World→Prop) (m:Nat) (L AL:List Nat) (R:Nat→(Nat→Value)→World→Prop) (pl:List (Nat×Nat)) (a:Act) (w:World) (l:List Oper):Prop where
 out:∀ f X,E w X→(∀ j,j<m→R j (qh (fun i=>L.getD i 0) j f) X)→(∀ j,j<m→AL.contains j=true→∃ b,f j=.pointer (some ⟨b,0,none⟩)∧b<X.heap.size)→(∀ j k,j<m→k<m→AL.contains j=true→AL.contains k=true→j≠k→f j≠f k)→Way (zX P ol Q l (vE f pl a) X)
theorem bM {E:World→World→Prop}(p:∀ w,E w w)(q:∀ a b c,E a b→E b c→E a c)(r:∀ a b,E a b→a.heap.size≤b.heap.size)
 {ol:List Oper} {a:Act} {w X0:World} (t:E w X0) (m:Nat) (L AL:List Nat) (R:Nat→(Nat→Value)→World→Prop) (h:ok ol.toArray (fun i=>L.getD i 0) m=true) (pl:List (Nat×Nat)) (v:sel ol.toArray (fun _=>true) (List.range m)=pl)
 (j:qT (jV P ol Q E m L AL R a w) (Fin P ol Q E m L AL R pl a w) 0 m ol):wpAny P .any ol.toArray Q ol.toArray.size (Array.replicate ol.toArray.size false) a X0:=by
 refine zEc p q r t m L AL R h ?_ pl v (fun f X s hR e d=>?_)
 · have key:∀ i,i<m→aP P ol.toArray Q E m L AL R a w i:=fun i u=>by
    obtain⟨o,e,d⟩:=j.out i u;rw[jL]at d;exact d.out e
   have:∀ n k,k+n=m→xw (aP P ol.toArray Q E m L AL R a w) k n:=fun n=>by
    induction n with
    | zero=>intro k _;trivial
    | succ n ih=>intro k x;exact⟨key k (by omega),ih (k+1) (by omega)⟩
   exact this m 0 (by omega)
 · have g:=ok.form h;have l:=(j.end_.out f X s hR e d).out;exact zX.sound g (ol.toArray.size-m) m _ X (zG _) (by have:=g.le;omega) l
theorem oT {ol:List Oper}{M:Nat→Nat}{m:Nat}(f:cq ol.toArray M m):∀(n b:Nat) (a:Act) (X:World),b+n=ol.toArray.size→wpAny P .any ol.toArray Q n (wm ol.toArray.size b) a X→wpOps P ol.toArray Q (List.range' b n) a X:=by
 intro n;induction n with
 | zero=>intro b a X _ h;exact h.2
 | succ n ih =>
   intro b a X l h;have c:b<ol.toArray.size:=by omega
   have k:b∈Region.ready .any ol.toArray (wm ol.toArray.size b):=by
     rw[mem_ready];refine⟨?_,_,qJ c,fun e i g=>?_⟩
     · have:b<ol.length:=by simpa using c
       simp[wm,this]
     · have j:=f.up b _ (qJ c) e i g;rw[uW (by omega)];simpa using j
   rw[List.range'_succ,wpOps_cons];refine wpOp_mono (fun a w d=>?_) (h.2 b k);rw[nH c]at d;exact ih (b+1) a w (by omega) d
theorem ag (n:Nat):Array.replicate n false=wm n 0:=by
 apply Array.ext
 · simp[wm]
 · intro k a b;simp[wm]
theorem qA {ol:List Oper}{f:Nat}{a:Act}{w:World}(b:P.follows .mixedOrders=true)(m:Nat)(L AL:List Nat)(R:Nat→(Nat→Value)→World→Prop)(c:ok ol.toArray (fun i=>L.getD i 0) m=true)(pl:List (Nat×Nat))(d:sel ol.toArray (fun _=>true) (List.range m)=pl)
 (e:qT (jV P ol Q Ext m L AL R a w) (Fin P ol Q Ext m L AL R pl a w) 0 m ol):(Code.region f ol.toArray true).wp P Q a w :=
 wp_region_any b (bM Ext.refl (fun _ _ _=>Ext.trans) (fun _ _=>Ext.bsize) (Ext.drew w) m L AL R c pl d e)
theorem zj {ol:List Oper}{e:Nat}{a:Act}{w:World}(m:Nat)(L AL:List Nat)(R:Nat→(Nat→Value)→World→Prop)(b:ok ol.toArray (fun i=>L.getD i 0) m=true)(pl:List (Nat×Nat))(c:sel ol.toArray (fun _=>true) (List.range m)=pl)
 (d:qT (jV P ol Q Ext m L AL R a w) (Fin P ol Q Ext m L AL R pl a w) 0 m ol):(Code.region e ol.toArray false).wp P Q a w:=by
 refine wp_region ?_
 have h:=bM Ext.refl (fun _ _ _=>Ext.trans) (fun _ _=>Ext.bsize) (Ext.refl w) m L AL R b pl c d
 rw[ag]at h
 rw[List.range_eq_range']
 exact oT (ok.form b) _ 0 a w (by omega) h
end
theorem S {P:Program}{Q:Exit→Act→World→Prop}{ol:List Oper}{E:World→World→Prop}{m:Nat}{L AL:List Nat}{R:Nat→(Nat→Value)→World→Prop}{a:Act}{w:World}{F:List Oper→Prop}{k n:Nat}{o:Oper}{l:List Oper}(b c:Nat)(pl:List (Nat×Nat))
 (h : ∀ f X, E w X → Way (∀ j, (L.getD k 0).testBit j = true → R j (qh (fun i => L.getD i 0) j f) X) → ∀ K : Act → World → Prop,
  Way (∀ a' v X',a'=(vE f pl a).put o.dst v→E X X'→(if AL.contains k=true then v=.pointer (some ⟨X.heap.size,0,none⟩)∧X.heap.size<X'.heap.size else True)→(∀ Y,E X' Y→R k (qh (fun i=>L.getD i 0) k (upd f k v)) Y)→K a' X') →
  Way (if Region.wanted o (yielded ol.toArray (vE f pl a).tmps)=true then Oper.wp P o (vE f pl a) X K Q else K ((vE f pl a).put o.dst undef) X))
 (p:qT (jV P ol Q E m L AL R a w) F b c l) (d:k+1=b:=by rfl) (e:c+1=n:=by rfl) (g:sel ol.toArray (nd (fun i=>L.getD i 0) k) (List.range m)=pl:=by kernel_rfl) :
 qT (jV P ol Q E m L AL R a w) F k n (o::l):=qT.cons b c d e (jV.intro pl g h) p
theorem xz {f:Nat→Value}{j:Nat}{u:Value}(h:f j=u):f=upd f j u:=by
 funext i;unfold upd;split
 · rename_i e;rw[e];exact h
 · rfl
theorem vx {P:Program}{Q:Exit→Act→World→Prop}{ol:List Oper}{m:Nat}{L AL:List Nat}{R:Nat→(Nat→Value)→World→Prop}{a:Act}{w:World}{F:List Oper→Prop}{k n:Nat}{o:Oper}{l:List Oper}{b c:Nat}{v:Value}(g:(Nat→Value)→Nat→Value)
 (C:qT (jV P ol Q Ext m L AL R a w) F b c l) (x:∀ f X,(∀ j,(L.getD k 0).testBit j=true→R j (qh (fun i=>L.getD i 0) j f) X)→f=g f)
 (hR:∀ f X,f k=v→R k (qh (fun i=>L.getD i 0) k f) X) (y:k+1=b) (z:c+1=n) (t:AL.contains k=false)
 (D:∀ f,Region.wanted o (yielded ol.toArray (put ol.toArray (nd (fun i=>L.getD i 0) k) (g f) (List.range m) a).tmps)=true)
 (B:∀ f X,Ext w X→(execOp (put ol.toArray (nd (fun i=>L.getD i 0) k) (g f) (List.range m) a).eval o).run P X=.ok (.value v) X):qT (jV P ol Q Ext m L AL R a w) F k n (o::l):=by
 refine qT.cons b c y z ⟨fun A=>?_⟩ C
 intro f X s r K p
 have u:=x f X r
 have e:ol.toArray[k]?=some o:=by simpa using A
 refine wpOp_step e fun h q=>?_
 have d:put ol.toArray (nd (fun i=>L.getD i 0) k) f (List.range m) a=put ol.toArray (nd (fun i=>L.getD i 0) k) (g f) (List.range m) a:=congrArg (fun f=>put ol.toArray (nd (fun i=>L.getD i 0) k) f (List.range m) a) u
 rw[qg (by rw[d];exact D f)]
 unfold Oper.wp
 rw[show execOp (put ol.toArray (nd (fun i=>L.getD i 0) k) f (List.range m) a).eval o=execOp (put ol.toArray (nd (fun i=>L.getD i 0) k) (g f) (List.range m) a).eval o by rw[d],B f X s]
 show h ((put ol.toArray (nd (fun i=>L.getD i 0) k) f (List.range m) a).put o.dst v) X
 refine q _ _ (p _ v X ?_ (Ext.refl _) (by show(if AL.contains k=true then _ else True);rw[qo (by rw[t];decide)];trivial) (fun Y _=>hR _ _ (by simp[upd])))
 have:o.dst=dst ol.toArray k:=by rw[dst,e];rfl
 rw[this]
section
variable {P:Program} {Q:Exit→Act→World→Prop} {ol:List Oper} {m:Nat} {L AL:List Nat} {R:Nat→(Nat→Value)→World→Prop} {a:Act} {w:World} {F:List Oper→Prop} {k n:Nat} {o:Oper} {l:List Oper} {v u u':Value}
theorem v0 (b c:Nat)(p:qT (jV P ol Q Ext m L AL R a w) F b c l)(hR:∀ f X,f k=v→R k (qh (fun i=>L.getD i 0) k f) X:=by exact fun _ _ h=>h)(e:k+1=b:=by rfl)(g:c+1=n:=by rfl)(d:AL.contains k=false:=by kernel_rfl)
 (q:∀ f,Region.wanted o (yielded ol.toArray (put ol.toArray (nd (fun i=>L.getD i 0) k) f (List.range m) a).tmps)=true:=by intro _;kernel_rfl)
 (j:∀ f X,(execOp (put ol.toArray (nd (fun i=>L.getD i 0) k) f (List.range m) a).eval o).run P X=.ok (.value v) X:=by intro _ _;kernel_rfl):qT (jV P ol Q Ext m L AL R a w) F k n (o::l) :=
 vx (fun f=>f) p (fun _ _ _=>rfl) hR e g d q (fun f X _=>j f X)
theorem v1 (b c j:Nat)(s:qT (jV P ol Q Ext m L AL R a w) F b c l)(q:∀ f X,R j (qh (fun i=>L.getD i 0) j f) X→f j=u:=by exact fun _ _ h=>h)(hR:∀ f X,f k=v→R k (qh (fun i=>L.getD i 0) k f) X:=by exact fun _ _ h=>h)(g:k+1=b:=by rfl)(p:c+1=n:=by rfl)(d:AL.contains k=false:=by kernel_rfl)
 (e:(L.getD k 0).testBit j=true:=by kernel_rfl)
 (t:∀ f,Region.wanted o (yielded ol.toArray (put ol.toArray (nd (fun i=>L.getD i 0) k) (upd f j u) (List.range m) a).tmps)=true:=by intro _;kernel_rfl)
 (r:∀ f X,(execOp (put ol.toArray (nd (fun i=>L.getD i 0) k) (upd f j u) (List.range m) a).eval o).run P X=.ok (.value v) X:=by intro _ _;kernel_rfl):qT (jV P ol Q Ext m L AL R a w) F k n (o::l) :=
 vx (fun f=>upd f j u) s (fun f X h=>xz (q f X (h j e))) hR g p d t (fun f X _=>r f X)
theorem v2 (b c j i:Nat)(z:qT (jV P ol Q Ext m L AL R a w) F b c l)(t:∀ f X,R j (qh (fun i=>L.getD i 0) j f) X→f j=u:=by exact fun _ _ h=>h)(x:∀ f X,R i (qh (fun i=>L.getD i 0) i f) X→f i=u':=by exact fun _ _ h=>h)(hR:∀ f X,f k=v→R k (qh (fun i=>L.getD i 0) k f) X:=by exact fun _ _ h=>h)(r:k+1=b:=by rfl)(s:c+1=n:=by rfl)(g:AL.contains k=false:=by kernel_rfl)
 (q:(L.getD k 0).testBit j=true:=by kernel_rfl) (p:(L.getD k 0).testBit i=true:=by kernel_rfl)
 (A:∀ f,Region.wanted o (yielded ol.toArray (put ol.toArray (nd (fun i=>L.getD i 0) k) (upd (upd f j u) i u') (List.range m) a).tmps)=true:=by intro _;kernel_rfl)
 (y:∀ f X,(execOp (put ol.toArray (nd (fun i=>L.getD i 0) k) (upd (upd f j u) i u') (List.range m) a).eval o).run P X=.ok (.value v) X:=by intro _ _;kernel_rfl):qT (jV P ol Q Ext m L AL R a w) F k n (o::l) :=
 vx (fun f=>upd (upd f j u) i u') z (fun f X h=>by
  have d:=xz (t f X (h j q))
  have e:=xz (x f X (h i p))
  rw[←d,←e]) hR r s g A (fun f X _=>y f X)
theorem sk (b c j:Nat)(A:qT (jV P ol Q Ext m L AL R a w) F b c l)(z:∀ f X,R j (qh (fun i=>L.getD i 0) j f) X→f j=u:=by exact fun _ _ h=>h)(hR:∀ f X,f k=undef→R k (qh (fun i=>L.getD i 0) k f) X:=by exact fun _ _ h=>h)(v:k+1=b:=by rfl)(x:c+1=n:=by rfl)(r:AL.contains k=false:=by kernel_rfl)
 (t:(L.getD k 0).testBit j=true:=by kernel_rfl)
 (B:∀ f,Region.wanted o (yielded ol.toArray (put ol.toArray (nd (fun i=>L.getD i 0) k) (upd f j u) (List.range m) a).tmps)=false:=by intro _;kernel_rfl):qT (jV P ol Q Ext m L AL R a w) F k n (o::l):=by
 refine qT.cons b c v x ⟨fun y=>?_⟩ A
 intro f X D q K g
 have s:=xz (z f X (q j t))
 have d:ol.toArray[k]?=some o:=by simpa using y
 refine wpOp_step d fun C p=>?_
 have e:put ol.toArray (nd (fun i=>L.getD i 0) k) f (List.range m) a=put ol.toArray (nd (fun i=>L.getD i 0) k) (upd f j u) (List.range m) a:=congrArg (fun f=>put ol.toArray (nd (fun i=>L.getD i 0) k) f (List.range m) a) s
 rw[qo (by rw[e,B f];decide)]
 refine p _ _ (g _ undef X ?_ (Ext.refl _) (by show(if AL.contains k=true then _ else True);rw[qo (by rw[r];decide)];trivial) (fun Y _=>hR _ _ (by simp[upd])))
 have:o.dst=dst ol.toArray k:=by rw[dst,d];rfl
 rw[this]
theorem al (c d:Nat){ob:Obj}(x:qT (jV P ol Q Ext m L AL R a w) F c d l)(hR:∀ f X,(∃ b,f k=.pointer (some ⟨b,0,none⟩)∧w.heap.size≤b∧X.heap[b]?=some ob)→R k (qh (fun i=>L.getD i 0) k f) X:=by exact fun _ _ h=>h)(s:k+1=c:=by rfl)(t:d+1=n:=by rfl)
 (y:∀ f,Region.wanted o (yielded ol.toArray (put ol.toArray (nd (fun i=>L.getD i 0) k) f (List.range m) a).tmps)=true:=by intro _;kernel_rfl)
 (v:∀ f X,(execOp (put ol.toArray (nd (fun i=>L.getD i 0) k) f (List.range m) a).eval o).run P X=.ok (.value (.pointer (some ⟨X.heap.size,0,none⟩))) (X.alloc ob):=by intro _ _;kernel_rfl):qT (jV P ol Q Ext m L AL R a w) F k n (o::l):=by
 refine qT.cons c d s t ⟨fun u=>?_⟩ x
 intro f X q z K j
 have e:ol.toArray[k]?=some o:=by simpa using u
 refine wpOp_step e fun g p=>?_
 rw[qg (y f)]
 unfold Oper.wp
 rw[v f X]
 show g ((put ol.toArray (nd (fun i=>L.getD i 0) k) f (List.range m) a).put o.dst _) (X.alloc ob)
 refine p _ _ (j _ (.pointer (some ⟨X.heap.size,0,none⟩)) (X.alloc ob) ?_ (Ext.alloc _ _) (by show(if AL.contains k=true then _ else True);split;exact⟨rfl,by simp⟩;trivial) (fun Y r=>hR _ _ ⟨X.heap.size,by simp[upd],q.bsize,r.at_ (zS _ _)⟩))
 have:o.dst=dst ol.toArray k:=by rw[dst,e];rfl
 rw[this]
theorem vy {b c:Nat}(y:qT (jV P ol Q Ext m L AL R a w) F b c l)(s:k+1=b)(t:c+1=n)(r:AL.contains k=false)
 (z:∀ f,Region.wanted o (yielded ol.toArray (put ol.toArray (nd (fun i=>L.getD i 0) k) f (List.range m) a).tmps)=true)
 (x:∀ f X,Ext w X→∃ v,(execOp (put ol.toArray (nd (fun i=>L.getD i 0) k) f (List.range m) a).eval o).run P X=.ok (.value v) X∧∀ Y,Ext X Y→R k (qh (fun i=>L.getD i 0) k (upd f k v)) Y):qT (jV P ol Q Ext m L AL R a w) F k n (o::l):=by
 refine qT.cons b c s t ⟨fun u=>?_⟩ y
 intro f X q A K j
 have d:ol.toArray[k]?=some o:=by simpa using u
 refine wpOp_step d fun e p=>?_
 rw[qg (z f)]
 unfold Oper.wp
 obtain⟨v,g,h⟩:=x f X q
 rw[g]
 show e ((put ol.toArray (nd (fun i=>L.getD i 0) k) f (List.range m) a).put o.dst v) X
 refine p _ _ (j _ v X ?_ (Ext.refl _) (by show(if AL.contains k=true then _ else True);rw[qo (by rw[r];decide)];trivial) h)
 have:o.dst=dst ol.toArray k:=by rw[dst,d];rfl
 rw[this]
theorem cx {F':FuncId}{args:(Nat→Value)→Array Value}{b c:Nat}(B:qT (jV P ol Q Ext m L AL R a w) F b c l)(x:k+1=b)(y:c+1=n)(t:AL.contains k=false)
 (C:∀ f X,(∀ j,(L.getD k 0).testBit j=true→R j (qh (fun i=>L.getD i 0) j f) X)→Region.wanted o (yielded ol.toArray (put ol.toArray (nd (fun i=>L.getD i 0) k) f (List.range m) a).tmps)=true)
 (A:∀ f X,(execOp (put ol.toArray (nd (fun i=>L.getD i 0) k) f (List.range m) a).eval o).run P X=.ok (.enter F' (args f)) X)
 (u:∀ f X,Ext w X→Way (∀ j,(L.getD k 0).testBit j=true→R j (qh (fun i=>L.getD i 0) j f) X)→Calls P F' (args f) X fun e w'=>∃ v,e=.returned v∧Ext X w'∧∀ Y,Ext w' Y→R k (qh (fun i=>L.getD i 0) k (upd f k v)) Y):qT (jV P ol Q Ext m L AL R a w) F k n (o::l):=by
 refine qT.cons b c x y ⟨fun z=>?_⟩ B
 intro f X r d K p
 have g:ol.toArray[k]?=some o:=by simpa using z
 refine wpOp_step g fun D q=>?_
 rw[qg (C f X d)]
 unfold Oper.wp
 rw[A f X,Oper.upon_enter]
 refine(u f X r ⟨d⟩).mono ?_
 rintro e w' ⟨v,rfl,h,s⟩
 refine q _ _ (p _ v w' ?_ h (by show(if AL.contains k=true then _ else True);rw[qo (by rw[t];decide)];trivial) s)
 have:o.dst=dst ol.toArray k:=by rw[dst,g];rfl
 rw[this]
theorem c0 (b c:Nat)(args:(Nat→Value)→Array Value){F':FuncId}(g:∀ f X,Ext w X→Way (∀ j,(L.getD k 0).testBit j=true→R j (qh (fun i=>L.getD i 0) j f) X)→Calls P F' (args f) X fun e w'=>∃ v,e=.returned v∧Ext X w'∧∀ Y,Ext w' Y→R k (qh (fun i=>L.getD i 0) k (upd f k v)) Y)(r:qT (jV P ol Q Ext m L AL R a w) F b c l)
 (h:k+1=b:=by rfl) (p:c+1=n:=by rfl) (d:AL.contains k=false:=by kernel_rfl)
 (s:∀ f,Region.wanted o (yielded ol.toArray (put ol.toArray (nd (fun i=>L.getD i 0) k) f (List.range m) a).tmps)=true:=by intro _;kernel_rfl)
 (q:∀ f X,(execOp (put ol.toArray (nd (fun i=>L.getD i 0) k) f (List.range m) a).eval o).run P X=.ok (.enter F' (args f)) X:=by intro _ _;kernel_rfl):qT (jV P ol Q Ext m L AL R a w) F k n (o::l) :=
 cx r h p d (fun f _ _=>s f) q g
theorem c1 (b c j:Nat)(args:(Nat→Value)→Array Value){F':FuncId}(g:∀ f X,Ext w X→Way (∀ j,(L.getD k 0).testBit j=true→R j (qh (fun i=>L.getD i 0) j f) X)→Calls P F' (args f) X fun e w'=>∃ v,e=.returned v∧Ext X w'∧∀ Y,Ext w' Y→R k (qh (fun i=>L.getD i 0) k (upd f k v)) Y)(x:qT (jV P ol Q Ext m L AL R a w) F b c l)
 (s:∀ f X,R j (qh (fun i=>L.getD i 0) j f) X→f j=u:=by exact fun _ _ h=>h) (q:k+1=b:=by rfl) (r:c+1=n:=by rfl) (d:AL.contains k=false:=by kernel_rfl) (p:(L.getD k 0).testBit j=true:=by kernel_rfl)
 (y:∀ f,Region.wanted o (yielded ol.toArray (put ol.toArray (nd (fun i=>L.getD i 0) k) (upd f j u) (List.range m) a).tmps)=true:=by intro _;kernel_rfl)
 (t:∀ f X,(execOp (put ol.toArray (nd (fun i=>L.getD i 0) k) f (List.range m) a).eval o).run P X=.ok (.enter F' (args f)) X:=by intro _ _;kernel_rfl):qT (jV P ol Q Ext m L AL R a w) F k n (o::l) :=
 cx x q r d (fun f X h=>by rw[xz (s f X (h j p))];exact y f) t g
theorem cH {t:TypeId}{p:Addr}{X:World}(a:X.cell? p=some v)(b:(isAgg t).run P X=.ok false X):(Instr.loadAt t (.pointer (some p))).run P X=.ok v X:=by
 unfold Instr.loadAt loadVar;simp only[km];rw[show(Instr.sureAddr (.pointer (some p))).run P X=.ok p X from rfl,jC,b,jC,qo (by decide)];unfold load;simp only[Sem.run,a]
theorem ld0 (b c:Nat){p:Addr}{t:TypeId}{x:Operand}(g:w.cell? p=some v)(s:qT (jV P ol Q Ext m L AL R a w) F b c l)(hR:∀ f X,f k=v→R k (qh (fun i=>L.getD i 0) k f) X:=by exact fun _ _ h=>h)(j:k+1=b:=by rfl)(q:c+1=n:=by rfl)(e:AL.contains k=false:=by kernel_rfl)
 (y:∀ f,Region.wanted o (yielded ol.toArray (put ol.toArray (nd (fun i=>L.getD i 0) k) f (List.range m) a).tmps)=true:=by intro _;kernel_rfl)
 (r:o.op=.load t x:=by rfl) (z:∀ f,(put ol.toArray (nd (fun i=>L.getD i 0) k) f (List.range m) a).eval x=.pointer (some p):=by intro _;kernel_rfl) (u:∀ X,(isAgg t).run P X=.ok false X:=by intro _;kernel_rfl):qT (jV P ol Q Ext m L AL R a w) F k n (o::l) :=
 vx (fun f=>f) s (fun _ _ _=>rfl) hR j q e y (fun f X d=>by
  unfold execOp
  simp only[r,km,z,cH (d.cell g) (u X),jC]
  rfl)
theorem ld1 (b c j:Nat){p:Addr}{t:TypeId}{x:Operand}(g:w.cell? p=some v)(A:qT (jV P ol Q Ext m L AL R a w) F b c l)(z:∀ f X,R j (qh (fun i=>L.getD i 0) j f) X→f j=u:=by exact fun _ _ h=>h)(hR:∀ f X,f k=v→R k (qh (fun i=>L.getD i 0) k f) X:=by exact fun _ _ h=>h)(r:k+1=b:=by rfl)(s:c+1=n:=by rfl)(e:AL.contains k=false:=by kernel_rfl)
 (q:(L.getD k 0).testBit j=true:=by kernel_rfl)
 (C:∀ f,Region.wanted o (yielded ol.toArray (put ol.toArray (nd (fun i=>L.getD i 0) k) (upd f j u) (List.range m) a).tmps)=true:=by intro _;kernel_rfl)
 (y:o.op=.load t x:=by rfl) (D:∀ f,(put ol.toArray (nd (fun i=>L.getD i 0) k) (upd f j u) (List.range m) a).eval x=.pointer (some p):=by intro _;kernel_rfl) (B:∀ X,(isAgg t).run P X=.ok false X:=by intro _;kernel_rfl):qT (jV P ol Q Ext m L AL R a w) F k n (o::l) :=
 vx (fun f=>upd f j u) A (fun f X h=>xz (z f X (h j q))) hR r s e C (fun f X d=>by
  unfold execOp
  simp only[y,km,D,cH (d.cell g) (B X),jC]
  rfl)
end
theorem k {A:Value→Act}{b:Act}{X:World}{H:Value→World→Prop}{G:Value→World→Prop}{K:Act→World→Prop}{v:Value}
 (a:Way (∀ a' v X',a'=A v→Ext X X'→H v X'→(∀ Y,Ext X' Y→G v Y)→K a' X'))
 (d:∀ Y,Ext X Y→G v Y:=by exact fun _ _=>rfl) (s:b=A v) (c:H v X:=by exact trivial):K b X :=
 a.out b v X s (Ext.refl X) c d
end Par
/- What lays the slots' values out. -/
theorem yA (f:Nat→Value)(i j:Nat)(l:List (Nat×Nat))(L:List Value)(d:List Deferred):Par.vE f ((i,j)::l) ⟨L.toArray,d⟩=Par.vE f l ⟨(L.set i (f j)).toArray,d⟩:=by
 simp only[Par.vE,Act.put,jn]
theorem yB (f:Nat→Value)(a:Act):Par.vE f [] a=a:=rfl
theorem yC (L:List Value)(d:List Deferred)(i:Nat)(v:Value):Act.put ⟨L.toArray,d⟩ (some i) v=⟨(L.set i v).toArray,d⟩:=by
 simp only[Act.put,jn]
theorem yD (x:Value)(l:List Value)(n:Nat)(v:Value):(x::l).set (n+1) v=x::l.set n v:=rfl
theorem yE (x:Value)(l:List Value)(v:Value):(x::l).set 0 v=v::l:=rfl
theorem yF:type_of% @Par.qT.fin:=@Par.qT.fin
theorem yZ:(∀(f:Nat→Value) (i j:Nat) (l:List (Nat×Nat)) (L:List Value) (d:List Deferred),Par.vE f ((i,j)::l) ⟨L.toArray,d⟩=Par.vE f l ⟨(L.set i (f j)).toArray,d⟩)∧(∀(f:Nat→Value) (a:Act),Par.vE f [] a=a)∧(∀(L:List Value) (d:List Deferred) (i:Nat) (v:Value),Act.put ⟨L.toArray,d⟩ (some i) v=⟨(L.set i v).toArray,d⟩)∧(∀(x:Value) (l:List Value) (n:Nat) (v:Value),(x::l).set (n+1) v=x::l.set n v)∧∀(x:Value) (l:List Value) (v:Value),(x::l).set 0 v=v::l:=⟨yA,yB,yC,yD,yE⟩
end Go.Proofs.YtaemogcomplhiaaGreatDoor
namespace Go.Proofs.YtaemogcomplhiaaGreatDoor
theorem zI:type_of% @Par.zX.done:=@Par.zX.done
theorem zJ:type_of% @Par.v0:=@Par.v0
theorem zL:type_of% @Ext.alloc:=@Ext.alloc
theorem zO:type_of% @Par.zX.next:=@Par.zX.next
theorem zR:type_of% @Par.zj:=@Par.zj
theorem zT:type_of% @Ext.refl:=@Ext.refl
theorem zU:type_of% @Par.qc:=@Par.qc
theorem zZ:type_of% @Par.qA:=@Par.qA
theorem zt:type_of% @Par.v1:=@Par.v1
theorem zv:type_of% @Par.S:=@Par.S
theorem qC:type_of% @Par.ld1:=@Par.ld1
theorem qK:type_of% @Par.c0:=@Par.c0
theorem qY:type_of% @Par.k:=@Par.k
theorem qj:type_of% @Par.v2:=@Par.v2
theorem jb:type_of% @Ext.trans:=@Ext.trans
theorem kZ:type_of% @Par.sk:=@Par.sk
theorem kr:type_of% @Par.al:=@Par.al
theorem vG:type_of% @Par.qT.cons:=@Par.qT.cons
theorem vR:type_of% @Ext.drew:=@Ext.drew
theorem vn:type_of% @Par.jV.intro:=@Par.jV.intro
end Go.Proofs.YtaemogcomplhiaaGreatDoor
namespace Go.Proofs.YtaemogcomplhiaaGreatDoor
open Go.RowKit
theorem bD {k:IntKind}{a b:Int}(h:a=b):Ending.returned (.int k a)=.returned (.int k b):=by rw[h]
theorem xP (a:Addr)(n:Nat):(a.add n).block=a.block:=by unfold Addr.add;split<;>rfl
theorem fS (a:Addr)(i j:Nat):(a.add i).add j=a.add (i+j):=by
 unfold Addr.add;by_cases hi:i=0<;>by_cases hj:j=0<;>simp[hi,hj,kN]
def In (lo a b:Nat):Prop:=lo≤b∧b<a
def RS (w:World) (P:Nat→Prop) (size:Nat) (A:Option Addr) (n c:Nat) (cs:List Value):Prop :=
  n ≤ c ∧ c ≤ maxLen ∧ cs.length = n * size ∧
    (0<n→∃ ad,A=some ad∧P ad.block∧∀ j u,cs[j]?=some u→w.cell? (ad.add j)=some u)
section
variable {w w':World} {P P':Nat→Prop} {size n c:Nat} {A:Option Addr} {cs:List Value}
theorem RS.keep (h:RS w P size A n c cs)(k:∀ p:Addr,P p.block→w'.cell? p=w.cell? p):RS w' P size A n c cs:=by
 obtain⟨b,d,f,g⟩:=h;refine⟨b,d,f,fun l=>?_⟩;obtain⟨ad,e,a,i⟩:=g l;exact⟨ad,e,a,fun j u m=>(k _ (by rw[xP];exact a)).trans (i j u m)⟩
theorem RS.mono (h:RS w P size A n c cs)(l:∀ b,P b→P' b):RS w P' size A n c cs:=by
 obtain⟨a,d,f,g⟩:=h;refine⟨a,d,f,fun k=>?_⟩;obtain⟨ad,e,i,j⟩:=g k;exact⟨ad,e,l _ i,j⟩
theorem RS.below {B:Nat}(h:RS w P size A n c cs)(d:Below B w w')(a:∀ b,P b→b<B):RS w' P size A n c cs:=h.keep fun _ e=>d.cell (a _ e)
theorem RS.nil_ (w:World)(P:Nat→Prop)(size:Nat):RS w P size none 0 0 []:=⟨by omega,by unfold maxLen;omega,by simp,fun h=>absurd h (by omega)⟩
theorem RS.of_own {base:Nat}{e:TypeId}(h:w.ownsRow base e size (.slice A n c) n cs):RS w (In base w.heap.size) size A n c cs:=by
 have k:=h.lt;have i:=fun g=>h.cells (g:=g);obtain⟨b,⟨a,rfl⟩|⟨g,cap,l,a,j,p,d,f,m,o⟩⟩:=h
 · injection a with a e2 e3
   subst a e3;exact⟨by omega,by unfold maxLen;omega,b,fun h=>absurd h (by omega)⟩
 · injection a with a e2 e3
   subst a e3;have:=k g rfl;exact⟨d,f,b,fun _=>⟨_,rfl,⟨j,this.2⟩,i g rfl⟩⟩
theorem da {base:Nat}{e:TypeId}{v:Value}(h:w.ownsRow base e size v n cs):∃ A c,v=.slice A n c:=by
 obtain⟨b,⟨rfl,rfl⟩|⟨g,cap,a,rfl,k,l,d,f,i,j⟩⟩:=h
 · exact⟨_,_,rfl⟩
 · exact⟨_,_,rfl⟩
theorem zAm {w w':World}{base:Nat}{e:TypeId}{v:Value}(h:w.ownsRow base e size v n cs)(a:w.grownBy w' none):w'.ownsRow base e size v n cs :=
 h.kept a (by cases v.ownBlock<;>simp)
theorem qp {B:Nat}{a w:World}(h:Below B a w)(n:Nat):Below B a (w.drewN n):=⟨h.os,h.tape,h.output,h.size,h.block⟩
theorem zP {w:World}{B:Nat}{cs:Array Value}{t:TypeId}(h:w.heap[B]?=some (.cells cs t (0,0)))(i:Nat):w.cell? ⟨B,i,none⟩=cs[i]?:=cell_of_row w B i cs t (0,0) h
theorem qz {w:World}{B:Nat}{cs:Array Value}{t:TypeId}(h:w.heap[B]?=some (.cells cs t (0,0)))(i:Nat):w.frozen? ⟨B,i,none⟩=false:=by simp[World.frozen?,h]
theorem qd {w:World}{B:Nat}{o:Obj}(h:w.heap[B]?=some o):B<w.heap.size:=(Array.getElem?_eq_some_iff.1 h).1
theorem RS.fresh {w:World}{P:Nat→Prop}(cs:Array Value)(t:TypeId)(size n:Nat)(h:cs.size=n*size)(b:n≤maxLen)(a:P w.heap.size):RS (w.alloc (.cells cs t)) P size (some ⟨w.heap.size,0,none⟩) n n cs.toList :=
 ⟨zG _,b,by simpa using h,fun _=>⟨_,rfl,a,World.news_of_block (zS w _)⟩⟩
theorem RS.sub {c' k m:Nat}(h:RS w P size A n c cs)(p:k≤m)(q:m≤n)(b:m-k≤c')(i:c'≤maxLen){A':Option Addr}(f:k<m→A'=A.map (·.add (k*size))) :
 RS w P size A' (m-k) c' ((cs.drop (k*size)).take ((m-k)*size)):=by
 obtain⟨l,o,d,e⟩:=h
 refine⟨b,i,?_,fun r=>?_⟩
 · rw[zh,qa,d,←Nat.sub_mul];exact qU (qr _ (by omega))
 · obtain⟨ad,rfl,g,b⟩:=e (by omega);rw[f (by omega)];refine⟨ad.add (k*size),rfl,by rw[xP];exact g,fun j u a=>?_⟩;rw[fS];apply b;rw[List.getElem?_take]at a;split at a
   · rw[←a,List.getElem?_drop]
   · cases a
theorem RS.pre {m:Nat}(h:RS w P size A n c cs)(a:m≤n):RS w P size A m c (cs.take (m*size)):=by
 have:=h.1;have:=h.2.1;have:=h.sub (k:=0) (m:=m) (c':=c) (A':=A) (by omega) a (by omega) (by omega) (fun _=>by cases A<;>simp[Addr.add]);simpa using this
end
def bys (bs:List Nat):List Value:=bs.map fun b:Nat=>.int .u8 (b:Int)
def RB (w:World) (P:Nat→Prop) (A:Option Addr) (c:Nat) (bs:List Nat):Prop:=RS w P 1 A bs.length c (bys bs)∧(∀ b∈bs,b<256)∧bs.length≤140737488355328
def RA (w:World) (P:Nat→Prop) (A:Option Addr) (c:Nat) (l:List (Int×List Nat)):Prop :=
 ∃ cs,RS w P 2 A l.length c cs∧∀ j x,l[j]?=some x→cs[j*2]?=some (.int .i64 x.1)∧∃ A' c',cs[j*2+1]?=some (.slice A' x.2.length c')∧RB w P A' c' x.2
section
variable {w w':World} {P P':Nat→Prop} {A:Option Addr} {c:Nat} {bs:List Nat} {l:List (Int×List Nat)}
theorem RB.keep (h:RB w P A c bs)(a:∀ p:Addr,P p.block→w'.cell? p=w.cell? p):RB w' P A c bs:=⟨h.1.keep a,h.2⟩
theorem RB.mono (h:RB w P A c bs)(a:∀ b,P b→P' b):RB w P' A c bs:=⟨h.1.mono a,h.2⟩
theorem RB.below {B:Nat}(h:RB w P A c bs)(d:Below B w w')(a:∀ b,P b→b<B):RB w' P A c bs:=⟨h.1.below d a,h.2⟩
theorem RB.cap (h:RB w P A c bs):bs.length≤c∧c≤9223372036854775807∧bs.length≤140737488355328:=⟨h.1.1,h.1.2.1,h.2.2⟩
theorem RB.nil_ (w:World)(P:Nat→Prop):RB w P none 0 []:=⟨RS.nil_ _ _ _,by simp,by simp⟩
theorem RA.keep (h:RA w P A c l)(a:∀ p:Addr,P p.block→w'.cell? p=w.cell? p):RA w' P A c l:=by
 obtain⟨cs,b,d⟩:=h;exact⟨cs,b.keep a,fun j x i=>by obtain⟨e,A',c',f,g⟩:=d j x i;exact⟨e,A',c',f,g.keep a⟩⟩
theorem RA.mono (h:RA w P A c l)(a:∀ b,P b→P' b):RA w P' A c l:=by
 obtain⟨cs,d,e⟩:=h;exact⟨cs,d.mono a,fun j x k=>by obtain⟨f,A',c',g,i⟩:=e j x k;exact⟨f,A',c',g,i.mono a⟩⟩
theorem RA.below {B:Nat}(h:RA w P A c l)(d:Below B w w')(a:∀ b,P b→b<B):RA w' P A c l:=h.keep fun _ e=>d.cell (a _ e)
theorem RA.cap (h:RA w P A c l):l.length≤c∧c≤9223372036854775807:=by obtain⟨cs,a,b⟩:=h;exact⟨a.1,a.2.1⟩
theorem RA.nil_ (w:World)(P:Nat→Prop):RA w P none 0 []:=⟨[],RS.nil_ _ _ _,by simp⟩
theorem RA.at_ (h:RA w P A c l){i:Nat}(k:i<l.length) :
 ∃ ad A' c',A=some ad∧P ad.block∧w.cell? (ad.add (i*2))=some (.int .i64 (l[i]).1)∧w.cell? ⟨(ad.add (i*2)).block,(ad.add (i*2)).off+1,none⟩=some (.slice A' (l[i]).2.length c')∧RB w P A' c' (l[i]).2:=by
 obtain⟨cs,⟨m,n,o,b⟩,d⟩:=h
 obtain⟨ad,rfl,j,a⟩:=b (by omega)
 obtain⟨e,A',c',f,g⟩:=d i _ (qL k)
 exact⟨ad,A',c',rfl,j,a _ _ e,by have:=a _ _ f;rwa [←fS]at this,g⟩
theorem RB.at_ (h:RB w P A c bs){i:Nat}(a:i<bs.length):∃ ad,A=some ad∧P ad.block∧w.cell? (ad.add i)=some (.int .u8 (bs[i]:Int))∧(bs[i]:Int)<256:=by
 obtain⟨⟨g,j,k,b⟩,d,_⟩:=h;obtain⟨ad,rfl,e,f⟩:=b (by omega);exact⟨ad,rfl,e,f _ _ (by simp[bys,qL a]),by have:=d _ (wL a);omega⟩
end
section
variable {P:Program} (w:World)
theorem fh (base:Nat)(t ty e:TypeId)(i:TypeInfo)(size:Nat)(b:P.underlying t=some (.slice e))(a:P.info? e=some i)
 (v:Value) (n:Nat) (h:List Value) (f:w.ownsRow base e size v n h) (c:Nat):(Builtin.append_ #[t,t] ty #[v,.slice none 0 c]).run P w=.ok v w:=by
 rcases f.2 with⟨rfl,rfl⟩|⟨g,cap,j,rfl,_,_,d,_⟩
 · simp[Builtin.append_,run_underlying b,sizeOf,typeInfo,a,Builtin.lenOf,Builtin.firstCells]
 · simp[Builtin.append_,run_underlying b,sizeOf,typeInfo,a,Builtin.lenOf,Builtin.firstCells,d,storeCells]
theorem aT (base:Nat)(t ty e:TypeId)(i:TypeInfo)(z:Value)(size g:Nat)(p:P.underlying t=some (.slice e))(o:P.info? e=some i)(J:i.zero=some z)
   (H:i.size=size) (C:i.bytes=g) (K:z.cells.size=size) (I:0<size)
   (v:Value) (n:Nat) (f:List Value) (d:w.ownsRow base e size v n f)
   (Q:Nat→Prop) (A:Option Addr) (m c:Nat) (yH:List Value) (b:RS w Q size A m c yH) (r:∀ u∈yH,u.oneCell'=true)
   (y:n+m≤maxLen) (D:(n+m)*g≤140737488355328) (B:base≤w.heap.size) :
   ∃ A' c' w', (Builtin.append_ #[t, t] ty #[v, .slice A m c]).run P w = .ok (.slice A' (n + m) c') w' ∧ w'.ownsRow base e size (.slice A' (n + m) c') (n + m) (f ++ yH) ∧ w.grownBy w' v.ownBlock ∧
     ((Value.slice A' (n+m) c').ownBlock=v.ownBlock∨(Value.slice A' (n+m) c').ownBlock=some w.heap.size):=by
 rcases A with _|ad
 · have F:m=0:=by
     rcases za m with a|a
     · exact a
     · obtain⟨ad,h,_⟩:=b.2.2.2 a;cases h
   subst F;have k:yH=[]:=qV (by simpa using b.2.2.1);subst k;obtain⟨A',c',rfl⟩:=da d;exact⟨A',c',w,fh w base t ty e i size p o _ n f d c,by simpa using d,World.grownBy.refl w _,.inl rfl⟩
 · have vw:∀ j u,yH[j]?=some u→w.cell? (ad.add j)=some u:=by
     intro j u q;rcases za m with a|a
     · subst a;have k:yH=[]:=qV (by simpa using b.2.2.1);subst k;simp at q
     · obtain⟨L,h,_,E⟩:=b.2.2.2 a;injection h with h
       subst h;exact E j u q
   obtain⟨M,w',G,l,s,_,x⟩:=run_append_own_at (P:=P) w base t ty e i z size g p o J H C K I v n f d ad m c yH b.2.2.1 vw r y D B;obtain⟨A',c',rfl⟩:=da l;exact⟨A',c',w',G,l,s,x⟩
theorem fU {o:Oper}{a:Act}{K:Act→World→Prop}{Q:Exit→Act→World→Prop}(s x:Operand)(t:TypeId)
 (E:o.op=.call { callee:=.builtin .append,args:=#[s,x],argTypes:=#[t,t] })
 (base:Nat) (e:TypeId) (i:TypeInfo) (z:Value) (size b:Nat) (M:P.underlying t=some (.slice e)) (C:P.info? e=some i) (O:i.zero=some z)
 (J:i.size=size) (r:i.bytes=b) (R:z.cells.size=size) (L:0<size)
 (v:Value) (n:Nat) (d:List Value) (I:a.eval s=v) (F:w.ownsRow base e size v n d)
 (B:Nat→Prop) (A:Option Addr) (m c:Nat) (yH:List Value) (N:a.eval x=.slice A m c) (G:RS w B size A m c yH) (f:∀ u∈yH,u.oneCell'=true)
 (k:Nat) (D:n+m=k) (p:n+m≤maxLen) (y:(n+m)*b≤140737488355328) (q:base≤w.heap.size)
 (h:∀ A' c' w',w'.ownsRow base e size (.slice A' k c') k (d++yH)→w.grownBy w' v.ownBlock→((Value.slice A' k c').ownBlock=v.ownBlock∨(Value.slice A' k c').ownBlock=some w.heap.size)→K (a.put o.dst (.slice A' k c')) w'):o.wp P a w K Q:=by
 subst D
 obtain⟨A',c',w',H,g,j,l⟩:=aT (P:=P) w base t o.type e i z size b M C O J r R L v n d F B A m c yH G f p y q
 unfold Oper.wp execOp
 simp only[E,resolve,invoke,builtin,km,Sem.run_pure,jC,List.map_toArray,List.map_cons,List.map_nil,I,N,H]
 exact h A' c' w' g j l
theorem jd {ops:Array Oper}{rest:List Oper}{o:Oper}{a:Act}{Q:Exit→Act→World→Prop}(D:o.guard=none)(s x:Operand)(t:TypeId)
 (G:o.op=.call { callee:=.builtin .append,args:=#[s,x],argTypes:=#[t,t] })
 (base:Nat) (e:TypeId) (i:TypeInfo) (z:Value) (size b:Nat) (M:P.underlying t=some (.slice e)) (E:P.info? e=some i) (O:i.zero=some z)
 (K:i.size=size) (y:i.bytes=b) (R:z.cells.size=size) (L:0<size)
 (v:Value) (n:Nat) (d:List Value) (J:a.eval s=v) (H:w.ownsRow base e size v n d)
 (B:Nat→Prop) (A:Option Addr) (m c:Nat) (yH:List Value) (N:a.eval x=.slice A m c) (I:RS w B size A m c yH) (f:∀ u∈yH,u.oneCell'=true)
 (k:Nat) (F:n+m=k) (p:n+m≤maxLen) (C:(n+m)*b≤140737488355328) (r:base≤w.heap.size)
 (h:∀ A' c' w',w'.ownsRow base e size (.slice A' k c') k (d++yH)→w.grownBy w' v.ownBlock→((Value.slice A' k c').ownBlock=v.ownBlock∨(Value.slice A' k c').ownBlock=some w.heap.size)→wpList P ops Q rest (a.put o.dst (.slice A' k c')) w'):wpList P ops Q (o::rest) a w :=
 wpList_plain D fun _ q=>fU w s x t G base e i z size b M E O K y R L v n d J H B A m c yH N I f k F p C r fun A' c' w' g j l=>q _ _ (h A' c' w' g j l)
end
end Go.Proofs.YtaemogcomplhiaaGreatDoor
namespace Go.Proofs.YtaemogcomplhiaaGreatDoor
def val (B:Nat):List Nat→Nat
 | []=>0
 | x::l=>x+B*val B l
def digs (B:Nat) (n:Nat):List Nat:=if _h:2≤B∧0<n then n%B::digs B (n/B)else []
termination_by n
decreasing_by exact Nat.div_lt_self _h.2 _h.1
@[simp] theorem zBt (B:Nat):val B []=0:=rfl
@[simp] theorem kB (B x:Nat) (l:List Nat):val B (x::l)=x+B*val B l:=rfl
theorem qW (B:Nat):digs B 0=[]:=by rw[digs];simp
theorem jq {B n:Nat}(a:2≤B)(b:0<n):digs B n=n%B::digs B (n/B):=by rw[digs];simp[a,b]
theorem zi {B:Nat}(a:2≤B)(n:Nat):val B (digs B n)=n:=by
 induction n using Nat.strongRecOn with
 | ind n ih =>
   rcases za n with h|h
   · subst h;rw[qW];rfl
   · rw[jq a h,kB,ih _ (Nat.div_lt_self h a)];exact Nat.mod_add_div n B
theorem kL {B:Nat}(b:2≤B)(n:Nat):∀ x∈digs B n,x<B:=by
 induction n using Nat.strongRecOn with
 | ind n ih =>
   rcases za n with h|h
   · subst h;rw[qW];simp
   · rw[jq b h];intro x a;rcases List.mem_cons.1 a with rfl|a
     · exact qP _ (by omega)
     · exact ih _ (Nat.div_lt_self h b) x a
theorem kg (B:Nat)(l m:List Nat):val B (l++m)=val B l+B^l.length*val B m:=by
 induction l with
 | nil=>simp
 | cons x l ih=>simp[ih,zx,zl,zd,zp,kN]
theorem kF {B:Nat}{l:List Nat}(h:∀ x∈l,x<B):val B l<B^l.length:=by
 induction l with
 | nil=>simp
 | cons x l ih =>
   have c:=h x (by simp);have a:=ih fun y b=>h y (by simp[b]);simp only[kB,jP,zx];have:B*(val B l+1)≤B*B^l.length:=qI _ a;rw[zl]at this;rw[zp (B^l.length)];omega
theorem wH {B:Nat}{l:List Nat}(h:∀ x∈l,x=0):val B l=0:=by
 induction l with
 | nil=>rfl
 | cons x l ih=>rw[kB,h x (by simp),ih fun y a=>h y (by simp[a])];simp
theorem kV (B n:Nat):val B (List.replicate n 0)=0:=wH (by simp)
theorem jI (B:Nat)(l:List Nat){n:Nat}(a:n≤l.length):val B l=val B (l.take n)+B^n*val B (l.drop n):=by
 have:=kg B (l.take n) (l.drop n);rwa [List.take_append_drop,zh,qU a]at this
theorem uL (B:Nat){l:List Nat}{n:Nat}(a:n<l.length):val B (l.take (n+1))=val B (l.take n)+B^n*l[n]:=by
 rw[List.take_succ_eq_append_getElem a,kg,zh,qU (by omega)];simp
theorem zBr (B:Nat){l:List Nat}{n:Nat}(d:n<l.length)(x:Nat):val B (l.set n x)+B^n*l[n]=val B l+B^n*x:=by
 have a:=jI B l (kA d);have b:=jI B (l.set n x) (n:=n) (by simp;omega);have c:l.drop n=l[n]::l.drop (n+1):=qX d;have e:(l.set n x).drop n=x::l.drop (n+1):=by
  rw[List.drop_set,qo (Nat.lt_irrefl _),c,uk,vQ]
 have f:(l.set n x).take n=l.take n:=by rw[List.take_set];apply List.set_eq_of_length_le;simp;omega
 rw[e,f,kB]at b;rw[c,kB]at a;rw[a,b];simp only[zl];omega
theorem gi {B:Nat}(e:2≤B):∀ {l:List Nat},(∀ x∈l,x<B)→(∀ h:l≠[],l.getLast h≠0)→digs B (val B l)=l
 | [],_,_=>qW B
 | x :: l, h, hl => by
   have f:=h x (by simp);have n:0<val B (x::l):=by
     rcases za (val B (x::l))with b|b
     · exfalso;have p:∀(m:List Nat) (a:m≠[]),val B m=0→m.getLast a=0:=by
         intro m;induction m with
         | nil=>intro a;exact absurd rfl a
         | cons y m ih =>
           intro a o;rw[kB]at o;have c:y=0:=by omega
           have j:B*val B m=0:=by omega
           rcases Nat.mul_eq_zero.1 j with d|d
           · omega
           · rcases m with _|⟨z,m⟩
             · simpa using c
             · rw[List.getLast_cons (by simp)];exact ih (by simp) d
       exact hl (by simp) (p _ _ b)
     · exact b
   rw[jq e n];have g:val B (x::l)%B=x:=by rw[kB,qw,qF f]
   have i:val B (x::l)/B=val B l:=by rw[kB,ka _ _ (by omega),ql f];omega
   rw[g,i,gi e (fun y c=>h y (by simp[c])) fun k=>by
     have:=hl (by simp)
     rwa [List.getLast_cons k]at this]
theorem uf {B:Nat}(b:2≤B)(n:Nat)(h:digs B n≠[]):(digs B n).getLast h≠0:=by
 induction n using Nat.strongRecOn with
 | ind n ih =>
   rcases za n with a|a
   · subst a;exact absurd (qW B) h
   · rcases za (n/B)with c|c
     · have e:digs B n=[n%B]:=by rw[jq b a,c,qW]
       have f:n<B:=by rcases qH n B with h|h;exact h;have:=Nat.div_pos h (by omega);omega
       simp only[e,List.getLast_singleton];rw[qF f];omega
     · have e:=jq b a;have d:digs B (n/B)≠[]:=by rw[jq b c];simp
       simp only[e,List.getLast_cons d];exact ih _ (Nat.div_lt_self a b) d
theorem dW {B:Nat}(c:2≤B){l:List Nat}(d:∀ x∈l,x<B){n:Nat}(a:n≤l.length)(j:∀ x∈l.drop n,x=0)(b:0<n→l.getD (n-1) 0≠0):l.take n=digs B (val B l):=by
 have e:val B l=val B (l.take n):=by rw[jI B l a,wH j];simp
 rw[e];refine(gi c (fun x i=>d x (qN i)) fun g=>?_).symm;have f:0<n:=by
  rcases za n with h|h
  · subst h;simp at g
  · exact h
 have:=b f;rw[List.getLast_eq_getElem,List.getElem_take];simp only[zh,qU a];rwa [zy,qL (by omega),vP]at this
theorem jD {B:Nat}(hB:2≤B){l:List Nat}(hl:∀ x∈l,x<B):(digs B (val B l)).length≤l.length:=by
 rcases qH l.length (digs B (val B l)).length with h|h
 · exfalso;have h1:=kF hl;have hne:digs B (val B l)≠[]:=by intro e;rw[e]at h;simp at h
   have h2:B ^((digs B (val B l)).length-1)≤val B l:=by
     generalize val B l=v at hne ⊢;have:=uf hB v hne;have h3:=zi hB v;obtain⟨m,x,hm⟩:∃ m x,digs B v=m++[x]:=⟨_,_,(List.dropLast_concat_getLast hne).symm⟩
     have hx : x ≠ 0 := by have h4 : (digs B v).getLast hne = x := by simp [hm]
                           rw[h4]at this;exact this
     rw[hm,kg]at h3;rw[hm];simp at h3 ⊢;rw[←h3];have:B^m.length*1≤B^m.length*x:=qI _ (by omega);omega
   have h3:B^l.length≤B ^((digs B (val B l)).length-1):=qE (by omega) (by omega);omega
 · exact h
theorem gT {B:Nat}(b:2≤B){v:Nat}(f:0<v):B ^((digs B v).length-1)≤v:=by
 have d:digs B v≠[]:=by rw[jq b f];simp
 have:=uf b v d;have a:=zi b v;obtain⟨m,x,c⟩:∃ m x,digs B v=m++[x]:=⟨_,_,(List.dropLast_concat_getLast d).symm⟩
 have g:x≠0:=by
  have e:(digs B v).getLast d=x:=by simp[c]
  rw[e]at this;exact this
 rw[c,kg]at a;rw[c];simp at a ⊢;rw[←a];have:B^m.length*1≤B^m.length*x:=qI _ (by omega);omega
theorem jR {B:Nat}(a:2≤B)(v:Nat):v<B ^(digs B v).length:=by
 have:=kF (kL a v);rwa [zi a]at this
theorem qR {B:Nat}(c:2≤B){v n:Nat}(h:v<B^n):(digs B v).length≤n:=by
 rcases za v with a|a
 · subst a;rw[qW];simp
 · have d:=gT c a;rcases qH n (digs B v).length with b|b
   · have:B^n≤B ^((digs B v).length-1):=qE (by omega) (by omega);omega
   · exact b
theorem jO {B:Nat}(a:2≤B){m n:Nat}(h:m≤n):(digs B m).length≤(digs B n).length :=
 qR a (jh h (jR a n))
theorem vk {B:Nat}(b:2≤B){m n:Nat}(h:(digs B m).length<(digs B n).length):m<n:=by
 rcases qH m n with a|a
 · exact a
 · have:=jO b a;omega
theorem af {B:Nat}{l m:List Nat}(f:∀ x∈l,x<B)(k:l.length=m.length){i:Nat}(e:i<l.length)(d:l.drop (i+1)=m.drop (i+1))(h:l[i]<m[i]'(by omega)):val B l<val B m:=by
 have a:=jI B l (n:=i+1) (by omega);have b:=jI B m (n:=i+1) (by omega);rw[uL B e]at a;rw[uL B (by omega)]at b;have j:val B (l.take i)<B^i:=by
  have:=kF (B:=B) (l:=l.take i) fun x g=>f x (qN g);rwa [zh,qU (by omega)]at this
 have c:B^i*(l[i]+1)≤B^i*m[i]'(by omega):=qI _ h;rw[zl]at c;rw[d]at a;omega
def dg (l:List Nat) (i:Nat):Nat:=l.getD i 0
theorem ja {l:List Nat}{i:Nat}(h:i<l.length):l.getD i 0=l[i]:=by
 rw[zy,qL h,vP]
theorem qG (B:Nat)(l:List Nat)(k:Nat):val B (l.take (k+1))=val B (l.take k)+B^k*dg l k:=by
 rcases qH k l.length with h|h
 · rw[uL B h,dg,zy,qL h,vP]
 · rw[zu (by omega),zu h,dg,zy,jH h];simp
theorem jf (B:Nat){o:List Nat}{k:Nat}(h:k<o.length)(s:Nat):val B ((o.set k s).take (k+1))=val B (o.take k)+B^k*s:=by
 rw[qG,List.take_set,List.set_eq_of_length_le (by simp;omega),dg,zy,List.getElem?_set_self h,vP]
def wz (B:Nat) (a b o:List Nat) (k c:Nat):Prop:=val B (o.take k)+B^k*c=val B (a.take k)+val B (b.take k)
theorem wz.zero (B:Nat)(a b o:List Nat):wz B a b o 0 0:=by simp[wz]
theorem wz.step {B:Nat}{a b o:List Nat}{k c s c':Nat}(h:wz B a b o k c)(e:k<o.length)(d:s+B*c'=dg a k+dg b k+c):wz B a b (o.set k s) (k+1) c':=by
 unfold wz at *;rw[jf B e,qG,qG,zx];have:B^k*(s+B*c')=B^k*(dg a k+dg b k+c):=by rw[d]
 simp only[zl,←zd]at this;omega
theorem wz.fin {B:Nat}{a b o:List Nat}{k c:Nat}(h:wz B a b o k c)(f:o.length=k+1)(d:a.length≤k)(e:b.length≤k):val B (o.set k c)=val B a+val B b:=by
 unfold wz at h;rw[zu d,zu e]at h;have:=jf B (o:=o) (k:=k) (by omega) c;rw[zu (by simp;omega)]at this;rw[this,h]
def xZ (B:Nat) (a b o:List Nat) (k c:Nat):Prop:=val B (o.take k)+val B (b.take k)=val B (a.take k)+B^k*c
theorem xZ.zero (B:Nat)(a b o:List Nat):xZ B a b o 0 0:=by simp[xZ]
theorem xZ.step {B:Nat}{a b o:List Nat}{k c s c':Nat}(h:xZ B a b o k c)(e:k<o.length)(d:s+dg b k+c=dg a k+B*c'):xZ B a b (o.set k s) (k+1) c':=by
 unfold xZ at *;rw[jf B e,qG,qG,zx];have:B^k*(s+dg b k+c)=B^k*(dg a k+B*c'):=by rw[d]
 simp only[zl,←zd]at this;omega
theorem xZ.fin {B:Nat}{a b o:List Nat}{k c:Nat}(h:xZ B a b o k c)(g:o.length=k)(i:∀ x∈o,x<B)(j:a.length=k)(f:b.length≤k)(l:val B b≤val B a):val B o=val B a-val B b:=by
 unfold xZ at h;rw[zu (by omega),zu f,zu (by omega)]at h;have e:=kF i;rw[g]at e;rcases za c with d|d
 · subst d;omega
 · have:B^k*1≤B^k*c:=qI _ d;omega
def ui (B:Nat) (o0 b:List Nat) (x i:Nat) (o:List Nat) (j c:Nat):Prop :=
 o.length=o0.length∧val B o+B ^(i+j)*c=val B o0+B^i*(x*val B (b.take j))∧(∀ n,i+j≤n→dg o n=dg o0 n)
theorem ui.zero (B:Nat)(o0 b:List Nat)(x i:Nat):ui B o0 b x i o0 0 0:=by simp[ui]
theorem getD_set_ne {l:List Nat}{i j x:Nat}(h:i≠j):dg (l.set i x) j=dg l j:=by
 simp[dg,List.getElem?_set_ne h]
theorem vz {l:List Nat}{i x:Nat}(h:i<l.length):dg (l.set i x) i=x:=by
 simp[dg,List.getElem?_set_self h]
theorem uH {l:List Nat}{i:Nat}(h:i<l.length):dg l i=l[i]:=by
 rw[dg,zy,qL h,vP]
theorem xE (B:Nat){l:List Nat}{n:Nat}(a:n<l.length)(x:Nat):val B (l.set n x)+B^n*dg l n=val B l+B^n*x:=by
 rw[uH a];exact zBr B a x
theorem ui.step {B:Nat}{o0 b o:List Nat}{x i j c s c':Nat}(h:ui B o0 b x i o j c)(k:i+j<o.length)(g:s+B*c'=x*dg b j+dg o (i+j)+c) :
 ui B o0 b x i (o.set (i+j) s) (j+1) c':=by
 obtain⟨d,e,f⟩:=h
 refine⟨by simpa using d,?_,fun n m=>by rw[getD_set_ne (by omega),f n (by omega)]⟩
 have p:=xE B k s
 rw[qG,←kN,zx]
 have a:B ^(i+j)*(s+B*c')=B ^(i+j)*(x*dg b j+dg o (i+j)+c):=by rw[g]
 simp only[zl,←zd]at a ⊢
 have l:B^i*x*B^j*dg b j=B ^(i+j)*x*dg b j:=by
  rw[qQ];simp only[zp,zd]
 simp only[←zd]at e
 omega
theorem ui.fin {B:Nat}{o0 b o:List Nat}{x i n c:Nat}(h:ui B o0 b x i o n c)(k:b.length=n)(f:i+n<o.length)(a:dg o0 (i+n)=0):val B (o.set (i+n) c)=val B o0+B^i*(x*val B b):=by
 obtain⟨j,d,e⟩:=h;have g:=xE B f c;rw[e _ (zG _),a]at g;rw[zu (by omega)]at d;omega
def gl (B:Nat) (a b o:List Nat) (i:Nat):Prop:=o.length=a.length+b.length∧val B o=val B (a.take i)*val B b∧∀ n,i+b.length≤n→dg o n=0
theorem gl.zero (B:Nat)(a b:List Nat):gl B a b (List.replicate (a.length+b.length) 0) 0:=by
 refine⟨by simp,by simp[kV],fun n _=>?_⟩;rw[dg,zy,List.getElem?_replicate];split<;>rfl
theorem gl.step {B:Nat}{a b o0 o:List Nat}{i c:Nat}(h:gl B a b o0 i)(k:i<a.length)(d:ui B o0 b (dg a i) i o b.length c):gl B a b (o.set (i+b.length) c) (i+1):=by
 obtain⟨f,g,e⟩:=h;have j:=d.1;refine⟨by simpa[j]using f,?_,fun n l=>?_⟩
 · rw[d.fin rfl (by omega) (e _ (zG _)),g,qG,qb,zd]
 · rw[getD_set_ne (by omega),d.2.2 n (by omega),e n (by omega)]
theorem gl.fin {B:Nat}{a b o:List Nat}(h:gl B a b o a.length):val B o=val B a*val B b:=by
 have:=h.2.1;rwa [jB]at this
theorem xF {B:Nat}{o:List Nat}(h:∀ x∈o,x<B){k s:Nat}(b:s<B):∀ x∈o.set k s,x<B:=by
 intro x a;rcases List.mem_or_eq_of_mem_set a with a|rfl
 · exact h x a
 · exact b
theorem yh {B x y u c:Nat}(d:x<B)(e:y<B)(b:u<B)(a:c<B):x*y+u+c<B*B:=by
 obtain⟨n,rfl⟩:∃ n,B=n+1:=⟨B-1,by omega⟩
 have:x*y≤n*n:=xn (by omega) (by omega);simp only[qb,zl,jM,kH];omega
theorem jW {B:Nat}(b:0<B){l:List Nat}(h:∀ x∈l,x<B)(i:Nat):dg l i<B:=by
 rcases qH i l.length with a|a
 · rw[uH a];exact h _ (wL a)
 · rw[dg,zy,jH a];exact b
end Go.Proofs.YtaemogcomplhiaaGreatDoor
namespace Go.Proofs
open Go.Shelf
def Tryz.lays134_ren:Go.Shelf.Ren:=⟨fun|134=>121|129=>89|n=>n,fun|53=>65|3=>3|4=>4|46=>81|5=>5|9=>9|n=>n,fun|n=>n⟩
theorem Tryz.lays134:Go.Proofs.Lays.n134 Tryz.prog Tryz.lays134_ren:={
 mixed:=by kernel_rfl
 f129:=Tryz.func89.trans (congrArg some (by kernel_rfl))
 f134:=Tryz.func121.trans (congrArg some (by kernel_rfl))
 t3:=Tryz.underlying3
 a3:=Tryz.isAgg3
 z3:=Tryz.sizeOf3
 v3:=Tryz.zeroValue3
 t4:=Tryz.underlying4
 a4:=Tryz.isAgg4
 z4:=Tryz.sizeOf4
 v4:=Tryz.zeroValue4
 t5:=Tryz.underlying5
 a5:=Tryz.isAgg5
 z5:=Tryz.sizeOf5
 v5:=Tryz.zeroValue5
 t9:=Tryz.underlying9
 a9:=Tryz.isAgg9
 z9:=Tryz.sizeOf9
 v9:=Tryz.zeroValue9
 t46:=Tryz.underlying81
 a46:=Tryz.isAgg81
 z46:=Tryz.sizeOf81
 v46:=Tryz.zeroValue81
 t53:=Tryz.underlying65
 a53:=Tryz.isAgg65
 z53:=Tryz.sizeOf65
 v53:=Tryz.zeroValue65 }
theorem Tryz.bits_LeadingZeros64 (x:Int)(w:World)(a:0≤x)(b:x≤18446744073709551615) :
 Calls Tryz.prog 121 #[.int .u64 x] w fun e w'=>e=.returned (.int .i64 (64-(Lib.bitLen x.toNat:Int)))∧w'=w:=Any.bits_LeadingZeros64 Tryz.lays134 x w a b
def Tryz.lays129_ren:Go.Shelf.Ren:=⟨fun|129=>89|n=>n,fun|53=>65|3=>3|4=>4|46=>81|5=>5|9=>9|n=>n,fun|n=>n⟩
theorem Tryz.lays129:Go.Proofs.Lays.n129 Tryz.prog Tryz.lays129_ren:={
 mixed:=by kernel_rfl
 f129:=Tryz.func89.trans (congrArg some (by kernel_rfl))
 t3:=Tryz.underlying3
 a3:=Tryz.isAgg3
 z3:=Tryz.sizeOf3
 v3:=Tryz.zeroValue3
 t4:=Tryz.underlying4
 a4:=Tryz.isAgg4
 z4:=Tryz.sizeOf4
 v4:=Tryz.zeroValue4
 t5:=Tryz.underlying5
 a5:=Tryz.isAgg5
 z5:=Tryz.sizeOf5
 v5:=Tryz.zeroValue5
 t9:=Tryz.underlying9
 a9:=Tryz.isAgg9
 z9:=Tryz.sizeOf9
 v9:=Tryz.zeroValue9
 t46:=Tryz.underlying81
 a46:=Tryz.isAgg81
 z46:=Tryz.sizeOf81
 v46:=Tryz.zeroValue81
 t53:=Tryz.underlying65
 a53:=Tryz.isAgg65
 z53:=Tryz.sizeOf65
 v53:=Tryz.zeroValue65 }
theorem Tryz.bits_Len64 (x:Int)(w:World)(a:0≤x)(b:x≤18446744073709551615) :
 Calls Tryz.prog 89 #[.int .u64 x] w fun e w'=>e=.returned (.int .i64 (Lib.bitLen x.toNat))∧w'=w:=Any.bits_Len64 Tryz.lays129 x w a b
def Tryz.lays264_ren:Go.Shelf.Ren:=⟨fun|264=>98|n=>n,fun|53=>65|46=>81|n=>n,fun|n=>n⟩
theorem Tryz.lays264:Go.Proofs.Lays.n264 Tryz.prog Tryz.lays264_ren:={
 mixed:=by kernel_rfl
 f264:=Tryz.func98.trans (congrArg some (by kernel_rfl))
 t46:=Tryz.underlying81
 a46:=Tryz.isAgg81
 z46:=Tryz.sizeOf81
 v46:=Tryz.zeroValue81
 t53:=Tryz.underlying65
 a53:=Tryz.isAgg65
 z53:=Tryz.sizeOf65
 v53:=Tryz.zeroValue65 }
open Go.RowKit Go.Lib in
theorem Tryz.bits_Mul64 (x y:Nat)(a:x<18446744073709551616)(b:y<18446744073709551616)(w:World) :
 Calls Tryz.prog 98 #[.int .u64 x,.int .u64 y] w fun e w'=>e=.returned (.tuple #[.int .u64 ((x*y/18446744073709551616:Nat):Int),.int .u64 ((x*y%18446744073709551616:Nat):Int)])∧w'=w:=Any.bits_Mul64 Tryz.lays264 x y a b w
theorem Tryz.add64_run (x y c:Nat)(a:c≤1)(w:World) :
 (callFunc 90 #[.int .u64 x, .int .u64 y, .int .u64 c]).run Tryz.prog w =
  .ok (.value (.tuple #[.int .u64 (((x+y+c)%18446744073709551616:Nat):Int),.int .u64 (((x+y+c)/18446744073709551616:Nat):Int)])) w:=by
 rw[run_callFunc_extern Tryz.func90 (by kernel_rfl) (by kernel_rfl) (by kernel_rfl) (e:=add64Entry) (by kernel_rfl),run_add64 x y c (by omega) (by omega) (by omega) (by omega)]
 simp only[Result.andThen]
 congr 5<;>omega
theorem Tryz.sub64_run (x y b:Nat)(a:b≤1)(w:World) :
 (callFunc 93 #[.int .u64 x, .int .u64 y, .int .u64 b]).run Tryz.prog w =
  .ok (.value (.tuple #[.int .u64 (((x+18446744073709551616-y-b)%18446744073709551616:Nat):Int),.int .u64 ((if x<y+b then 1 else 0:Nat):Int)])) w:=by
 rw[run_callFunc_extern Tryz.func93 (by kernel_rfl) (by kernel_rfl) (by kernel_rfl) (e:=sub64Entry) (by kernel_rfl),run_sub64 x y b a]
 rfl
end Go.Proofs
namespace Go.Proofs.YtaemogcomplhiaaGreatDoor
open Go.RowKit
theorem eqB {a b:Int}(h:a≠b):(a==b)=false:=by simpa using h
theorem neB {a b:Int}(h:a≠b):(a != b)=true:=by simpa using h
theorem cA (w:World)(n m:Nat):(w.drewN n).drewN m=w.drewN (n+m):=by simp[World.drewN,kN]
theorem sD (w:World)(n m k:Nat):((w.drewN n).drewN m).drewN k=w.drewN (n+m+k):=by simp[World.drewN,kN]
theorem oU (a:Addr)(n:Nat):a.add (n+1)=⟨a.block,a.off+(n+1),none⟩:=by simp[Addr.add]
theorem dr1 (w:World)(n:Nat):∃ k,w.drewN n=w.drewN k:=⟨n,rfl⟩
theorem dr2 (w:World)(n m:Nat):∃ k,(w.drewN n).drewN m=w.drewN k:=⟨_,cA _ _ _⟩
theorem dr3 (w:World)(n m k:Nat):∃ d,((w.drewN n).drewN m).drewN k=w.drewN d:=⟨_,sD _ _ _ _⟩
theorem yW (g j:Nat):(⟨g,0,none⟩:Addr).add j=⟨g,j,none⟩:=by
 rcases za j with h|h
 · subst h;rfl
 · simp[Addr.add,Nat.pos_iff_ne_zero.1 h]
def nts (l:List Nat):List Value:=l.map fun x:Nat=>.int .u64 (x:Int)
theorem qk (l:List Nat):(nts l).length=l.length:=by simp[nts]
theorem gA {l:List Nat}{i:Nat}(h:i<l.length):(nts l)[i]?=some (.int .u64 (dg l i:Int)):=by
 rw[uH h];simp[nts,qL h]
theorem aA (l:List Nat)(n:Nat):(nts l).take n=nts (l.take n):=by simp[nts]
theorem vB (l:List Nat):∀ u∈nts l,u.oneCell'=true:=by
 intro u a;obtain⟨x,_,rfl⟩:=List.mem_map.1 a;rfl
def Lim (l:List Nat):Prop:=(∀ x∈l,x<18446744073709551616)∧l.length≤1000000
def RN (w:World) (P:Nat→Prop) (A:Option Addr) (c:Nat) (l:List Nat):Prop:=RS w P 1 A l.length c (nts l)∧Lim l
def Blk (w:World) (g:Nat) (l:List Nat):Prop:=w.heap[g]?=some (.cells (nts l).toArray 65 (0,0))
def OB (w:World) (base:Nat) (A:Option Addr) (c:Nat) (l:List Nat):Prop :=
 Lim l∧l.length≤c∧c≤maxLen∧(0<l.length→∃ g a,A=some ⟨g,0,none⟩∧base≤g∧w.heap[g]?=some (.cells a 65 (0,0))∧∀(j:Nat) u,(nts l)[j]?=some u→a[j]?=some u)
section
variable {w w':World} {P P':Nat→Prop} {A:Option Addr} {c g base:Nat} {l:List Nat}
theorem Lim.nil_:Lim []:=⟨by simp,by simp⟩
theorem Lim.take (h:Lim l)(n:Nat):Lim (l.take n):=⟨fun x a=>h.1 x (qN a),by rw[zh];have:=h.2;omega⟩
theorem Lim.set (h:Lim l)(i x:Nat)(a:x<18446744073709551616):Lim (l.set i x):=⟨xF h.1 a,by simpa using h.2⟩
theorem Lim.dgLt (h:Lim l)(i:Nat):dg l i<18446744073709551616:=jW (by omega) h.1 i
theorem Lim.digs {B v:Nat}(a:2≤B)(b:B≤18446744073709551616)(c:v<B^1000000):Lim (digs B v):=⟨fun x d=>zH (kL a v x d) b,qR a c⟩
theorem Lim.trim (h:Lim l):∃ n,n≤l.length∧Go.Proofs.YtaemogcomplhiaaGreatDoor.digs 18446744073709551616 (val 18446744073709551616 l)=l.take n:=by
 refine⟨(Go.Proofs.YtaemogcomplhiaaGreatDoor.digs 18446744073709551616 (val 18446744073709551616 l)).length,jD (by omega) h.1,?_⟩;obtain⟨n,c,a,d⟩:∃ n,n≤l.length∧(∀ x∈l.drop n,x=0)∧(0<n→dg l (n-1)≠0):=by
   have:∀ k,k≤l.length→(∀ x∈l.drop k,x=0)→∃ n,n≤l.length∧(∀ x∈l.drop n,x=0)∧(0<n→dg l (n-1)≠0):=by
     intro k;induction k with
     | zero=>intro _ a;exact⟨0,by omega,a,by omega⟩
     | succ k ih =>
       intro f a;by_cases h:dg l k=0
       · refine ih (by omega) fun x b=>?_;rw[qX (by omega:k<l.length)]at b;rcases List.mem_cons.1 b with rfl|b
         · rwa [uH (by omega)]at h
         · exact a x b
       · exact⟨k+1,f,a,fun _=>by simpa using h⟩
   exact this l.length (zG _) (by simp)
 have e:=dW (B:=18446744073709551616) (by omega) h.1 c a d;rw[←e,zh,qU c]
theorem RN.keep (h:RN w P A c l)(a:∀ p:Addr,P p.block→w'.cell? p=w.cell? p):RN w' P A c l:=⟨h.1.keep a,h.2⟩
theorem RN.mono (h:RN w P A c l)(a:∀ b,P b→P' b):RN w P' A c l:=⟨h.1.mono a,h.2⟩
theorem RN.below {B:Nat}(h:RN w P A c l)(d:Below B w w')(a:∀ b,P b→b<B):RN w' P A c l:=⟨h.1.below d a,h.2⟩
theorem RN.drewN (h:RN w P A c l)(n:Nat):RN (w.drewN n) P A c l:=h
theorem RN.cap (h:RN w P A c l):l.length≤c∧c≤9223372036854775807∧l.length≤1000000:=⟨h.1.1,h.1.2.1,h.2.2⟩
theorem RN.nil_ (w:World)(P:Nat→Prop):RN w P none 0 []:=⟨RS.nil_ _ _ _,Lim.nil_⟩
theorem RN.take (h:RN w P A c l)(n:Nat):RN w P A c (l.take n):=by
 by_cases hn:n≤l.length
 · refine⟨?_,h.2.take n⟩;have:=h.1.pre hn;rw[jM,aA]at this;rwa [zh,qU hn]
 · rw[zu (by omega)];exact h
theorem RN.at_ (h:RN w P A c l){i:Nat}(e:i<l.length):∃ ad,A=some ad∧P ad.block∧w.cell? (ad.add i)=some (.int .u64 (dg l i:Int)):=by
 obtain⟨⟨f,g,j,a⟩,k⟩:=h;obtain⟨ad,rfl,b,d⟩:=a (by omega);exact⟨ad,rfl,b,d _ _ (gA e)⟩
theorem RN.cells {ad:Addr}(h:RN w P (some ad) c l):∀ i,i<l.length→w.cell? (ad.add i)=some (.int .u64 (dg l i:Int)):=by
 intro i b;obtain⟨d,e,_,a⟩:=h.at_ b;cases e;exact a
theorem RN.lt (h:RN w P A c l)(i:Nat):(dg l i:Int)<18446744073709551616:=by have:=h.2.dgLt i;omega
theorem Blk.cell (h:Blk w g l){i:Nat}(a:i<l.length):w.cell? ⟨g,i,none⟩=some (.int .u64 (dg l i:Int)):=by
 rw[zP h i,zQ,gA a]
theorem Blk.free (h:Blk w g l)(i:Nat):w.frozen? ⟨g,i,none⟩=false:=qz h i
theorem Blk.lt (h:Blk w g l):g<w.heap.size:=qd h
theorem Blk.set (h:Blk w g l)(i:Nat)(x:Nat):Blk (w.setCell ⟨g,i,none⟩ (.int .u64 (x:Int))) g (l.set i x):=by
 unfold Blk at *;simp[World.setCell,vI,h,nts]
theorem Blk.below {B:Nat}(h:Blk w g l)(a:Below B w w')(b:g<B):Blk w' g l:=(a.block g b).trans h
theorem Blk.drewN (h:Blk w g l)(n:Nat):Blk (w.drewN n) g l:=h
theorem Blk.other (h:Blk w g l){p:Addr}(a:g≠p.block)(v:Value):Blk (w.setCell p v) g l:=(ji w p v g a).trans h
theorem Blk.alloc (h:Blk w g l)(o:Obj):Blk (w.alloc o) g l:=(kJ w o g (qd h)).trans h
theorem Blk.made (w:World)(n:Nat):Blk (w.alloc (.cells (madeCells #[.int .u64 0] n) 65)) w.heap.size (List.replicate n 0):=by
 unfold Blk;rw[zS];congr 1;congr 1;apply Array.ext_getElem?;intro i;by_cases hi:i<n
 · have a:i<(madeCells #[Value.int .u64 0] n).size:=by rw[size_madeCells];simpa using hi
   rw[qJ a];simp[madeCells,nts,hi,Nat.mod_one]
 · rw[yP (by rw[size_madeCells];omega),yP (by simp[nts];omega)]
theorem OB.rn (h:OB w base A c l):RN w (In base w.heap.size) A c l:=by
 obtain⟨b,d,e,f⟩:=h;refine⟨⟨d,e,by simp[nts],fun m=>?_⟩,b⟩;obtain⟨g,o,rfl,k,a,i⟩:=f m;refine⟨_,rfl,⟨k,qd a⟩,fun j u n=>?_⟩;have:=zP a j;rw[i j u n]at this;rw[yW];exact this
theorem OB.nil_ (w:World)(base:Nat):OB w base none 0 []:=⟨Lim.nil_,zG _,by unfold maxLen;omega,fun h=>absurd h (by simp)⟩
theorem OB.below {B:Nat}(h:OB w base A c l)(k:Below B w w')(j:w.heap.size≤B):OB w' base A c l:=by
 obtain⟨d,e,f,i⟩:=h;refine⟨d,e,f,fun o=>?_⟩;obtain⟨g,b,rfl,n,a,m⟩:=i o;exact⟨g,b,rfl,n,(k.block g (zH (qd a) j)).trans a,m⟩
theorem OB.drewN (h:OB w base A c l)(n:Nat):OB (w.drewN n) base A c l:=h
theorem OB.mono {base':Nat}(h:OB w base A c l)(n:base'≤base):OB w base' A c l:=by
 obtain⟨b,d,f,i⟩:=h;refine⟨b,d,f,fun m=>?_⟩;obtain⟨g,a,e,o,k,j⟩:=i m;exact⟨g,a,e,by omega,k,j⟩
theorem OB.cap (h:OB w base A c l):l.length≤c∧c≤9223372036854775807∧l.length≤1000000:=⟨h.2.1,h.2.2.1,h.1.2⟩
theorem OB.take (h:OB w base A c l)(n:Nat):OB w base A c (l.take n):=by
 obtain⟨d,q,f,i⟩:=h;refine⟨d.take n,by rw[zh];omega,f,fun p=>?_⟩;obtain⟨g,b,e,m,o,k⟩:=i (by rw[zh]at p;omega);refine⟨g,b,e,m,o,fun j u a=>k j u ?_⟩;rw[←aA,List.getElem?_take]at a;split at a
 · exact a
 · cases a
theorem OB.of_blk (h:Blk w g l)(d:base≤g)(e:Lim l){c:Nat}(a:l.length≤c)(b:c≤maxLen):OB w base (some ⟨g,0,none⟩) c l :=
 ⟨e,a,b,fun _=>⟨g,_,rfl,d,h,fun j u f=>by rw[zQ];exact f⟩⟩
theorem OB.of_own (h:w.ownsRow base 65 1 (.slice A l.length c) l.length (nts l))(o:Lim l):OB w base A c l:=by
 obtain⟨p,⟨a,d⟩|⟨g,cap,e,a,m,n,f,i,q,k⟩⟩:=h
 · injection a with a e3 e4
   have:l=[]:=qV d;subst a e4 this;exact OB.nil_ w base
 · injection a with a d e3
   subst a e3;refine⟨o,f,i,fun _=>⟨g,e,rfl,m,n,fun j u b=>?_⟩⟩;rw[←k,List.getElem?_take]at b;split at b
   · rwa [Array.getElem?_toList]at b
   · cases b
end
theorem kU:(Tryz.prog.info? 65).map (fun i=>(i.zero,i.size,i.bytes))=some (some (.int .u64 0),1,8):=by kernel_rfl
end Go.Proofs.YtaemogcomplhiaaGreatDoor
namespace Go.Proofs.YtaemogcomplhiaaGreatDoor
theorem kq:type_of% @OB.of_blk:=@OB.of_blk
theorem wD:type_of% @Blk.made:=@Blk.made
end Go.Proofs.YtaemogcomplhiaaGreatDoor
namespace Go.Proofs.YtaemogcomplhiaaGreatDoor
open Go.RowKit
def uj (l:List Nat) (k:Nat):Prop:=k≤l.length∧∀ x∈l.drop k,x=0
theorem uj.zero (l:List Nat):uj l l.length:=⟨zG _,by simp⟩
theorem uj.step {l:List Nat}{k:Nat}(h:uj l (k+1))(b:dg l k=0):uj l k:=by
 obtain⟨d,c⟩:=h;refine⟨by omega,fun x a=>?_⟩;rw[qX (by omega:k<l.length)]at a;rcases List.mem_cons.1 a with rfl|a
 · rwa [uH (by omega)]at b
 · exact c x a
theorem uj.fin {B:Nat}(b:2≤B){l:List Nat}(c:∀ x∈l,x<B){k:Nat}(h:uj l k)(a:0<k→dg l (k-1)≠0):l.take k=digs B (val B l) :=
 dW b c h.1 h.2 a
theorem uj.len {B:Nat}(b:2≤B){l:List Nat}(c:∀ x∈l,x<B){k:Nat}(h:uj l k)(a:0<k→dg l (k-1)≠0):(digs B (val B l)).length=k:=by
 rw[←h.fin b c a,zh,qU h.1]
theorem jZ (P:Nat→Prop)(A:Option Addr)(c:Nat)(l:List Nat)(w:World)(h:RN w P A c l) :
 Calls Tryz.prog 85 #[.slice A l.length c] w fun e w'=>e=.returned (.slice A (digs 18446744073709551616 (val 18446744073709551616 l)).length c)∧w=w':=by
 obtain⟨j,m,o⟩:=h.cap
 go_enter Tryz.func85,Tryz.ntmps85
 go_wp2
 go_loop [3] (fun n=>∃ k:Nat,uj l k∧n=.int .i64 k) (fun n=>(intOf n).toNat)
 case atStart=>exact⟨l.length,uj.zero l,rfl⟩
 case round =>
  obtain⟨k,a,rfl⟩:=hrel;rcases k with _|k
  · have b:=zF (a.len (B:=18446744073709551616) (by omega) h.2.1 (by omega));go_wp2;go_ret;rw[b.out];exact⟨rfl,rfl⟩
  · obtain⟨ad,rfl,_,d⟩:=h.at_ (i:=k) (by have:=a.1;omega);have p:=a.1;by_cases h0:dg l k=0
    · rw[h0]at d;have f:=a.step h0;clear a h0;go_wp2;go_round;case rel=>exact⟨k,f,by go_num⟩
      case measure=>simp[intOf]
    · have b:=zF (a.len (B:=18446744073709551616) (by omega) h.2.1 (fun _=>h0));have g:(((dg l k:Nat):Int)==0)=false:=eqB (by omega);clear h0;go_wp2;go_ret;rw[b.out];exact⟨rfl,rfl⟩
theorem RN.trim {w:World}{P:Nat→Prop}{A:Option Addr}{c:Nat}{l:List Nat}(h:RN w P A c l):RN w P A c (digs 18446744073709551616 (val 18446744073709551616 l)):=by
 obtain⟨n,_,e⟩:=h.2.trim;rw[e];exact h.take n
theorem OB.trim {w:World}{base:Nat}{A:Option Addr}{c:Nat}{l:List Nat}(h:OB w base A c l):OB w base A c (digs 18446744073709551616 (val 18446744073709551616 l)):=by
 obtain⟨n,_,e⟩:=h.1.trim;rw[e];exact h.take n
def Dig (l:List Nat):Prop:=∀ x∈l,x<4294967296
theorem Dig.cut {l:List Nat}(h:Dig l):∃ n,n≤l.length∧l.take n=digs 4294967296 (val 4294967296 l):=by
 have:∀ k,k≤l.length→(∀ x∈l.drop k,x=0)→∃ n,n≤l.length∧(∀ x∈l.drop n,x=0)∧(0<n→l.getD (n-1) 0≠0):=by
   intro k;induction k with
   | zero=>intro _ a;exact⟨0,by omega,a,by omega⟩
   | succ k ih =>
     intro e a;by_cases h:l.getD k 0=0
     · refine ih (by omega) fun x b=>?_;rw[qX (by omega:k<l.length)]at b;rcases List.mem_cons.1 b with rfl|b
       · rwa [show l.getD k 0=l[k]from uH (by omega)]at h
       · exact a x b
     · exact⟨k+1,e,a,fun _=>by simpa using h⟩
 obtain⟨n,c,a,d⟩:=this l.length (zG _) (by simp);exact⟨n,c,dW (by omega) h c a d⟩
theorem RS.recap {w:World}{P:Nat→Prop}{size:Nat}{A:Option Addr}{n c c':Nat}{cs:List Value}(h:RS w P size A n c cs)(a:n≤c')(b:c'≤maxLen):RS w P size A n c' cs:=⟨a,b,h.2.2⟩
theorem RN.trim32 {w:World}{P:Nat→Prop}{A:Option Addr}{c:Nat}{l:List Nat}(h:RN w P A c l)(a:Dig l):RN w P A (digs 4294967296 (val 4294967296 l)).length (digs 4294967296 (val 4294967296 l)):=by
 obtain⟨n,_,e⟩:=a.cut;rw[←e];have:=h.take n;exact⟨this.1.recap (zG _) (by have:=this.cap;unfold maxLen;omega),this.2⟩
theorem RN.recap {w:World}{P:Nat→Prop}{A:Option Addr}{c c':Nat}{l:List Nat}(h:RN w P A c l)(a:l.length≤c')(b:c'≤maxLen):RN w P A c' l:=⟨h.1.recap a b,h.2⟩
theorem kW (P:Nat→Prop)(A:Option Addr)(c:Nat)(l:List Nat)(w:World)(h:RN w P A c l)(d:Dig l) :
 Calls Tryz.prog 37 #[.slice A l.length c] w fun e w'=>e=.returned (.slice A (digs 4294967296 (val 4294967296 l)).length (digs 4294967296 (val 4294967296 l)).length)∧w=w':=by
 obtain⟨m,o,p⟩:=h.cap
 go_enter Tryz.func37,Tryz.ntmps37
 go_wp2
 go_loop [3] (fun n=>∃ k:Nat,uj l k∧n=.int .i64 k) (fun n=>(intOf n).toNat)
 case atStart=>exact⟨l.length,uj.zero l,rfl⟩
 case round =>
  obtain⟨k,a,rfl⟩:=hrel;rcases k with _|k
  · have b:=zF (a.len (B:=4294967296) (by omega) d (by omega));go_wp2;go_ret;rw[b.out];exact⟨rfl,rfl⟩
  · obtain⟨ad,rfl,_,f⟩:=h.at_ (i:=k) (by have:=a.1;omega);have q:=a.1;by_cases h0:dg l k=0
    · rw[h0]at f;have g:=a.step h0;clear a h0;go_wp2;go_round;case rel=>exact⟨k,g,by go_num⟩
      case measure=>simp[intOf]
    · have b:=zF (a.len (B:=4294967296) (by omega) d (fun _=>h0));have j:(((dg l k:Nat):Int)==0)=false:=eqB (by omega);clear h0;go_wp2;go_ret;rw[b.out];exact⟨rfl,rfl⟩
theorem dC (P:Nat→Prop)(A:Option Addr)(c:Nat)(l:List Nat)(w:World)(h:RN w P A c l) :
 Calls Tryz.prog 94 #[.slice A l.length c] w fun e w'=>∃ A' c',e=.returned (.slice A' (digs 18446744073709551616 (val 18446744073709551616 l)).length c')∧OB w' w.heap.size A' c' (digs 18446744073709551616 (val 18446744073709551616 l))∧Below w.heap.size w w':=by
 obtain⟨s,j,p,q,r⟩:=yz kU
 have a:=h.trim
 obtain⟨n,_,e⟩:=h.2.trim
 have f:=a.cap
 obtain⟨d,g⟩:=eV (digs 18446744073709551616 (val 18446744073709551616 l))
 have b:=zF (jZ P A c l w h)
 rw[g]at a f b ⊢
 obtain⟨u,v,x⟩:=f
 clear g e
 go_enter Tryz.func94,Tryz.ntmps94
 go_wp2_with fail
 refine b.out.mono ?_
 rintro e t ⟨rfl,rfl⟩
 go_wp2_with (at_builtin;refine jd _ rfl _ _ 24 rfl w.heap.size 65 s (.int .u64 0) 1 8 Tryz.underlying24 j p q r rfl (by decide) _ 0 [] rfl (World.ownsRow_nil _ _ _ _) P A d.length c (nts d) rfl a.1 (vB d) d.length (by omega) (by unfold maxLen;omega) (by omega) (zG _) ?_)
 intro A' c' t o i y
 go_wp2
 go_ret
 exact⟨A',c',rfl,OB.of_own (by simpa using o) a.2,(zo _ w).grown i (zG _) (by intro k m;simp[Value.ownBlock]at m)⟩
theorem yn (P:Nat→Prop)(A:Option Addr)(c:Nat)(l:List Nat)(w:World)(h:RN w P A c l) :
 Calls Tryz.prog 100 #[.slice A l.length c] w fun e w'=>∃ A' c',e=.returned (.slice A' (digs 18446744073709551616 (val 18446744073709551616 l)).length c')∧OB w' w.heap.size A' c' (digs 18446744073709551616 (val 18446744073709551616 l))∧Below w.heap.size w w':=by
 go_enter Tryz.func100,Tryz.ntmps100
 go_wp2_with fail
 refine(dC P A c l w h).mono ?_
 rintro e d ⟨A',c',rfl,b,a⟩
 go_wp2
 go_ret
 exact⟨A',c',rfl,b,a⟩
theorem fP (x:Nat)(w:World)(h:x<18446744073709551616) :
 Calls Tryz.prog 67 #[.int .u64 (x:Int)] w fun e w'=>∃ A' c',e=.returned (.slice A' (digs 18446744073709551616 x).length c')∧OB w' w.heap.size A' c' (digs 18446744073709551616 x)∧Below w.heap.size w w':=by
 have b:val 18446744073709551616 [x]=x:=by simp
 have a:=fun P A c w=>dC P A c [x] w
 rw[b]at a
 have d:=zF a
 clear a b
 go_enter Tryz.func67,Tryz.ntmps67
 go_wp2_with fail
 refine(d.out (In w.heap.size (w.heap.size+1)) _ _ _ ⟨RS.fresh #[.int .u64 (x:Int)] 65 1 1 rfl (by unfold maxLen;omega) ⟨zG _,by omega⟩,by simpa[Lim]using h⟩).mono ?_
 rintro e i ⟨A',c',rfl,g,f⟩
 go_wp2
 go_ret
 exact⟨A',c',rfl,g.mono (by simp),((zo _ w).alloc (zG _) _).trans (f.mono (by simp))⟩
def wK (x y:Nat):Int:=if x<y then -1 else if x=y then 0 else 1
theorem xt {x y:Nat}(h:x<y):wK x y=-1:=by simp[wK,h]
theorem dK {x y:Nat}(h:y<x):wK x y=1:=by simp[wK,show ¬ x<y by omega,show ¬ x=y by omega]
theorem bJ (x:Nat):wK x x=0:=by simp[wK]
theorem wA (x y:Nat):(x<y∧wK x y=-1)∨(x=y∧wK x y=0)∨(y<x∧wK x y=1):=by
 rcases Nat.lt_trichotomy x y with h|h|h
 · exact .inl ⟨h,xt h⟩
 · exact .inr (.inl ⟨h,by rw[h];exact bJ y⟩)
 · exact .inr (.inr ⟨h,dK h⟩)
def x9 (l m:List Nat) (k:Nat) (i:Int):Prop:=k≤l.length∧l.drop k=m.drop k∧((k=0∧i=-1)∨∃ j:Nat,k=j+1∧i=(j:Int))
theorem x9.start {l m:List Nat}(h:l.length=m.length):x9 l m l.length ((l.length:Int)-1):=by
 refine⟨zG _,by rw[List.drop_length,h,List.drop_length],?_⟩;rcases hl:l.length with _|n
 · exact .inl ⟨rfl,by simp⟩
 · exact .inr ⟨n,rfl,by omega⟩
theorem x9.step {l m:List Nat}{j:Nat}{i:Int}(h:x9 l m (j+1) i)(d:l.length=m.length)(a:dg l j=dg m j):x9 l m j ((j:Int)-1):=by
 obtain⟨c,b,_⟩:=h;refine⟨by omega,?_,?_⟩
 · rw[qX (by omega:j<l.length),qX (by omega:j<m.length),b];rw[dg,dg,ja (by omega),ja (by omega)]at a;rw[a]
 · rcases j with _|j
   · exact .inl ⟨rfl,by simp⟩
   · exact .inr ⟨j,rfl,by omega⟩
theorem x9.done {l m:List Nat}{i:Int}(h:x9 l m 0 i):l=m:=by simpa using h.2.1
theorem x9.lt {B:Nat}{l m:List Nat}{j:Nat}{i:Int}(h:x9 l m (j+1) i)(d:l.length=m.length)(b:∀ x∈l,x<B)(c:dg l j<dg m j):val B l<val B m:=by
 obtain⟨e,a,_⟩:=h;refine af b d (i:=j) (by omega) a ?_;rwa [dg,dg,ja (by omega),ja (by omega)]at c
theorem x9.gt {B:Nat}{l m:List Nat}{j:Nat}{i:Int}(h:x9 l m (j+1) i)(d:l.length=m.length)(b:∀ x∈m,x<B)(c:dg m j<dg l j):val B m<val B l:=by
 obtain⟨e,a,_⟩:=h;refine af b d.symm (i:=j) (by omega) a.symm ?_;rwa [dg,dg,ja (by omega),ja (by omega)]at c
theorem uo (P P':Nat→Prop)(A A':Option Addr)(c c':Nat)(x y:Nat)(w:World)(h:RN w P A c (digs 4294967296 x))(u:RN w P' A' c' (digs 4294967296 y)) :
 Calls Tryz.prog 38 #[.slice A (digs 4294967296 x).length c,.slice A' (digs 4294967296 y).length c'] w fun e w'=>e=.returned (.int .i64 (wK x y))∧∃ n,w'=w.drewN n:=by
 have D:=zi (B:=4294967296) (by omega) x
 have F:=zi (B:=4294967296) (by omega) y
 have I:=kL (B:=4294967296) (by omega) x
 have J:=kL (B:=4294967296) (by omega) y
 have r:=vk (B:=4294967296) (m:=x) (n:=y) (by omega)
 have p:=vk (B:=4294967296) (m:=y) (n:=x) (by omega)
 generalize digs 4294967296 x=l at *
 generalize digs 4294967296 y=m at *
 obtain⟨T,U,V⟩:=h.cap
 obtain⟨g1,R,S⟩:=u.cap
 have s:=zF D
 have t:=zF F
 clear D F
 by_cases hl:l.length=m.length
 · have C:=x9.start hl;have G:=zF hl;have N:((l.length:Int) !=(m.length:Int))=false:=by simp[hl]
   clear hl r p;have H:=zF C;clear C;go_enter Tryz.func38,Tryz.ntmps38;go_wp2;go_loopw [5] (fun i wr=>∃(k n:Nat) (z:Int),x9 l m k z∧i=.int .i64 z∧wr=w.drewN n) (fun i _=>(intOf i+1).toNat);case atStart=>exact⟨l.length,0,_,H.out,rfl,rfl⟩
   case round =>
    obtain⟨k,n,z,L,rfl,rfl⟩:=hrel;obtain⟨q,f,⟨rfl,rfl⟩|⟨j,rfl,rfl⟩⟩:=L
    · have v:l=m:=by simpa using f
      have E:x=y:=by rw[←s.out,←t.out,v]
      have b:=zF (show wK x y=0 by rw[E];exact bJ y);clear v E f;go_wp2;go_ret;rw[b.out];exact⟨rfl,n,rfl⟩
    · have o:=G.out;obtain⟨ad,rfl,_,Z⟩:=h.at_ (i:=j) (by omega);obtain⟨Q,rfl,_,O⟩:=u.at_ (i:=j) (by omega);have X:(j:Int)<(l.length:Int):=by omega
      have Y:(j:Int)<(m.length:Int):=by omega
      have g:x9 l m (j+1) (j:Int):=⟨q,f,.inr ⟨j,rfl,rfl⟩⟩
      rcases Nat.lt_trichotomy (dg l j) (dg m j)with a|a|a
      · have d:=g.lt o I a;rw[s.out,t.out]at d;have b:=zF (xt d);have K:decide (dg l j<dg m j)=true:=by simpa using a
        clear g q f o a d;go_wp2;go_quiet (fail);go_wp2;go_ret;rw[b.out];exact⟨rfl,by first|exact dr2 _ _ _|exact dr1 _ _⟩
      · have M:=g.step o a;rw[←a]at O;clear g q f o a;go_wp2;go_quiet (fail);go_wp2;go_quiet (fail);go_wp2;go_roundw;case rel=>exact⟨j,_,_,M,rfl,by first|rfl|exact sD _ _ _ _⟩
        case measure=>simp[intOf]
      · have d:=g.gt o J a;rw[s.out,t.out]at d;have b:=zF (dK d);have K:decide (dg l j<dg m j)=false:=by simp;omega
        have W:decide (dg m j<dg l j)=true:=by simpa using a
        clear g q f o a d;go_wp2;go_quiet (fail);go_wp2;go_quiet (fail);go_wp2;go_ret;rw[b.out];exact⟨rfl,by first|exact dr3 _ _ _ _|exact dr1 _ _⟩
 · have N:((l.length:Int) !=(m.length:Int))=true:=neB (by omega);rcases qH l.length m.length with a|a
   · have b:=zF (xt (r a));clear hl r p;go_enter Tryz.func38,Tryz.ntmps38;go_wp2;go_ret;rw[b.out];exact⟨rfl,0,rfl⟩
   · have b:=zF (dK (p (by omega)));clear hl r p;go_enter Tryz.func38,Tryz.ntmps38;go_wp2;go_ret;rw[b.out];exact⟨rfl,0,rfl⟩
theorem xO (P P':Nat→Prop)(A A':Option Addr)(c c':Nat)(a b:List Nat)(w:World)(h:RN w P A c a)(r:RN w P' A' c' b) :
 Calls Tryz.prog 58 #[.slice A a.length c,.slice A' b.length c'] w fun e w'=>e=.returned (.int .i64 (wK (val 18446744073709551616 a) (val 18446744073709551616 b)))∧∃ n,w'=w.drewN n:=by
 have E:=zF (jZ P A c a w h)
 have F:=zF (jZ P' A' c' b w r)
 replace h:=h.trim
 replace r:=r.trim
 generalize val 18446744073709551616 a=x at *
 generalize val 18446744073709551616 b=y at *
 have I:=zi (B:=18446744073709551616) (by omega) x
 have K:=zi (B:=18446744073709551616) (by omega) y
 have N:=kL (B:=18446744073709551616) (by omega) x
 have O:=kL (B:=18446744073709551616) (by omega) y
 have v:=vk (B:=18446744073709551616) (m:=x) (n:=y) (by omega)
 have t:=vk (B:=18446744073709551616) (m:=y) (n:=x) (by omega)
 generalize digs 18446744073709551616 x=l at *
 generalize digs 18446744073709551616 y=m at *
 obtain⟨Z,h2,h3⟩:=h.cap
 obtain⟨g1,X,Y⟩:=r.cap
 have C:=zF I
 have D:=zF K
 clear I K
 by_cases hl:l.length=m.length
 · have H:=x9.start hl;have L:=zF hl;have U:((l.length:Int) !=(m.length:Int))=false:=by simp[hl]
   clear hl v t;have M:=zF H;clear H;go_enter Tryz.func58,Tryz.ntmps58;go_wp2_with fail;refine E.out.mono ?_;rintro e s ⟨rfl,rfl⟩;go_wp2_with fail;refine F.out.mono ?_;rintro e s ⟨rfl,rfl⟩;go_wp2;go_loopw [5] (fun i wr=>∃(k n:Nat) (z:Int),x9 l m k z∧i=.int .i64 z∧wr=w.drewN n) (fun i _=>(intOf i+1).toNat);case atStart=>exact⟨l.length,0,_,M.out,rfl,rfl⟩
   case round =>
    obtain⟨k,n,z,S,rfl,rfl⟩:=hrel;obtain⟨u,o,⟨rfl,rfl⟩|⟨j,rfl,rfl⟩⟩:=S
    · have G:l=m:=by simpa using o
      have J:x=y:=by rw[←C.out,←D.out,G]
      have f:=zF (show wK x y=0 by rw[J];exact bJ y);clear G J o;go_wp2;go_ret;rw[f.out];exact⟨rfl,n,rfl⟩
    · have q:=L.out;obtain⟨ad,rfl,_,q1⟩:=h.at_ (i:=j) (by omega);obtain⟨W,rfl,_,V⟩:=r.at_ (i:=j) (by omega);have aa:(j:Int)<(l.length:Int):=by omega
      have ab:(j:Int)<(m.length:Int):=by omega
      have p:x9 l m (j+1) (j:Int):=⟨u,o,.inr ⟨j,rfl,rfl⟩⟩
      rcases Nat.lt_trichotomy (dg l j) (dg m j)with d|d|d
      · have g:=p.lt q N d;rw[C.out,D.out]at g;have f:=zF (xt g);have Q:(((dg l j:Nat):Int) !=((dg m j:Nat):Int))=true:=neB (by omega);have R:decide (dg l j<dg m j)=true:=by simpa using d
        clear p u o q d g;go_wp2;go_quiet (fail);go_wp2;go_quiet (fail);go_wp2;go_ret;rw[f.out];exact⟨rfl,by first|exact dr3 _ _ _ _|exact dr1 _ _⟩
      · have T:=p.step q d;rw[←d]at V;clear p u o q d;go_wp2;go_quiet (fail);go_wp2;go_roundw;case rel=>exact⟨j,_,_,T,rfl,by first|rfl|exact cA _ _ _⟩
        case measure=>simp[intOf]
      · have g:=p.gt q O d;rw[C.out,D.out]at g;have f:=zF (dK g);have Q:(((dg l j:Nat):Int) !=((dg m j:Nat):Int))=true:=neB (by omega);have R:decide (dg l j<dg m j)=false:=by simp;omega
        clear p u o q d g;go_wp2;go_quiet (fail);go_wp2;go_quiet (fail);go_wp2;go_ret;rw[f.out];exact⟨rfl,by first|exact dr3 _ _ _ _|exact dr1 _ _⟩
 · have U:((l.length:Int) !=(m.length:Int))=true:=neB (by omega);rcases qH l.length m.length with d|d
   · have f:=zF (xt (v d));clear hl v t;go_enter Tryz.func58,Tryz.ntmps58;go_wp2_with fail;refine E.out.mono ?_;rintro e s ⟨rfl,rfl⟩;go_wp2_with fail;refine F.out.mono ?_;rintro e s ⟨rfl,rfl⟩;go_wp2;go_ret;rw[f.out];exact⟨rfl,0,rfl⟩
   · have f:=zF (dK (t (by omega)));clear hl v t;go_enter Tryz.func58,Tryz.ntmps58;go_wp2_with fail;refine E.out.mono ?_;rintro e s ⟨rfl,rfl⟩;go_wp2_with fail;refine F.out.mono ?_;rintro e s ⟨rfl,rfl⟩;go_wp2;go_ret;rw[f.out];exact⟨rfl,0,rfl⟩
theorem kR (x y c s c':Nat)(a:c≤1)(d:s<18446744073709551616)(b:s+18446744073709551616*c'=x+y+c)(w:World) :
 (callFunc 90 #[.int .u64 (x:Int),.int .u64 (y:Int),.int .u64 (c:Int)]).run Tryz.prog w=.ok (.value (.tuple #[.int .u64 (s:Int),.int .u64 (c':Int)])) w:=by
 rw[Tryz.add64_run x y c a w,show(x+y+c)%18446744073709551616=s by omega,show(x+y+c)/18446744073709551616=c' by omega]
theorem uX (x y c s c':Nat)(a:c≤1)(f:x<18446744073709551616)(g:y<18446744073709551616)(e:s<18446744073709551616)(d:s+y+c=x+18446744073709551616*c')(b:c'≤1)(w:World) :
 (callFunc 93 #[.int .u64 (x:Int),.int .u64 (y:Int),.int .u64 (c:Int)]).run Tryz.prog w=.ok (.value (.tuple #[.int .u64 (s:Int),.int .u64 (c':Int)])) w:=by
 rw[Tryz.sub64_run x y c a w,show(x+18446744073709551616-y-c)%18446744073709551616=s by omega,show(if x<y+c then 1 else 0:Nat)=c' by split<;>omega]
theorem yr (x y c:Nat)(b:x<18446744073709551616)(d:y<18446744073709551616)(a:c≤1):∃ s c',s<18446744073709551616∧c'≤1∧s+18446744073709551616*c'=x+y+c :=
 ⟨(x+y+c)%18446744073709551616,(x+y+c)/18446744073709551616,by omega,by omega,by omega⟩
theorem ug (x y c:Nat)(b:x<18446744073709551616)(d:y<18446744073709551616)(a:c≤1):∃ s c',s<18446744073709551616∧c'≤1∧s+y+c=x+18446744073709551616*c':=by
 by_cases h:y+c≤x
 · exact⟨x-y-c,0,by omega,by omega,by omega⟩
 · exact⟨x+18446744073709551616-y-c,1,by omega,by omega,by omega⟩
theorem vJ {l:List Nat}{k:Nat}(h:l.length≤k):dg l k=0:=by
 rw[dg,zy,jH h];rfl
theorem mO (P P':Nat→Prop)(A A':Option Addr)(c c':Nat)(a b:List Nat)(w:World)(h:RN w P A c a)(d:RN w P' A' c' b)(hP:∀ b,P b→b<w.heap.size)(aa:∀ b,P' b→b<w.heap.size)(hl:a.length<100000)
 (H:val 18446744073709551616 b≤val 18446744073709551616 a) :
 Calls Tryz.prog 65 #[.slice A a.length c,.slice A' b.length c'] w fun e w'=>∃ O c1,e=.returned (.tuple #[.slice O (digs 18446744073709551616 (val 18446744073709551616 a-val 18446744073709551616 b)).length c1,.bool true]) ∧
  OB w' w.heap.size O c1 (digs 18446744073709551616 (val 18446744073709551616 a-val 18446744073709551616 b))∧Below w.heap.size w w':=by
 have ta:=zF (jZ P A c a w h)
 have tb:=zF (jZ P' A' c' b w d)
 have E:=xO P P' A A' c c' _ _ w h.trim d.trim
 rw[zi (by omega),zi (by omega)]at E
 have la:=jD (B:=18446744073709551616) (by omega) h.2.1
 have ac:=jO (B:=18446744073709551616) (by omega) H
 replace h:=h.trim
 replace d:=d.trim
 generalize val 18446744073709551616 a=x at *
 generalize val 18446744073709551616 b=y at *
 have L:=zi (B:=18446744073709551616) (by omega) x
 have M:=zi (B:=18446744073709551616) (by omega) y
 generalize digs 18446744073709551616 x=l at *
 generalize digs 18446744073709551616 y=m at *
 have af:l.length<100000:=by omega
 clear la hl
 have W:val 18446744073709551616 m≤val 18446744073709551616 l:=by rw[L,M];exact H
 have Hv:=zF (show val 18446744073709551616 l-val 18446744073709551616 m=x-y by rw[L,M])
 have ab:0≤wK x y:=by rcases wA x y with h|h|h<;>omega
 generalize wK x y=v at E ab
 have Tc:=zF E
 have Z:=zF W
 clear L M E H W
 obtain⟨h1,h2,h3⟩:=h.cap
 obtain⟨g1,g2,g3⟩:=d.cap
 go_enter Tryz.func65,Tryz.ntmps65
 go_wp2_with fail
 refine ta.out.mono ?_
 rintro e N ⟨rfl,rfl⟩
 go_wp2_with fail
 refine tb.out.mono ?_
 rintro e N ⟨rfl,rfl⟩
 go_wp2_with fail
 refine Tc.out.mono ?_
 rintro e N ⟨rfl,n,rfl⟩
 have ag:=qt (P:=Tryz.prog) 24 65 (.int .u64 0) 8 Tryz.underlying24 kU rfl .i64 .i64 l.length (by omega) (by omega)
 go_wp2
 go_loopw [7,23] (fun cv iv wr=>∃(k f:Nat) (o:List Nat),iv=.int .i64 (k:Int)∧cv=.int .u64 (f:Int)∧k≤l.length∧f≤1∧xZ 18446744073709551616 l m o k f∧Hid (o.length=l.length)∧Lim o∧Blk wr w.heap.size o∧Below w.heap.size w wr) (fun _ iv _=>l.length-(intOf iv).toNat)
 case atStart=>exact⟨0,0,List.replicate l.length 0,rfl,rfl,by omega,by omega,xZ.zero _ _ _ _,zF (by simp),⟨by simp,by simp;omega⟩,wD (w.drewN n) _,(qp (zo _ w) n).alloc (zG _) _⟩
 case round =>
  obtain⟨k,f,o,rfl,rfl,hk,G,t,r,j,g,i⟩:=hrel;by_cases hlt:k<l.length
  · obtain⟨ad,rfl,_,q1⟩:=(h.below i hP).at_ hlt;obtain⟨s,u,J,z,q⟩:=ug (dg l k) (dg m k) f (h.2.dgLt k) (d.2.dgLt k) G;have X:k<o.length:=by have:=r.out;omega
    have q3:=g.cell X;have q4:=g.free k;have R:=t.step X q;have V:=g.set k s;have T:=j.set k s J;have S:=i.setCell (p:=⟨w.heap.size,k,none⟩) (zG _) (.int .u64 (s:Int));have Q:Hid ((o.set k s).length=l.length):=zF (by rw[jr];exact r.out);have D:=h.2.dgLt k;have I:=d.2.dgLt k;by_cases hm:k<m.length
    · obtain⟨ae,rfl,_,q2⟩:=(d.below i aa).at_ hm;have Y:=fun w=>uX (dg l k) (dg m k) f s u G D I J q z w;clear q t g j i D I;go_wp2;go_roundw;case rel=>exact⟨k+1,u,o.set k s,by go_num,rfl,by omega,z,R,Q,T,V,S⟩
      case measure=>simp[intOf];omega
    · have Y:=fun w=>uX (dg l k) 0 f s u G D (by omega) J (by rw[vJ (by omega:m.length≤k)]at q;exact q) z w;simp only[qO]at Y;clear q t g j i D I;go_wp2;go_roundw;case rel=>exact⟨k+1,u,o.set k s,by go_num,rfl,by omega,z,R,Q,T,V,S⟩
      case measure=>simp[intOf];omega
  · obtain rfl:k=l.length:=by omega
    have C:=t.fin r.out j.1 rfl ac Z.out;rw[Hv.out]at C;have F:OB wr w.heap.size (some ⟨w.heap.size,0,none⟩) l.length o:=kq g (zG _) j (by have:=r.out;omega) (by unfold maxLen;omega);have K:=jZ _ _ _ _ _ F.rn;have U:=F.trim;rw[C,r.out]at K;rw[C]at U;have Ht:=zF K;clear t g j K C F;go_wp2_with fail;refine Ht.out.mono ?_;rintro e N ⟨rfl,rfl⟩;go_wp2;go_ret2;exact⟨_,_,rfl,U,i⟩
theorem yp (x y a lo:Nat)(f:x<18446744073709551616)(g:y<18446744073709551616)(h:lo<18446744073709551616)(d:lo+18446744073709551616*a=x*y)(w:World) :
 Calls Tryz.prog 98 #[.int .u64 (x:Int),.int .u64 (y:Int)] w fun e w'=>e=.returned (.tuple #[.int .u64 (a:Int),.int .u64 (lo:Int)])∧w=w' :=
 (Tryz.bits_Mul64 x y f g w).mono fun e w' ⟨b, c⟩ => by
  rw[←d,show(lo+18446744073709551616*a)/18446744073709551616=a by omega,show(lo+18446744073709551616*a)%18446744073709551616=lo by omega]at b;exact⟨b,c.symm⟩
theorem df (x y u c:Nat)(h:x<18446744073709551616)(i:y<18446744073709551616)(g:u<18446744073709551616)(f:c<18446744073709551616) :
   ∃ b lo d c1 e a : Nat, lo < 18446744073709551616 ∧ lo + 18446744073709551616 * b = x * y ∧ d < 18446744073709551616 ∧ d + 18446744073709551616 * c1 = lo + u + 0 ∧ e < 18446744073709551616 ∧ e + 18446744073709551616 * a = d + c + 0 ∧
     c1≤1∧a≤1∧b+c1<18446744073709551616∧b+c1+a<18446744073709551616∧e+18446744073709551616*(b+c1+a)=x*y+u+c:=by
 have j:=yh h i g f
 refine⟨x*y/18446744073709551616,x*y%18446744073709551616,(x*y%18446744073709551616+u)%18446744073709551616,(x*y%18446744073709551616+u)/18446744073709551616,
   ((x*y%18446744073709551616+u)%18446744073709551616+c)%18446744073709551616,((x*y%18446744073709551616+u)%18446744073709551616+c)/18446744073709551616,?_⟩
 generalize x*y=p at *;omega
theorem me (P P':Nat→Prop)(A A':Option Addr)(c c':Nat)(a b:List Nat)(w:World)(h:RN w P A c a)(n:RN w P' A' c' b)(hP:∀ b,P b→b<w.heap.size)(ac:∀ b,P' b→b<w.heap.size)(hl:a.length<100000)(ai:b.length<100000) :
 Calls Tryz.prog 119 #[.slice A a.length c,.slice A' b.length c'] w fun e w'=>∃ G c1,e=.returned (.slice G (digs 18446744073709551616 (val 18446744073709551616 a*val 18446744073709551616 b)).length c1) ∧
  OB w' w.heap.size G c1 (digs 18446744073709551616 (val 18446744073709551616 a*val 18446744073709551616 b))∧Below w.heap.size w w':=by
 have V:=zF (jZ P A c a w h)
 have W:=zF (jZ P' A' c' b w n)
 have la:=jD (B:=18446744073709551616) (by omega) h.2.1
 have lb:=jD (B:=18446744073709551616) (by omega) n.2.1
 replace h:=h.trim
 replace n:=n.trim
 generalize val 18446744073709551616 a=x at *
 generalize val 18446744073709551616 b=y at *
 have R:=zi (B:=18446744073709551616) (by omega) x
 have T:=zi (B:=18446744073709551616) (by omega) y
 generalize digs 18446744073709551616 x=l at *
 generalize digs 18446744073709551616 y=m at *
 have al:l.length<100000:=by omega
 have am:m.length<100000:=by omega
 clear la lb hl ai
 have Y:=zF R
 have Z:=zF T
 clear R T
 obtain⟨h1,h2,h3⟩:=h.cap
 obtain⟨g1,g2,g3⟩:=n.cap
 have aj:=qt (P:=Tryz.prog) 24 65 (.int .u64 0) 8 Tryz.underlying24 kU rfl .i64 .i64 (l.length+m.length) (by omega) (by omega)
 simp only[vj]at aj
 go_enter Tryz.func119,Tryz.ntmps119
 go_wp2_with fail
 refine V.out.mono ?_
 rintro e F ⟨rfl,rfl⟩
 go_wp2_with fail
 refine W.out.mono ?_
 rintro e F ⟨rfl,rfl⟩
 go_wp2
 clear V W
 go_loopw [26] (fun iv wr=>∃(i:Nat) (o:List Nat),iv=.int .i64 (i:Int)∧i≤l.length∧gl 18446744073709551616 l m o i∧Lim o∧Blk wr w.heap.size o∧Below w.heap.size w wr) (fun iv _=>l.length-(intOf iv).toNat)
 case atStart=>exact⟨0,List.replicate (l.length+m.length) 0,rfl,by omega,gl.zero _ _ _,⟨by simp,by simp;omega⟩,wD w _,(zo _ w).alloc (zG _) _⟩
 case round =>
  obtain⟨i,o0,rfl,hi,hR,k,d,g⟩:=hrel;obtain⟨wo,rfl⟩:=eW wr;by_cases hlt:i<l.length
  · obtain⟨ad,rfl,_,q1⟩:=(h.below g hP).at_ hlt;have S:=h.2.dgLt i;go_wp2;go_loopw [8,33] (fun cv jv wr=>∃(j f:Nat) (o:List Nat),jv=.int .i64 (j:Int)∧cv=.int .u64 (f:Int)∧j≤m.length∧f<18446744073709551616∧ui 18446744073709551616 o0 m (dg l i) i o j f∧Lim o∧Blk wr w.heap.size o∧Below w.heap.size w wr) (fun _ jv _=>m.length-(intOf jv).toNat);case atStart=>exact⟨0,0,o0,rfl,rfl,by omega,by omega,ui.zero _ _ _ _ _,k,d,g⟩
    case round =>
     clear q1 g d k;obtain⟨j,f,o,rfl,rfl,hj,N,q,k,d,g⟩:=hrel;have r:o.length=l.length+m.length:=q.1.trans hR.1;by_cases hjt:j<m.length
     · obtain⟨ae,rfl,_,q2⟩:=(n.below g ac).at_ hjt;have D:i+j<o.length:=by omega
       have q3:=d.cell D;have q4:=d.free (i+j);obtain⟨Q,lo,U,c1,s,L,b1,H,b3,I,J,K,b7,b8,b9,aa,O⟩:=df (dg l i) (dg m j) (dg o (i+j)) f S (n.2.dgLt j) (k.dgLt _) N;have ak:=zF (fun w=>yp (dg l i) (dg m j) Q lo S (n.2.dgLt j) b1 H w);have ag:=fun w=>kR lo (dg o (i+j)) 0 U c1 (by omega) b3 I w;have ah:=fun w=>kR U f 0 s L (by omega) J K w;simp only[qO]at ag ah;have ab:=q.step D O;have C:=d.set (i+j) s;have v:=k.set (i+j) s J;have u:=g.setCell (p:=⟨w.heap.size,i+j,none⟩) (zG _) (.int .u64 (s:Int));have k1:(i:Int)+(j:Int)<(l.length:Int)+(m.length:Int):=by omega
       clear O H I K q d k g D r;go_wp2_with fail;refine(ak.out _).mono ?_;rintro e F ⟨rfl,rfl⟩;go_wp2;go_roundw;case rel=>exact⟨j+1,Q+c1+L,o.set (i+j) s,by go_num,by go_num,by omega,aa,ab,v,C,u⟩
       case measure=>simp[intOf];omega
     · obtain rfl:j=m.length:=by omega
       have af:=hR.step hlt q;have q3:=d.cell (i:=i+m.length) (by omega);have q4:=d.free (i+m.length);have C:=d.set (i+m.length) f;have v:=k.set (i+m.length) f N;have u:=g.setCell (p:=⟨w.heap.size,i+m.length,none⟩) (zG _) (.int .u64 (f:Int));have k1:(i:Int)+(m.length:Int)<(l.length:Int)+(m.length:Int):=by omega
       clear q d k g r;go_wp2;go_roundw;case rel=>exact⟨i+1,o.set (i+m.length) f,by go_num,by omega,af,v,C,u⟩
       case measure=>simp[intOf];omega
  · obtain rfl:i=l.length:=by omega
    have t:=hR.fin;rw[Y.out,Z.out]at t;have r:=hR.1;have z:OB wo w.heap.size (some ⟨w.heap.size,0,none⟩) (l.length+m.length) o0:=kq d (zG _) k (by omega) (by unfold maxLen;omega);have E:=jZ _ _ _ _ _ z.rn;have M:=z.trim;rw[t,r]at E;rw[t]at M;have X:=zF E;clear d k E t z hR r;go_wp2_with fail;refine X.out.mono ?_;rintro e F ⟨rfl,rfl⟩;go_wp2;go_ret;exact⟨_,_,rfl,M,g⟩
theorem OB.recap {w:World}{base:Nat}{A:Option Addr}{c c':Nat}{l:List Nat}(h:OB w base A c l)(a:l.length≤c')(b:c'≤maxLen):OB w base A c' l:=⟨h.1,a,b,h.2.2.2⟩
theorem OB.trim32 {w:World}{base:Nat}{A:Option Addr}{c:Nat}{l:List Nat}(h:OB w base A c l)(a:Dig l):OB w base A (digs 4294967296 (val 4294967296 l)).length (digs 4294967296 (val 4294967296 l)):=by
 obtain⟨n,_,e⟩:=a.cut;rw[←e];have:=h.take n;exact this.recap (zG _) (by have:=this.cap;unfold maxLen;omega)
theorem Dig.set {l:List Nat}(h:Dig l)(i x:Nat)(a:x<4294967296):Dig (l.set i x):=xF h a
theorem Dig.dgLt {l:List Nat}(h:Dig l)(i:Nat):dg l i<4294967296:=jW (by omega) h i
theorem Dig.digs (x:Nat):Dig (Go.Proofs.YtaemogcomplhiaaGreatDoor.digs 4294967296 x):=kL (by omega) x
def gI (l o:List Nat) (i:Nat):Prop:=o.length=2*l.length∧Dig o∧val 4294967296 (o.take (2*i))=val 18446744073709551616 (l.take i)
theorem nt (i:Nat):4294967296 ^(2*i)=18446744073709551616^i:=by
 rw[vW]
theorem gI.zero (l:List Nat):gI l (List.replicate (2*l.length) 0) 0:=⟨by simp,by intro x a;simp at a;omega,by simp⟩
theorem gI.step {l o:List Nat}{i p q:Nat}(h:gI l o i)(g:i<l.length)(e:p<4294967296)(f:q<4294967296)(d:p+4294967296*q=dg l i):gI l ((o.set (2*i) p).set (2*i+1) q) (i+1):=by
 obtain⟨a,b,c⟩:=h;refine⟨by simpa using a,(b.set _ _ e).set _ _ f,?_⟩;rw[show 2*(i+1)=2*i+1+1 by omega,jf _ (by simp;omega),jf _ (by omega),c,qG,←d,zx,nt];simp only[zl,zd,kN]
theorem gI.fin {l o:List Nat}(h:gI l o l.length):val 4294967296 o=val 18446744073709551616 l:=by
 obtain⟨b,_,a⟩:=h;rwa [zu (by omega),jB]at a
theorem vY (P:Nat→Prop)(A:Option Addr)(c:Nat)(l:List Nat)(w:World)(h:RN w P A c l)(u:∀ b,P b→b<w.heap.size)(O:l.length<100000) :
 Calls Tryz.prog 13 #[.slice A l.length c] w fun e w'=>∃ s c1,e=.returned (.slice s (digs 4294967296 (val 18446744073709551616 l)).length c1) ∧
  OB w' w.heap.size s c1 (digs 4294967296 (val 18446744073709551616 l))∧Below w.heap.size w w':=by
 obtain⟨J,K,L⟩:=h.cap
 have F:=qt (P:=Tryz.prog) 28 65 (.int .u64 0) 8 Tryz.underlying28 kU rfl .i64 .i64 (2*l.length) (by omega) (by omega)
 simp only[vi,qO]at F
 go_enter Tryz.func13,Tryz.ntmps13
 go_wp2
 go_loopw [4] (fun iv wr=>∃(i:Nat) (o:List Nat),iv=.int .i64 (i:Int)∧i≤l.length∧gI l o i∧Lim o∧Blk wr w.heap.size o∧Below w.heap.size w wr) (fun iv _=>l.length-(intOf iv).toNat)
 case atStart=>exact⟨0,List.replicate (2*l.length) 0,rfl,by omega,gI.zero _,⟨by simp,by simp;omega⟩,wD w _,(zo _ w).alloc (zG _) _⟩
 case round =>
  obtain⟨i,o,rfl,N,a,g,d,f⟩:=hrel;by_cases hlt:i<l.length
  · obtain⟨ad,rfl,M,T⟩:=(h.below f u).at_ hlt;have G:=a.1;have Q:=h.2.dgLt i
    obtain⟨p,q,x,y,v,H,I⟩:∃ p q:Nat,p<4294967296∧q<4294967296∧p+4294967296*q=dg l i∧(dg l i:Int)%4294967296=(p:Int)∧(dg l i:Int)/4294967296=(q:Int) :=
     ⟨dg l i%4294967296,dg l i/4294967296,by omega,by omega,by omega,by omega,by omega⟩
    have U:=d.cell (i:=2*i) (by omega);have V:=d.free (2*i);have j:=d.set (2*i) p;have W:=j.cell (i:=2*i+1) (by simp;omega);have X:=j.free (2*i+1);have E:=j.set (2*i+1) q;have D:=(g.set (2*i) p (by omega)).set (2*i+1) q (by omega);have k:=f.setCell (p:=⟨w.heap.size,2*i,none⟩) (zG _) (.int .u64 (p:Int));have Y:=((h.below k u).cells i hlt)
    have B:=k.setCell (p:=⟨w.heap.size,2*i+1,none⟩) (zG _) (.int .u64 (q:Int));have C:=a.step hlt x y v;have R:(2:Int)*(i:Int)<2*(l.length:Int):=by omega
    have S:(2:Int)*(i:Int)+1<2*(l.length:Int):=by omega
    clear a g d f j k v G x y;go_wp2;go_roundw;case rel=>exact⟨i+1,(o.set (2*i) p).set (2*i+1) q,by go_num,by omega,C,D,E,B⟩
    case measure=>simp[intOf];omega
  · obtain rfl:i=l.length:=by omega
    have n:=a.fin;have m:OB wr w.heap.size (some ⟨w.heap.size,0,none⟩) (2*l.length) o:=kq d (zG _) g (by have:=a.1;omega) (by unfold maxLen;omega);have r:=kW _ _ _ _ _ m.rn a.2.1;have t:=m.trim32 a.2.1;rw[n,a.1]at r;rw[n]at t;have z:=zF r;clear d g r n m a;go_wp2_with fail;refine z.out.mono ?_;rintro e Z ⟨rfl,rfl⟩;go_wp2;go_ret;exact⟨_,_,rfl,t,f⟩
theorem gu (x:Nat)(w:World)(l:x<18446744073709551616) :
 Calls Tryz.prog 48 #[.int .u64 (x:Int)] w fun e w'=>∃ A' c',e=.returned (.slice A' (digs 4294967296 x).length c')∧OB w' w.heap.size A' c' (digs 4294967296 x)∧Below w.heap.size w w':=by
 have d:val 18446744073709551616 [x]=x:=by simp
 have a:=fun P A c w h j=>vY P A c [x] w h j (by simp)
 rw[d]at a
 have f:=zF a
 clear a d
 go_enter Tryz.func48,Tryz.ntmps48
 go_wp2_with fail
 refine(f.out (In w.heap.size (w.heap.size+1)) _ _ _ ⟨RS.fresh #[.int .u64 (x:Int)] 65 1 1 rfl (by unfold maxLen;omega) ⟨zG _,by omega⟩,by simpa[Lim]using l⟩ (fun b k=>by have:=k.2;simp;omega)).mono ?_
 rintro e m ⟨A',c',rfl,i,g⟩
 go_wp2
 go_ret
 exact⟨A',c',rfl,i.mono (by simp),((zo _ w).alloc (zG _) _).trans (g.mono (by simp))⟩
def vF:List Nat→List Nat
 | []=>[]
 | [a]=>[a]
 | a::b::r=>(a+4294967296*b)::vF r
theorem aq:∀ l:List Nat,val 18446744073709551616 (vF l)=val 4294967296 l
 | []=>rfl
 | [a]=>by simp[vF]
 | a::b::r=>by simp only[vF,kB,aq r];omega
theorem bp:∀ {l:List Nat},Dig l→∀ x∈vF l,x<18446744073709551616
 | [],_,x,hx=>by cases hx
 | [a], h, x, hx => by
   have:=h a (by simp);simp only[vF,List.mem_singleton]at hx;omega
 | a :: b :: r, h, x, hx => by
   have d:=h a (by simp);have e:=h b (by simp);simp only[vF,List.mem_cons]at hx;rcases hx with rfl|hx
   · omega
   · exact bp (fun y c=>h y (by simp[c])) x hx
theorem zAl:∀ {l:List Nat},l≠[]→vF l≠[]
 | [],h=>absurd rfl h
 | [a],_=>by simp[vF]
 | a::b::r,_=>by simp[vF]
theorem bq:∀ {l:List Nat}(h:l≠[]),l.getLast h≠0→∀ c:vF l≠[],(vF l).getLast c≠0
 | [],h,_,_=>absurd rfl h
 | [a],_,h,c=>by simpa[vF]using h
 | [a, b], _, h, c => by
   simp at h;simp[vF];omega
 | a :: b :: d :: r, _, h, c => by
   have e:vF (a::b::d::r)=(a+4294967296*b)::vF (d::r):=rfl;have f:vF (d::r)≠[]:=zAl (by simp);simp only[e,List.getLast_cons f];exact bq (by simp) (by simpa using h) f
theorem pE (x:Nat):vF (digs 4294967296 x)=digs 18446744073709551616 x:=by
 have b:=aq (digs 4294967296 x);rw[zi (by omega)]at b;have c:=gi (B:=18446744073709551616) (by omega) (bp (Dig.digs x)) fun a=>by
  have d:digs 4294967296 x≠[]:=by intro e;rw[e]at a;exact a rfl
  exact bq d (uf (by omega) x d) a
 rw[b]at c;exact c.symm
theorem ft:∀ l:List Nat,(vF l).length=(l.length+1)/2
 | []=>rfl
 | [a]=>by simp[vF]
 | a::b::r=>by simp only[vF,jP,ft r];omega
theorem yV (a:Nat)(l:List Nat):dg (a::l) 0=a:=rfl
theorem xN (a:Nat)(l:List Nat)(i:Nat):dg (a::l) (i+1)=dg l i:=rfl
theorem pb (i:Nat):dg [] i=0:=rfl
theorem ny:∀(l:List Nat) (k:Nat),dg (vF l) k=dg l (2*k)+4294967296*dg l (2*k+1)
 | [],k=>by simp[vF,pb]
 | [a],0=>by simp[vF,yV,xN,pb]
 | [a],k+1=>by rw[show 2*(k+1)=2*k+1+1 by omega];simp[vF,xN,pb]
 | a::b::r,0=>by simp[vF,yV,xN]
 | a :: b :: r, k + 1 => by
   rw[show 2*(k+1)=2*k+1+1 by omega];simp only[vF,xN,ny r k]
theorem yT {l:List Nat}{k:Nat}(h:k<l.length):l.take (k+1)=l.take k++[dg l k]:=by
 rw[List.take_succ_eq_append_getElem h,dg,ja h]
theorem uw {w:World}{base n size:Nat}{e:TypeId}{v:Value}{b:List Value}(h:w.ownsRow base e size v n b){j:Nat}(a:v.ownBlock=some j):base≤j:=by
 obtain⟨d,⟨rfl,_⟩|⟨g,cap,c,rfl,f,_⟩⟩:=h
 · simp[Value.ownBlock]at a
 · simp[Value.ownBlock]at a;omega
theorem zDf (P:Nat→Prop)(A:Option Addr)(c:Nat)(x:Nat)(w:World)(h:RN w P A c (digs 4294967296 x))(v:∀ b,P b→b<w.heap.size) :
 Calls Tryz.prog 47 #[.slice A (digs 4294967296 x).length c] w fun e w'=>∃ f c1,e=.returned (.slice f (digs 18446744073709551616 x).length c1) ∧
  OB w' w.heap.size f c1 (digs 18446744073709551616 x)∧Below w.heap.size w w':=by
 obtain⟨I,y,F,G,H⟩:=yz kU
 obtain⟨U,t,V⟩:=h.cap
 have E:=pE x
 have n:=Dig.digs x
 rw[←E]
 generalize digs 4294967296 x=l at *
 have B:=ft l
 have z:=ny l
 have N:=bp n
 generalize vF l=m at *
 clear E
 have J:=zF z
 have K:=zF B
 have M:m.length≤1000000:=by omega
 clear z B
 have u:Lim m:=⟨N,M⟩
 go_enter Tryz.func47,Tryz.ntmps47
 go_wp2
 go_loopw [3,4] (fun lv iv wr=>∃(k:Nat),iv=.int .i64 (2*(k:Int))∧k≤m.length∧wr.ownsRow w.heap.size 65 1 lv k (nts (m.take k))∧Below w.heap.size w wr) (fun _ iv _=>l.length+1-(intOf iv).toNat)
 case atStart=>exact⟨0,rfl,by omega,World.ownsRow_nil _ _ _ _,zo _ _⟩
 case round =>
  obtain⟨k,rfl,Z,a,d⟩:=hrel;have r:=K.out;by_cases hlt:k<m.length
  · obtain⟨ad,rfl,W,R⟩:=(h.below d v).at_ (i:=2*k) (by omega);have X:=n.dgLt (2*k);have Y:=n.dgLt (2*k+1);have o:=J.out k;have aa:=u.dgLt k;have C:=d.size;have D:=yT hlt;have O:(2:Int)*(k:Int)<(l.length:Int):=by omega
    by_cases t:2*k+1<l.length
    · have S:=(h.below d v).cells (2*k+1) t;rw[oU]at S;have Q:(2:Int)*(k:Int)+1<(l.length:Int):=by omega
      have g:(dg l (2*k):Int)+(dg l (2*k+1):Int)*4294967296=(dg m k:Int):=by omega
      clear o r;go_wp2_with (at_builtin;refine jd _ rfl _ _ 24 rfl w.heap.size 65 I (.int .u64 0) 1 8 Tryz.underlying24 y F G H rfl (by decide) _ k (nts (m.take k)) rfl (a.alloc _) (In wr.heap.size (wr.heap.size+1)) (some ⟨wr.heap.size,0,none⟩) 1 1 [.int .u64 (dg m k:Int)] rfl (RS.fresh #[.int .u64 (dg m k:Int)] 65 1 1 rfl (by unfold maxLen;omega) ⟨zG _,by omega⟩) (by simp[Value.oneCell']) (k+1) rfl (by unfold maxLen;omega) (by omega) (by simp;omega) ?_);intro A' c' T s p L;go_wp2;go_roundw;case rel=>exact⟨k+1,by go_num,by omega,by rw[D];simpa[nts]using s,(d.alloc C _).grown p (by simp;omega) (by intro j q;exact uw a q)⟩
      case measure=>simp[intOf];omega
    · have g:dg l (2*k)=dg m k:=by rw[o,vJ (by omega:l.length≤2*k+1)];omega
      have Q:¬(2:Int)*(k:Int)+1<(l.length:Int):=by omega
      rw[g]at R;clear o r g;go_wp2_with (at_builtin;refine jd _ rfl _ _ 24 rfl w.heap.size 65 I (.int .u64 0) 1 8 Tryz.underlying24 y F G H rfl (by decide) _ k (nts (m.take k)) rfl (a.alloc _) (In wr.heap.size (wr.heap.size+1)) (some ⟨wr.heap.size,0,none⟩) 1 1 [.int .u64 (dg m k:Int)] rfl (RS.fresh #[.int .u64 (dg m k:Int)] 65 1 1 rfl (by unfold maxLen;omega) ⟨zG _,by omega⟩) (by simp[Value.oneCell']) (k+1) rfl (by unfold maxLen;omega) (by omega) (by simp;omega) ?_);intro A' c' T s p L;go_wp2;go_roundw;case rel=>exact⟨k+1,by go_num,by omega,by rw[D];simpa[nts]using s,(d.alloc C _).grown p (by simp;omega) (by intro j q;exact uw a q)⟩
      case measure=>simp[intOf];omega
  · obtain rfl:k=m.length:=by omega
    have O:¬(2:Int)*(m.length:Int)<(l.length:Int):=by omega
    obtain⟨f,c1,rfl⟩:=da a;rw[jB]at a;clear r;go_wp2;go_ret;exact⟨_,_,rfl,OB.of_own a u,d⟩
end Go.Proofs.YtaemogcomplhiaaGreatDoor
namespace Go.Proofs.YtaemogcomplhiaaGreatDoor
theorem xU:type_of% @Dig.digs:=@Dig.digs
end Go.Proofs.YtaemogcomplhiaaGreatDoor
namespace Go.Proofs.YtaemogcomplhiaaGreatDoor
open Go.RowKit
def cC (l m:List Nat) (k:Nat):Prop:=∀ j,j<k→dg l j=dg m j
theorem cC.step {l m:List Nat}{k:Nat}(h:cC l m k)(b:dg l k=dg m k):cC l m (k+1):=fun j c=>by
 rcases qH j k with a|a
 · exact h j a
 · obtain rfl:j=k:=by omega
   exact b
theorem cC.fin {l m:List Nat}(h:cC l m l.length)(c:l.length=m.length):l=m:=by
 apply List.ext_getElem c;intro i a b;have:=h i a;rwa [dg,dg,ja a,ja b]at this
theorem bG (P P':Nat→Prop)(A A':Option Addr)(c c':Nat)(l:List Nat)(x:Nat)(w:World)(h:RN w P A c l)(u:RN w P' A' c' (digs 4294967296 x))(v:∀ b,P b→b<w.heap.size)(y:∀ b,P' b→b<w.heap.size) :
 Calls Tryz.prog 20 #[.slice A l.length c,.slice A' (digs 4294967296 x).length c'] w fun e w'=>e=.returned (.bool (decide (l=digs 18446744073709551616 x)))∧Below w.heap.size w w':=by
 obtain⟨H,I,J⟩:=h.cap
 have q:=zF (zDf P' A' c' x w u y)
 have C:=OB.cap (w:=w) (base:=0) (A:=none) (c:=1000000) (l:=l)
 clear C
 generalize digs 18446744073709551616 x=m at *
 by_cases hl:l.length=m.length
 · have t:=zF hl;have B:((l.length:Int) !=(m.length:Int))=false:=by simp[hl]
   clear hl;go_enter Tryz.func20,Tryz.ntmps20;go_wp2_with fail;refine q.out.mono ?_;rintro e r ⟨s,c1,rfl,p,a⟩;obtain⟨g1,F,G⟩:=p.cap;go_wp2;go_loopw [6] (fun iv wr=>∃(k n:Nat),iv=.int .i64 (k:Int)∧k≤l.length∧cC l m k∧wr=r.drewN n) (fun iv _=>l.length-(intOf iv).toNat);case atStart=>exact⟨0,0,rfl,by omega,fun j N=>by omega,rfl⟩
   case round =>
    obtain⟨k,n,rfl,O,f,rfl⟩:=hrel;have o:=t.out;by_cases hlt:k<l.length
    · obtain⟨ad,rfl,K,R⟩:=(h.below a v).at_ hlt;obtain⟨E,rfl,L,D⟩:=p.rn.at_ (i:=k) (by omega);have Q:(k:Int)<(m.length:Int):=by omega
      by_cases he:dg l k=dg m k
      · have z:=f.step he;rw[←he]at D;clear o he f;go_wp2;go_quiet (fail);go_wp2;go_roundw;case rel=>exact⟨k+1,_,by go_num,by omega,z,by first|rfl|exact cA _ _ _⟩
        case measure=>simp[intOf];omega
      · have g:decide (l=m)=false:=by
         rw[decide_eq_false_iff_not];rintro rfl;exact he rfl
        have d:=zF g;have M:(((dg l k:Nat):Int) !=((dg m k:Nat):Int))=true:=neB (by omega);clear o he f g;go_wp2;go_quiet (fail);go_wp2;go_ret;rw[d.out];exact⟨rfl,by first|exact qp a _|exact qp (qp a _) _⟩
    · obtain rfl:k=l.length:=by omega
      have he:=f.fin o;have d:=zF (show decide (l=m)=true by rw[he];simp);clear o he f;go_wp2;go_ret;rw[d.out];exact⟨rfl,qp a _⟩
 · have g:decide (l=m)=false:=by
    rw[decide_eq_false_iff_not];rintro rfl;exact hl rfl
   have d:=zF g;have B:((l.length:Int) !=(m.length:Int))=true:=neB (by omega);clear hl g;go_enter Tryz.func20,Tryz.ntmps20;go_wp2_with fail;refine q.out.mono ?_;rintro e r ⟨s,c1,rfl,p,a⟩;go_wp2;go_ret;rw[d.out];exact⟨rfl,a⟩
theorem zA8 (P P':Nat→Prop)(A A':Option Addr)(c c':Nat)(x:Nat)(w:World)(h:RN w P A c (digs 18446744073709551616 x))(a:RN w P' A' c' (digs 4294967296 x))(d:∀ b,P b→b<w.heap.size)(f:∀ b,P' b→b<w.heap.size) :
 Calls Tryz.prog 20 #[.slice A (digs 18446744073709551616 x).length c,.slice A' (digs 4294967296 x).length c'] w fun e w'=>e=.returned (.bool true)∧Below w.heap.size w w':=by
 have:=bG P P' A A' c c' _ x w h a d f
 rwa [show decide (digs 18446744073709551616 x=digs 18446744073709551616 x)=true by simp]at this
def RL (w:World) (P:Nat→Prop) (A:Option Addr) (c:Nat) (l:List Nat):Prop:=RS w P 1 A l.length c (nts l)∧(∀ x∈l,x<18446744073709551616)∧l.length≤17592186044416
theorem RL.take {w:World}{P:Nat→Prop}{A:Option Addr}{c:Nat}{l:List Nat}(h:RL w P A c l){n:Nat}(d:n≤1000000)(a:n≤l.length):RN w P A c (l.take n):=by
 have:=h.1.pre a;rw[jM,aA]at this;refine⟨by rw[zh,qU a];exact this,fun x b=>h.2.1 x (qN b),by rw[zh];omega⟩
theorem RL.below {w w':World}{P:Nat→Prop}{A:Option Addr}{c B:Nat}{l:List Nat}(h:RL w P A c l)(d:Below B w w')(a:∀ b,P b→b<B):RL w' P A c l:=⟨h.1.below d a,h.2⟩
theorem zCw (P:Nat→Prop)(A:Option Addr)(c:Nat)(l:List Nat)(n:Nat)(w:World)(h:RL w P A c l)(B:n≤100000) :
 Calls Tryz.prog 28 #[.slice A l.length c,.int .i64 (n:Int)] w fun e w'=>∃ i c1,e=.returned (.slice i (l.take n).length c1)∧OB w' w.heap.size i c1 (l.take n)∧Below w.heap.size w w':=by
 obtain⟨r,j,o,p,q⟩:=yz kU
 obtain⟨⟨y,s,_⟩,a,z⟩:=id h
 unfold maxLen at s
 by_cases hl:l.length<n
 · have m:l.take n=l:=zu (by omega);have hR:RN w P A c l:=⟨h.1,a,by omega⟩
   rw[m];have u:decide (l.length<n)=true:=by simpa using hl
   clear m a;go_enter Tryz.func28,Tryz.ntmps28;go_wp2_with (at_builtin;refine jd _ rfl _ _ 24 rfl w.heap.size 65 r (.int .u64 0) 1 8 Tryz.underlying24 j o p q rfl (by decide) _ 0 [] rfl (World.ownsRow_nil _ _ _ _) P A l.length c (nts l) rfl hR.1 (vB l) l.length (by omega) (by unfold maxLen;omega) (by omega) (zG _) ?_);intro A' c' x g b t;go_wp2;go_ret;exact⟨A',c',rfl,OB.of_own (by simpa using g) hR.2,(zo _ w).grown b (zG _) (by intro k f;simp[Value.ownBlock]at f)⟩
 · have hR:=h.take (n:=n) (by omega) (by omega);have v:(l.take n).length=n:=by rw[zh];omega
   have u:decide (l.length<n)=false:=by simpa using hl
   have C:(n:Int)≤(c:Int):=by omega
   generalize l.take n=d at *;subst v;clear a hl;go_enter Tryz.func28,Tryz.ntmps28;go_wp2_with (at_builtin;refine jd _ rfl _ _ 24 rfl w.heap.size 65 r (.int .u64 0) 1 8 Tryz.underlying24 j o p q rfl (by decide) _ 0 [] rfl (World.ownsRow_nil _ _ _ _) P A d.length c (nts d) rfl hR.1 (vB d) d.length (by omega) (by unfold maxLen;omega) (by omega) (zG _) ?_);intro A' c' x g b t;go_wp2;go_ret;exact⟨A',c',rfl,OB.of_own (by simpa using g) hR.2,(zo _ w).grown b (zG _) (by intro k f;simp[Value.ownBlock]at f)⟩
theorem uq (P P':Nat→Prop)(A A':Option Addr)(c c':Nat)(x y:Nat)(w:World)(h:RN w P A c (digs 4294967296 x))(M:RN w P' A' c' (digs 4294967296 y))(hP:∀ b,P b→b<w.heap.size)(U:∀ b,P' b→b<w.heap.size)
 (hl:(digs 4294967296 x).length<100000) (ag:(digs 4294967296 y).length<100000) :
 Calls Tryz.prog 50 #[.slice A (digs 4294967296 x).length c,.slice A' (digs 4294967296 y).length c'] w fun e w'=>∃ R c1,e=.returned (.slice R (digs 4294967296 (x+y)).length c1) ∧
  OB w' w.heap.size R c1 (digs 4294967296 (x+y))∧Below w.heap.size w w':=by
 have K:=zi (B:=4294967296) (by omega) x
 have X:=zi (B:=4294967296) (by omega) y
 have dx:=xU x
 have dy:=xU y
 generalize digs 4294967296 x=l at *
 generalize digs 4294967296 y=m at *
 have Z:=zF K
 have Hy:=zF X
 clear K X
 obtain⟨h1,h2,h3⟩:=h.cap
 obtain⟨g1,g2,g3⟩:=M.cap
 go_enter Tryz.func50,Tryz.ntmps50
 go_upto_if 14 with fail
 go_cut [5] (fun s5 wx=>∃ n:Nat,s5=.int .i64 (n:Int)∧l.length≤n∧m.length≤n∧n<100000∧w=wx)
 case first =>
  by_cases hs:l.length<m.length
  · go_wp2_with fail;go_meet;case rel=>exact⟨m.length,rfl,by omega,by omega,by omega,rfl⟩
  · go_wp2_with fail;go_meet;case rel=>exact⟨l.length,rfl,by omega,by omega,by omega,rfl⟩
 case rest =>
  obtain⟨n,rfl,ah,ai,hn,rfl⟩:=hcut;have ac:=qt (P:=Tryz.prog) 28 65 (.int .u64 0) 8 Tryz.underlying28 kU rfl .i64 .i64 (n+1) (by omega) (by omega);simp only[vj,qO]at ac;go_wp2;go_loopw [7,8] (fun cv iv wr=>∃(k a:Nat) (o:List Nat),iv=.int .i64 (k:Int)∧cv=.int .u64 (a:Int)∧k≤n+1∧(k≤n→a≤1)∧(k=n+1→a=0)∧wz 4294967296 l m o k a∧Hid (o.length=n+1)∧Dig o∧Blk wr w.heap.size o∧Below w.heap.size w wr) (fun _ iv _=>n+1-(intOf iv).toNat);case atStart=>exact⟨0,0,List.replicate (n+1) 0,rfl,rfl,by omega,by omega,by omega,wz.zero _ _ _ _,zF (by simp),by intro x K;simp at K;omega,wD w _,(zo _ w).alloc (zG _) _⟩
  case round =>
   obtain⟨k,a,o,rfl,rfl,hk,t,V,q,r,i,f,d⟩:=hrel;by_cases hlt:k≤n
   · have u:k<o.length:=by have:=r.out;omega
     have q3:=f.cell u;have q4:=f.free k;have W:=t hlt;have b1:=dx.dgLt k;have b2:=dy.dgLt k;obtain⟨s,g,hs,I,C,J⟩:∃ s c':Nat,s<4294967296∧c'≤1∧s+4294967296*c'=dg l k+dg m k+a∧(k=n→c'=0):=by
      refine⟨(dg l k+dg m k+a)%4294967296,(dg l k+dg m k+a)/4294967296,by omega,by omega,by omega,fun e=>?_⟩;rw[vJ (by omega:l.length≤k),vJ (by omega:m.length≤k)];omega
     have E:=q.step u C;have H:=f.set k s;have G:=i.set k s hs;have F:=d.setCell (p:=⟨w.heap.size,k,none⟩) (zG _) (.int .u64 (s:Int));have D:Hid ((o.set k s).length=n+1):=zF (by rw[jr];exact r.out);have k1:(k:Int)<(n:Int)+1:=by omega
     by_cases hm1:k<l.length
     · obtain⟨ad,rfl,af,q1⟩:=(h.below d hP).at_ hm1;by_cases hm2:k<m.length
       · obtain⟨ae,rfl,ab,q2⟩:=(M.below d U).at_ hm2;have L:((a:Int)+(dg l k:Int)+(dg m k:Int))%4294967296=(s:Int):=by omega
         have j:((a:Int)+(dg l k:Int)+(dg m k:Int))/4294967296=(g:Int):=by omega
         clear C q f i d u t;go_wp2;go_roundw;case rel=>exact⟨k+1,g,o.set k s,by go_num,(by first|rfl|exact congrArg (Value.int .u64) j),by omega,fun _=>I,fun e=>J (by omega),E,D,G,H,F⟩
         case measure=>simp[intOf];omega
       · have v:dg m k=0:=vJ (by omega);have L:((a:Int)+(dg l k:Int))%4294967296=(s:Int):=by omega
         have j:((a:Int)+(dg l k:Int))/4294967296=(g:Int):=by omega
         clear C q f i d u t v;go_wp2;go_roundw;case rel=>exact⟨k+1,g,o.set k s,by go_num,(by first|rfl|exact congrArg (Value.int .u64) j),by omega,fun _=>I,fun e=>J (by omega),E,D,G,H,F⟩
         case measure=>simp[intOf];omega
     · by_cases hm2:k<m.length
       · obtain⟨ae,rfl,ab,q2⟩:=(M.below d U).at_ hm2;have v:dg l k=0:=vJ (by omega);have L:((a:Int)+(dg m k:Int))%4294967296=(s:Int):=by omega
         have j:((a:Int)+(dg m k:Int))/4294967296=(g:Int):=by omega
         clear C q f i d u t v;go_wp2;go_roundw;case rel=>exact⟨k+1,g,o.set k s,by go_num,(by first|rfl|exact congrArg (Value.int .u64) j),by omega,fun _=>I,fun e=>J (by omega),E,D,G,H,F⟩
         case measure=>simp[intOf];omega
       · have v:dg l k=0:=vJ (by omega);have aa:dg m k=0:=vJ (by omega);have L:((a:Int))%4294967296=(s:Int):=by omega
         have j:((a:Int))/4294967296=(g:Int):=by omega
         clear C q f i d u t v aa;go_wp2;go_roundw;case rel=>exact⟨k+1,g,o.set k s,by go_num,(by first|rfl|exact congrArg (Value.int .u64) j),by omega,fun _=>I,fun e=>J (by omega),E,D,G,H,F⟩
         case measure=>simp[intOf];omega
   · obtain rfl:k=n+1:=by omega
     have W:=V rfl;subst W;have O:val 4294967296 o=x+y:=by
      have:=q;unfold wz at this;rwa [zu (by rw[r.out];omega),zu (by omega),zu (by omega),Z.out,Hy.out,je,jF]at this
     have S:Lim o:=⟨fun z hz=>by have:=i z hz;omega,by rw[r.out];omega⟩
     have N:OB wr w.heap.size (some ⟨w.heap.size,0,none⟩) (n+1) o:=kq f (zG _) S (by have:=r.out;omega) (by unfold maxLen;omega);have Q:=kW _ _ _ _ _ N.rn i;have T:=N.trim32 i;rw[O,r.out]at Q;rw[O]at T;have Y:=zF Q;clear f S Q O N q t V;go_wp2_with fail;refine Y.out.mono ?_;rintro e w1 ⟨rfl,rfl⟩;go_wp2;go_ret;exact⟨_,_,rfl,T,d⟩
end Go.Proofs.YtaemogcomplhiaaGreatDoor
