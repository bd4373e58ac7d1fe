/- Laws that the proof rests on. -/
import Derived.RegionTactic
import Derived.WalkKit
import Derived.Below
import Derived.WalkSpells
import Derived.WalkLawsBesides
import Derived.Deep.Draws
import Derived.Deep.AppendLies
import Derived.Maps.AppendAt
import Derived.Lib.Hide
import Derived.Shelf.Small.Bits
import Derived.Shelf.Strconv.Itoa0
import Derived.Shelf.Bits.Mul64
import Derived.Shelf.Spec.BitsCarry
import Derived.Deep.OwnRows
import Derived.Deep.DeepCutAuto
import Derived.Deep.QuietTactic
import Derived.BigQuiet
import Derived.Lib.BitFns
import Derived.Lib.ItoaNum
import Derived.Deep.CutBlock
import Derived.IntWalk
import Derived.Laws.Bits64b
import Derived.WalkMore
import Derived.Laws.CopyRow
import Derived.Laws.IdiomCopy
import Derived.Deep.MidRow
import Derived.ChangeKeysEq
import Derived.Laws.StructEq
import Derived.StillTailTactics
import Derived.Deep.RegionHeld3
import Derived.Deep.RegionWith
import Derived.ChangeAlike
import Derived.Laws.BytesArg
import Derived.Lib.Bytes
import Derived.Sort.AtCall
import Derived.ProofKit
import Derived.OpenShut
import Derived.ShutString
import Derived.ChangeOld
import Derived.ChangeSame
import Derived.Deep.Slices
import Derived.SizedLaws
import Derived.Lib.SmallJoins
import Derived.Laws.ResultCell
import Derived.RangeFuncNested
import Derived.RangeFuncBound
import Derived.RangeFuncCalls
import Derived.RangeFuncLeaves
import Derived.Shelf.Abstract
import Derived.Shelf.RegionOpen
import Derived.OwnWalkIn
import Derived.TacticsInMore
import Derived.LoopNIn
import Derived.LoopIn
import Derived.RangeFuncFrom
import Derived.OrdersIn
import Derived.ControlIn
import Derived.Sort.CutIn
import Derived.Sort.AtCallIn
import Derived.Sort.LoopGhostIn
import Derived.Lib.MakeNoZero
import Derived.Laws.Externs
import Derived.Lib.SlBytesConst
import Derived.LaidMore
import Derived.MakeChecks
import Derived.Stop.Joined
import Derived.SevenTiedAt
import Derived.Test.YtaemogcomplhiaaGreatDoorProg
import Derived.Test.YtaemogcomplhiaaGreatDoorRows
import Derived.Test.YtaemogcomplhiaaGreatDoorCards
import Derived.Test.YtaemogcomplhiaaGreatDoorTie
set_option maxRecDepth 100000
set_option maxHeartbeats 16000000
namespace Go.Proofs.YtaemogcomplhiaaGreatDoor
theorem eV {α:Type}(a:α):∃ v,a=v:=⟨a,rfl⟩
theorem eW {α:Type}(a:α):∃ v,v=a:=⟨a,rfl⟩
theorem eG {α:Type}(a:α):∃ v,Go.RowKit.Hid (a=v):=⟨a,Lib.hid rfl⟩
theorem zF:type_of% @Go.Lib.hid:=@Go.Lib.hid
theorem zG:type_of% @Nat.le_refl:=@Nat.le_refl
theorem zI:type_of% @Nat.lt_of_lt_of_le:=@Nat.lt_of_lt_of_le
theorem zK:type_of% @Nat.le_trans:=@Nat.le_trans
theorem zR:type_of% @List.getElem?_toArray:=@List.getElem?_toArray
theorem zS:type_of% @Go.heap_alloc_new:=@Go.heap_alloc_new
theorem zT:type_of% @Nat.eq_zero_or_pos:=@Nat.eq_zero_or_pos
theorem za:type_of% @Nat.mul_assoc:=@Nat.mul_assoc
theorem zf:type_of% @Nat.mul_add:=@Nat.mul_add
theorem zi:type_of% @List.getElem?_cons_zero:=@List.getElem?_cons_zero
theorem zj:type_of% @Nat.mul_comm:=@Nat.mul_comm
theorem zl:type_of% @Go.RowKit.Below.refl:=@Go.RowKit.Below.refl
theorem zo:type_of% @List.length_take:=@List.length_take
theorem zp:type_of% @Nat.pow_succ:=@Nat.pow_succ
theorem zv:type_of% @Nat.pow_le_pow_right:=@Nat.pow_le_pow_right
theorem zx:type_of% @List.take_of_length_le:=@List.take_of_length_le
theorem zy:type_of% @Nat.mod_eq_of_lt:=@Nat.mod_eq_of_lt
theorem zz:type_of% @List.length_append:=@List.length_append
theorem qA:type_of% @List.getD_eq_getElem?_getD:=@List.getD_eq_getElem?_getD
theorem qB:type_of% @Go.World.size_alloc:=@Go.World.size_alloc
theorem qD:type_of% @Nat.mul_le_mul_left:=@Nat.mul_le_mul_left
theorem qF:type_of% @Nat.lt_or_ge:=@Nat.lt_or_ge
theorem qG:type_of% @Array.getElem?_eq_getElem:=@Array.getElem?_eq_getElem
theorem qH:type_of% @Go.World.cell?_of_block:=@Go.World.cell?_of_block
theorem qJ:type_of% @Go.World.putObj_heap_other:=@Go.World.putObj_heap_other
theorem qL:type_of% @Nat.mod_lt:=@Nat.mod_lt
theorem qM:type_of% @List.mem_of_mem_take:=@List.mem_of_mem_take
theorem qO:type_of% @List.getElem?_eq_getElem:=@List.getElem?_eq_getElem
theorem qP:type_of% @Nat.pow_add:=@Nat.pow_add
theorem qQ:type_of% @List.eq_nil_of_length_eq_zero:=@List.eq_nil_of_length_eq_zero
theorem qS:type_of% @Nat.pow_pos:=@Nat.pow_pos
theorem qU:type_of% @Nat.min_eq_left:=@Nat.min_eq_left
theorem qW:type_of% @Int.cast_ofNat_Int:=@Int.cast_ofNat_Int
theorem qX:type_of% @List.size_toArray:=@List.size_toArray
theorem qY:type_of% @Nat.add_mul:=@Nat.add_mul
theorem qZ:type_of% @decide_eq_true:=@decide_eq_true
theorem qa:type_of% @List.drop_eq_getElem_cons:=@List.drop_eq_getElem_cons
theorem qg:type_of% @if_pos:=@if_pos
theorem qh:type_of% @Nat.div_eq_of_lt:=@Nat.div_eq_of_lt
theorem qi:type_of% @Bool.or_eq_true:=@Bool.or_eq_true
theorem qk:type_of% @Nat.mul_le_mul_right:=@Nat.mul_le_mul_right
theorem ql:type_of% @if_neg:=@if_neg
theorem qm:type_of% @Nat.add_mul_mod_self_left:=@Nat.add_mul_mod_self_left
theorem qn:type_of% @List.length_drop:=@List.length_drop
theorem qo:type_of% @List.getElem?_cons_succ:=@List.getElem?_cons_succ
theorem qt:type_of% @Go.IntWalk.u64_in:=@Go.IntWalk.u64_in
theorem qw:type_of% @Go.Result.andThen_ok:=@Go.Result.andThen_ok
theorem q9:type_of% @Nat.add_zero:=@Nat.add_zero
theorem jD:type_of% @Go.run_make_row':=@Go.run_make_row'
theorem jE:type_of% @List.take_length:=@List.take_length
theorem jF:type_of% @decide_eq_false:=@decide_eq_false
theorem jH:type_of% @Nat.zero_add:=@Nat.zero_add
theorem jI:type_of% @Nat.div_lt_of_lt_mul:=@Nat.div_lt_of_lt_mul
theorem jL:type_of% @List.getElem?_eq_none:=@List.getElem?_eq_none
theorem jO:type_of% @Nat.mul_one:=@Nat.mul_one
theorem jR:type_of% @Nat.mul_left_comm:=@Nat.mul_left_comm
theorem jV:type_of% @Nat.le_of_lt:=@Nat.le_of_lt
theorem jW:type_of% @Go.IntWalk.i64_in:=@Go.IntWalk.i64_in
theorem jX:type_of% @Option.some.inj:=@Option.some.inj
theorem jY:type_of% @Nat.div_add_mod:=@Nat.div_add_mod
theorem jZ:type_of% @List.length_cons:=@List.length_cons
theorem ja:type_of% @Nat.mul_zero:=@Nat.mul_zero
theorem je:type_of% @Go.RowKit.Below.heap_setCell:=@Go.RowKit.Below.heap_setCell
theorem jh:type_of% @beq_iff_eq:=@beq_iff_eq
theorem ji:type_of% @Bool.and_eq_true:=@Bool.and_eq_true
theorem jl:type_of% @Nat.lt_of_le_of_lt:=@Nat.lt_of_le_of_lt
theorem jq:type_of% @Nat.le_of_ble_eq_true:=@Nat.le_of_ble_eq_true
theorem ju:type_of% @Nat.add_sub_cancel:=@Nat.add_sub_cancel
theorem jw:type_of% @List.length_set:=@List.length_set
theorem kA:type_of% @List.length_nil:=@List.length_nil
theorem kE:type_of% @Go.RowKit.Below.heap_alloc:=@Go.RowKit.Below.heap_alloc
theorem kG:type_of% @Go.RowKit.Below.trans:=@Go.RowKit.Below.trans
theorem kH:type_of% @Nat.add_assoc:=@Nat.add_assoc
theorem kL:type_of% @Nat.zero_mod:=@Nat.zero_mod
theorem kN:type_of% @Nat.one_mul:=@Nat.one_mul
theorem kO:type_of% @Nat.add_mul_div_left:=@Nat.add_mul_div_left
theorem kZ:type_of% @Nat.mul_lt_mul_of_pos_left:=@Nat.mul_lt_mul_of_pos_left
theorem ka:type_of% @List.setIfInBounds_toArray:=@List.setIfInBounds_toArray
theorem kr:type_of% @Nat.pow_mul:=@Nat.pow_mul
theorem ks:type_of% @Nat.mul_mod:=@Nat.mul_mod
theorem vC:type_of% @Go.Sem.run_bind:=@Go.Sem.run_bind
theorem vD:type_of% @Array.getElem?_modify:=@Array.getElem?_modify
theorem vL:type_of% @Option.getD_some:=@Option.getD_some
theorem vV:type_of% @Nat.div_le_self:=@Nat.div_le_self
theorem vW:type_of% @Int.natCast_mul:=@Int.natCast_mul
theorem vX:type_of% @Int.natCast_add:=@Int.natCast_add
theorem vp:type_of% @Nat.add_comm:=@Nat.add_comm
theorem vr:type_of% @Nat.zero_le:=@Nat.zero_le
theorem vu:type_of% @Nat.mod_mod:=@Nat.mod_mod
theorem vv:type_of% @Nat.add_mod:=@Nat.add_mod
theorem wF:type_of% @Nat.add_mul_mod_self_right:=@Nat.add_mul_mod_self_right
theorem wG:type_of% @List.set_append_right:=@List.set_append_right
theorem wI:type_of% @Go.bodyPost_ret:=@Go.bodyPost_ret
theorem wY:type_of% @Go.results_cell_row:=@Go.results_cell_row
theorem wZ:type_of% @List.getElem?_append_left:=@List.getElem?_append_left
theorem wi:type_of% @Go.IntKind.wrap_u64:=@Go.IntKind.wrap_u64
theorem wm:type_of% @List.nil_append:=@List.nil_append
theorem ws:type_of% @of_decide_eq_true:=@of_decide_eq_true
theorem xO:type_of% @Ne.symm:=@Ne.symm
theorem xZ:type_of% @Nat.mul_le_mul:=@Nat.mul_le_mul
theorem xa:type_of% @List.getElem_mem:=@List.getElem_mem
theorem xu:type_of% @Nat.mul_right_comm:=@Nat.mul_right_comm
theorem xv:type_of% @Nat.dvd_of_mod_eq_zero:=@Nat.dvd_of_mod_eq_zero
theorem xw:type_of% @List.set_cons_zero:=@List.set_cons_zero
theorem xy:type_of% @List.drop_eq_nil_of_le:=@List.drop_eq_nil_of_le
theorem xz:type_of% @Bool.false_eq_true:=@Bool.false_eq_true
theorem x6:type_of% @Array.getElem?_eq_none:=@Array.getElem?_eq_none
theorem x9:type_of% @Go.grownBy_keeps_cells:=@Go.grownBy_keeps_cells
theorem yL:type_of% @if_false:=@if_false
theorem yM:type_of% @Option.map_some:=@Option.map_some
theorem yN:type_of% @Nat.mod_mul_mod:=@Nat.mod_mul_mod
theorem yj:type_of% @Int.toNat_natCast:=@Int.toNat_natCast
theorem uF:type_of% @List.getElem?_append_right:=@List.getElem?_append_right
theorem uG:type_of% @Int.tdiv_eq_ediv_of_nonneg:=@Int.tdiv_eq_ediv_of_nonneg
theorem uS:type_of% @List.cons_append:=@List.cons_append
theorem uT:type_of% @Int.natCast_ediv:=@Int.natCast_ediv
end Go.Proofs.YtaemogcomplhiaaGreatDoor
namespace Go.Proofs.YtaemogcomplhiaaGreatDoor
open Go.RowKit
def Ext (w w':World):Prop:=Below w.heap.size w w'
theorem Ext.refl (w:World):Ext w w:=zl _ w
theorem Ext.trans {a b c:World}(h:Ext a b)(k:Ext b c):Ext a c:=kG h (Below.mono k h.size)
theorem Ext.drew (w:World):Ext w w.drew:=(zl _ w).drew
theorem Ext.alloc (w:World)(o:Obj):Ext w (w.alloc o):=(zl _ w).alloc (zG _) o
theorem Ext.bsize {w w':World}(h:Ext w w'):w.heap.size≤w'.heap.size:=Below.size h
theorem Ext.at_ {w w':World}(h:Ext w w'){k:Nat}{o:Obj}(hk:w.heap[k]?=some o):w'.heap[k]?=some o:=by
 have hlt:k<w.heap.size:=by
  rcases qF k w.heap.size with h|h
  · exact h
  · rw[x6 h]at hk;cases hk
 exact(Below.block h k hlt).trans hk
theorem Ext.cell {w w':World}(h:Ext w w'){a:Addr}{v:Value}(hk:w.cell? a=some v):w'.cell? a=some v :=
 (qH (Below.block h _ (World.block_lt_of_cell? w a hk))).trans hk
namespace Par
def dst (ops:Array Oper) (j:Nat):Option Nat:=(ops[j]?).bind (·.dst)
def binds (e:Edge):Bool:=Region.binds .any e
def put (ops:Array Oper) (sel:Nat→Bool) (f:Nat→Value):List Nat→Act→Act
 | [],a=>a
 | j::l,a=>put ops sel f l (if sel j then a.put (dst ops j) (f j)else a)
def upd (f:Nat→Value) (i:Nat) (v:Value):Nat→Value:=fun j=>if j=i then v else f j
def qj (M:Nat→Nat) (j:Nat) (f:Nat→Value):Nat→Value:=fun k=>if(k==j||(M j).testBit k)=true then f k else undef
def nd (M:Nat→Nat) (i:Nat):Nat→Bool:=fun j=>j != i && !(M j).testBit i
theorem xV {ops:Array Oper}{sel sel':Nat→Bool}{f f':Nat→Value}{l:List Nat}(h:∀ j∈l,sel j=sel' j∧f j=f' j)(a:Act):put ops sel f l a=put ops sel' f' l a:=by
 induction l generalizing a with
 | nil=>rfl
 | cons j l ih =>
   obtain⟨h1,h2⟩:=h j (by simp);simp only[put,h1,h2];exact ih (fun k hk=>h k (by simp[hk])) _
def sK (ops:Array Oper) (i j:Nat):Prop:=∃ d,dst ops i=some d∧dst ops j=some d
theorem zBz {ops:Array Oper}{sel:Nat→Bool}{f:Nat→Value}{l:List Nat}{i:Nat}{v:Value}(h:∀ j∈l,¬ sK ops i j)(a:Act):(put ops sel f l a).put (dst ops i) v=put ops sel f l (a.put (dst ops i) v):=by
 induction l generalizing a with
 | nil=>rfl
 | cons j l ih =>
   simp only[put];rw[ih (fun k hk=>h k (by simp[hk]))];cases sel j
   · rfl
   · simp only[if_true];rw[Act.put_comm a _ _ (fun d h1 h2=>h j (by simp) ⟨d,h2,h1⟩)]
theorem cf {ops:Array Oper}{sel:Nat→Bool}{f:Nat→Value}{i:Nat}{v:Value} : ∀ {l:List Nat}(_:i∈l) (_:l.Nodup) (_:∀ j∈l,j≠i→¬ sK ops i j) (_:sel i=false) (a:Act),(put ops sel f l a).put (dst ops i) v=put ops (fun j=>sel j||j==i) (upd f i v) l a
 | [],hi,_,_,_,_=>by cases hi
 | j :: l, hi, hn, hc, hs, a => by
   rw[List.nodup_cons]at hn;by_cases hji:j=i
   · subst hji;simp only[put,hs,xz,yL,beq_self_eq_true,Bool.or_true,if_true,upd];rw[zBz (fun k hk=>hc k (by simp[hk]) (fun e=>hn.1 (e▸hk)))];refine xV (fun k hk=>?_) _;have hne:k≠j:=fun e=>hn.1 (e▸hk);simp[hne,upd]
   · have hmem:i∈l:=by
       rcases List.mem_cons.1 hi with h|h
       · exact absurd h.symm hji
       · exact h
     simp only[put];rw[cf hmem hn.2 (fun k hk=>hc k (by simp[hk])) hs];have e1:(sel j||j==i)=sel j:=by simp[hji]
     have e2:upd f i v j=f j:=by simp[upd,hji]
     simp only[e1,e2]
theorem zB0 (a:Act)(d:Option Nat)(v:Value)(h:∀ t,d=some t→v=a.tmps.getD t undef):a.put d v=a:=by
 cases d with
 | none=>rfl
 | some t =>
   have hv:=h t rfl;subst hv;show({ a with tmps:=a.tmps.setIfInBounds t (a.tmps.getD t undef) } : Act)=a;congr 1;apply Array.ext_getElem?;intro k;rw[Array.getElem?_setIfInBounds];split
   · rename_i htk;subst htk;split
     · rename_i hlt;simp[hlt]
     · rename_i hlt;simp[x6 (Nat.le_of_not_lt hlt)]
   · rfl
theorem zAZ {a:Act}{d:Option Nat}{v:Value}{t:Nat}(h:d≠some t):(a.put d v).tmps.getD t undef=a.tmps.getD t undef:=by
 cases d with
 | none=>rfl
 | some s =>
   have hne:s≠t:=fun e=>h (by rw[e]);show(a.tmps.setIfInBounds s v).getD t undef=_;simp[Array.getD_eq_getD_getElem?,Array.getElem?_setIfInBounds_ne hne]
theorem uw {ops:Array Oper}{D sel:Nat→Bool}{f g:Nat→Value}(b:Act):∀ {l:List Nat}(_:l.Nodup) (_:∀ i∈l,∀ j∈l,i≠j→¬ sK ops i j) (_:∀ j∈l,D j=true→sel j=true∧g j=f j) (a:Act) (_:∀ j∈l,D j=false→∀ t,dst ops j=some t→g j=a.tmps.getD t undef),put ops D f l a=put ops sel g l a
 | [],_,_,_,_,_=>rfl
 | j :: l, hn, hc, hD, a, hg => by
   rw[List.nodup_cons]at hn;simp only[put];have key:∀ a':Act,(∀ k∈l,∀ t,dst ops k=some t→a'.tmps.getD t undef=a.tmps.getD t undef)→put ops D f l a'=put ops sel g l a':=fun a' h' =>
     uw b hn.2 (fun i hi k hk=>hc i (by simp[hi]) k (by simp[hk])) (fun k hk=>hD k (by simp[hk])) a' (fun k hk h1 t ht=>by rw[h' k hk t ht];exact hg k (by simp[hk]) h1 t ht)
   have far:∀ v,∀ k∈l,∀ t,dst ops k=some t→(a.put (dst ops j) v).tmps.getD t undef=a.tmps.getD t undef:=fun v k hk t ht=>zAZ (fun e=>hc j (by simp) k (by simp[hk]) (fun e=>hn.1 (e▸hk)) ⟨t,e,ht⟩);cases hj:D j
   · have e:(if sel j=true then a.put (dst ops j) (g j)else a)=a:=by
       split
       · exact zB0 _ _ _ (fun t ht=>hg j (by simp) hj t ht)
       · rfl
     rw[e];exact key a (fun _ _ _ _=>rfl)
   · obtain⟨h1,h2⟩:=hD j (by simp) hj;rw[h1,h2];exact key _ (far _)
def cnt (D:Nat→Bool):Nat→Nat
 | 0=>0
 | k+1=>cnt D k+(if D k then 1 else 0)
theorem mZ (D:Nat→Bool):∀ m,cnt D m≤m
 | 0=>zG _
 | k+1=>by have:=mZ D k;simp only[cnt];split<;>omega
theorem af {D D':Nat→Bool} : ∀ {m:Nat},(∀ j,j<m→D j=D' j)→cnt D m=cnt D' m
 | 0,_=>rfl
 | k+1,h=>by simp only[cnt];rw[af (fun j hj=>h j (by omega)),h k (by omega)]
theorem fZ {D D':Nat→Bool}{i:Nat}(hD:D i=false)(hD':D' i=true)(h:∀ j,j≠i→D' j=D j):∀ {m:Nat},i<m→cnt D' m=cnt D m+1
 | 0,hi=>by omega
 | k + 1, hi => by
   simp only[cnt];by_cases hk:k=i
   · subst hk;rw[hD,hD',af (fun j hj=>h j (by omega))];simp
   · rw[fZ hD hD' h (m:=k) (by omega),h k hk];omega
theorem bS {D:Nat→Bool} : ∀ {m:Nat},(∀ j,j<m→D j=true)→cnt D m=m
 | 0,_=>rfl
 | k+1,h=>by simp only[cnt];rw[bS (fun j hj=>h j (by omega)),h k (by omega)];simp
theorem mY {D:Nat→Bool}{i:Nat}(hD:D i=false):∀ {m:Nat},i<m→cnt D m<m
 | 0,hi=>by omega
 | k + 1, hi => by
   simp only[cnt];by_cases hk:k=i
   · subst hk;have:=mZ D k;rw[hD];simp;omega
   · have:=mY hD (m:=k) (by omega);split<;>omega
def ok (ops:Array Oper) (M:Nat→Nat) (m:Nat):Bool :=
  decide (m≤ops.size) &&
  ((List.range ops.size).all fun i => match ops[i]? with
    | none=>false
    | some o => (o.after.all fun e => !binds e || decide (e.on < i)) &&
      ((List.range ops.size).all fun k=>!(M i).testBit k||o.after.any fun e=>binds e&&(e.on==k||(M e.on).testBit k)) &&
      (decide (i<m)||(List.range i).all fun k=>(M i).testBit k)&&decide (M i<2^i)) &&
  ((List.range m).all fun i=>(List.range m).all fun j=>i==j||(match dst ops i,dst ops j with|some d,some e=>d != e|_,_=>true))
structure di (ops:Array Oper) (M:Nat→Nat) (m:Nat):Prop where
 le:m≤ops.size
 up:∀ i o,ops[i]?=some o→∀ e∈o.after,binds e=true→e.on<i
 by_:∀ i o k,ops[i]?=some o→k<ops.size→(M i).testBit k=true→∃ e∈o.after,binds e=true∧(e.on=k∨(M e.on).testBit k=true)
 low:∀ i,i<ops.size→M i<2^i
 late:∀ i,m≤i→i<ops.size→∀ k,k<i→(M i).testBit k=true
 own:∀ i j,i<m→j<m→i≠j→¬ sK ops i j
theorem ok.form {ops:Array Oper}{M:Nat→Nat}{m:Nat}(h:ok ops M m=true):di ops M m:=by
 unfold ok at h;rw[ji,ji,decide_eq_true_eq,List.all_eq_true,List.all_eq_true]at h;obtain⟨⟨hle,h1⟩,h2⟩:=h;have key:∀ i o,ops[i]?=some o→(∀ e∈o.after,binds e=true→e.on<i)∧(∀ k,k<ops.size→(M i).testBit k=true→∃ e∈o.after,binds e=true∧(e.on=k∨(M e.on).testBit k=true))∧(m≤i→∀ k,k<i→(M i).testBit k=true)∧M i<2^i:=by
  intro i o ho;have hi:i<ops.size:=(Array.getElem?_eq_some_iff.1 ho).1;have:=h1 i (List.mem_range.2 hi);rw[ho]at this;simp only[ji,Array.all_eq_true_iff_forall_mem,qi,Bool.not_eq_true',decide_eq_true_eq,List.all_eq_true,List.mem_range,Array.any_eq_true',jh]at this;obtain⟨⟨⟨a1,a2⟩,a3⟩,a4⟩:=this;refine⟨fun e he hb=>(a1 e he).resolve_left (by simp[hb]),fun k hk hb=>?_,fun hm k hk=>(a3.resolve_left (by omega)) k hk,a4⟩;obtain⟨e,he,h3,h4⟩:=(a2 k hk).resolve_left (by simp[hb]);exact⟨e,he,h3,h4⟩
 refine⟨hle,fun i o ho=>(key i o ho).1,fun i o k ho=>(key i o ho).2.1 k,fun i hi=>(key i _ (qG hi)).2.2.2,fun i hm hi k hk=>?_,fun i j hi hj hne=>?_⟩
 · exact(key i _ (qG hi)).2.2.1 hm k hk
 · have h3:=h2 i (List.mem_range.2 hi);rw[List.all_eq_true]at h3;have h4:=h3 j (List.mem_range.2 hj);rintro⟨d,e1,e2⟩;rw[e1,e2]at h4;simp[hne]at h4
theorem di.bit {ops:Array Oper}{M:Nat→Nat}{m:Nat}(h:di ops M m)(i:Nat)(hi:i<ops.size)(k:Nat)(hk:(M i).testBit k=true):k<i:=by
 rcases qF k i with hlt|hge
 · exact hlt
 · have h1:=h.low i hi;rw[Nat.testBit_lt_two_pow (zI h1 (zv (by omega) hge))]at hk;cases hk
theorem anc {ops:Array Oper}{M:Nat→Nat}{m:Nat}(hF:di ops M m){listed:Array Bool}(hcl:∀ j o,ops[j]?=some o→listed.getD j false=true→∀ e∈o.after,binds e=true→listed.getD e.on false=true) :
   ∀ n i o,i≤n→ops[i]?=some o→(∀ e∈o.after,binds e=true→listed.getD e.on false=true)→∀ k,k<ops.size→(M i).testBit k=true→listed.getD k false=true:=by
 intro n;induction n with
 | zero =>
   intro i o hin ho hd k hk hb;obtain⟨e,he,hb',_⟩:=hF.by_ i o k ho hk hb;have:=hF.up i o ho e he hb';omega
 | succ n ihn =>
   intro i o hin ho hd k hk hb;obtain⟨e,he,hb',h1⟩:=hF.by_ i o k ho hk hb;rcases h1 with rfl|h1
   · exact hd e he hb'
   · have hlt':=hF.up i o ho e he hb';have hes:e.on<ops.size:=by have:=(Array.getElem?_eq_some_iff.1 ho).1;omega
     exact ihn e.on _ (by omega) (qG hes) (hcl e.on _ (qG hes) (hd e he hb')) k hk h1
section
variable {P:Program} {ops:Array Oper} {Q:Exit→Act→World→Prop}
def tY (P:Program) (ops:Array Oper) (Q:Exit→Act→World→Prop) (E:World→World→Prop) (m:Nat) (M:Nat→Nat) (AL:Nat→Bool) (R:Nat→(Nat→Value)→World→Prop) (a:Act) (w:World) (i:Nat):Prop :=
  ∀ f X, E w X → (∀ j, (M i).testBit j = true → R j f X) → ∀ K : Act → World → Prop,
    (∀ a' v X',a'=(put ops (nd M i) f (List.range m) a).put (dst ops i) v→E X X'→(if AL i=true then v=.pointer (some ⟨X.heap.size,0,none⟩)∧X.heap.size<X'.heap.size else True)→(∀ Y,E X' Y→R i (upd f i v) Y)→K a' X') →
    wpOp P ops Q i K (put ops (nd M i) f (List.range m) a) X
theorem tY.intro {E:World→World→Prop}{m:Nat}{M:Nat→Nat}{AL:Nat→Bool}{R:Nat→(Nat→Value)→World→Prop}{a:Act}{w:World}{i:Nat}{o:Oper}(ho:ops[i]?=some o)
 (h : ∀ f X, E w X → (∀ j, (M i).testBit j = true → R j f X) → ∀ K : Act → World → Prop,
  (∀ a' v X',a'=(put ops (nd M i) f (List.range m) a).put o.dst v→E X X'→(if AL i=true then v=.pointer (some ⟨X.heap.size,0,none⟩)∧X.heap.size<X'.heap.size else True)→(∀ Y,E X' Y→R i (upd f i v) Y)→K a' X') →
  if Region.wanted o (yielded ops (put ops (nd M i) f (List.range m) a).tmps)=true then Oper.wp P o (put ops (nd M i) f (List.range m) a) X K Q else K ((put ops (nd M i) f (List.range m) a).put o.dst undef) X) :
 tY P ops Q E m M AL R a w i:=fun f X hX hR K hK=>wpOp_step ho fun K' hK'=>h f X hX hR K' fun a' v X' ha hE hA hR'=>hK' _ _ (hK a' v X' (by rw[ha,dst,ho];rfl) hE hA hR')
structure Inv (ops:Array Oper) (E:World→World→Prop) (m:Nat) (M:Nat→Nat) (AL:Nat→Bool) (R:Nat→(Nat→Value)→World→Prop) (a:Act) (w:World) (D:Nat→Bool) (f:Nat→Value) (a':Act) (X:World):Prop where
 act:a'=put ops D f (List.range m) a
 ext:E w X
 said:∀ j,j<m→D j=true→R j (qj M j f) X
 at_:∀ j,j<m→D j=true→AL j=true→∃ b,f j=.pointer (some ⟨b,0,none⟩)∧b<X.heap.size
 apart:∀ j k,j<m→k<m→D j=true→D k=true→AL j=true→AL k=true→j≠k→f j≠f k
theorem fin {E:World→World→Prop}{m:Nat}{M:Nat→Nat}{AL:Nat→Bool}{R:Nat→(Nat→Value)→World→Prop}{a:Act}{w:World}(_hF:di ops M m)
 (hfin : ∀ f X, E w X → (∀ j, j < m → R j (qj M j f) X) → (∀ j, j < m → AL j = true → ∃ b, f j = .pointer (some ⟨b, 0, none⟩) ∧ b < X.heap.size) → (∀ j k, j < m → k < m → AL j = true → AL k = true → j ≠ k → f j ≠ f k) →
  wpAny P .any ops Q (ops.size-m) (((List.range ops.size).map fun j=>decide (j<m)).toArray) (put ops (fun _=>true) f (List.range m) a) X)
 {fuel:Nat} {listed:Array Bool} {f:Nat→Value} {a':Act} {X:World} (hsz:listed.size=ops.size) (hall:∀ j,j<m→listed.getD j false=true) (hlt:∀ j,listed.getD j false=true→j<m)
 (hI:Inv ops E m M AL R a w (fun j=>listed.getD j false) f a' X) (hfuel:fuel+m=ops.size):wpAny P .any ops Q fuel listed a' X:=by
 have e1:listed=((List.range ops.size).map fun j=>decide (j<m)).toArray:=by
  apply Array.ext
  · simp[hsz]
  · intro k h1 h2;simp only[List.getElem_toArray,List.getElem_map,List.getElem_range];by_cases hk:k<m
    · have:=hall k hk;simpa[h1,hk]using this
    · cases hd:listed[k]
      · simp[hk]
      · exact absurd (hlt k (by simp[h1,hd])) hk
 have e2:a'=put ops (fun _=>true) f (List.range m) a:=by
  rw[hI.act];exact xV (fun j hj=>⟨hall j (List.mem_range.1 hj),rfl⟩) _
 have e3:fuel=ops.size-m:=by omega
 rw[e1,e2,e3]
 exact hfin f X hI.ext (fun j hj=>hI.said j hj (hall j hj)) (fun j hj h=>hI.at_ j hj (hall j hj) h) (fun j k hj hk h1 h2=>hI.apart j k hj hk (hall j hj) (hall k hk) h1 h2)
theorem par {E:World→World→Prop}(hE0:∀ w,E w w)(hE1:∀ a b c,E a b→E b c→E a c)(hE2:∀ a b,E a b→a.heap.size≤b.heap.size)
   {m:Nat} {M:Nat→Nat} {AL:Nat→Bool} {R:Nat→(Nat→Value)→World→Prop} {a:Act} {w:World} (hF:di ops M m)
   (hR:∀ j,j<m→∀ f X,R j (qj M j f) X→∀ Y,E X Y→R j (qj M j f) Y)
   (hstep:∀ i,i<m→tY P ops Q E m M AL (fun j f X=>R j (qj M j f) X) a w i)
   (hfin:∀ f X,E w X→(∀ j,j<m→R j (qj M j f) X)→(∀ j,j<m→AL j=true→∃ b,f j=.pointer (some ⟨b,0,none⟩)∧b<X.heap.size)→(∀ j k,j<m→k<m→AL j=true→AL k=true→j≠k→f j≠f k) →
     wpAny P .any ops Q (ops.size-m) (((List.range ops.size).map fun j=>decide (j<m)).toArray) (put ops (fun _=>true) f (List.range m) a) X) :
   ∀ (fuel : Nat) (listed : Array Bool) (f : Nat → Value) (a' : Act) (X : World), listed.size = ops.size →
     (∀ j o,ops[j]?=some o→listed.getD j false=true→∀ e∈o.after,binds e=true→listed.getD e.on false=true) →
     (∀ j,listed.getD j false=true→j<m)→fuel+cnt (fun j=>listed.getD j false) m=ops.size →
     Inv ops E m M AL R a w (fun j=>listed.getD j false) f a' X→wpAny P .any ops Q fuel listed a' X:=by
 intro fuel;induction fuel with
 | zero =>
   intro listed f a' X hsz hcl hlt hc hI;have hcm:cnt (fun j=>listed.getD j false) m≤m:=mZ _ _;have hmm:m=ops.size:=by have:=hF.le;omega
   have hall:∀ j,j<m→listed.getD j false=true:=fun j hj=>by
     cases h:listed.getD j false
     · have:=mY (D:=fun j=>listed.getD j false) (i:=j) h hj;omega
     · rfl
   exact fin hF hfin hsz hall hlt hI (by omega)
 | succ fuel ih =>
   intro listed f a' X hsz hcl hlt hc hI;by_cases hall:∀ j,j<m→listed.getD j false=true
   · have hcm:=bS (D:=fun j=>listed.getD j false) hall;exact fin hF hfin hsz hall hlt hI (by omega)
   · refine⟨fun h=>?_,fun i hi=>?_⟩
     · exfalso
       -- the first that is not done may come up
       have:∀ n,n≤m→(∀ j,j<n→listed.getD j false=true):=by
         intro n;induction n with
         | zero=>intro _ j hj;omega
         | succ n ihn =>
           intro hn j hj;by_cases hjn:j<n
           · exact ihn (by omega) j hjn
           · obtain rfl:j=n:=by omega
             cases hd:listed.getD j false
             · exfalso;have hjs:j<ops.size:=by have:=hF.le;omega
               have hmem:j∈Region.ready .any ops listed:=by
                 rw[mem_ready];have hjl:j<listed.size:=by omega
                 refine⟨by simpa[hjl]using hd,_,qG hjs,fun e he hb=>ihn (by omega) _ (hF.up j _ (qG hjs) e he hb)⟩
               rw[h]at hmem;cases hmem
             · rfl
       exact hall (this m (zG _))
     · obtain⟨hi0,o,ho,hdep⟩:=mem_ready.1 hi;have his:i<ops.size:=(Array.getElem?_eq_some_iff.1 ho).1;have hil:i<listed.size:=by omega
       have hid:listed.getD i false=false:=by simpa[hil]using hi0
       have anc:=fun i o hio hd k hk hb=>anc hF hcl i i o (zG _) hio hd k (zI hk hF.le) hb;have him:i<m:=by
         rcases qF i m with h|h
         · exact h
         · exact absurd (fun k hk=>anc i o ho hdep k hk (hF.late i h his k (by omega))) hall
       -- what waits for it is not
       have hnd:∀ j,j<m→listed.getD j false=true→nd M i j=true:=fun j hj hd=>by
         have h1:j≠i:=fun e=>by rw[e,hid]at hd;cases hd
         have hjs:j<ops.size:=by have:=hF.le;omega
         have h2:(M j).testBit i=false:=by
           cases hb:(M j).testBit i
           · rfl
           · have:=anc j _ (qG hjs) (hcl j _ (qG hjs) hd) i him hb;rw[hid]at this;cases this
         simp[nd,h1,h2]
       -- the slots as the step sees them
       obtain⟨g,hg⟩:∃ g:Nat→Value,g=fun j=>if listed.getD j false=true then f j else((dst ops j).map fun t=>a.tmps.getD t undef).getD undef:=⟨_,rfl⟩
       have hgf:∀ j,listed.getD j false=true→g j=f j:=fun j hj=>by rw[hg];simp only[hj,if_true]
       have hact:a'=put ops (nd M i) g (List.range m) a:=by
         rw[hI.act];refine uw a List.nodup_range (fun p hp q hq=>hF.own p q (List.mem_range.1 hp) (List.mem_range.1 hq)) (fun j hj hd=>⟨hnd j (List.mem_range.1 hj) hd,hgf j hd⟩) a (fun j _ hd t ht=>?_);rw[hg];simp only[hd,xz,yL,ht,yM,vL]
       have hmask:∀ j,j<m→listed.getD j false=true→qj M j g=qj M j f:=fun j hj hd=>by
         funext k;unfold qj;split
         · rename_i hk;rw[qi,jh]at hk;rcases hk with rfl|hk
           · exact hgf _ hd
           · have hjs:j<ops.size:=by have:=hF.le;omega
             have hkj:=hF.bit j hjs k hk;exact hgf k (anc j _ (qG hjs) (hcl j _ (qG hjs) hd) k (by omega) hk)
         · rfl
       rw[hact];refine hstep i him g X hI.ext (fun j hb=>?_) _ (fun a'' v X' ha hE hA hR'=>?_)
       · have hj:j<m:=by have:=hF.bit i his j hb;omega
         have hd:=anc i o ho hdep j hj hb;show R j (qj M j g) X;rw[hmask j hj hd];exact hI.said j hj hd
       · have hnew:∀ j,(listed.setIfInBounds i true).getD j false=(listed.getD j false||j==i):=fun j=>by
           by_cases hji:j=i
           · subst hji;simp[hil]
           · rw[Go.getD_set_ne false (fun e=>hji e.symm)];simp[hji]
         have hnin:∀ j,j<m→listed.getD j false=true→j≠i:=fun j _ hd e=>by rw[e,hid]at hd;cases hd
         have hupd:∀ j,listed.getD j false=true→upd g i v j=f j:=fun j hd=>by
           have hne:j≠i:=fun e=>by rw[e,hid]at hd;cases hd
           simp only[upd,hne,yL];exact hgf j hd
         have hupi:upd g i v i=v:=by simp[upd]
         have hmk:∀ j,j<m→listed.getD j false=true→qj M j (upd g i v)=qj M j f:=fun j hj hd=>by
           rw[←hmask j hj hd];funext k;unfold qj;split
           · rename_i hk;rw[qi,jh]at hk;have hne:k≠i:=by
               rintro rfl;rcases hk with rfl|hk
               · exact hnin _ hj hd rfl
               · have:=hnd j hj hd;simp[nd,hk]at this
             simp[upd,hne]
           · rfl
         refine ih _ (upd g i v) a'' X' (by simpa using hsz) (fun j oj hoj hd e he hb=>?_) (fun j hd=>?_) ?_ ⟨?_,hE1 _ _ _ hI.ext hE,fun j hj hd=>?_,fun j hj hd hal=>?_,fun j k hj hk hd hd' hal hal' hne=>?_⟩
         · rw[hnew]at hd ⊢;rw[qi,jh]at hd ⊢;rcases hd with hd|rfl
           · exact .inl (hcl j oj hoj hd e he hb)
           · rw[ho]at hoj;cases hoj;exact .inl (hdep e he hb)
         · rw[hnew,qi,jh]at hd;rcases hd with hd|rfl
           · exact hlt j hd
           · exact him
         · rw[fZ (D:=fun j=>listed.getD j false) (D':=fun j=>(listed.setIfInBounds i true).getD j false) hid (by rw[hnew];simp) (fun j hj=>by show(listed.setIfInBounds i true).getD j false=listed.getD j false;rw[hnew];simp[hj]) him];omega
         · rw[ha,cf (List.mem_range.2 him) List.nodup_range (fun j hj hne=>hF.own i j him (List.mem_range.1 hj) (xO hne)) (by simp[nd])];refine(uw a List.nodup_range (fun p hp q hq=>hF.own p q (List.mem_range.1 hp) (List.mem_range.1 hq)) (fun j hj hd=>⟨?_,rfl⟩) a (fun j hj hd t ht=>?_)).symm
           · rw[hnew,qi,jh]at hd;rw[qi,jh];exact hd.imp (hnd j (List.mem_range.1 hj)) id
           · rw[hnew,Bool.or_eq_false_iff]at hd;have hne:j≠i:=by simpa using hd.2
             simp only[upd,hne,yL];rw[hg];simp only[hd.1,xz,yL,ht,yM,vL]
         · rw[hnew,qi,jh]at hd;by_cases hold:listed.getD j false=true
           · rw[hmk j hj hold];have:=hI.said j hj hold;exact hR j hj f X this X' hE
           · obtain rfl:j=i:=hd.resolve_left hold;exact hR' X' (hE0 _)
         · rw[hnew,qi,jh]at hd;by_cases hold:listed.getD j false=true
           · obtain⟨b,h1,h2⟩:=hI.at_ j hj hold hal;exact⟨b,(hupd j hold).trans h1,zI h2 (hE2 _ _ hE)⟩
           · obtain rfl:j=i:=hd.resolve_left hold;rw[qg hal]at hA;exact⟨X.heap.size,hupi.trans hA.1,hA.2⟩
         · rw[hnew,qi,jh]at hd hd';have key:∀ j k,j<m→listed.getD j false=true→AL j=true→AL k=true→k=i→upd g i v j≠upd g i v k:=fun j k hj hold hal hal' hki heq=>by
             subst hki;rw[qg hal']at hA;obtain⟨b,h1,h2⟩:=hI.at_ j hj hold hal;rw[hupd j hold,hupi,h1,hA.1]at heq;injection heq with heq
             injection heq with heq
             injection heq with heq
             omega
           by_cases hold:listed.getD j false=true
           · by_cases hold':listed.getD k false=true
             · rw[hupd j hold,hupd k hold'];exact hI.apart j k hj hk hold hold' hal hal' hne
             · exact key j k hj hold hal hal' (hd'.resolve_left hold')
           · have hji:=hd.resolve_left hold;by_cases hold':listed.getD k false=true
             · exact fun e=>key k j hk hold' hal' hal hji e.symm
             · exact absurd (hji.trans (hd'.resolve_left hold').symm) hne
structure Way (p:Prop):Prop where
 out:p
def zZ (P:Program) (ol:List Oper) (Q:Exit→Act→World→Prop):List Oper→Act→World→Prop
 | [],a,w=>Q .normal a w
 | o::l,a,w=>∀ K:Act→World→Prop,(∀ a w,zZ P ol Q l a w→K a w)→if Region.wanted o (yielded ol.toArray a.tmps)=true then Oper.wp P o a w K Q else K (a.put o.dst undef) w
def wU (n m:Nat):Array Bool:=((List.range n).map fun j=>decide (j<m)).toArray
theorem uI {n m j:Nat}(h:j<n):(wU n m).getD j false=decide (j<m):=by
 simp[wU,h]
theorem ms {n m:Nat}(h:m<n):(wU n m).setIfInBounds m true=wU n (m+1):=by
 apply Array.ext
 · simp[wU]
 · intro k h1 h2;have hk:k<n:=by simpa[wU]using h2
   by_cases hkm:k=m
   · subst hkm;simp[wU]
   · rw[Array.getElem_setIfInBounds_ne (by simpa[wU]using hk) (fun e=>hkm e.symm)];simp only[wU,List.getElem_toArray,List.getElem_map,List.getElem_range,decide_eq_decide];omega
theorem zZ.sound {ol:List Oper}{M:Nat→Nat}{m:Nat}(hF:di ol.toArray M m):∀(n m':Nat) (a:Act) (X:World),m≤m'→m'+n=ol.toArray.size→zZ P ol Q (ol.drop m') a X→wpAny P .any ol.toArray Q n (wU ol.toArray.size m') a X:=by
 intro n;induction n with
 | zero =>
   intro m' a X hm hn h;have hnil:ol.drop m'=[]:=xy (by simp at hn;omega);rw[hnil]at h;refine⟨?_,h⟩;cases hr:Region.ready .any ol.toArray (wU ol.toArray.size m')with
   | nil=>rfl
   | cons i l =>
     have hi:i∈Region.ready .any ol.toArray (wU ol.toArray.size m'):=by rw[hr];simp
     obtain⟨h0,o,ho,_⟩:=mem_ready.1 hi;have his:=(Array.getElem?_eq_some_iff.1 ho).1;have h1:(wU ol.toArray.size m').getD i true=decide (i<m'):=by
       have:i<ol.length:=by simpa using his
       simp[wU,this]
     rw[h1,decide_eq_false_iff_not]at h0;omega
 | succ n ih =>
   intro m' a X hm hn h;have hms:m'<ol.length:=by simp at hn;omega
   have hms':m'<ol.toArray.size:=by simpa using hms
   have hcl:∀ j o,ol.toArray[j]?=some o→(wU ol.toArray.size m').getD j false=true→∀ e∈o.after,binds e=true→(wU ol.toArray.size m').getD e.on false=true:=fun j o ho hj e he hb=>by
     have hjs:=(Array.getElem?_eq_some_iff.1 ho).1;have hlt:=hF.up j o ho e he hb;rw[uI hjs]at hj;rw[uI (by omega)];simp at hj ⊢;omega
   have hmem:m'∈Region.ready .any ol.toArray (wU ol.toArray.size m'):=by
     rw[mem_ready];refine⟨?_,_,qG hms',fun e he hb=>?_⟩
     · simp[wU,hms]
     · have hlt:=hF.up m' _ (qG hms') e he hb;rw[uI (by omega)];simpa using hlt
   refine⟨fun h0=>(by rw[h0]at hmem;cases hmem),fun i hi=>?_⟩;obtain⟨h0,o,ho,hdep⟩:=mem_ready.1 hi;have his:=(Array.getElem?_eq_some_iff.1 ho).1;have him:i=m':=by
     have h1:(wU ol.toArray.size m').getD i true=decide (i<m'):=by
       have:i<ol.length:=by simpa using his
       simp[wU,this]
     rw[h1,decide_eq_false_iff_not]at h0;rcases qF m' i with hlt|hge
     · have:=anc hF hcl i i o (zG _) ho hdep m' hms' (hF.late i (by omega) his m' hlt);rw[uI hms']at this;simp at this
     · omega
   subst him;rw[qa hms]at h;have hoe:o=ol[i]:=by
     have:ol[i]?=some o:=by simpa using ho
     rw[qO hms]at this;injection this with this
     exact this.symm
   rw[ms hms'];refine wpOp_step ho fun K' hK'=>?_;rw[hoe];exact h K' fun a w hc=>hK' a w (ih (i+1) a w (by omega) (by omega) hc)
theorem zZ.next {ol:List Oper}{o:Oper}{l:List Oper}{a:Act}{w:World}(h:∀ K:Act→World→Prop,Way (∀ a w,Way (zZ P ol Q l a w)→K a w)→Way (if Region.wanted o (yielded ol.toArray a.tmps)=true then Oper.wp P o a w K Q else K (a.put o.dst undef) w)):Way (zZ P ol Q (o::l) a w) :=
 ⟨fun K hK=>(h K ⟨fun a w hc=>hK a w hc.out⟩).out⟩
theorem zZ.done {ol:List Oper}{a:Act}{w:World}(h:Q .normal a w):Way (zZ P ol Q [] a w):=⟨h⟩
def sel (ops:Array Oper) (s:Nat→Bool) (l:List Nat):List (Nat×Nat):=l.filterMap fun j=>if s j then(dst ops j).map fun d=>(d,j)else none
def vH (f:Nat→Value):List (Nat×Nat)→Act→Act
 | [],a=>a
 | p::l,a=>vH f l (a.put (some p.1) (f p.2))
theorem fO (s:Nat→Bool)(f:Nat→Value)(l:List Nat)(a:Act):put ops s f l a=vH f (sel ops s l) a:=by
 induction l generalizing a with
 | nil=>rfl
 | cons j l ih =>
   simp only[put,sel,List.filterMap_cons];rw[ih];cases s j
   · rfl
   · simp only[if_true];cases h:dst ops j with
     | none=>rfl
     | some d=>rfl
def xi (S:Nat→Prop):Nat→Nat→Prop
 | _,0=>True
 | k,n+1=>S k∧xi S (k+1) n
theorem xi.nil {S:Nat→Prop}{k:Nat} : xi S k 0:=trivial
theorem xi.cons {S:Nat→Prop}{k n:Nat}(k' n':Nat)(hk:k+1=k')(hn:n'+1=n)(h:S k)(hs:xi S k' n'):xi S k n:=by
 subst hk hn;exact⟨h,hs⟩
theorem xi.out {S:Nat→Prop} : ∀ {n k:Nat},xi S k n→∀ i,k≤i→i<k+n→S i
 | 0,k,_,i,h1,h2=>by omega
 | n + 1, k, h, i, h1, h2 => by
   by_cases hi:i=k
   · subst hi;exact h.1
   · exact h.2.out i (by omega) (by omega)
def bW (P:Program) (ops:Array Oper) (Q:Exit→Act→World→Prop) (E:World→World→Prop) (m:Nat) (L:List Nat) (AL:List Nat) (R:Nat→(Nat→Value)→World→Prop) (a:Act) (w:World) (i:Nat):Prop :=
 tY P ops Q E m (fun i=>L.getD i 0) (fun i=>AL.contains i) (fun j f X=>R j (qj (fun i=>L.getD i 0) j f) X) a w i
theorem bW.intro {E:World→World→Prop}{m:Nat}{L AL:List Nat}{R:Nat→(Nat→Value)→World→Prop}{a:Act}{w:World}{i:Nat}{o:Oper}(pl:List (Nat×Nat))(ho:ops[i]?=some o)(hpl:sel ops (nd (fun i=>L.getD i 0) i) (List.range m)=pl)
 (h : ∀ f X, E w X → Way (∀ j, (L.getD i 0).testBit j = true → R j (qj (fun i => L.getD i 0) j f) X) → ∀ K : Act → World → Prop,
  Way (∀ a' v X',a'=(vH f pl a).put o.dst v→E X X'→(if AL.contains i=true then v=.pointer (some ⟨X.heap.size,0,none⟩)∧X.heap.size<X'.heap.size else True)→(∀ Y,E X' Y→R i (qj (fun i=>L.getD i 0) i (upd f i v)) Y)→K a' X') →
  Way (if Region.wanted o (yielded ops (vH f pl a).tmps)=true then Oper.wp P o (vH f pl a) X K Q else K ((vH f pl a).put o.dst undef) X)) :
 bW P ops Q E m L AL R a w i:=tY.intro ho fun f X hX hR K hK=>by
 have h1:=h f X hX ⟨hR⟩ K
 rw[←hpl,←fO]at h1
 exact(h1 ⟨hK⟩).out
structure jP (P:Program) (ol:List Oper) (Q:Exit→Act→World→Prop) (E:World→World→Prop) (m:Nat) (L:List Nat) (AL:List Nat) (R:Nat→(Nat→Value)→World→Prop) (a:Act) (w:World) (i:Nat) (o:Oper):Prop where
 out:ol[i]?=some o→bW P ol.toArray Q E m L AL R a w i
theorem jP.intro {ol:List Oper}{E:World→World→Prop}{m:Nat}{L AL:List Nat}{R:Nat→(Nat→Value)→World→Prop}{a:Act}{w:World}{i:Nat}{o:Oper}(pl:List (Nat×Nat))(hpl:sel ol.toArray (nd (fun i=>L.getD i 0) i) (List.range m)=pl)
 (h : ∀ f X, E w X → Way (∀ j, (L.getD i 0).testBit j = true → R j (qj (fun i => L.getD i 0) j f) X) → ∀ K : Act → World → Prop,
  Way (∀ a' v X',a'=(vH f pl a).put o.dst v→E X X'→(if AL.contains i=true then v=.pointer (some ⟨X.heap.size,0,none⟩)∧X.heap.size<X'.heap.size else True)→(∀ Y,E X' Y→R i (qj (fun i=>L.getD i 0) i (upd f i v)) Y)→K a' X') →
  Way (if Region.wanted o (yielded ol.toArray (vH f pl a).tmps)=true then Oper.wp P o (vH f pl a) X K Q else K ((vH f pl a).put o.dst undef) X)) :
 jP P ol Q E m L AL R a w i o:=⟨fun ho=>bW.intro pl (by simpa using ho) hpl h⟩
inductive qT (S:Nat→Oper→Prop) (F:List Oper→Prop):Nat→Nat→List Oper→Prop
 | fin {k:Nat} {l:List Oper} (h:F l):qT S F k 0 l
 | step {k n:Nat} {o:Oper} {l:List Oper} (h:S k o) (hs:qT S F (k+1) n l):qT S F k (n+1) (o::l)
theorem qT.cons {S:Nat→Oper→Prop}{F:List Oper→Prop}{k n:Nat}{o:Oper}{l:List Oper}(k' n':Nat)(hk:k+1=k')(hn:n'+1=n)(h:S k o)(hs:qT S F k' n' l):qT S F k n (o::l):=by
 subst hk hn;exact .step h hs
theorem qT.out {S:Nat→Oper→Prop}{F:List Oper→Prop}{n k:Nat}{l:List Oper}(h:qT S F k n l):∀ i,i<n→∃ o,l[i]?=some o∧S (k+i) o:=by
 induction h with
 | fin _=>intro i hi;omega
 | step h hs ih =>
   rename_i k n o l;intro i hi;match i with
   | 0=>exact⟨o,rfl,h⟩
   | i + 1 =>
     obtain⟨o',h1,h2⟩:=ih i (by omega);exact⟨o',by simpa using h1,by rw[show k+(i+1)=k+1+i by omega];exact h2⟩
theorem qT.end_ {S:Nat→Oper→Prop}{F:List Oper→Prop}{n k:Nat}{l:List Oper}(h:qT S F k n l):F (l.drop n):=by
 induction h with
 | fin h=>exact h
 | step _ _ ih=>exact ih
theorem qc {b:Bool}{p q:Prop}(h:b=true)(hp:p):if b=true then p else q:=by rw[qg h];exact hp
theorem yq {n j:Nat} : (Array.replicate n false).getD j false=false:=by
 rw[Array.getD_eq_getD_getElem?,Array.getElem?_replicate];split<;>rfl
theorem zEA {E:World→World→Prop}(hE0:∀ w,E w w)(hE1:∀ a b c,E a b→E b c→E a c)(hE2:∀ a b,E a b→a.heap.size≤b.heap.size)
 {a:Act} {w X0:World} (hX0:E w X0) (m:Nat) (L AL:List Nat) (R:Nat→(Nat→Value)→World→Prop) (hok:ok ops (fun i=>L.getD i 0) m=true)
 (hstep:xi (bW P ops Q E m L AL R a w) 0 m) (pl:List (Nat×Nat)) (hpl:sel ops (fun _=>true) (List.range m)=pl)
 (hfin : ∀ f X, E w X → (∀ j, j < m → R j (qj (fun i => L.getD i 0) j f) X) → (∀ j, j < m → AL.contains j = true → ∃ b, f j = .pointer (some ⟨b, 0, none⟩) ∧ b < X.heap.size) → (∀ j k, j < m → k < m → AL.contains j = true → AL.contains k = true → j ≠ k → f j ≠ f k) →
  wpAny P .any ops Q (ops.size-m) (((List.range ops.size).map fun j=>decide (j<m)).toArray) (vH f pl a) X):wpAny P .any ops Q ops.size (Array.replicate ops.size false) a X0:=by
 have hF:=ok.form hok
 refine par hE0 hE1 hE2 (R:=fun j f X=>∀ Y,E X Y→R j f Y) (M:=fun i=>L.getD i 0) (AL:=fun i=>AL.contains i) (m:=m) (a:=a) (w:=w) hF (fun j _ f X h Y hY Z hZ=>h Z (hE1 _ _ _ hY hZ))
  (fun i hi f X hX hR K hK=>?_) (fun f X hX hR h1 h2=>?_) ops.size _ (fun _=>undef) a X0 (by simp) (fun j o _ h=>(by rw[yq]at h;cases h)) (fun j h=>(by rw[yq]at h;cases h)) ?_ ⟨?_,hX0,fun j _ h=>(by rw[yq]at h;cases h),fun j _ h=>(by rw[yq]at h;cases h),fun j k _ _ h=>(by rw[yq]at h;cases h)⟩
 · refine hstep.out i (vr _) (by omega) f X hX (fun j hj=>hR j hj X (hE0 _)) K (fun a' v X' ha hE hA hR'=>hK a' v X' ha hE hA (fun Y hY Z hZ=>hR' Z (hE1 _ _ _ hY hZ)))
 · have:=hfin f X hX (fun j hj=>hR j hj X (hE0 _)) h1 h2;rw[←hpl,←fO]at this;exact this
 · have:∀ n,cnt (fun j=>(Array.replicate ops.size false).getD j false) n=0:=fun n=>by
    induction n with
    | zero=>rfl
    | succ n ih=>rw[cnt,ih,yq];rfl
   rw[this];rfl
 · have:∀(l:List Nat) (a:Act),put ops (fun j=>(Array.replicate ops.size false).getD j false) (fun _=>undef) l a=a:=fun l=>by
    induction l with
    | nil=>intro a;rfl
    | cons j l ih=>intro a;rw[put,yq];exact ih _
   exact(this _ _).symm
structure Fin (P:Program) (ol:List Oper) (Q:Exit→Act→World→Prop) (E:World→World→Prop) (m:Nat) (L AL:List Nat) (R:Nat→(Nat→Value)→World→Prop) (pl:List (Nat×Nat)) (a:Act) (w:World) (l:List Oper):Prop where
 out:∀ f X,E w X→(∀ j,j<m→R j (qj (fun i=>L.getD i 0) j f) X)→(∀ j,j<m→AL.contains j=true→∃ b,f j=.pointer (some ⟨b,0,none⟩)∧b<X.heap.size)→(∀ j k,j<m→k<m→AL.contains j=true→AL.contains k=true→j≠k→f j≠f k)→Way (zZ P ol Q l (vH f pl a) X)
theorem cH {E:World→World→Prop}(hE0:∀ w,E w w)(hE1:∀ a b c,E a b→E b c→E a c)(hE2:∀ a b,E a b→a.heap.size≤b.heap.size)
 {ol:List Oper} {a:Act} {w X0:World} (hX0:E w X0) (m:Nat) (L AL:List Nat) (R:Nat→(Nat→Value)→World→Prop) (hok:ok ol.toArray (fun i=>L.getD i 0) m=true) (pl:List (Nat×Nat)) (hpl:sel ol.toArray (fun _=>true) (List.range m)=pl)
 (hstep:qT (jP P ol Q E m L AL R a w) (Fin P ol Q E m L AL R pl a w) 0 m ol):wpAny P .any ol.toArray Q ol.toArray.size (Array.replicate ol.toArray.size false) a X0:=by
 refine zEA hE0 hE1 hE2 hX0 m L AL R hok ?_ pl hpl (fun f X hX hR h1 h2=>?_)
 · have key:∀ i,i<m→bW P ol.toArray Q E m L AL R a w i:=fun i hi=>by
    obtain⟨o,h1,h2⟩:=hstep.out i hi;rw[jH]at h2;exact h2.out h1
   have:∀ n k,k+n=m→xi (bW P ol.toArray Q E m L AL R a w) k n:=fun n=>by
    induction n with
    | zero=>intro k _;trivial
    | succ n ih=>intro k hk;exact⟨key k (by omega),ih (k+1) (by omega)⟩
   exact this m 0 (by omega)
 · have hF:=ok.form hok;have h3:=(hstep.end_.out f X hX hR h1 h2).out;exact zZ.sound hF (ol.toArray.size-m) m _ X (zG _) (by have:=hF.le;omega) h3
theorem oQ {ol:List Oper}{M:Nat→Nat}{m:Nat}(hF:di ol.toArray M m):∀(n m':Nat) (a:Act) (X:World),m'+n=ol.toArray.size→wpAny P .any ol.toArray Q n (wU ol.toArray.size m') a X→wpOps P ol.toArray Q (List.range' m' n) a X:=by
 intro n;induction n with
 | zero=>intro m' a X _ h;exact h.2
 | succ n ih =>
   intro m' a X hn h;have hms':m'<ol.toArray.size:=by omega
   have hmem:m'∈Region.ready .any ol.toArray (wU ol.toArray.size m'):=by
     rw[mem_ready];refine⟨?_,_,qG hms',fun e he hb=>?_⟩
     · have:m'<ol.length:=by simpa using hms'
       simp[wU,this]
     · have hlt:=hF.up m' _ (qG hms') e he hb;rw[uI (by omega)];simpa using hlt
   rw[List.range'_succ,wpOps_cons];refine wpOp_mono (fun a w hw=>?_) (h.2 m' hmem);rw[ms hms']at hw;exact ih (m'+1) a w (by omega) hw
theorem aG (n:Nat):Array.replicate n false=wU n 0:=by
 apply Array.ext
 · simp[wU]
 · intro k h1 h2;simp[wU]
theorem qE {ol:List Oper}{id:Nat}{a:Act}{w:World}(hm:P.follows .mixedOrders=true)(m:Nat)(L AL:List Nat)(R:Nat→(Nat→Value)→World→Prop)(hok:ok ol.toArray (fun i=>L.getD i 0) m=true)(pl:List (Nat×Nat))(hpl:sel ol.toArray (fun _=>true) (List.range m)=pl)
 (hstep:qT (jP P ol Q Ext m L AL R a w) (Fin P ol Q Ext m L AL R pl a w) 0 m ol):(Code.region id ol.toArray true).wp P Q a w :=
 wp_region_any hm (cH Ext.refl (fun _ _ _=>Ext.trans) (fun _ _=>Ext.bsize) (Ext.drew w) m L AL R hok pl hpl hstep)
theorem ze {ol:List Oper}{id:Nat}{a:Act}{w:World}(m:Nat)(L AL:List Nat)(R:Nat→(Nat→Value)→World→Prop)(hok:ok ol.toArray (fun i=>L.getD i 0) m=true)(pl:List (Nat×Nat))(hpl:sel ol.toArray (fun _=>true) (List.range m)=pl)
 (hstep:qT (jP P ol Q Ext m L AL R a w) (Fin P ol Q Ext m L AL R pl a w) 0 m ol):(Code.region id ol.toArray false).wp P Q a w:=by
 refine wp_region ?_
 have h:=cH Ext.refl (fun _ _ _=>Ext.trans) (fun _ _=>Ext.bsize) (Ext.refl w) m L AL R hok pl hpl hstep
 rw[aG]at h
 rw[List.range_eq_range']
 exact oQ (ok.form hok) _ 0 a w (by omega) h
end
theorem S {P:Program}{Q:Exit→Act→World→Prop}{ol:List Oper}{E:World→World→Prop}{m:Nat}{L AL:List Nat}{R:Nat→(Nat→Value)→World→Prop}{a:Act}{w:World}{F:List Oper→Prop}{k n:Nat}{o:Oper}{l:List Oper}(k' n':Nat)(pl:List (Nat×Nat))
 (h : ∀ f X, E w X → Way (∀ j, (L.getD k 0).testBit j = true → R j (qj (fun i => L.getD i 0) j f) X) → ∀ K : Act → World → Prop,
  Way (∀ a' v X',a'=(vH f pl a).put o.dst v→E X X'→(if AL.contains k=true then v=.pointer (some ⟨X.heap.size,0,none⟩)∧X.heap.size<X'.heap.size else True)→(∀ Y,E X' Y→R k (qj (fun i=>L.getD i 0) k (upd f k v)) Y)→K a' X') →
  Way (if Region.wanted o (yielded ol.toArray (vH f pl a).tmps)=true then Oper.wp P o (vH f pl a) X K Q else K ((vH f pl a).put o.dst undef) X))
 (hs:qT (jP P ol Q E m L AL R a w) F k' n' l) (hk:k+1=k':=by rfl) (hn:n'+1=n:=by rfl) (hpl:sel ol.toArray (nd (fun i=>L.getD i 0) k) (List.range m)=pl:=by kernel_rfl) :
 qT (jP P ol Q E m L AL R a w) F k n (o::l):=qT.cons k' n' hk hn (jP.intro pl hpl h) hs
theorem xj {f:Nat→Value}{j:Nat}{u:Value}(h:f j=u):f=upd f j u:=by
 funext i;unfold upd;split
 · rename_i e;rw[e];exact h
 · rfl
theorem vx {P:Program}{Q:Exit→Act→World→Prop}{ol:List Oper}{m:Nat}{L AL:List Nat}{R:Nat→(Nat→Value)→World→Prop}{a:Act}{w:World}{F:List Oper→Prop}{k n:Nat}{o:Oper}{l:List Oper}{k' n':Nat}{v:Value}(g:(Nat→Value)→Nat→Value)
 (hs:qT (jP P ol Q Ext m L AL R a w) F k' n' l) (hg:∀ f X,(∀ j,(L.getD k 0).testBit j=true→R j (qj (fun i=>L.getD i 0) j f) X)→f=g f)
 (hR:∀ f X,f k=v→R k (qj (fun i=>L.getD i 0) k f) X) (hk:k+1=k') (hn:n'+1=n) (ha:AL.contains k=false)
 (hw:∀ f,Region.wanted o (yielded ol.toArray (put ol.toArray (nd (fun i=>L.getD i 0) k) (g f) (List.range m) a).tmps)=true)
 (hrun:∀ f X,Ext w X→(execOp (put ol.toArray (nd (fun i=>L.getD i 0) k) (g f) (List.range m) a).eval o).run P X=.ok (.value v) X):qT (jP P ol Q Ext m L AL R a w) F k n (o::l):=by
 refine qT.cons k' n' hk hn ⟨fun ho=>?_⟩ hs
 intro f X hX hR' K hK
 have hf:=hg f X hR'
 have ho':ol.toArray[k]?=some o:=by simpa using ho
 refine wpOp_step ho' fun K' hK'=>?_
 have hA:put ol.toArray (nd (fun i=>L.getD i 0) k) f (List.range m) a=put ol.toArray (nd (fun i=>L.getD i 0) k) (g f) (List.range m) a:=congrArg (fun f=>put ol.toArray (nd (fun i=>L.getD i 0) k) f (List.range m) a) hf
 rw[qg (by rw[hA];exact hw f)]
 unfold Oper.wp
 rw[show execOp (put ol.toArray (nd (fun i=>L.getD i 0) k) f (List.range m) a).eval o=execOp (put ol.toArray (nd (fun i=>L.getD i 0) k) (g f) (List.range m) a).eval o by rw[hA],hrun f X hX]
 show K' ((put ol.toArray (nd (fun i=>L.getD i 0) k) f (List.range m) a).put o.dst v) X
 refine hK' _ _ (hK _ v X ?_ (Ext.refl _) (by show(if AL.contains k=true then _ else True);rw[ql (by rw[ha];decide)];trivial) (fun Y _=>hR _ _ (by simp[upd])))
 have:o.dst=dst ol.toArray k:=by rw[dst,ho'];rfl
 rw[this]
section
variable {P:Program} {Q:Exit→Act→World→Prop} {ol:List Oper} {m:Nat} {L AL:List Nat} {R:Nat→(Nat→Value)→World→Prop} {a:Act} {w:World} {F:List Oper→Prop} {k n:Nat} {o:Oper} {l:List Oper} {v u u':Value}
theorem v0 (k' n':Nat)(hs:qT (jP P ol Q Ext m L AL R a w) F k' n' l)(hR:∀ f X,f k=v→R k (qj (fun i=>L.getD i 0) k f) X:=by exact fun _ _ h=>h)(hk:k+1=k':=by rfl)(hn:n'+1=n:=by rfl)(ha:AL.contains k=false:=by kernel_rfl)
 (hw:∀ f,Region.wanted o (yielded ol.toArray (put ol.toArray (nd (fun i=>L.getD i 0) k) f (List.range m) a).tmps)=true:=by intro _;kernel_rfl)
 (hrun:∀ f X,(execOp (put ol.toArray (nd (fun i=>L.getD i 0) k) f (List.range m) a).eval o).run P X=.ok (.value v) X:=by intro _ _;kernel_rfl):qT (jP P ol Q Ext m L AL R a w) F k n (o::l) :=
 vx (fun f=>f) hs (fun _ _ _=>rfl) hR hk hn ha hw (fun f X _=>hrun f X)
theorem v1 (k' n' j:Nat)(hs:qT (jP P ol Q Ext m L AL R a w) F k' n' l)(hr:∀ f X,R j (qj (fun i=>L.getD i 0) j f) X→f j=u:=by exact fun _ _ h=>h)(hR:∀ f X,f k=v→R k (qj (fun i=>L.getD i 0) k f) X:=by exact fun _ _ h=>h)(hk:k+1=k':=by rfl)(hn:n'+1=n:=by rfl)(ha:AL.contains k=false:=by kernel_rfl)
 (hj:(L.getD k 0).testBit j=true:=by kernel_rfl)
 (hw:∀ f,Region.wanted o (yielded ol.toArray (put ol.toArray (nd (fun i=>L.getD i 0) k) (upd f j u) (List.range m) a).tmps)=true:=by intro _;kernel_rfl)
 (hrun:∀ f X,(execOp (put ol.toArray (nd (fun i=>L.getD i 0) k) (upd f j u) (List.range m) a).eval o).run P X=.ok (.value v) X:=by intro _ _;kernel_rfl):qT (jP P ol Q Ext m L AL R a w) F k n (o::l) :=
 vx (fun f=>upd f j u) hs (fun f X h=>xj (hr f X (h j hj))) hR hk hn ha hw (fun f X _=>hrun f X)
theorem v2 (k' n' j i:Nat)(hs:qT (jP P ol Q Ext m L AL R a w) F k' n' l)(hr:∀ f X,R j (qj (fun i=>L.getD i 0) j f) X→f j=u:=by exact fun _ _ h=>h)(hr':∀ f X,R i (qj (fun i=>L.getD i 0) i f) X→f i=u':=by exact fun _ _ h=>h)(hR:∀ f X,f k=v→R k (qj (fun i=>L.getD i 0) k f) X:=by exact fun _ _ h=>h)(hk:k+1=k':=by rfl)(hn:n'+1=n:=by rfl)(ha:AL.contains k=false:=by kernel_rfl)
 (hj:(L.getD k 0).testBit j=true:=by kernel_rfl) (hi:(L.getD k 0).testBit i=true:=by kernel_rfl)
 (hw:∀ f,Region.wanted o (yielded ol.toArray (put ol.toArray (nd (fun i=>L.getD i 0) k) (upd (upd f j u) i u') (List.range m) a).tmps)=true:=by intro _;kernel_rfl)
 (hrun:∀ f X,(execOp (put ol.toArray (nd (fun i=>L.getD i 0) k) (upd (upd f j u) i u') (List.range m) a).eval o).run P X=.ok (.value v) X:=by intro _ _;kernel_rfl):qT (jP P ol Q Ext m L AL R a w) F k n (o::l) :=
 vx (fun f=>upd (upd f j u) i u') hs (fun f X h=>by
  have h1:=xj (hr f X (h j hj))
  have h2:=xj (hr' f X (h i hi))
  rw[←h1,←h2]) hR hk hn ha hw (fun f X _=>hrun f X)
theorem sk (k' n' j:Nat)(hs:qT (jP P ol Q Ext m L AL R a w) F k' n' l)(hr:∀ f X,R j (qj (fun i=>L.getD i 0) j f) X→f j=u:=by exact fun _ _ h=>h)(hR:∀ f X,f k=undef→R k (qj (fun i=>L.getD i 0) k f) X:=by exact fun _ _ h=>h)(hk:k+1=k':=by rfl)(hn:n'+1=n:=by rfl)(ha:AL.contains k=false:=by kernel_rfl)
 (hj:(L.getD k 0).testBit j=true:=by kernel_rfl)
 (hw:∀ f,Region.wanted o (yielded ol.toArray (put ol.toArray (nd (fun i=>L.getD i 0) k) (upd f j u) (List.range m) a).tmps)=false:=by intro _;kernel_rfl):qT (jP P ol Q Ext m L AL R a w) F k n (o::l):=by
 refine qT.cons k' n' hk hn ⟨fun ho=>?_⟩ hs
 intro f X hX hR' K hK
 have hf:=xj (hr f X (hR' j hj))
 have ho':ol.toArray[k]?=some o:=by simpa using ho
 refine wpOp_step ho' fun K' hK'=>?_
 have hA:put ol.toArray (nd (fun i=>L.getD i 0) k) f (List.range m) a=put ol.toArray (nd (fun i=>L.getD i 0) k) (upd f j u) (List.range m) a:=congrArg (fun f=>put ol.toArray (nd (fun i=>L.getD i 0) k) f (List.range m) a) hf
 rw[ql (by rw[hA,hw f];decide)]
 refine hK' _ _ (hK _ undef X ?_ (Ext.refl _) (by show(if AL.contains k=true then _ else True);rw[ql (by rw[ha];decide)];trivial) (fun Y _=>hR _ _ (by simp[upd])))
 have:o.dst=dst ol.toArray k:=by rw[dst,ho'];rfl
 rw[this]
theorem al (k' n':Nat){ob:Obj}(hs:qT (jP P ol Q Ext m L AL R a w) F k' n' l)(hR:∀ f X,(∃ b,f k=.pointer (some ⟨b,0,none⟩)∧w.heap.size≤b∧X.heap[b]?=some ob)→R k (qj (fun i=>L.getD i 0) k f) X:=by exact fun _ _ h=>h)(hk:k+1=k':=by rfl)(hn:n'+1=n:=by rfl)
 (hw:∀ f,Region.wanted o (yielded ol.toArray (put ol.toArray (nd (fun i=>L.getD i 0) k) f (List.range m) a).tmps)=true:=by intro _;kernel_rfl)
 (hrun:∀ f X,(execOp (put ol.toArray (nd (fun i=>L.getD i 0) k) f (List.range m) a).eval o).run P X=.ok (.value (.pointer (some ⟨X.heap.size,0,none⟩))) (X.alloc ob):=by intro _ _;kernel_rfl):qT (jP P ol Q Ext m L AL R a w) F k n (o::l):=by
 refine qT.cons k' n' hk hn ⟨fun ho=>?_⟩ hs
 intro f X hX hR' K hK
 have ho':ol.toArray[k]?=some o:=by simpa using ho
 refine wpOp_step ho' fun K' hK'=>?_
 rw[qg (hw f)]
 unfold Oper.wp
 rw[hrun f X]
 show K' ((put ol.toArray (nd (fun i=>L.getD i 0) k) f (List.range m) a).put o.dst _) (X.alloc ob)
 refine hK' _ _ (hK _ (.pointer (some ⟨X.heap.size,0,none⟩)) (X.alloc ob) ?_ (Ext.alloc _ _) (by show(if AL.contains k=true then _ else True);split;exact⟨rfl,by simp⟩;trivial) (fun Y hY=>hR _ _ ⟨X.heap.size,by simp[upd],hX.bsize,hY.at_ (zS _ _)⟩))
 have:o.dst=dst ol.toArray k:=by rw[dst,ho'];rfl
 rw[this]
theorem vy {k' n':Nat}(hs:qT (jP P ol Q Ext m L AL R a w) F k' n' l)(hk:k+1=k')(hn:n'+1=n)(ha:AL.contains k=false)
 (hw:∀ f,Region.wanted o (yielded ol.toArray (put ol.toArray (nd (fun i=>L.getD i 0) k) f (List.range m) a).tmps)=true)
 (hrun:∀ f X,Ext w X→∃ v,(execOp (put ol.toArray (nd (fun i=>L.getD i 0) k) f (List.range m) a).eval o).run P X=.ok (.value v) X∧∀ Y,Ext X Y→R k (qj (fun i=>L.getD i 0) k (upd f k v)) Y):qT (jP P ol Q Ext m L AL R a w) F k n (o::l):=by
 refine qT.cons k' n' hk hn ⟨fun ho=>?_⟩ hs
 intro f X hX hR' K hK
 have ho':ol.toArray[k]?=some o:=by simpa using ho
 refine wpOp_step ho' fun K' hK'=>?_
 rw[qg (hw f)]
 unfold Oper.wp
 obtain⟨v,h1,h2⟩:=hrun f X hX
 rw[h1]
 show K' ((put ol.toArray (nd (fun i=>L.getD i 0) k) f (List.range m) a).put o.dst v) X
 refine hK' _ _ (hK _ v X ?_ (Ext.refl _) (by show(if AL.contains k=true then _ else True);rw[ql (by rw[ha];decide)];trivial) h2)
 have:o.dst=dst ol.toArray k:=by rw[dst,ho'];rfl
 rw[this]
theorem cx {F':FuncId}{args:(Nat→Value)→Array Value}{k' n':Nat}(hs:qT (jP P ol Q Ext m L AL R a w) F k' n' l)(hk:k+1=k')(hn:n'+1=n)(ha:AL.contains k=false)
 (hw:∀ f X,(∀ j,(L.getD k 0).testBit j=true→R j (qj (fun i=>L.getD i 0) j f) X)→Region.wanted o (yielded ol.toArray (put ol.toArray (nd (fun i=>L.getD i 0) k) f (List.range m) a).tmps)=true)
 (hrun:∀ f X,(execOp (put ol.toArray (nd (fun i=>L.getD i 0) k) f (List.range m) a).eval o).run P X=.ok (.enter F' (args f)) X)
 (hc:∀ f X,Ext w X→Way (∀ j,(L.getD k 0).testBit j=true→R j (qj (fun i=>L.getD i 0) j f) X)→Calls P F' (args f) X fun e w'=>∃ v,e=.returned v∧Ext X w'∧∀ Y,Ext w' Y→R k (qj (fun i=>L.getD i 0) k (upd f k v)) Y):qT (jP P ol Q Ext m L AL R a w) F k n (o::l):=by
 refine qT.cons k' n' hk hn ⟨fun ho=>?_⟩ hs
 intro f X hX hR' K hK
 have ho':ol.toArray[k]?=some o:=by simpa using ho
 refine wpOp_step ho' fun K' hK'=>?_
 rw[qg (hw f X hR')]
 unfold Oper.wp
 rw[hrun f X,Oper.upon_enter]
 refine(hc f X hX ⟨hR'⟩).mono ?_
 rintro e w' ⟨v,rfl,hE,hY⟩
 refine hK' _ _ (hK _ v w' ?_ hE (by show(if AL.contains k=true then _ else True);rw[ql (by rw[ha];decide)];trivial) hY)
 have:o.dst=dst ol.toArray k:=by rw[dst,ho'];rfl
 rw[this]
theorem c0 (k' n':Nat)(args:(Nat→Value)→Array Value){F':FuncId}(hc:∀ f X,Ext w X→Way (∀ j,(L.getD k 0).testBit j=true→R j (qj (fun i=>L.getD i 0) j f) X)→Calls P F' (args f) X fun e w'=>∃ v,e=.returned v∧Ext X w'∧∀ Y,Ext w' Y→R k (qj (fun i=>L.getD i 0) k (upd f k v)) Y)(hs:qT (jP P ol Q Ext m L AL R a w) F k' n' l)
 (hk:k+1=k':=by rfl) (hn:n'+1=n:=by rfl) (ha:AL.contains k=false:=by kernel_rfl)
 (hw:∀ f,Region.wanted o (yielded ol.toArray (put ol.toArray (nd (fun i=>L.getD i 0) k) f (List.range m) a).tmps)=true:=by intro _;kernel_rfl)
 (hrun:∀ f X,(execOp (put ol.toArray (nd (fun i=>L.getD i 0) k) f (List.range m) a).eval o).run P X=.ok (.enter F' (args f)) X:=by intro _ _;kernel_rfl):qT (jP P ol Q Ext m L AL R a w) F k n (o::l) :=
 cx hs hk hn ha (fun f _ _=>hw f) hrun hc
theorem c1 (k' n' j:Nat)(args:(Nat→Value)→Array Value){F':FuncId}(hc:∀ f X,Ext w X→Way (∀ j,(L.getD k 0).testBit j=true→R j (qj (fun i=>L.getD i 0) j f) X)→Calls P F' (args f) X fun e w'=>∃ v,e=.returned v∧Ext X w'∧∀ Y,Ext w' Y→R k (qj (fun i=>L.getD i 0) k (upd f k v)) Y)(hs:qT (jP P ol Q Ext m L AL R a w) F k' n' l)
 (hr:∀ f X,R j (qj (fun i=>L.getD i 0) j f) X→f j=u:=by exact fun _ _ h=>h) (hk:k+1=k':=by rfl) (hn:n'+1=n:=by rfl) (ha:AL.contains k=false:=by kernel_rfl) (hj:(L.getD k 0).testBit j=true:=by kernel_rfl)
 (hw:∀ f,Region.wanted o (yielded ol.toArray (put ol.toArray (nd (fun i=>L.getD i 0) k) (upd f j u) (List.range m) a).tmps)=true:=by intro _;kernel_rfl)
 (hrun:∀ f X,(execOp (put ol.toArray (nd (fun i=>L.getD i 0) k) f (List.range m) a).eval o).run P X=.ok (.enter F' (args f)) X:=by intro _ _;kernel_rfl):qT (jP P ol Q Ext m L AL R a w) F k n (o::l) :=
 cx hs hk hn ha (fun f X h=>by rw[xj (hr f X (h j hj))];exact hw f) hrun hc
theorem dU {t:TypeId}{p:Addr}{X:World}(hc:X.cell? p=some v)(ht:(isAgg t).run P X=.ok false X):(Instr.loadAt t (.pointer (some p))).run P X=.ok v X:=by
 unfold Instr.loadAt loadVar;simp only[vC];rw[show(Instr.sureAddr (.pointer (some p))).run P X=.ok p X from rfl,qw,ht,qw,ql (by decide)];unfold load;simp only[Sem.run,hc]
theorem ld0 (k' n':Nat){p:Addr}{t:TypeId}{x:Operand}(hc:w.cell? p=some v)(hs:qT (jP P ol Q Ext m L AL R a w) F k' n' l)(hR:∀ f X,f k=v→R k (qj (fun i=>L.getD i 0) k f) X:=by exact fun _ _ h=>h)(hk:k+1=k':=by rfl)(hn:n'+1=n:=by rfl)(ha:AL.contains k=false:=by kernel_rfl)
 (hw:∀ f,Region.wanted o (yielded ol.toArray (put ol.toArray (nd (fun i=>L.getD i 0) k) f (List.range m) a).tmps)=true:=by intro _;kernel_rfl)
 (ho:o.op=.load t x:=by rfl) (hx:∀ f,(put ol.toArray (nd (fun i=>L.getD i 0) k) f (List.range m) a).eval x=.pointer (some p):=by intro _;kernel_rfl) (ht:∀ X,(isAgg t).run P X=.ok false X:=by intro _;kernel_rfl):qT (jP P ol Q Ext m L AL R a w) F k n (o::l) :=
 vx (fun f=>f) hs (fun _ _ _=>rfl) hR hk hn ha hw (fun f X hX=>by
  unfold execOp
  simp only[ho,vC,hx,dU (hX.cell hc) (ht X),qw]
  rfl)
theorem ld1 (k' n' j:Nat){p:Addr}{t:TypeId}{x:Operand}(hc:w.cell? p=some v)(hs:qT (jP P ol Q Ext m L AL R a w) F k' n' l)(hr:∀ f X,R j (qj (fun i=>L.getD i 0) j f) X→f j=u:=by exact fun _ _ h=>h)(hR:∀ f X,f k=v→R k (qj (fun i=>L.getD i 0) k f) X:=by exact fun _ _ h=>h)(hk:k+1=k':=by rfl)(hn:n'+1=n:=by rfl)(ha:AL.contains k=false:=by kernel_rfl)
 (hj:(L.getD k 0).testBit j=true:=by kernel_rfl)
 (hw:∀ f,Region.wanted o (yielded ol.toArray (put ol.toArray (nd (fun i=>L.getD i 0) k) (upd f j u) (List.range m) a).tmps)=true:=by intro _;kernel_rfl)
 (ho:o.op=.load t x:=by rfl) (hx:∀ f,(put ol.toArray (nd (fun i=>L.getD i 0) k) (upd f j u) (List.range m) a).eval x=.pointer (some p):=by intro _;kernel_rfl) (ht:∀ X,(isAgg t).run P X=.ok false X:=by intro _;kernel_rfl):qT (jP P ol Q Ext m L AL R a w) F k n (o::l) :=
 vx (fun f=>upd f j u) hs (fun f X h=>xj (hr f X (h j hj))) hR hk hn ha hw (fun f X hX=>by
  unfold execOp
  simp only[ho,vC,hx,dU (hX.cell hc) (ht X),qw]
  rfl)
end
theorem k {A:Value→Act}{b:Act}{X:World}{H:Value→World→Prop}{G:Value→World→Prop}{K:Act→World→Prop}{v:Value}
 (hK:Way (∀ a' v X',a'=A v→Ext X X'→H v X'→(∀ Y,Ext X' Y→G v Y)→K a' X'))
 (hr:∀ Y,Ext X Y→G v Y:=by exact fun _ _=>rfl) (s:b=A v) (ha:H v X:=by exact trivial):K b X :=
 hK.out b v X s (Ext.refl X) ha hr
end Par
/- What lays the slots' values out. -/
theorem yA (f:Nat→Value)(i j:Nat)(l:List (Nat×Nat))(L:List Value)(d:List Deferred):Par.vH f ((i,j)::l) ⟨L.toArray,d⟩=Par.vH f l ⟨(L.set i (f j)).toArray,d⟩:=by
 simp only[Par.vH,Act.put,ka]
theorem yB (f:Nat→Value)(a:Act):Par.vH f [] a=a:=rfl
theorem yC (L:List Value)(d:List Deferred)(i:Nat)(v:Value):Act.put ⟨L.toArray,d⟩ (some i) v=⟨(L.set i v).toArray,d⟩:=by
 simp only[Act.put,ka]
theorem yD (x:Value)(l:List Value)(n:Nat)(v:Value):(x::l).set (n+1) v=x::l.set n v:=rfl
theorem yE (x:Value)(l:List Value)(v:Value):(x::l).set 0 v=v::l:=rfl
theorem yF:type_of% @Par.qT.fin:=@Par.qT.fin
theorem yZ:(∀(f:Nat→Value) (i j:Nat) (l:List (Nat×Nat)) (L:List Value) (d:List Deferred),Par.vH f ((i,j)::l) ⟨L.toArray,d⟩=Par.vH f l ⟨(L.set i (f j)).toArray,d⟩)∧(∀(f:Nat→Value) (a:Act),Par.vH f [] a=a)∧(∀(L:List Value) (d:List Deferred) (i:Nat) (v:Value),Act.put ⟨L.toArray,d⟩ (some i) v=⟨(L.set i v).toArray,d⟩)∧(∀(x:Value) (l:List Value) (n:Nat) (v:Value),(x::l).set (n+1) v=x::l.set n v)∧∀(x:Value) (l:List Value) (v:Value),(x::l).set 0 v=v::l:=⟨yA,yB,yC,yD,yE⟩
end Go.Proofs.YtaemogcomplhiaaGreatDoor
namespace Go.Proofs.YtaemogcomplhiaaGreatDoor
theorem zH:type_of% @Par.zZ.done:=@Par.zZ.done
theorem zJ:type_of% @Par.v0:=@Par.v0
theorem zN:type_of% @Par.ze:=@Par.ze
theorem zO:type_of% @Ext.alloc:=@Ext.alloc
theorem zP:type_of% @Par.zZ.next:=@Par.zZ.next
theorem zU:type_of% @Par.qc:=@Par.qc
theorem zX:type_of% @Ext.refl:=@Ext.refl
theorem zh:type_of% @Par.qE:=@Par.qE
theorem zt:type_of% @Par.S:=@Par.S
theorem qI:type_of% @Par.c0:=@Par.c0
theorem qK:type_of% @Par.ld1:=@Par.ld1
theorem qN:type_of% @Par.v1:=@Par.v1
theorem qd:type_of% @Par.k:=@Par.k
theorem jb:type_of% @Ext.trans:=@Ext.trans
theorem jm:type_of% @Par.v2:=@Par.v2
theorem kK:type_of% @Par.al:=@Par.al
theorem vB:type_of% @Par.qT.cons:=@Par.qT.cons
theorem vh:type_of% @Par.jP.intro:=@Par.jP.intro
theorem wu:type_of% @Par.sk:=@Par.sk
end Go.Proofs.YtaemogcomplhiaaGreatDoor
namespace Go.Proofs.YtaemogcomplhiaaGreatDoor
open Go.RowKit
theorem du {k:IntKind}{a b:Int}(h:a=b):Ending.returned (.int k a)=.returned (.int k b):=by rw[h]
theorem yI (a:Addr)(n:Nat):(a.add n).block=a.block:=by unfold Addr.add;split<;>rfl
theorem gx (a:Addr)(i j:Nat):(a.add i).add j=a.add (i+j):=by
 unfold Addr.add;by_cases hi:i=0<;>by_cases hj:j=0<;>simp[hi,hj,kH]
def In (lo hi b:Nat):Prop:=lo≤b∧b<hi
def RS (w:World) (P:Nat→Prop) (size:Nat) (A:Option Addr) (n c:Nat) (cs:List Value):Prop :=
  n ≤ c ∧ c ≤ maxLen ∧ cs.length = n * size ∧
    (0<n→∃ ad,A=some ad∧P ad.block∧∀ j u,cs[j]?=some u→w.cell? (ad.add j)=some u)
section
variable {w w':World} {P P':Nat→Prop} {size n c:Nat} {A:Option Addr} {cs:List Value}
theorem RS.keep (h:RS w P size A n c cs)(hk:∀ p:Addr,P p.block→w'.cell? p=w.cell? p):RS w' P size A n c cs:=by
 obtain⟨h1,h2,h3,h4⟩:=h;refine⟨h1,h2,h3,fun hn=>?_⟩;obtain⟨ad,e,hb,hc⟩:=h4 hn;exact⟨ad,e,hb,fun j u hu=>(hk _ (by rw[yI];exact hb)).trans (hc j u hu)⟩
theorem RS.mono (h:RS w P size A n c cs)(hp:∀ b,P b→P' b):RS w P' size A n c cs:=by
 obtain⟨h1,h2,h3,h4⟩:=h;refine⟨h1,h2,h3,fun hn=>?_⟩;obtain⟨ad,e,hb,hc⟩:=h4 hn;exact⟨ad,e,hp _ hb,hc⟩
theorem RS.below {B:Nat}(h:RS w P size A n c cs)(hb:Below B w w')(hB:∀ b,P b→b<B):RS w' P size A n c cs:=h.keep fun _ hp=>hb.cell (hB _ hp)
theorem RS.nil_ (w:World)(P:Nat→Prop)(size:Nat):RS w P size none 0 0 []:=⟨by omega,by unfold maxLen;omega,by simp,fun h=>absurd h (by omega)⟩
theorem RS.of_own {base:Nat}{e:TypeId}(h:w.ownsRow base e size (.slice A n c) n cs):RS w (In base w.heap.size) size A n c cs:=by
 have hlt:=h.lt;have hcell:=fun g=>h.cells (g:=g);obtain⟨h0,⟨e1,rfl⟩|⟨g,cap,cur,e1,hg,hh,h5,h6,h7,h8⟩⟩:=h
 · injection e1 with e1 e2 e3
   subst e1 e3;exact⟨by omega,by unfold maxLen;omega,h0,fun h=>absurd h (by omega)⟩
 · injection e1 with e1 e2 e3
   subst e1 e3;have:=hlt g rfl;exact⟨h5,h6,h0,fun _=>⟨_,rfl,⟨hg,this.2⟩,hcell g rfl⟩⟩
theorem dB {base:Nat}{e:TypeId}{v:Value}(h:w.ownsRow base e size v n cs):∃ A c,v=.slice A n c:=by
 obtain⟨h0,⟨rfl,rfl⟩|⟨g,cap,cur,rfl,hg,hh,h5,h6,h7,h8⟩⟩:=h
 · exact⟨_,_,rfl⟩
 · exact⟨_,_,rfl⟩
theorem zAe {w w':World}{base:Nat}{e:TypeId}{v:Value}(h:w.ownsRow base e size v n cs)(hg:w.grownBy w' none):w'.ownsRow base e size v n cs :=
 h.kept hg (by cases v.ownBlock<;>simp)
theorem jC {B:Nat}{a w:World}(h:Below B a w)(n:Nat):Below B a (w.drewN n):=⟨h.os,h.tape,h.output,h.size,h.block⟩
theorem zQ {w:World}{B:Nat}{cs:Array Value}{t:TypeId}(h:w.heap[B]?=some (.cells cs t (0,0)))(i:Nat):w.cell? ⟨B,i,none⟩=cs[i]?:=cell_of_row w B i cs t (0,0) h
theorem qu {w:World}{B:Nat}{cs:Array Value}{t:TypeId}(h:w.heap[B]?=some (.cells cs t (0,0)))(i:Nat):w.frozen? ⟨B,i,none⟩=false:=by simp[World.frozen?,h]
theorem qr {w:World}{B:Nat}{o:Obj}(h:w.heap[B]?=some o):B<w.heap.size:=(Array.getElem?_eq_some_iff.1 h).1
theorem RS.fresh {w:World}{P:Nat→Prop}(cs:Array Value)(t:TypeId)(size n:Nat)(h:cs.size=n*size)(hn:n≤maxLen)(hP:P w.heap.size):RS (w.alloc (.cells cs t)) P size (some ⟨w.heap.size,0,none⟩) n n cs.toList :=
 ⟨zG _,hn,by simpa using h,fun _=>⟨_,rfl,hP,World.news_of_block (zS w _)⟩⟩
theorem RS.sub {c' k m:Nat}(h:RS w P size A n c cs)(hkm:k≤m)(hm:m≤n)(hc:m-k≤c')(hc':c'≤maxLen){A':Option Addr}(hA:k<m→A'=A.map (·.add (k*size))) :
 RS w P size A' (m-k) c' ((cs.drop (k*size)).take ((m-k)*size)):=by
 obtain⟨h1,h2,h3,h4⟩:=h
 refine⟨hc,hc',?_,fun hn=>?_⟩
 · rw[zo,qn,h3,←Nat.sub_mul];exact qU (qk _ (by omega))
 · obtain⟨ad,rfl,hb,hc⟩:=h4 (by omega);rw[hA (by omega)];refine⟨ad.add (k*size),rfl,by rw[yI];exact hb,fun j u hu=>?_⟩;rw[gx];apply hc;rw[List.getElem?_take]at hu;split at hu
   · rw[←hu,List.getElem?_drop]
   · cases hu
theorem RS.pre {m:Nat}(h:RS w P size A n c cs)(hm:m≤n):RS w P size A m c (cs.take (m*size)):=by
 have:=h.1;have:=h.2.1;have:=h.sub (k:=0) (m:=m) (c':=c) (A':=A) (by omega) hm (by omega) (by omega) (fun _=>by cases A<;>simp[Addr.add]);simpa using this
end
def bys (bs:List Nat):List Value:=bs.map fun b:Nat=>.int .u8 (b:Int)
def RB (w:World) (P:Nat→Prop) (A:Option Addr) (c:Nat) (bs:List Nat):Prop:=RS w P 1 A bs.length c (bys bs)∧(∀ b∈bs,b<256)∧bs.length≤140737488355328
def RA (w:World) (P:Nat→Prop) (A:Option Addr) (c:Nat) (l:List (Int×List Nat)):Prop :=
 ∃ cs,RS w P 2 A l.length c cs∧∀ j x,l[j]?=some x→cs[j*2]?=some (.int .i64 x.1)∧∃ A' c',cs[j*2+1]?=some (.slice A' x.2.length c')∧RB w P A' c' x.2
section
variable {w w':World} {P P':Nat→Prop} {A:Option Addr} {c:Nat} {bs:List Nat} {l:List (Int×List Nat)}
theorem RB.keep (h:RB w P A c bs)(hk:∀ p:Addr,P p.block→w'.cell? p=w.cell? p):RB w' P A c bs:=⟨h.1.keep hk,h.2⟩
theorem RB.mono (h:RB w P A c bs)(hp:∀ b,P b→P' b):RB w P' A c bs:=⟨h.1.mono hp,h.2⟩
theorem RB.below {B:Nat}(h:RB w P A c bs)(hb:Below B w w')(hB:∀ b,P b→b<B):RB w' P A c bs:=⟨h.1.below hb hB,h.2⟩
theorem RB.cap (h:RB w P A c bs):bs.length≤c∧c≤9223372036854775807∧bs.length≤140737488355328:=⟨h.1.1,h.1.2.1,h.2.2⟩
theorem RB.nil_ (w:World)(P:Nat→Prop):RB w P none 0 []:=⟨RS.nil_ _ _ _,by simp,by simp⟩
theorem RA.keep (h:RA w P A c l)(hk:∀ p:Addr,P p.block→w'.cell? p=w.cell? p):RA w' P A c l:=by
 obtain⟨cs,h1,h2⟩:=h;exact⟨cs,h1.keep hk,fun j x hx=>by obtain⟨h3,A',c',h4,h5⟩:=h2 j x hx;exact⟨h3,A',c',h4,h5.keep hk⟩⟩
theorem RA.mono (h:RA w P A c l)(hp:∀ b,P b→P' b):RA w P' A c l:=by
 obtain⟨cs,h1,h2⟩:=h;exact⟨cs,h1.mono hp,fun j x hx=>by obtain⟨h3,A',c',h4,h5⟩:=h2 j x hx;exact⟨h3,A',c',h4,h5.mono hp⟩⟩
theorem RA.below {B:Nat}(h:RA w P A c l)(hb:Below B w w')(hB:∀ b,P b→b<B):RA w' P A c l:=h.keep fun _ hp=>hb.cell (hB _ hp)
theorem RA.cap (h:RA w P A c l):l.length≤c∧c≤9223372036854775807:=by obtain⟨cs,h1,h2⟩:=h;exact⟨h1.1,h1.2.1⟩
theorem RA.nil_ (w:World)(P:Nat→Prop):RA w P none 0 []:=⟨[],RS.nil_ _ _ _,by simp⟩
theorem RA.at_ (h:RA w P A c l){i:Nat}(hi':i<l.length) :
 ∃ ad A' c',A=some ad∧P ad.block∧w.cell? (ad.add (i*2))=some (.int .i64 (l[i]).1)∧w.cell? ⟨(ad.add (i*2)).block,(ad.add (i*2)).off+1,none⟩=some (.slice A' (l[i]).2.length c')∧RB w P A' c' (l[i]).2:=by
 obtain⟨cs,⟨h1,h2,h3,h4⟩,h5⟩:=h
 obtain⟨ad,rfl,hb,hc⟩:=h4 (by omega)
 obtain⟨h6,A',c',h7,h8⟩:=h5 i _ (qO hi')
 exact⟨ad,A',c',rfl,hb,hc _ _ h6,by have:=hc _ _ h7;rwa [←gx]at this,h8⟩
theorem RB.at_ (h:RB w P A c bs){i:Nat}(hi':i<bs.length):∃ ad,A=some ad∧P ad.block∧w.cell? (ad.add i)=some (.int .u8 (bs[i]:Int))∧(bs[i]:Int)<256:=by
 obtain⟨⟨h1,h2,h3,h4⟩,h5,_⟩:=h;obtain⟨ad,rfl,hb,hc⟩:=h4 (by omega);exact⟨ad,rfl,hb,hc _ _ (by simp[bys,qO hi']),by have:=h5 _ (xa hi');omega⟩
end
section
variable {P:Program} (w:World)
theorem fG (base:Nat)(t ty e:TypeId)(i:TypeInfo)(size:Nat)(ht:P.underlying t=some (.slice e))(hi:P.info? e=some i)
 (v:Value) (n:Nat) (xs:List Value) (hown:w.ownsRow base e size v n xs) (c:Nat):(Builtin.append_ #[t,t] ty #[v,.slice none 0 c]).run P w=.ok v w:=by
 rcases hown.2 with⟨rfl,rfl⟩|⟨g,cap,cur,rfl,_,_,hnc,_⟩
 · simp[Builtin.append_,run_underlying ht,sizeOf,typeInfo,hi,Builtin.lenOf,Builtin.firstCells]
 · simp[Builtin.append_,run_underlying ht,sizeOf,typeInfo,hi,Builtin.lenOf,Builtin.firstCells,hnc,storeCells]
theorem bg (base:Nat)(t ty e:TypeId)(i:TypeInfo)(z:Value)(size bytes:Nat)(ht:P.underlying t=some (.slice e))(hi:P.info? e=some i)(hz:i.zero=some z)
   (hsize:i.size=size) (hby:i.bytes=bytes) (hzs:z.cells.size=size) (hsz:0<size)
   (v:Value) (n:Nat) (xs:List Value) (hown:w.ownsRow base e size v n xs)
   (Q:Nat→Prop) (A:Option Addr) (m c:Nat) (uC:List Value) (hr:RS w Q size A m c uC) (h1:∀ u∈uC,u.oneCell'=true)
   (h63:n+m≤maxLen) (hbytes:(n+m)*bytes≤140737488355328) (hbase:base≤w.heap.size) :
   ∃ A' c' w', (Builtin.append_ #[t, t] ty #[v, .slice A m c]).run P w = .ok (.slice A' (n + m) c') w' ∧ w'.ownsRow base e size (.slice A' (n + m) c') (n + m) (xs ++ uC) ∧ w.grownBy w' v.ownBlock ∧
     ((Value.slice A' (n+m) c').ownBlock=v.ownBlock∨(Value.slice A' (n+m) c').ownBlock=some w.heap.size):=by
 rcases A with _|ad
 · have hm:m=0:=by
     rcases zT m with h0|h0
     · exact h0
     · obtain⟨ad,h,_⟩:=hr.2.2.2 h0;cases h
   subst hm;have hn:uC=[]:=qQ (by simpa using hr.2.2.1);subst hn;obtain⟨A',c',rfl⟩:=dB hown;exact⟨A',c',w,fG w base t ty e i size ht hi _ n xs hown c,by simpa using hown,World.grownBy.refl w _,.inl rfl⟩
 · have vl:∀ j u,uC[j]?=some u→w.cell? (ad.add j)=some u:=by
     intro j u hu;rcases zT m with h0|h0
     · subst h0;have hn:uC=[]:=qQ (by simpa using hr.2.2.1);subst hn;simp at hu
     · obtain⟨ad',h,_,hc⟩:=hr.2.2.2 h0;injection h with h
       subst h;exact hc j u hu
   obtain⟨v',w',hrun,h2,h3,_,h5⟩:=run_append_own_at (P:=P) w base t ty e i z size bytes ht hi hz hsize hby hzs hsz v n xs hown ad m c uC hr.2.2.1 vl h1 h63 hbytes hbase;obtain⟨A',c',rfl⟩:=dB h2;exact⟨A',c',w',hrun,h2,h3,h5⟩
theorem ar {o:Oper}{a:Act}{K:Act→World→Prop}{Q:Exit→Act→World→Prop}(s x:Operand)(t:TypeId)
 (ho:o.op=.call { callee:=.builtin .append,args:=#[s,x],argTypes:=#[t,t] })
 (base:Nat) (e:TypeId) (i:TypeInfo) (z:Value) (size bytes:Nat) (ht:P.underlying t=some (.slice e)) (hi:P.info? e=some i) (hz:i.zero=some z)
 (hsize:i.size=size) (hby:i.bytes=bytes) (hzs:z.cells.size=size) (hsz:0<size)
 (v:Value) (n:Nat) (xs:List Value) (hs:a.eval s=v) (hown:w.ownsRow base e size v n xs)
 (B:Nat→Prop) (A:Option Addr) (m c:Nat) (uC:List Value) (hx:a.eval x=.slice A m c) (hr:RS w B size A m c uC) (h1:∀ u∈uC,u.oneCell'=true)
 (k:Nat) (hk:n+m=k) (h63:n+m≤maxLen) (hbytes:(n+m)*bytes≤140737488355328) (hbase:base≤w.heap.size)
 (h:∀ A' c' w',w'.ownsRow base e size (.slice A' k c') k (xs++uC)→w.grownBy w' v.ownBlock→((Value.slice A' k c').ownBlock=v.ownBlock∨(Value.slice A' k c').ownBlock=some w.heap.size)→K (a.put o.dst (.slice A' k c')) w'):o.wp P a w K Q:=by
 subst hk
 obtain⟨A',c',w',hrun,h2,h3,h4⟩:=bg (P:=P) w base t o.type e i z size bytes ht hi hz hsize hby hzs hsz v n xs hown B A m c uC hr h1 h63 hbytes hbase
 unfold Oper.wp execOp
 simp only[ho,resolve,invoke,builtin,vC,Sem.run_pure,qw,List.map_toArray,List.map_cons,List.map_nil,hs,hx,hrun]
 exact h A' c' w' h2 h3 h4
theorem jf {ops:Array Oper}{rest:List Oper}{o:Oper}{a:Act}{Q:Exit→Act→World→Prop}(hgd:o.guard=none)(s x:Operand)(t:TypeId)
 (ho:o.op=.call { callee:=.builtin .append,args:=#[s,x],argTypes:=#[t,t] })
 (base:Nat) (e:TypeId) (i:TypeInfo) (z:Value) (size bytes:Nat) (ht:P.underlying t=some (.slice e)) (hi:P.info? e=some i) (hz:i.zero=some z)
 (hsize:i.size=size) (hby:i.bytes=bytes) (hzs:z.cells.size=size) (hsz:0<size)
 (v:Value) (n:Nat) (xs:List Value) (hs:a.eval s=v) (hown:w.ownsRow base e size v n xs)
 (B:Nat→Prop) (A:Option Addr) (m c:Nat) (uC:List Value) (hx:a.eval x=.slice A m c) (hr:RS w B size A m c uC) (h1:∀ u∈uC,u.oneCell'=true)
 (k:Nat) (hk:n+m=k) (h63:n+m≤maxLen) (hbytes:(n+m)*bytes≤140737488355328) (hbase:base≤w.heap.size)
 (h:∀ A' c' w',w'.ownsRow base e size (.slice A' k c') k (xs++uC)→w.grownBy w' v.ownBlock→((Value.slice A' k c').ownBlock=v.ownBlock∨(Value.slice A' k c').ownBlock=some w.heap.size)→wpList P ops Q rest (a.put o.dst (.slice A' k c')) w'):wpList P ops Q (o::rest) a w :=
 wpList_plain hgd fun _ hK=>ar w s x t ho base e i z size bytes ht hi hz hsize hby hzs hsz v n xs hs hown B A m c uC hx hr h1 k hk h63 hbytes hbase fun A' c' w' h2 h3 h4=>hK _ _ (h A' c' w' h2 h3 h4)
end
end Go.Proofs.YtaemogcomplhiaaGreatDoor
namespace Go.Proofs.YtaemogcomplhiaaGreatDoor
def val (B:Nat):List Nat→Nat
 | []=>0
 | x::l=>x+B*val B l
def digs (B:Nat) (n:Nat):List Nat:=if _h:2≤B∧0<n then n%B::digs B (n/B)else []
termination_by n
decreasing_by exact Nat.div_lt_self _h.2 _h.1
@[simp] theorem zBk (B:Nat):val B []=0:=rfl
@[simp] theorem jr (B x:Nat) (l:List Nat):val B (x::l)=x+B*val B l:=rfl
theorem qV (B:Nat):digs B 0=[]:=by rw[digs];simp
theorem jj {B n:Nat}(hB:2≤B)(hn:0<n):digs B n=n%B::digs B (n/B):=by rw[digs];simp[hB,hn]
theorem zd {B:Nat}(hB:2≤B)(n:Nat):val B (digs B n)=n:=by
 induction n using Nat.strongRecOn with
 | ind n ih =>
   rcases zT n with h|h
   · subst h;rw[qV];rfl
   · rw[jj hB h,jr,ih _ (Nat.div_lt_self h hB)];exact Nat.mod_add_div n B
theorem kF {B:Nat}(hB:2≤B)(n:Nat):∀ x∈digs B n,x<B:=by
 induction n using Nat.strongRecOn with
 | ind n ih =>
   rcases zT n with h|h
   · subst h;rw[qV];simp
   · rw[jj hB h];intro x hx;rcases List.mem_cons.1 hx with rfl|hx
     · exact qL _ (by omega)
     · exact ih _ (Nat.div_lt_self h hB) x hx
theorem kQ (B:Nat)(l m:List Nat):val B (l++m)=val B l+B^l.length*val B m:=by
 induction l with
 | nil=>simp
 | cons x l ih=>simp[ih,zp,zf,za,zj,kH]
theorem jt {B:Nat}{l:List Nat}(h:∀ x∈l,x<B):val B l<B^l.length:=by
 induction l with
 | nil=>simp
 | cons x l ih =>
   have h1:=h x (by simp);have h2:=ih fun y hy=>h y (by simp[hy]);simp only[jr,jZ,zp];have:B*(val B l+1)≤B*B^l.length:=qD _ h2;rw[zf]at this;rw[zj (B^l.length)];omega
theorem vw {B:Nat}{l:List Nat}(h:∀ x∈l,x=0):val B l=0:=by
 induction l with
 | nil=>rfl
 | cons x l ih=>rw[jr,h x (by simp),ih fun y hy=>h y (by simp[hy])];simp
theorem kt (B n:Nat):val B (List.replicate n 0)=0:=vw (by simp)
theorem jA (B:Nat)(l:List Nat){n:Nat}(hn:n≤l.length):val B l=val B (l.take n)+B^n*val B (l.drop n):=by
 have:=kQ B (l.take n) (l.drop n);rwa [List.take_append_drop,zo,qU hn]at this
theorem yz (B:Nat){l:List Nat}{n:Nat}(hn:n<l.length):val B (l.take (n+1))=val B (l.take n)+B^n*l[n]:=by
 rw[List.take_succ_eq_append_getElem hn,kQ,zo,qU (by omega)];simp
theorem zBi (B:Nat){l:List Nat}{n:Nat}(hn:n<l.length)(x:Nat):val B (l.set n x)+B^n*l[n]=val B l+B^n*x:=by
 have h1:=jA B l (jV hn);have h2:=jA B (l.set n x) (n:=n) (by simp;omega);have h3:l.drop n=l[n]::l.drop (n+1):=qa hn;have h4:(l.set n x).drop n=x::l.drop (n+1):=by
  rw[List.drop_set,ql (Nat.lt_irrefl _),h3,Nat.sub_self,xw]
 have h5:(l.set n x).take n=l.take n:=by rw[List.take_set];apply List.set_eq_of_length_le;simp;omega
 rw[h4,h5,jr]at h2;rw[h3,jr]at h1;rw[h1,h2];simp only[zf];omega
theorem gN {B:Nat}(hB:2≤B):∀ {l:List Nat},(∀ x∈l,x<B)→(∀ h:l≠[],l.getLast h≠0)→digs B (val B l)=l
 | [],_,_=>qV B
 | x :: l, h, hl => by
   have hx:=h x (by simp);have hpos:0<val B (x::l):=by
     rcases zT (val B (x::l))with h0|h0
     · exfalso;have hz:∀(m:List Nat) (hm:m≠[]),val B m=0→m.getLast hm=0:=by
         intro m;induction m with
         | nil=>intro hm;exact absurd rfl hm
         | cons y m ih =>
           intro hm hv;rw[jr]at hv;have hy:y=0:=by omega
           have hB0:B*val B m=0:=by omega
           rcases Nat.mul_eq_zero.1 hB0 with h'|h'
           · omega
           · rcases m with _|⟨z,m⟩
             · simpa using hy
             · rw[List.getLast_cons (by simp)];exact ih (by simp) h'
       exact hl (by simp) (hz _ _ h0)
     · exact h0
   rw[jj hB hpos];have e1:val B (x::l)%B=x:=by rw[jr,qm,zy hx]
   have e2:val B (x::l)/B=val B l:=by rw[jr,kO _ _ (by omega),qh hx];omega
   rw[e1,e2,gN hB (fun y hy=>h y (by simp[hy])) fun hne=>by
     have:=hl (by simp)
     rwa [List.getLast_cons hne]at this]
theorem uO {B:Nat}(hB:2≤B)(n:Nat)(h:digs B n≠[]):(digs B n).getLast h≠0:=by
 induction n using Nat.strongRecOn with
 | ind n ih =>
   rcases zT n with h0|h0
   · subst h0;exact absurd (qV B) h
   · rcases zT (n/B)with h1|h1
     · have e:digs B n=[n%B]:=by rw[jj hB h0,h1,qV]
       have hlt:n<B:=by rcases qF n B with h|h;exact h;have:=Nat.div_pos h (by omega);omega
       simp only[e,List.getLast_singleton];rw[zy hlt];omega
     · have e:=jj hB h0;have hne:digs B (n/B)≠[]:=by rw[jj hB h1];simp
       simp only[e,List.getLast_cons hne];exact ih _ (Nat.div_lt_self h0 hB) hne
theorem ft {B:Nat}(hB:2≤B){l:List Nat}(hl:∀ x∈l,x<B){n:Nat}(hn:n≤l.length)(hz:∀ x∈l.drop n,x=0)(h0:0<n→l.getD (n-1) 0≠0):l.take n=digs B (val B l):=by
 have e:val B l=val B (l.take n):=by rw[jA B l hn,vw hz];simp
 rw[e];refine(gN hB (fun x hx=>hl x (qM hx)) fun hne=>?_).symm;have hn0:0<n:=by
  rcases zT n with h|h
  · subst h;simp at hne
  · exact h
 have:=h0 hn0;rw[List.getLast_eq_getElem,List.getElem_take];simp only[zo,qU hn];rwa [qA,qO (by omega),vL]at this
theorem qz {B:Nat}(hB:2≤B){l:List Nat}(hl:∀ x∈l,x<B):(digs B (val B l)).length≤l.length:=by
 rcases qF l.length (digs B (val B l)).length with h|h
 · exfalso;have h1:=jt hl;have hne:digs B (val B l)≠[]:=by intro e;rw[e]at h;simp at h
   have h2:B ^((digs B (val B l)).length-1)≤val B l:=by
     generalize val B l=v at hne ⊢;have:=uO hB v hne;have h3:=zd hB v;obtain⟨m,x,hm⟩:∃ m x,digs B v=m++[x]:=⟨_,_,(List.dropLast_concat_getLast hne).symm⟩
     have hx : x ≠ 0 := by have h4 : (digs B v).getLast hne = x := by simp [hm]
                           rw[h4]at this;exact this
     rw[hm,kQ]at h3;rw[hm];simp at h3 ⊢;rw[←h3];have:B^m.length*1≤B^m.length*x:=qD _ (by omega);omega
   have h3:B^l.length≤B ^((digs B (val B l)).length-1):=zv (by omega) (by omega);omega
 · exact h
theorem gA {B:Nat}(hB:2≤B){v:Nat}(hv:0<v):B ^((digs B v).length-1)≤v:=by
 have hne:digs B v≠[]:=by rw[jj hB hv];simp
 have:=uO hB v hne;have h3:=zd hB v;obtain⟨m,x,hm⟩:∃ m x,digs B v=m++[x]:=⟨_,_,(List.dropLast_concat_getLast hne).symm⟩
 have hx:x≠0:=by
  have h4:(digs B v).getLast hne=x:=by simp[hm]
  rw[h4]at this;exact this
 rw[hm,kQ]at h3;rw[hm];simp at h3 ⊢;rw[←h3];have:B^m.length*1≤B^m.length*x:=qD _ (by omega);omega
theorem jB {B:Nat}(hB:2≤B)(v:Nat):v<B ^(digs B v).length:=by
 have:=jt (kF hB v);rwa [zd hB]at this
theorem qR {B:Nat}(hB:2≤B){v n:Nat}(h:v<B^n):(digs B v).length≤n:=by
 rcases zT v with h0|h0
 · subst h0;rw[qV];simp
 · have h1:=gA hB h0;rcases qF n (digs B v).length with h2|h2
   · have:B^n≤B ^((digs B v).length-1):=zv (by omega) (by omega);omega
   · exact h2
theorem jK {B:Nat}(hB:2≤B){m n:Nat}(h:m≤n):(digs B m).length≤(digs B n).length :=
 qR hB (jl h (jB hB n))
theorem vZ {B:Nat}(hB:2≤B){m n:Nat}(h:(digs B m).length<(digs B n).length):m<n:=by
 rcases qF m n with h1|h1
 · exact h1
 · have:=jK hB h1;omega
theorem aF {B:Nat}{l m:List Nat}(hl:∀ x∈l,x<B)(hlen:l.length=m.length){i:Nat}(hi:i<l.length)(hd:l.drop (i+1)=m.drop (i+1))(h:l[i]<m[i]'(by omega)):val B l<val B m:=by
 have h1:=jA B l (n:=i+1) (by omega);have h2:=jA B m (n:=i+1) (by omega);rw[yz B hi]at h1;rw[yz B (by omega)]at h2;have h3:val B (l.take i)<B^i:=by
  have:=jt (B:=B) (l:=l.take i) fun x hx=>hl x (qM hx);rwa [zo,qU (by omega)]at this
 have h4:B^i*(l[i]+1)≤B^i*m[i]'(by omega):=qD _ h;rw[zf]at h4;rw[hd]at h1;omega
def dg (l:List Nat) (i:Nat):Nat:=l.getD i 0
theorem jU {l:List Nat}{i:Nat}(h:i<l.length):l.getD i 0=l[i]:=by
 rw[qA,qO h,vL]
theorem qC (B:Nat)(l:List Nat)(k:Nat):val B (l.take (k+1))=val B (l.take k)+B^k*dg l k:=by
 rcases qF k l.length with h|h
 · rw[yz B h,dg,qA,qO h,vL]
 · rw[zx (by omega),zx h,dg,qA,jL h];simp
theorem jc (B:Nat){o:List Nat}{k:Nat}(h:k<o.length)(s:Nat):val B ((o.set k s).take (k+1))=val B (o.take k)+B^k*s:=by
 rw[qC,List.take_set,List.set_eq_of_length_le (by simp;omega),dg,qA,List.getElem?_set_self h,vL]
def wk (B:Nat) (a b o:List Nat) (k c:Nat):Prop:=val B (o.take k)+B^k*c=val B (a.take k)+val B (b.take k)
theorem wk.zero (B:Nat)(a b o:List Nat):wk B a b o 0 0:=by simp[wk]
theorem wk.step {B:Nat}{a b o:List Nat}{k c s c':Nat}(h:wk B a b o k c)(hk:k<o.length)(he:s+B*c'=dg a k+dg b k+c):wk B a b (o.set k s) (k+1) c':=by
 unfold wk at *;rw[jc B hk,qC,qC,zp];have:B^k*(s+B*c')=B^k*(dg a k+dg b k+c):=by rw[he]
 simp only[zf,←za]at this;omega
theorem wk.fin {B:Nat}{a b o:List Nat}{k c:Nat}(h:wk B a b o k c)(hk:o.length=k+1)(ha:a.length≤k)(hb:b.length≤k):val B (o.set k c)=val B a+val B b:=by
 unfold wk at h;rw[zx ha,zx hb]at h;have:=jc B (o:=o) (k:=k) (by omega) c;rw[zx (by simp;omega)]at this;rw[this,h]
def xN (B:Nat) (a b o:List Nat) (k c:Nat):Prop:=val B (o.take k)+val B (b.take k)=val B (a.take k)+B^k*c
theorem xN.zero (B:Nat)(a b o:List Nat):xN B a b o 0 0:=by simp[xN]
theorem xN.step {B:Nat}{a b o:List Nat}{k c s c':Nat}(h:xN B a b o k c)(hk:k<o.length)(he:s+dg b k+c=dg a k+B*c'):xN B a b (o.set k s) (k+1) c':=by
 unfold xN at *;rw[jc B hk,qC,qC,zp];have:B^k*(s+dg b k+c)=B^k*(dg a k+B*c'):=by rw[he]
 simp only[zf,←za]at this;omega
theorem xN.fin {B:Nat}{a b o:List Nat}{k c:Nat}(h:xN B a b o k c)(hk:o.length=k)(ho:∀ x∈o,x<B)(ha:a.length=k)(hb:b.length≤k)(hle:val B b≤val B a):val B o=val B a-val B b:=by
 unfold xN at h;rw[zx (by omega),zx hb,zx (by omega)]at h;have h1:=jt ho;rw[hk]at h1;rcases zT c with h0|h0
 · subst h0;omega
 · have:B^k*1≤B^k*c:=qD _ h0;omega
def uQ (B:Nat) (o0 b:List Nat) (x i:Nat) (o:List Nat) (j c:Nat):Prop :=
 o.length=o0.length∧val B o+B ^(i+j)*c=val B o0+B^i*(x*val B (b.take j))∧(∀ n,i+j≤n→dg o n=dg o0 n)
theorem uQ.zero (B:Nat)(o0 b:List Nat)(x i:Nat):uQ B o0 b x i o0 0 0:=by simp[uQ]
theorem getD_set_ne {l:List Nat}{i j x:Nat}(h:i≠j):dg (l.set i x) j=dg l j:=by
 simp[dg,List.getElem?_set_ne h]
theorem vm {l:List Nat}{i x:Nat}(h:i<l.length):dg (l.set i x) i=x:=by
 simp[dg,List.getElem?_set_self h]
theorem yt {l:List Nat}{i:Nat}(h:i<l.length):dg l i=l[i]:=by
 rw[dg,qA,qO h,vL]
theorem ww (B:Nat){l:List Nat}{n:Nat}(hn:n<l.length)(x:Nat):val B (l.set n x)+B^n*dg l n=val B l+B^n*x:=by
 rw[yt hn];exact zBi B hn x
theorem uQ.step {B:Nat}{o0 b o:List Nat}{x i j c s c':Nat}(h:uQ B o0 b x i o j c)(hk:i+j<o.length)(he:s+B*c'=x*dg b j+dg o (i+j)+c) :
 uQ B o0 b x i (o.set (i+j) s) (j+1) c':=by
 obtain⟨h1,h2,h3⟩:=h
 refine⟨by simpa using h1,?_,fun n hn=>by rw[getD_set_ne (by omega),h3 n (by omega)]⟩
 have hs:=ww B hk s
 rw[qC,←kH,zp]
 have e1:B ^(i+j)*(s+B*c')=B ^(i+j)*(x*dg b j+dg o (i+j)+c):=by rw[he]
 simp only[zf,←za]at e1 ⊢
 have e2:B^i*x*B^j*dg b j=B ^(i+j)*x*dg b j:=by
  rw[qP];simp only[zj,za]
 simp only[←za]at h2
 omega
theorem uQ.fin {B:Nat}{o0 b o:List Nat}{x i n c:Nat}(h:uQ B o0 b x i o n c)(hn:b.length=n)(hk:i+n<o.length)(h0:dg o0 (i+n)=0):val B (o.set (i+n) c)=val B o0+B^i*(x*val B b):=by
 obtain⟨h1,h2,h3⟩:=h;have hs:=ww B hk c;rw[h3 _ (zG _),h0]at hs;rw[zx (by omega)]at h2;omega
def gP (B:Nat) (a b o:List Nat) (i:Nat):Prop:=o.length=a.length+b.length∧val B o=val B (a.take i)*val B b∧∀ n,i+b.length≤n→dg o n=0
theorem gP.zero (B:Nat)(a b:List Nat):gP B a b (List.replicate (a.length+b.length) 0) 0:=by
 refine⟨by simp,by simp[kt],fun n _=>?_⟩;rw[dg,qA,List.getElem?_replicate];split<;>rfl
theorem gP.step {B:Nat}{a b o0 o:List Nat}{i c:Nat}(h:gP B a b o0 i)(hi:i<a.length)(hm:uQ B o0 b (dg a i) i o b.length c):gP B a b (o.set (i+b.length) c) (i+1):=by
 obtain⟨h1,h2,h3⟩:=h;have hl:=hm.1;refine⟨by simpa[hl]using h1,?_,fun n hn=>?_⟩
 · rw[hm.fin rfl (by omega) (h3 _ (zG _)),h2,qC,qY,za]
 · rw[getD_set_ne (by omega),hm.2.2 n (by omega),h3 n (by omega)]
theorem gP.fin {B:Nat}{a b o:List Nat}(h:gP B a b o a.length):val B o=val B a*val B b:=by
 have:=h.2.1;rwa [jE]at this
theorem wy {B:Nat}{o:List Nat}(h:∀ x∈o,x<B){k s:Nat}(hs:s<B):∀ x∈o.set k s,x<B:=by
 intro x hx;rcases List.mem_or_eq_of_mem_set hx with hx|rfl
 · exact h x hx
 · exact hs
theorem yQ {B x y u c:Nat}(hx:x<B)(hy:y<B)(hu:u<B)(hc:c<B):x*y+u+c<B*B:=by
 obtain⟨n,rfl⟩:∃ n,B=n+1:=⟨B-1,by omega⟩
 have:x*y≤n*n:=xZ (by omega) (by omega);simp only[qY,zf,jO,kN];omega
theorem jS {B:Nat}(hB:0<B){l:List Nat}(h:∀ x∈l,x<B)(i:Nat):dg l i<B:=by
 rcases qF i l.length with hi|hi
 · rw[yt hi];exact h _ (xa hi)
 · rw[dg,qA,jL hi];exact hB
end Go.Proofs.YtaemogcomplhiaaGreatDoor
namespace Go.Proofs
open Go.Shelf
def Tryz.lays134_ren:Go.Shelf.Ren:=⟨fun|134=>121|129=>89|n=>n,fun|53=>65|3=>3|4=>4|46=>81|5=>5|9=>9|n=>n,fun|n=>n⟩
theorem Tryz.lays134:Go.Proofs.Lays.n134 Tryz.prog Tryz.lays134_ren:={
 mixed:=by kernel_rfl
 f129:=Tryz.func89.trans (congrArg some (by kernel_rfl))
 f134:=Tryz.func121.trans (congrArg some (by kernel_rfl))
 t3:=Tryz.underlying3
 a3:=Tryz.isAgg3
 z3:=Tryz.sizeOf3
 v3:=Tryz.zeroValue3
 t4:=Tryz.underlying4
 a4:=Tryz.isAgg4
 z4:=Tryz.sizeOf4
 v4:=Tryz.zeroValue4
 t5:=Tryz.underlying5
 a5:=Tryz.isAgg5
 z5:=Tryz.sizeOf5
 v5:=Tryz.zeroValue5
 t9:=Tryz.underlying9
 a9:=Tryz.isAgg9
 z9:=Tryz.sizeOf9
 v9:=Tryz.zeroValue9
 t46:=Tryz.underlying81
 a46:=Tryz.isAgg81
 z46:=Tryz.sizeOf81
 v46:=Tryz.zeroValue81
 t53:=Tryz.underlying65
 a53:=Tryz.isAgg65
 z53:=Tryz.sizeOf65
 v53:=Tryz.zeroValue65 }
theorem Tryz.bits_LeadingZeros64 (x:Int)(w:World)(h0:0≤x)(h1:x≤18446744073709551615) :
 Calls Tryz.prog 121 #[.int .u64 x] w fun e w'=>e=.returned (.int .i64 (64-(Lib.bitLen x.toNat:Int)))∧w'=w:=Any.bits_LeadingZeros64 Tryz.lays134 x w h0 h1
def Tryz.lays129_ren:Go.Shelf.Ren:=⟨fun|129=>89|n=>n,fun|53=>65|3=>3|4=>4|46=>81|5=>5|9=>9|n=>n,fun|n=>n⟩
theorem Tryz.lays129:Go.Proofs.Lays.n129 Tryz.prog Tryz.lays129_ren:={
 mixed:=by kernel_rfl
 f129:=Tryz.func89.trans (congrArg some (by kernel_rfl))
 t3:=Tryz.underlying3
 a3:=Tryz.isAgg3
 z3:=Tryz.sizeOf3
 v3:=Tryz.zeroValue3
 t4:=Tryz.underlying4
 a4:=Tryz.isAgg4
 z4:=Tryz.sizeOf4
 v4:=Tryz.zeroValue4
 t5:=Tryz.underlying5
 a5:=Tryz.isAgg5
 z5:=Tryz.sizeOf5
 v5:=Tryz.zeroValue5
 t9:=Tryz.underlying9
 a9:=Tryz.isAgg9
 z9:=Tryz.sizeOf9
 v9:=Tryz.zeroValue9
 t46:=Tryz.underlying81
 a46:=Tryz.isAgg81
 z46:=Tryz.sizeOf81
 v46:=Tryz.zeroValue81
 t53:=Tryz.underlying65
 a53:=Tryz.isAgg65
 z53:=Tryz.sizeOf65
 v53:=Tryz.zeroValue65 }
theorem Tryz.bits_Len64 (x:Int)(w:World)(h0:0≤x)(h1:x≤18446744073709551615) :
 Calls Tryz.prog 89 #[.int .u64 x] w fun e w'=>e=.returned (.int .i64 (Lib.bitLen x.toNat))∧w'=w:=Any.bits_Len64 Tryz.lays129 x w h0 h1
def Tryz.lays264_ren:Go.Shelf.Ren:=⟨fun|264=>98|n=>n,fun|53=>65|46=>81|n=>n,fun|n=>n⟩
theorem Tryz.lays264:Go.Proofs.Lays.n264 Tryz.prog Tryz.lays264_ren:={
 mixed:=by kernel_rfl
 f264:=Tryz.func98.trans (congrArg some (by kernel_rfl))
 t46:=Tryz.underlying81
 a46:=Tryz.isAgg81
 z46:=Tryz.sizeOf81
 v46:=Tryz.zeroValue81
 t53:=Tryz.underlying65
 a53:=Tryz.isAgg65
 z53:=Tryz.sizeOf65
 v53:=Tryz.zeroValue65 }
open Go.RowKit Go.Lib in
theorem Tryz.bits_Mul64 (x y:Nat)(hx:x<18446744073709551616)(hy:y<18446744073709551616)(w:World) :
 Calls Tryz.prog 98 #[.int .u64 x,.int .u64 y] w fun e w'=>e=.returned (.tuple #[.int .u64 ((x*y/18446744073709551616:Nat):Int),.int .u64 ((x*y%18446744073709551616:Nat):Int)])∧w'=w:=Any.bits_Mul64 Tryz.lays264 x y hx hy w
theorem Tryz.add64_run (x y c:Nat)(hc:c≤1)(w:World) :
 (callFunc 90 #[.int .u64 x, .int .u64 y, .int .u64 c]).run Tryz.prog w =
  .ok (.value (.tuple #[.int .u64 (((x+y+c)%18446744073709551616:Nat):Int),.int .u64 (((x+y+c)/18446744073709551616:Nat):Int)])) w:=by
 rw[run_callFunc_extern Tryz.func90 (by kernel_rfl) (by kernel_rfl) (by kernel_rfl) (e:=add64Entry) (by kernel_rfl),run_add64 x y c (by omega) (by omega) (by omega) (by omega)]
 simp only[Result.andThen]
 congr 5<;>omega
theorem Tryz.sub64_run (x y b:Nat)(hb:b≤1)(w:World) :
 (callFunc 93 #[.int .u64 x, .int .u64 y, .int .u64 b]).run Tryz.prog w =
  .ok (.value (.tuple #[.int .u64 (((x+18446744073709551616-y-b)%18446744073709551616:Nat):Int),.int .u64 ((if x<y+b then 1 else 0:Nat):Int)])) w:=by
 rw[run_callFunc_extern Tryz.func93 (by kernel_rfl) (by kernel_rfl) (by kernel_rfl) (e:=sub64Entry) (by kernel_rfl),run_sub64 x y b hb]
 rfl
end Go.Proofs
namespace Go.Proofs.YtaemogcomplhiaaGreatDoor
open Go.RowKit
theorem eqB {a b:Int}(h:a≠b):(a==b)=false:=by simpa using h
theorem neB {a b:Int}(h:a≠b):(a != b)=true:=by simpa using h
theorem aX (w:World)(n m:Nat):(w.drewN n).drewN m=w.drewN (n+m):=by simp[World.drewN,kH]
theorem sD (w:World)(n m k:Nat):((w.drewN n).drewN m).drewN k=w.drewN (n+m+k):=by simp[World.drewN,kH]
theorem oR (a:Addr)(n:Nat):a.add (n+1)=⟨a.block,a.off+(n+1),none⟩:=by simp[Addr.add]
theorem dr1 (w:World)(n:Nat):∃ k,w.drewN n=w.drewN k:=⟨n,rfl⟩
theorem dr2 (w:World)(n m:Nat):∃ k,(w.drewN n).drewN m=w.drewN k:=⟨_,aX _ _ _⟩
theorem dr3 (w:World)(n m k:Nat):∃ d,((w.drewN n).drewN m).drewN k=w.drewN d:=⟨_,sD _ _ _ _⟩
theorem yx (g j:Nat):(⟨g,0,none⟩:Addr).add j=⟨g,j,none⟩:=by
 rcases zT j with h|h
 · subst h;rfl
 · simp[Addr.add,Nat.pos_iff_ne_zero.1 h]
def nts (l:List Nat):List Value:=l.map fun x:Nat=>.int .u64 (x:Int)
theorem qf (l:List Nat):(nts l).length=l.length:=by simp[nts]
theorem ub {l:List Nat}{i:Nat}(h:i<l.length):(nts l)[i]?=some (.int .u64 (dg l i:Int)):=by
 rw[yt h];simp[nts,qO h]
theorem bG (l:List Nat)(n:Nat):(nts l).take n=nts (l.take n):=by simp[nts]
theorem kj (l:List Nat):∀ u∈nts l,u.oneCell'=true:=by
 intro u hu;obtain⟨x,_,rfl⟩:=List.mem_map.1 hu;rfl
def Lim (l:List Nat):Prop:=(∀ x∈l,x<18446744073709551616)∧l.length≤1000000
def RN (w:World) (P:Nat→Prop) (A:Option Addr) (c:Nat) (l:List Nat):Prop:=RS w P 1 A l.length c (nts l)∧Lim l
def Blk (w:World) (g:Nat) (l:List Nat):Prop:=w.heap[g]?=some (.cells (nts l).toArray 65 (0,0))
def OB (w:World) (base:Nat) (A:Option Addr) (c:Nat) (l:List Nat):Prop :=
 Lim l∧l.length≤c∧c≤maxLen∧(0<l.length→∃ g cur,A=some ⟨g,0,none⟩∧base≤g∧w.heap[g]?=some (.cells cur 65 (0,0))∧∀(j:Nat) u,(nts l)[j]?=some u→cur[j]?=some u)
section
variable {w w':World} {P P':Nat→Prop} {A:Option Addr} {c g base:Nat} {l:List Nat}
theorem Lim.nil_:Lim []:=⟨by simp,by simp⟩
theorem Lim.take (h:Lim l)(n:Nat):Lim (l.take n):=⟨fun x hx=>h.1 x (qM hx),by rw[zo];have:=h.2;omega⟩
theorem Lim.set (h:Lim l)(i x:Nat)(hx:x<18446744073709551616):Lim (l.set i x):=⟨wy h.1 hx,by simpa using h.2⟩
theorem Lim.dgLt (h:Lim l)(i:Nat):dg l i<18446744073709551616:=jS (by omega) h.1 i
theorem Lim.digs {B v:Nat}(hB:2≤B)(hB':B≤18446744073709551616)(hl:v<B^1000000):Lim (digs B v):=⟨fun x hx=>zI (kF hB v x hx) hB',qR hB hl⟩
theorem Lim.trim (h:Lim l):∃ n,n≤l.length∧Go.Proofs.YtaemogcomplhiaaGreatDoor.digs 18446744073709551616 (val 18446744073709551616 l)=l.take n:=by
 refine⟨(Go.Proofs.YtaemogcomplhiaaGreatDoor.digs 18446744073709551616 (val 18446744073709551616 l)).length,qz (by omega) h.1,?_⟩;obtain⟨n,hn,hz,h0⟩:∃ n,n≤l.length∧(∀ x∈l.drop n,x=0)∧(0<n→dg l (n-1)≠0):=by
   have:∀ k,k≤l.length→(∀ x∈l.drop k,x=0)→∃ n,n≤l.length∧(∀ x∈l.drop n,x=0)∧(0<n→dg l (n-1)≠0):=by
     intro k;induction k with
     | zero=>intro _ hz;exact⟨0,by omega,hz,by omega⟩
     | succ k ih =>
       intro hk hz;by_cases h:dg l k=0
       · refine ih (by omega) fun x hx=>?_;rw[qa (by omega:k<l.length)]at hx;rcases List.mem_cons.1 hx with rfl|hx
         · rwa [yt (by omega)]at h
         · exact hz x hx
       · exact⟨k+1,hk,hz,fun _=>by simpa using h⟩
   exact this l.length (zG _) (by simp)
 have h1:=ft (B:=18446744073709551616) (by omega) h.1 hn hz h0;rw[←h1,zo,qU hn]
theorem RN.keep (h:RN w P A c l)(hk:∀ p:Addr,P p.block→w'.cell? p=w.cell? p):RN w' P A c l:=⟨h.1.keep hk,h.2⟩
theorem RN.mono (h:RN w P A c l)(hp:∀ b,P b→P' b):RN w P' A c l:=⟨h.1.mono hp,h.2⟩
theorem RN.below {B:Nat}(h:RN w P A c l)(hb:Below B w w')(hB:∀ b,P b→b<B):RN w' P A c l:=⟨h.1.below hb hB,h.2⟩
theorem RN.drewN (h:RN w P A c l)(n:Nat):RN (w.drewN n) P A c l:=h
theorem RN.cap (h:RN w P A c l):l.length≤c∧c≤9223372036854775807∧l.length≤1000000:=⟨h.1.1,h.1.2.1,h.2.2⟩
theorem RN.nil_ (w:World)(P:Nat→Prop):RN w P none 0 []:=⟨RS.nil_ _ _ _,Lim.nil_⟩
theorem RN.take (h:RN w P A c l)(n:Nat):RN w P A c (l.take n):=by
 by_cases hn:n≤l.length
 · refine⟨?_,h.2.take n⟩;have:=h.1.pre hn;rw[jO,bG]at this;rwa [zo,qU hn]
 · rw[zx (by omega)];exact h
theorem RN.at_ (h:RN w P A c l){i:Nat}(hi':i<l.length):∃ ad,A=some ad∧P ad.block∧w.cell? (ad.add i)=some (.int .u64 (dg l i:Int)):=by
 obtain⟨⟨h1,h2,h3,h4⟩,h5⟩:=h;obtain⟨ad,rfl,hb,hc⟩:=h4 (by omega);exact⟨ad,rfl,hb,hc _ _ (ub hi')⟩
theorem RN.cells {ad:Addr}(h:RN w P (some ad) c l):∀ i,i<l.length→w.cell? (ad.add i)=some (.int .u64 (dg l i:Int)):=by
 intro i hi;obtain⟨ad',e,_,hc⟩:=h.at_ hi;cases e;exact hc
theorem RN.lt (h:RN w P A c l)(i:Nat):(dg l i:Int)<18446744073709551616:=by have:=h.2.dgLt i;omega
theorem Blk.cell (h:Blk w g l){i:Nat}(hi:i<l.length):w.cell? ⟨g,i,none⟩=some (.int .u64 (dg l i:Int)):=by
 rw[zQ h i,zR,ub hi]
theorem Blk.free (h:Blk w g l)(i:Nat):w.frozen? ⟨g,i,none⟩=false:=qu h i
theorem Blk.lt (h:Blk w g l):g<w.heap.size:=qr h
theorem Blk.set (h:Blk w g l)(i:Nat)(x:Nat):Blk (w.setCell ⟨g,i,none⟩ (.int .u64 (x:Int))) g (l.set i x):=by
 unfold Blk at *;simp[World.setCell,vD,h,nts]
theorem Blk.below {B:Nat}(h:Blk w g l)(hb:Below B w w')(hg:g<B):Blk w' g l:=(hb.block g hg).trans h
theorem Blk.drewN (h:Blk w g l)(n:Nat):Blk (w.drewN n) g l:=h
theorem Blk.other (h:Blk w g l){p:Addr}(hp:g≠p.block)(v:Value):Blk (w.setCell p v) g l:=(je w p v g hp).trans h
theorem Blk.alloc (h:Blk w g l)(o:Obj):Blk (w.alloc o) g l:=(kE w o g (qr h)).trans h
theorem Blk.made (w:World)(n:Nat):Blk (w.alloc (.cells (madeCells #[.int .u64 0] n) 65)) w.heap.size (List.replicate n 0):=by
 unfold Blk;rw[zS];congr 1;congr 1;apply Array.ext_getElem?;intro i;by_cases hi:i<n
 · have hs:i<(madeCells #[Value.int .u64 0] n).size:=by rw[size_madeCells];simpa using hi
   rw[qG hs];simp[madeCells,nts,hi,Nat.mod_one]
 · rw[x6 (by rw[size_madeCells];omega),x6 (by simp[nts];omega)]
theorem OB.rn (h:OB w base A c l):RN w (In base w.heap.size) A c l:=by
 obtain⟨h1,h2,h3,h4⟩:=h;refine⟨⟨h2,h3,by simp[nts],fun hn=>?_⟩,h1⟩;obtain⟨g,cur,rfl,hg,hh,hc⟩:=h4 hn;refine⟨_,rfl,⟨hg,qr hh⟩,fun j u hu=>?_⟩;have:=zQ hh j;rw[hc j u hu]at this;rw[yx];exact this
theorem OB.nil_ (w:World)(base:Nat):OB w base none 0 []:=⟨Lim.nil_,zG _,by unfold maxLen;omega,fun h=>absurd h (by simp)⟩
theorem OB.below {B:Nat}(h:OB w base A c l)(hb:Below B w w')(hB:w.heap.size≤B):OB w' base A c l:=by
 obtain⟨h1,h2,h3,h4⟩:=h;refine⟨h1,h2,h3,fun hn=>?_⟩;obtain⟨g,cur,rfl,hg,hh,hc⟩:=h4 hn;exact⟨g,cur,rfl,hg,(hb.block g (zI (qr hh) hB)).trans hh,hc⟩
theorem OB.drewN (h:OB w base A c l)(n:Nat):OB (w.drewN n) base A c l:=h
theorem OB.mono {base':Nat}(h:OB w base A c l)(hb:base'≤base):OB w base' A c l:=by
 obtain⟨h1,h2,h3,h4⟩:=h;refine⟨h1,h2,h3,fun hn=>?_⟩;obtain⟨g,cur,e,hg,hh,hc⟩:=h4 hn;exact⟨g,cur,e,by omega,hh,hc⟩
theorem OB.cap (h:OB w base A c l):l.length≤c∧c≤9223372036854775807∧l.length≤1000000:=⟨h.2.1,h.2.2.1,h.1.2⟩
theorem OB.take (h:OB w base A c l)(n:Nat):OB w base A c (l.take n):=by
 obtain⟨h1,h2,h3,h4⟩:=h;refine⟨h1.take n,by rw[zo];omega,h3,fun hn=>?_⟩;obtain⟨g,cur,e,hg,hh,hc⟩:=h4 (by rw[zo]at hn;omega);refine⟨g,cur,e,hg,hh,fun j u hu=>hc j u ?_⟩;rw[←bG,List.getElem?_take]at hu;split at hu
 · exact hu
 · cases hu
theorem OB.of_blk (h:Blk w g l)(hg:base≤g)(hl:Lim l){c:Nat}(hc:l.length≤c)(hc':c≤maxLen):OB w base (some ⟨g,0,none⟩) c l :=
 ⟨hl,hc,hc',fun _=>⟨g,_,rfl,hg,h,fun j u hu=>by rw[zR];exact hu⟩⟩
theorem OB.of_own (h:w.ownsRow base 65 1 (.slice A l.length c) l.length (nts l))(hl:Lim l):OB w base A c l:=by
 obtain⟨h0,⟨e1,e2⟩|⟨g,cap,cur,e1,hg,hh,h5,h6,h7,h8⟩⟩:=h
 · injection e1 with e1 e3 e4
   have:l=[]:=qQ e2;subst e1 e4 this;exact OB.nil_ w base
 · injection e1 with e1 e2 e3
   subst e1 e3;refine⟨hl,h5,h6,fun _=>⟨g,cur,rfl,hg,hh,fun j u hu=>?_⟩⟩;rw[←h8,List.getElem?_take]at hu;split at hu
   · rwa [Array.getElem?_toList]at hu
   · cases hu
end
theorem kS:(Tryz.prog.info? 65).map (fun i=>(i.zero,i.size,i.bytes))=some (some (.int .u64 0),1,8):=by kernel_rfl
end Go.Proofs.YtaemogcomplhiaaGreatDoor
namespace Go.Proofs.YtaemogcomplhiaaGreatDoor
theorem kq:type_of% @OB.of_blk:=@OB.of_blk
theorem wK:type_of% @Blk.made:=@Blk.made
end Go.Proofs.YtaemogcomplhiaaGreatDoor
namespace Go.Proofs.YtaemogcomplhiaaGreatDoor
open Go.RowKit
def uR (l:List Nat) (k:Nat):Prop:=k≤l.length∧∀ x∈l.drop k,x=0
theorem uR.zero (l:List Nat):uR l l.length:=⟨zG _,by simp⟩
theorem uR.step {l:List Nat}{k:Nat}(h:uR l (k+1))(h0:dg l k=0):uR l k:=by
 obtain⟨h1,h2⟩:=h;refine⟨by omega,fun x hx=>?_⟩;rw[qa (by omega:k<l.length)]at hx;rcases List.mem_cons.1 hx with rfl|hx
 · rwa [yt (by omega)]at h0
 · exact h2 x hx
theorem uR.fin {B:Nat}(hB:2≤B){l:List Nat}(hl:∀ x∈l,x<B){k:Nat}(h:uR l k)(h0:0<k→dg l (k-1)≠0):l.take k=digs B (val B l) :=
 ft hB hl h.1 h.2 h0
theorem uR.len {B:Nat}(hB:2≤B){l:List Nat}(hl:∀ x∈l,x<B){k:Nat}(h:uR l k)(h0:0<k→dg l (k-1)≠0):(digs B (val B l)).length=k:=by
 rw[←h.fin hB hl h0,zo,qU h.1]
theorem jT (P:Nat→Prop)(A:Option Addr)(c:Nat)(l:List Nat)(w:World)(h:RN w P A c l) :
 Calls Tryz.prog 85 #[.slice A l.length c] w fun e w'=>e=.returned (.slice A (digs 18446744073709551616 (val 18446744073709551616 l)).length c)∧w=w':=by
 obtain⟨h1,h2,h3⟩:=h.cap
 go_enter Tryz.func85,Tryz.ntmps85
 go_wp2
 go_loop [3] (fun n=>∃ k:Nat,uR l k∧n=.int .i64 k) (fun n=>(intOf n).toNat)
 case atStart=>exact⟨l.length,uR.zero l,rfl⟩
 case round =>
  obtain⟨k,hk,rfl⟩:=hrel;rcases k with _|k
  · have hl:=zF (hk.len (B:=18446744073709551616) (by omega) h.2.1 (by omega));go_wp2;go_ret;rw[hl.out];exact⟨rfl,rfl⟩
  · obtain⟨ad,rfl,_,hc⟩:=h.at_ (i:=k) (by have:=hk.1;omega);have hkl:=hk.1;by_cases h0:dg l k=0
    · rw[h0]at hc;have hk':=hk.step h0;clear hk h0;go_wp2;go_round;case rel=>exact⟨k,hk',by go_num⟩
      case measure=>simp[intOf]
    · have hl:=zF (hk.len (B:=18446744073709551616) (by omega) h.2.1 (fun _=>h0));have h0':(((dg l k:Nat):Int)==0)=false:=eqB (by omega);clear h0;go_wp2;go_ret;rw[hl.out];exact⟨rfl,rfl⟩
theorem RN.trim {w:World}{P:Nat→Prop}{A:Option Addr}{c:Nat}{l:List Nat}(h:RN w P A c l):RN w P A c (digs 18446744073709551616 (val 18446744073709551616 l)):=by
 obtain⟨n,_,e⟩:=h.2.trim;rw[e];exact h.take n
theorem OB.trim {w:World}{base:Nat}{A:Option Addr}{c:Nat}{l:List Nat}(h:OB w base A c l):OB w base A c (digs 18446744073709551616 (val 18446744073709551616 l)):=by
 obtain⟨n,_,e⟩:=h.1.trim;rw[e];exact h.take n
def Dig (l:List Nat):Prop:=∀ x∈l,x<4294967296
theorem Dig.cut {l:List Nat}(h:Dig l):∃ n,n≤l.length∧l.take n=digs 4294967296 (val 4294967296 l):=by
 have:∀ k,k≤l.length→(∀ x∈l.drop k,x=0)→∃ n,n≤l.length∧(∀ x∈l.drop n,x=0)∧(0<n→l.getD (n-1) 0≠0):=by
   intro k;induction k with
   | zero=>intro _ hz;exact⟨0,by omega,hz,by omega⟩
   | succ k ih =>
     intro hk hz;by_cases h:l.getD k 0=0
     · refine ih (by omega) fun x hx=>?_;rw[qa (by omega:k<l.length)]at hx;rcases List.mem_cons.1 hx with rfl|hx
       · rwa [show l.getD k 0=l[k]from yt (by omega)]at h
       · exact hz x hx
     · exact⟨k+1,hk,hz,fun _=>by simpa using h⟩
 obtain⟨n,hn,hz,h0⟩:=this l.length (zG _) (by simp);exact⟨n,hn,ft (by omega) h hn hz h0⟩
theorem RS.recap {w:World}{P:Nat→Prop}{size:Nat}{A:Option Addr}{n c c':Nat}{cs:List Value}(h:RS w P size A n c cs)(hc:n≤c')(hc':c'≤maxLen):RS w P size A n c' cs:=⟨hc,hc',h.2.2⟩
theorem RN.trim32 {w:World}{P:Nat→Prop}{A:Option Addr}{c:Nat}{l:List Nat}(h:RN w P A c l)(hl:Dig l):RN w P A (digs 4294967296 (val 4294967296 l)).length (digs 4294967296 (val 4294967296 l)):=by
 obtain⟨n,_,e⟩:=hl.cut;rw[←e];have:=h.take n;exact⟨this.1.recap (zG _) (by have:=this.cap;unfold maxLen;omega),this.2⟩
theorem RN.recap {w:World}{P:Nat→Prop}{A:Option Addr}{c c':Nat}{l:List Nat}(h:RN w P A c l)(hc:l.length≤c')(hc':c'≤maxLen):RN w P A c' l:=⟨h.1.recap hc hc',h.2⟩
theorem kh (P:Nat→Prop)(A:Option Addr)(c:Nat)(l:List Nat)(w:World)(h:RN w P A c l)(hd:Dig l) :
 Calls Tryz.prog 37 #[.slice A l.length c] w fun e w'=>e=.returned (.slice A (digs 4294967296 (val 4294967296 l)).length (digs 4294967296 (val 4294967296 l)).length)∧w=w':=by
 obtain⟨h1,h2,h3⟩:=h.cap
 go_enter Tryz.func37,Tryz.ntmps37
 go_wp2
 go_loop [3] (fun n=>∃ k:Nat,uR l k∧n=.int .i64 k) (fun n=>(intOf n).toNat)
 case atStart=>exact⟨l.length,uR.zero l,rfl⟩
 case round =>
  obtain⟨k,hk,rfl⟩:=hrel;rcases k with _|k
  · have hl:=zF (hk.len (B:=4294967296) (by omega) hd (by omega));go_wp2;go_ret;rw[hl.out];exact⟨rfl,rfl⟩
  · obtain⟨ad,rfl,_,hc⟩:=h.at_ (i:=k) (by have:=hk.1;omega);have hkl:=hk.1;by_cases h0:dg l k=0
    · rw[h0]at hc;have hk':=hk.step h0;clear hk h0;go_wp2;go_round;case rel=>exact⟨k,hk',by go_num⟩
      case measure=>simp[intOf]
    · have hl:=zF (hk.len (B:=4294967296) (by omega) hd (fun _=>h0));have h0':(((dg l k:Nat):Int)==0)=false:=eqB (by omega);clear h0;go_wp2;go_ret;rw[hl.out];exact⟨rfl,rfl⟩
theorem fU (P:Nat→Prop)(A:Option Addr)(c:Nat)(l:List Nat)(w:World)(h:RN w P A c l) :
 Calls Tryz.prog 94 #[.slice A l.length c] w fun e w'=>∃ A' c',e=.returned (.slice A' (digs 18446744073709551616 (val 18446744073709551616 l)).length c')∧OB w' w.heap.size A' c' (digs 18446744073709551616 (val 18446744073709551616 l))∧Below w.heap.size w w':=by
 obtain⟨i0,hi,hz0,hz1,hz2⟩:=info_parts kS
 have ht:=h.trim
 obtain⟨n,_,e⟩:=h.2.trim
 have hcap:=ht.cap
 obtain⟨d,hd⟩:=eV (digs 18446744073709551616 (val 18446744073709551616 l))
 have Htr:=zF (jT P A c l w h)
 rw[hd]at ht hcap Htr ⊢
 obtain⟨h1,h2,h3⟩:=hcap
 clear hd e
 go_enter Tryz.func94,Tryz.ntmps94
 go_wp2_with fail
 refine Htr.out.mono ?_
 rintro e w1 ⟨rfl,rfl⟩
 go_wp2_with (at_builtin;refine jf _ rfl _ _ 24 rfl w.heap.size 65 i0 (.int .u64 0) 1 8 Tryz.underlying24 hi hz0 hz1 hz2 rfl (by decide) _ 0 [] rfl (World.ownsRow_nil _ _ _ _) P A d.length c (nts d) rfl ht.1 (kj d) d.length (by omega) (by unfold maxLen;omega) (by omega) (zG _) ?_)
 intro A' c' w1 hown hgrow hblk
 go_wp2
 go_ret
 exact⟨A',c',rfl,OB.of_own (by simpa using hown) ht.2,(zl _ w).grown hgrow (zG _) (by intro k hk;simp[Value.ownBlock]at hk)⟩
theorem yW (P:Nat→Prop)(A:Option Addr)(c:Nat)(l:List Nat)(w:World)(h:RN w P A c l) :
 Calls Tryz.prog 100 #[.slice A l.length c] w fun e w'=>∃ A' c',e=.returned (.slice A' (digs 18446744073709551616 (val 18446744073709551616 l)).length c')∧OB w' w.heap.size A' c' (digs 18446744073709551616 (val 18446744073709551616 l))∧Below w.heap.size w w':=by
 go_enter Tryz.func100,Tryz.ntmps100
 go_wp2_with fail
 refine(fU P A c l w h).mono ?_
 rintro e w1 ⟨A',c',rfl,hO,hB⟩
 go_wp2
 go_ret
 exact⟨A',c',rfl,hO,hB⟩
theorem gq (x:Nat)(w:World)(hx:x<18446744073709551616) :
 Calls Tryz.prog 67 #[.int .u64 (x:Int)] w fun e w'=>∃ A' c',e=.returned (.slice A' (digs 18446744073709551616 x).length c')∧OB w' w.heap.size A' c' (digs 18446744073709551616 x)∧Below w.heap.size w w':=by
 have hv:val 18446744073709551616 [x]=x:=by simp
 have hm:=fun P A c w=>fU P A c [x] w
 rw[hv]at hm
 have Hm:=zF hm
 clear hm hv
 go_enter Tryz.func67,Tryz.ntmps67
 go_wp2_with fail
 refine(Hm.out (In w.heap.size (w.heap.size+1)) _ _ _ ⟨RS.fresh #[.int .u64 (x:Int)] 65 1 1 rfl (by unfold maxLen;omega) ⟨zG _,by omega⟩,by simpa[Lim]using hx⟩).mono ?_
 rintro e w1 ⟨A',c',rfl,hO,hB⟩
 go_wp2
 go_ret
 exact⟨A',c',rfl,hO.mono (by simp),((zl _ w).alloc (zG _) _).trans (hB.mono (by simp))⟩
def vJ (x y:Nat):Int:=if x<y then -1 else if x=y then 0 else 1
theorem wO {x y:Nat}(h:x<y):vJ x y=-1:=by simp[vJ,h]
theorem fa {x y:Nat}(h:y<x):vJ x y=1:=by simp[vJ,show ¬ x<y by omega,show ¬ x=y by omega]
theorem cF (x:Nat):vJ x x=0:=by simp[vJ]
theorem ku (x y:Nat):(x<y∧vJ x y=-1)∨(x=y∧vJ x y=0)∨(y<x∧vJ x y=1):=by
 rcases Nat.lt_trichotomy x y with h|h|h
 · exact .inl ⟨h,wO h⟩
 · exact .inr (.inl ⟨h,by rw[h];exact cF y⟩)
 · exact .inr (.inr ⟨h,fa h⟩)
def xp (l m:List Nat) (k:Nat) (i:Int):Prop:=k≤l.length∧l.drop k=m.drop k∧((k=0∧i=-1)∨∃ j:Nat,k=j+1∧i=(j:Int))
theorem xp.start {l m:List Nat}(h:l.length=m.length):xp l m l.length ((l.length:Int)-1):=by
 refine⟨zG _,by rw[List.drop_length,h,List.drop_length],?_⟩;rcases hl:l.length with _|n
 · exact .inl ⟨rfl,by simp⟩
 · exact .inr ⟨n,rfl,by omega⟩
theorem xp.step {l m:List Nat}{j:Nat}{i:Int}(h:xp l m (j+1) i)(hl:l.length=m.length)(he:dg l j=dg m j):xp l m j ((j:Int)-1):=by
 obtain⟨h1,h2,_⟩:=h;refine⟨by omega,?_,?_⟩
 · rw[qa (by omega:j<l.length),qa (by omega:j<m.length),h2];rw[dg,dg,jU (by omega),jU (by omega)]at he;rw[he]
 · rcases j with _|j
   · exact .inl ⟨rfl,by simp⟩
   · exact .inr ⟨j,rfl,by omega⟩
theorem xp.done {l m:List Nat}{i:Int}(h:xp l m 0 i):l=m:=by simpa using h.2.1
theorem xp.lt {B:Nat}{l m:List Nat}{j:Nat}{i:Int}(h:xp l m (j+1) i)(hl:l.length=m.length)(hB:∀ x∈l,x<B)(hd:dg l j<dg m j):val B l<val B m:=by
 obtain⟨h1,h2,_⟩:=h;refine aF hB hl (i:=j) (by omega) h2 ?_;rwa [dg,dg,jU (by omega),jU (by omega)]at hd
theorem xp.gt {B:Nat}{l m:List Nat}{j:Nat}{i:Int}(h:xp l m (j+1) i)(hl:l.length=m.length)(hB:∀ x∈m,x<B)(hd:dg m j<dg l j):val B m<val B l:=by
 obtain⟨h1,h2,_⟩:=h;refine aF hB hl.symm (i:=j) (by omega) h2.symm ?_;rwa [dg,dg,jU (by omega),jU (by omega)]at hd
theorem wV (P P':Nat→Prop)(A A':Option Addr)(c c':Nat)(x y:Nat)(w:World)(h:RN w P A c (digs 4294967296 x))(h':RN w P' A' c' (digs 4294967296 y)) :
 Calls Tryz.prog 38 #[.slice A (digs 4294967296 x).length c,.slice A' (digs 4294967296 y).length c'] w fun e w'=>e=.returned (.int .i64 (vJ x y))∧∃ n,w'=w.drewN n:=by
 have hx:=zd (B:=4294967296) (by omega) x
 have hy:=zd (B:=4294967296) (by omega) y
 have bx:=kF (B:=4294967296) (by omega) x
 have byy:=kF (B:=4294967296) (by omega) y
 have hlt:=vZ (B:=4294967296) (m:=x) (n:=y) (by omega)
 have hgt:=vZ (B:=4294967296) (m:=y) (n:=x) (by omega)
 generalize digs 4294967296 x=l at *
 generalize digs 4294967296 y=m at *
 obtain⟨h1,h2,h3⟩:=h.cap
 obtain⟨g1,g2,g3⟩:=h'.cap
 have Hx:=zF hx
 have Hy:=zF hy
 clear hx hy
 by_cases hl:l.length=m.length
 · have hs:=xp.start hl;have Hl:=zF hl;have hl1:((l.length:Int) !=(m.length:Int))=false:=by simp[hl]
   clear hl hlt hgt;have Hs:=zF hs;clear hs;go_enter Tryz.func38,Tryz.ntmps38;go_wp2;go_loopw [5] (fun i wr=>∃(k n:Nat) (z:Int),xp l m k z∧i=.int .i64 z∧wr=w.drewN n) (fun i _=>(intOf i+1).toNat);case atStart=>exact⟨l.length,0,_,Hs.out,rfl,rfl⟩
   case round =>
    obtain⟨k,n,z,hk,rfl,rfl⟩:=hrel;obtain⟨hk1,hk2,⟨rfl,rfl⟩|⟨j,rfl,rfl⟩⟩:=hk
    · have he:l=m:=by simpa using hk2
      have hxy:x=y:=by rw[←Hx.out,←Hy.out,he]
      have hc:=zF (show vJ x y=0 by rw[hxy];exact cF y);clear he hxy hk2;go_wp2;go_ret;rw[hc.out];exact⟨rfl,n,rfl⟩
    · have hlm:=Hl.out;obtain⟨ad,rfl,_,q1⟩:=h.at_ (i:=j) (by omega);obtain⟨ae,rfl,_,q2⟩:=h'.at_ (i:=j) (by omega);have hj1:(j:Int)<(l.length:Int):=by omega
      have hj2:(j:Int)<(m.length:Int):=by omega
      have hkk:xp l m (j+1) (j:Int):=⟨hk1,hk2,.inr ⟨j,rfl,rfl⟩⟩
      rcases Nat.lt_trichotomy (dg l j) (dg m j)with hd|hd|hd
      · have hv:=hkk.lt hlm bx hd;rw[Hx.out,Hy.out]at hv;have hc:=zF (wO hv);have hd1:decide (dg l j<dg m j)=true:=by simpa using hd
        clear hkk hk1 hk2 hlm hd hv;go_wp2;go_quiet (fail);go_wp2;go_ret;rw[hc.out];exact⟨rfl,by first|exact dr2 _ _ _|exact dr1 _ _⟩
      · have hkk':=hkk.step hlm hd;rw[←hd]at q2;clear hkk hk1 hk2 hlm hd;go_wp2;go_quiet (fail);go_wp2;go_quiet (fail);go_wp2;go_roundw;case rel=>exact⟨j,_,_,hkk',rfl,by first|rfl|exact sD _ _ _ _⟩
        case measure=>simp[intOf]
      · have hv:=hkk.gt hlm byy hd;rw[Hx.out,Hy.out]at hv;have hc:=zF (fa hv);have hd1:decide (dg l j<dg m j)=false:=by simp;omega
        have hd2:decide (dg m j<dg l j)=true:=by simpa using hd
        clear hkk hk1 hk2 hlm hd hv;go_wp2;go_quiet (fail);go_wp2;go_quiet (fail);go_wp2;go_ret;rw[hc.out];exact⟨rfl,by first|exact dr3 _ _ _ _|exact dr1 _ _⟩
 · have hl1:((l.length:Int) !=(m.length:Int))=true:=neB (by omega);rcases qF l.length m.length with hd|hd
   · have hc:=zF (wO (hlt hd));clear hl hlt hgt;go_enter Tryz.func38,Tryz.ntmps38;go_wp2;go_ret;rw[hc.out];exact⟨rfl,0,rfl⟩
   · have hc:=zF (fa (hgt (by omega)));clear hl hlt hgt;go_enter Tryz.func38,Tryz.ntmps38;go_wp2;go_ret;rw[hc.out];exact⟨rfl,0,rfl⟩
theorem xH (P P':Nat→Prop)(A A':Option Addr)(c c':Nat)(a b:List Nat)(w:World)(h:RN w P A c a)(h':RN w P' A' c' b) :
 Calls Tryz.prog 58 #[.slice A a.length c,.slice A' b.length c'] w fun e w'=>e=.returned (.int .i64 (vJ (val 18446744073709551616 a) (val 18446744073709551616 b)))∧∃ n,w'=w.drewN n:=by
 have ta:=zF (jT P A c a w h)
 have tb:=zF (jT P' A' c' b w h')
 replace h:=h.trim
 replace h':=h'.trim
 generalize val 18446744073709551616 a=x at *
 generalize val 18446744073709551616 b=y at *
 have hx:=zd (B:=18446744073709551616) (by omega) x
 have hy:=zd (B:=18446744073709551616) (by omega) y
 have bx:=kF (B:=18446744073709551616) (by omega) x
 have byy:=kF (B:=18446744073709551616) (by omega) y
 have hlt:=vZ (B:=18446744073709551616) (m:=x) (n:=y) (by omega)
 have hgt:=vZ (B:=18446744073709551616) (m:=y) (n:=x) (by omega)
 generalize digs 18446744073709551616 x=l at *
 generalize digs 18446744073709551616 y=m at *
 obtain⟨h1,h2,h3⟩:=h.cap
 obtain⟨g1,g2,g3⟩:=h'.cap
 have Hx:=zF hx
 have Hy:=zF hy
 clear hx hy
 by_cases hl:l.length=m.length
 · have hs:=xp.start hl;have Hl:=zF hl;have hl1:((l.length:Int) !=(m.length:Int))=false:=by simp[hl]
   clear hl hlt hgt;have Hs:=zF hs;clear hs;go_enter Tryz.func58,Tryz.ntmps58;go_wp2_with fail;refine ta.out.mono ?_;rintro e w1 ⟨rfl,rfl⟩;go_wp2_with fail;refine tb.out.mono ?_;rintro e w1 ⟨rfl,rfl⟩;go_wp2;go_loopw [5] (fun i wr=>∃(k n:Nat) (z:Int),xp l m k z∧i=.int .i64 z∧wr=w.drewN n) (fun i _=>(intOf i+1).toNat);case atStart=>exact⟨l.length,0,_,Hs.out,rfl,rfl⟩
   case round =>
    obtain⟨k,n,z,hk,rfl,rfl⟩:=hrel;obtain⟨hk1,hk2,⟨rfl,rfl⟩|⟨j,rfl,rfl⟩⟩:=hk
    · have he:l=m:=by simpa using hk2
      have hxy:x=y:=by rw[←Hx.out,←Hy.out,he]
      have hc:=zF (show vJ x y=0 by rw[hxy];exact cF y);clear he hxy hk2;go_wp2;go_ret;rw[hc.out];exact⟨rfl,n,rfl⟩
    · have hlm:=Hl.out;obtain⟨ad,rfl,_,q1⟩:=h.at_ (i:=j) (by omega);obtain⟨ae,rfl,_,q2⟩:=h'.at_ (i:=j) (by omega);have hj1:(j:Int)<(l.length:Int):=by omega
      have hj2:(j:Int)<(m.length:Int):=by omega
      have hkk:xp l m (j+1) (j:Int):=⟨hk1,hk2,.inr ⟨j,rfl,rfl⟩⟩
      rcases Nat.lt_trichotomy (dg l j) (dg m j)with hd|hd|hd
      · have hv:=hkk.lt hlm bx hd;rw[Hx.out,Hy.out]at hv;have hc:=zF (wO hv);have hd0:(((dg l j:Nat):Int) !=((dg m j:Nat):Int))=true:=neB (by omega);have hd1:decide (dg l j<dg m j)=true:=by simpa using hd
        clear hkk hk1 hk2 hlm hd hv;go_wp2;go_quiet (fail);go_wp2;go_quiet (fail);go_wp2;go_ret;rw[hc.out];exact⟨rfl,by first|exact dr3 _ _ _ _|exact dr1 _ _⟩
      · have hkk':=hkk.step hlm hd;rw[←hd]at q2;clear hkk hk1 hk2 hlm hd;go_wp2;go_quiet (fail);go_wp2;go_roundw;case rel=>exact⟨j,_,_,hkk',rfl,by first|rfl|exact aX _ _ _⟩
        case measure=>simp[intOf]
      · have hv:=hkk.gt hlm byy hd;rw[Hx.out,Hy.out]at hv;have hc:=zF (fa hv);have hd0:(((dg l j:Nat):Int) !=((dg m j:Nat):Int))=true:=neB (by omega);have hd1:decide (dg l j<dg m j)=false:=by simp;omega
        clear hkk hk1 hk2 hlm hd hv;go_wp2;go_quiet (fail);go_wp2;go_quiet (fail);go_wp2;go_ret;rw[hc.out];exact⟨rfl,by first|exact dr3 _ _ _ _|exact dr1 _ _⟩
 · have hl1:((l.length:Int) !=(m.length:Int))=true:=neB (by omega);rcases qF l.length m.length with hd|hd
   · have hc:=zF (wO (hlt hd));clear hl hlt hgt;go_enter Tryz.func58,Tryz.ntmps58;go_wp2_with fail;refine ta.out.mono ?_;rintro e w1 ⟨rfl,rfl⟩;go_wp2_with fail;refine tb.out.mono ?_;rintro e w1 ⟨rfl,rfl⟩;go_wp2;go_ret;rw[hc.out];exact⟨rfl,0,rfl⟩
   · have hc:=zF (fa (hgt (by omega)));clear hl hlt hgt;go_enter Tryz.func58,Tryz.ntmps58;go_wp2_with fail;refine ta.out.mono ?_;rintro e w1 ⟨rfl,rfl⟩;go_wp2_with fail;refine tb.out.mono ?_;rintro e w1 ⟨rfl,rfl⟩;go_wp2;go_ret;rw[hc.out];exact⟨rfl,0,rfl⟩
theorem kJ (x y c s c':Nat)(hc:c≤1)(hs:s<18446744073709551616)(he:s+18446744073709551616*c'=x+y+c)(w:World) :
 (callFunc 90 #[.int .u64 (x:Int),.int .u64 (y:Int),.int .u64 (c:Int)]).run Tryz.prog w=.ok (.value (.tuple #[.int .u64 (s:Int),.int .u64 (c':Int)])) w:=by
 rw[Tryz.add64_run x y c hc w,show(x+y+c)%18446744073709551616=s by omega,show(x+y+c)/18446744073709551616=c' by omega]
theorem uJ (x y c s c':Nat)(hc:c≤1)(hx:x<18446744073709551616)(hy:y<18446744073709551616)(hs:s<18446744073709551616)(he:s+y+c=x+18446744073709551616*c')(hc':c'≤1)(w:World) :
 (callFunc 93 #[.int .u64 (x:Int),.int .u64 (y:Int),.int .u64 (c:Int)]).run Tryz.prog w=.ok (.value (.tuple #[.int .u64 (s:Int),.int .u64 (c':Int)])) w:=by
 rw[Tryz.sub64_run x y c hc w,show(x+18446744073709551616-y-c)%18446744073709551616=s by omega,show(if x<y+c then 1 else 0:Nat)=c' by split<;>omega]
theorem ye (x y c:Nat)(hx:x<18446744073709551616)(hy:y<18446744073709551616)(hc:c≤1):∃ s c',s<18446744073709551616∧c'≤1∧s+18446744073709551616*c'=x+y+c :=
 ⟨(x+y+c)%18446744073709551616,(x+y+c)/18446744073709551616,by omega,by omega,by omega⟩
theorem uP (x y c:Nat)(hx:x<18446744073709551616)(hy:y<18446744073709551616)(hc:c≤1):∃ s c',s<18446744073709551616∧c'≤1∧s+y+c=x+18446744073709551616*c':=by
 by_cases h:y+c≤x
 · exact⟨x-y-c,0,by omega,by omega,by omega⟩
 · exact⟨x+18446744073709551616-y-c,1,by omega,by omega,by omega⟩
theorem km {l:List Nat}{k:Nat}(h:l.length≤k):dg l k=0:=by
 rw[dg,qA,jL h];rfl
theorem az (P P':Nat→Prop)(A A':Option Addr)(c c':Nat)(a b:List Nat)(w:World)(h:RN w P A c a)(h':RN w P' A' c' b)(hP:∀ b,P b→b<w.heap.size)(hP':∀ b,P' b→b<w.heap.size)(hl:a.length<100000)
 (hge:val 18446744073709551616 b≤val 18446744073709551616 a) :
 Calls Tryz.prog 65 #[.slice A a.length c,.slice A' b.length c'] w fun e w'=>∃ A1 c1,e=.returned (.tuple #[.slice A1 (digs 18446744073709551616 (val 18446744073709551616 a-val 18446744073709551616 b)).length c1,.bool true]) ∧
  OB w' w.heap.size A1 c1 (digs 18446744073709551616 (val 18446744073709551616 a-val 18446744073709551616 b))∧Below w.heap.size w w':=by
 have ta:=zF (jT P A c a w h)
 have tb:=zF (jT P' A' c' b w h')
 have tc:=xH P P' A A' c c' _ _ w h.trim h'.trim
 rw[zd (by omega),zd (by omega)]at tc
 have la:=qz (B:=18446744073709551616) (by omega) h.2.1
 have hml:=jK (B:=18446744073709551616) (by omega) hge
 replace h:=h.trim
 replace h':=h'.trim
 generalize val 18446744073709551616 a=x at *
 generalize val 18446744073709551616 b=y at *
 have hx:=zd (B:=18446744073709551616) (by omega) x
 have hy:=zd (B:=18446744073709551616) (by omega) y
 generalize digs 18446744073709551616 x=l at *
 generalize digs 18446744073709551616 y=m at *
 have hlen:l.length<100000:=by omega
 clear la hl
 have hge':val 18446744073709551616 m≤val 18446744073709551616 l:=by rw[hx,hy];exact hge
 have Hv:=zF (show val 18446744073709551616 l-val 18446744073709551616 m=x-y by rw[hx,hy])
 have hcv:0≤vJ x y:=by rcases ku x y with h|h|h<;>omega
 generalize vJ x y=v at tc hcv
 have Tc:=zF tc
 have Hge:=zF hge'
 clear hx hy tc hge hge'
 obtain⟨h1,h2,h3⟩:=h.cap
 obtain⟨g1,g2,g3⟩:=h'.cap
 go_enter Tryz.func65,Tryz.ntmps65
 go_wp2_with fail
 refine ta.out.mono ?_
 rintro e w1 ⟨rfl,rfl⟩
 go_wp2_with fail
 refine tb.out.mono ?_
 rintro e w1 ⟨rfl,rfl⟩
 go_wp2_with fail
 refine Tc.out.mono ?_
 rintro e w1 ⟨rfl,n,rfl⟩
 have hmk:=jD (P:=Tryz.prog) 24 65 (.int .u64 0) 8 Tryz.underlying24 kS rfl .i64 .i64 l.length (by omega) (by omega)
 go_wp2
 go_loopw [7,23] (fun cv iv wr=>∃(k cr:Nat) (o:List Nat),iv=.int .i64 (k:Int)∧cv=.int .u64 (cr:Int)∧k≤l.length∧cr≤1∧xN 18446744073709551616 l m o k cr∧Hid (o.length=l.length)∧Lim o∧Blk wr w.heap.size o∧Below w.heap.size w wr) (fun _ iv _=>l.length-(intOf iv).toNat)
 case atStart=>exact⟨0,0,List.replicate l.length 0,rfl,rfl,by omega,by omega,xN.zero _ _ _ _,zF (by simp),⟨by simp,by simp;omega⟩,wK (w.drewN n) _,(jC (zl _ w) n).alloc (zG _) _⟩
 case round =>
  obtain⟨k,cr,o,rfl,rfl,hk,hcr,hA,Ho,hLo,hblk,hB⟩:=hrel;by_cases hlt:k<l.length
  · obtain⟨ad,rfl,_,q1⟩:=(h.below hB hP).at_ hlt;obtain⟨s,cr',hs,hcr',he⟩:=uP (dg l k) (dg m k) cr (h.2.dgLt k) (h'.2.dgLt k) hcr;have hok:k<o.length:=by have:=Ho.out;omega
    have q3:=hblk.cell hok;have q4:=hblk.free k;have hA':=hA.step hok he;have hblk':=hblk.set k s;have hLo':=hLo.set k s hs;have hB':=hB.setCell (p:=⟨w.heap.size,k,none⟩) (zG _) (.int .u64 (s:Int));have Ho':Hid ((o.set k s).length=l.length):=zF (by rw[jw];exact Ho.out);have hl64:=h.2.dgLt k;have hm64:=h'.2.dgLt k;by_cases hm:k<m.length
    · obtain⟨ae,rfl,_,q2⟩:=(h'.below hB hP').at_ hm;have hsub:=fun w=>uJ (dg l k) (dg m k) cr s cr' hcr hl64 hm64 hs he hcr' w;clear he hA hblk hLo hB hl64 hm64;go_wp2;go_roundw;case rel=>exact⟨k+1,cr',o.set k s,by go_num,rfl,by omega,hcr',hA',Ho',hLo',hblk',hB'⟩
      case measure=>simp[intOf];omega
    · have hsub:=fun w=>uJ (dg l k) 0 cr s cr' hcr hl64 (by omega) hs (by rw[km (by omega:m.length≤k)]at he;exact he) hcr' w;simp only[qW]at hsub;clear he hA hblk hLo hB hl64 hm64;go_wp2;go_roundw;case rel=>exact⟨k+1,cr',o.set k s,by go_num,rfl,by omega,hcr',hA',Ho',hLo',hblk',hB'⟩
      case measure=>simp[intOf];omega
  · obtain rfl:k=l.length:=by omega
    have hfin:=hA.fin Ho.out hLo.1 rfl hml Hge.out;rw[Hv.out]at hfin;have hOB:OB wr w.heap.size (some ⟨w.heap.size,0,none⟩) l.length o:=kq hblk (zG _) hLo (by have:=Ho.out;omega) (by unfold maxLen;omega);have ht:=jT _ _ _ _ _ hOB.rn;have hOB':=hOB.trim;rw[hfin,Ho.out]at ht;rw[hfin]at hOB';have Ht:=zF ht;clear hA hblk hLo ht hfin hOB;go_wp2_with fail;refine Ht.out.mono ?_;rintro e w1 ⟨rfl,rfl⟩;go_wp2;go_ret2;exact⟨_,_,rfl,hOB',hB⟩
theorem ya (x y hi lo:Nat)(hx:x<18446744073709551616)(hy:y<18446744073709551616)(hl:lo<18446744073709551616)(he:lo+18446744073709551616*hi=x*y)(w:World) :
 Calls Tryz.prog 98 #[.int .u64 (x:Int),.int .u64 (y:Int)] w fun e w'=>e=.returned (.tuple #[.int .u64 (hi:Int),.int .u64 (lo:Int)])∧w=w' :=
 (Tryz.bits_Mul64 x y hx hy w).mono fun e w' ⟨h1, h2⟩ => by
  rw[←he,show(lo+18446744073709551616*hi)/18446744073709551616=hi by omega,show(lo+18446744073709551616*hi)%18446744073709551616=lo by omega]at h1;exact⟨h1,h2.symm⟩
theorem dF (x y u c:Nat)(hx:x<18446744073709551616)(hy:y<18446744073709551616)(hu:u<18446744073709551616)(hc:c<18446744073709551616) :
   ∃ hi lo s1 c1 s2 c2 : Nat, lo < 18446744073709551616 ∧ lo + 18446744073709551616 * hi = x * y ∧ s1 < 18446744073709551616 ∧ s1 + 18446744073709551616 * c1 = lo + u + 0 ∧ s2 < 18446744073709551616 ∧ s2 + 18446744073709551616 * c2 = s1 + c + 0 ∧
     c1≤1∧c2≤1∧hi+c1<18446744073709551616∧hi+c1+c2<18446744073709551616∧s2+18446744073709551616*(hi+c1+c2)=x*y+u+c:=by
 have hb:=yQ hx hy hu hc
 refine⟨x*y/18446744073709551616,x*y%18446744073709551616,(x*y%18446744073709551616+u)%18446744073709551616,(x*y%18446744073709551616+u)/18446744073709551616,
   ((x*y%18446744073709551616+u)%18446744073709551616+c)%18446744073709551616,((x*y%18446744073709551616+u)%18446744073709551616+c)/18446744073709551616,?_⟩
 generalize x*y=p at *;omega
theorem mP (P P':Nat→Prop)(A A':Option Addr)(c c':Nat)(a b:List Nat)(w:World)(h:RN w P A c a)(h':RN w P' A' c' b)(hP:∀ b,P b→b<w.heap.size)(hP':∀ b,P' b→b<w.heap.size)(hl:a.length<100000)(hl':b.length<100000) :
 Calls Tryz.prog 119 #[.slice A a.length c,.slice A' b.length c'] w fun e w'=>∃ A1 c1,e=.returned (.slice A1 (digs 18446744073709551616 (val 18446744073709551616 a*val 18446744073709551616 b)).length c1) ∧
  OB w' w.heap.size A1 c1 (digs 18446744073709551616 (val 18446744073709551616 a*val 18446744073709551616 b))∧Below w.heap.size w w':=by
 have ta:=zF (jT P A c a w h)
 have tb:=zF (jT P' A' c' b w h')
 have la:=qz (B:=18446744073709551616) (by omega) h.2.1
 have lb:=qz (B:=18446744073709551616) (by omega) h'.2.1
 replace h:=h.trim
 replace h':=h'.trim
 generalize val 18446744073709551616 a=x at *
 generalize val 18446744073709551616 b=y at *
 have hx:=zd (B:=18446744073709551616) (by omega) x
 have hy:=zd (B:=18446744073709551616) (by omega) y
 generalize digs 18446744073709551616 x=l at *
 generalize digs 18446744073709551616 y=m at *
 have la':l.length<100000:=by omega
 have lb':m.length<100000:=by omega
 clear la lb hl hl'
 have Hx:=zF hx
 have Hy:=zF hy
 clear hx hy
 obtain⟨h1,h2,h3⟩:=h.cap
 obtain⟨g1,g2,g3⟩:=h'.cap
 have hmk:=jD (P:=Tryz.prog) 24 65 (.int .u64 0) 8 Tryz.underlying24 kS rfl .i64 .i64 (l.length+m.length) (by omega) (by omega)
 simp only[vX]at hmk
 go_enter Tryz.func119,Tryz.ntmps119
 go_wp2_with fail
 refine ta.out.mono ?_
 rintro e w1 ⟨rfl,rfl⟩
 go_wp2_with fail
 refine tb.out.mono ?_
 rintro e w1 ⟨rfl,rfl⟩
 go_wp2
 clear ta tb
 go_loopw [26] (fun iv wr=>∃(i:Nat) (o:List Nat),iv=.int .i64 (i:Int)∧i≤l.length∧gP 18446744073709551616 l m o i∧Lim o∧Blk wr w.heap.size o∧Below w.heap.size w wr) (fun iv _=>l.length-(intOf iv).toNat)
 case atStart=>exact⟨0,List.replicate (l.length+m.length) 0,rfl,by omega,gP.zero _ _ _,⟨by simp,by simp;omega⟩,wK w _,(zl _ w).alloc (zG _) _⟩
 case round =>
  obtain⟨i,o0,rfl,hi,hR,hLo,hblk,hB⟩:=hrel;obtain⟨wo,rfl⟩:=eW wr;by_cases hlt:i<l.length
  · obtain⟨ad,rfl,_,q1⟩:=(h.below hB hP).at_ hlt;have hxi:=h.2.dgLt i;go_wp2;go_loopw [8,33] (fun cv jv wr=>∃(j cr:Nat) (o:List Nat),jv=.int .i64 (j:Int)∧cv=.int .u64 (cr:Int)∧j≤m.length∧cr<18446744073709551616∧uQ 18446744073709551616 o0 m (dg l i) i o j cr∧Lim o∧Blk wr w.heap.size o∧Below w.heap.size w wr) (fun _ jv _=>m.length-(intOf jv).toNat);case atStart=>exact⟨0,0,o0,rfl,rfl,by omega,by omega,uQ.zero _ _ _ _ _,hLo,hblk,hB⟩
    case round =>
     clear q1 hB hblk hLo;obtain⟨j,cr,o,rfl,rfl,hj,hcr,hM,hLo,hblk,hB⟩:=hrel;have hol:o.length=l.length+m.length:=hM.1.trans hR.1;by_cases hjt:j<m.length
     · obtain⟨ae,rfl,_,q2⟩:=(h'.below hB hP').at_ hjt;have hok:i+j<o.length:=by omega
       have q3:=hblk.cell hok;have q4:=hblk.free (i+j);obtain⟨hi',lo,s1,c1,s2,c2,b1,b2,b3,b4,b5,b6,b7,b8,b9,b10,he⟩:=dF (dg l i) (dg m j) (dg o (i+j)) cr hxi (h'.2.dgLt j) (hLo.dgLt _) hcr;have hmul:=zF (fun w=>ya (dg l i) (dg m j) hi' lo hxi (h'.2.dgLt j) b1 b2 w);have hadd1:=fun w=>kJ lo (dg o (i+j)) 0 s1 c1 (by omega) b3 b4 w;have hadd2:=fun w=>kJ s1 cr 0 s2 c2 (by omega) b5 b6 w;simp only[qW]at hadd1 hadd2;have hM':=hM.step hok he;have hblk':=hblk.set (i+j) s2;have hLo':=hLo.set (i+j) s2 b5;have hB':=hB.setCell (p:=⟨w.heap.size,i+j,none⟩) (zG _) (.int .u64 (s2:Int));have k1:(i:Int)+(j:Int)<(l.length:Int)+(m.length:Int):=by omega
       clear he b2 b4 b6 hM hblk hLo hB hok hol;go_wp2_with fail;refine(hmul.out _).mono ?_;rintro e w1 ⟨rfl,rfl⟩;go_wp2;go_roundw;case rel=>exact⟨j+1,hi'+c1+c2,o.set (i+j) s2,by go_num,by go_num,by omega,b10,hM',hLo',hblk',hB'⟩
       case measure=>simp[intOf];omega
     · obtain rfl:j=m.length:=by omega
       have hR':=hR.step hlt hM;have q3:=hblk.cell (i:=i+m.length) (by omega);have q4:=hblk.free (i+m.length);have hblk':=hblk.set (i+m.length) cr;have hLo':=hLo.set (i+m.length) cr hcr;have hB':=hB.setCell (p:=⟨w.heap.size,i+m.length,none⟩) (zG _) (.int .u64 (cr:Int));have k1:(i:Int)+(m.length:Int)<(l.length:Int)+(m.length:Int):=by omega
       clear hM hblk hLo hB hol;go_wp2;go_roundw;case rel=>exact⟨i+1,o.set (i+m.length) cr,by go_num,by omega,hR',hLo',hblk',hB'⟩
       case measure=>simp[intOf];omega
  · obtain rfl:i=l.length:=by omega
    have hfin:=hR.fin;rw[Hx.out,Hy.out]at hfin;have hol:=hR.1;have hOB:OB wo w.heap.size (some ⟨w.heap.size,0,none⟩) (l.length+m.length) o0:=kq hblk (zG _) hLo (by omega) (by unfold maxLen;omega);have ht:=jT _ _ _ _ _ hOB.rn;have hOB':=hOB.trim;rw[hfin,hol]at ht;rw[hfin]at hOB';have Ht:=zF ht;clear hblk hLo ht hfin hOB hR hol;go_wp2_with fail;refine Ht.out.mono ?_;rintro e w1 ⟨rfl,rfl⟩;go_wp2;go_ret;exact⟨_,_,rfl,hOB',hB⟩
theorem OB.recap {w:World}{base:Nat}{A:Option Addr}{c c':Nat}{l:List Nat}(h:OB w base A c l)(hc:l.length≤c')(hc':c'≤maxLen):OB w base A c' l:=⟨h.1,hc,hc',h.2.2.2⟩
theorem OB.trim32 {w:World}{base:Nat}{A:Option Addr}{c:Nat}{l:List Nat}(h:OB w base A c l)(hl:Dig l):OB w base A (digs 4294967296 (val 4294967296 l)).length (digs 4294967296 (val 4294967296 l)):=by
 obtain⟨n,_,e⟩:=hl.cut;rw[←e];have:=h.take n;exact this.recap (zG _) (by have:=this.cap;unfold maxLen;omega)
theorem Dig.set {l:List Nat}(h:Dig l)(i x:Nat)(hx:x<4294967296):Dig (l.set i x):=wy h hx
theorem Dig.dgLt {l:List Nat}(h:Dig l)(i:Nat):dg l i<4294967296:=jS (by omega) h i
theorem Dig.digs (x:Nat):Dig (Go.Proofs.YtaemogcomplhiaaGreatDoor.digs 4294967296 x):=kF (by omega) x
def uk (l o:List Nat) (i:Nat):Prop:=o.length=2*l.length∧Dig o∧val 4294967296 (o.take (2*i))=val 18446744073709551616 (l.take i)
theorem nT (i:Nat):4294967296 ^(2*i)=18446744073709551616^i:=by
 rw[kr]
theorem uk.zero (l:List Nat):uk l (List.replicate (2*l.length) 0) 0:=⟨by simp,by intro x hx;simp at hx;omega,by simp⟩
theorem uk.step {l o:List Nat}{i p q:Nat}(h:uk l o i)(hi:i<l.length)(hp:p<4294967296)(hq:q<4294967296)(he:p+4294967296*q=dg l i):uk l ((o.set (2*i) p).set (2*i+1) q) (i+1):=by
 obtain⟨h1,h2,h3⟩:=h;refine⟨by simpa using h1,(h2.set _ _ hp).set _ _ hq,?_⟩;rw[show 2*(i+1)=2*i+1+1 by omega,jc _ (by simp;omega),jc _ (by omega),h3,qC,←he,zp,nT];simp only[zf,za,kH]
theorem uk.fin {l o:List Nat}(h:uk l o l.length):val 4294967296 o=val 18446744073709551616 l:=by
 obtain⟨h1,_,h3⟩:=h;rwa [zx (by omega),jE]at h3
theorem vS (P:Nat→Prop)(A:Option Addr)(c:Nat)(l:List Nat)(w:World)(h:RN w P A c l)(hP:∀ b,P b→b<w.heap.size)(hl:l.length<100000) :
 Calls Tryz.prog 13 #[.slice A l.length c] w fun e w'=>∃ A1 c1,e=.returned (.slice A1 (digs 4294967296 (val 18446744073709551616 l)).length c1) ∧
  OB w' w.heap.size A1 c1 (digs 4294967296 (val 18446744073709551616 l))∧Below w.heap.size w w':=by
 obtain⟨h1,h2,h3⟩:=h.cap
 have hmk:=jD (P:=Tryz.prog) 28 65 (.int .u64 0) 8 Tryz.underlying28 kS rfl .i64 .i64 (2*l.length) (by omega) (by omega)
 simp only[vW,qW]at hmk
 go_enter Tryz.func13,Tryz.ntmps13
 go_wp2
 go_loopw [4] (fun iv wr=>∃(i:Nat) (o:List Nat),iv=.int .i64 (i:Int)∧i≤l.length∧uk l o i∧Lim o∧Blk wr w.heap.size o∧Below w.heap.size w wr) (fun iv _=>l.length-(intOf iv).toNat)
 case atStart=>exact⟨0,List.replicate (2*l.length) 0,rfl,by omega,uk.zero _,⟨by simp,by simp;omega⟩,wK w _,(zl _ w).alloc (zG _) _⟩
 case round =>
  obtain⟨i,o,rfl,hi,hF,hLo,hblk,hB⟩:=hrel;by_cases hlt:i<l.length
  · obtain⟨ad,rfl,had,q1⟩:=(h.below hB hP).at_ hlt;have hol:=hF.1;have hxi:=h.2.dgLt i
    obtain⟨p,q,hp,hq,he,e1,e2⟩:∃ p q:Nat,p<4294967296∧q<4294967296∧p+4294967296*q=dg l i∧(dg l i:Int)%4294967296=(p:Int)∧(dg l i:Int)/4294967296=(q:Int) :=
     ⟨dg l i%4294967296,dg l i/4294967296,by omega,by omega,by omega,by omega,by omega⟩
    have q3:=hblk.cell (i:=2*i) (by omega);have q4:=hblk.free (2*i);have hblk1:=hblk.set (2*i) p;have q5:=hblk1.cell (i:=2*i+1) (by simp;omega);have q6:=hblk1.free (2*i+1);have hblk2:=hblk1.set (2*i+1) q;have hLo':=(hLo.set (2*i) p (by omega)).set (2*i+1) q (by omega);have hB1:=hB.setCell (p:=⟨w.heap.size,2*i,none⟩) (zG _) (.int .u64 (p:Int));have q7:=((h.below hB1 hP).cells i hlt)
    have hB2:=hB1.setCell (p:=⟨w.heap.size,2*i+1,none⟩) (zG _) (.int .u64 (q:Int));have hF':=hF.step hlt hp hq he;have k1:(2:Int)*(i:Int)<2*(l.length:Int):=by omega
    have k2:(2:Int)*(i:Int)+1<2*(l.length:Int):=by omega
    clear hF hLo hblk hB hblk1 hB1 he hol hp hq;go_wp2;go_roundw;case rel=>exact⟨i+1,(o.set (2*i) p).set (2*i+1) q,by go_num,by omega,hF',hLo',hblk2,hB2⟩
    case measure=>simp[intOf];omega
  · obtain rfl:i=l.length:=by omega
    have hfin:=hF.fin;have hOB:OB wr w.heap.size (some ⟨w.heap.size,0,none⟩) (2*l.length) o:=kq hblk (zG _) hLo (by have:=hF.1;omega) (by unfold maxLen;omega);have ht:=kh _ _ _ _ _ hOB.rn hF.2.1;have hOB':=hOB.trim32 hF.2.1;rw[hfin,hF.1]at ht;rw[hfin]at hOB';have Ht:=zF ht;clear hblk hLo ht hfin hOB hF;go_wp2_with fail;refine Ht.out.mono ?_;rintro e w1 ⟨rfl,rfl⟩;go_wp2;go_ret;exact⟨_,_,rfl,hOB',hB⟩
theorem gT (x:Nat)(w:World)(hx:x<18446744073709551616) :
 Calls Tryz.prog 48 #[.int .u64 (x:Int)] w fun e w'=>∃ A' c',e=.returned (.slice A' (digs 4294967296 x).length c')∧OB w' w.heap.size A' c' (digs 4294967296 x)∧Below w.heap.size w w':=by
 have hv:val 18446744073709551616 [x]=x:=by simp
 have hm:=fun P A c w h hP=>vS P A c [x] w h hP (by simp)
 rw[hv]at hm
 have Hm:=zF hm
 clear hm hv
 go_enter Tryz.func48,Tryz.ntmps48
 go_wp2_with fail
 refine(Hm.out (In w.heap.size (w.heap.size+1)) _ _ _ ⟨RS.fresh #[.int .u64 (x:Int)] 65 1 1 rfl (by unfold maxLen;omega) ⟨zG _,by omega⟩,by simpa[Lim]using hx⟩ (fun b hb=>by have:=hb.2;simp;omega)).mono ?_
 rintro e w1 ⟨A',c',rfl,hO,hB⟩
 go_wp2
 go_ret
 exact⟨A',c',rfl,hO.mono (by simp),((zl _ w).alloc (zG _) _).trans (hB.mono (by simp))⟩
def vA:List Nat→List Nat
 | []=>[]
 | [a]=>[a]
 | a::b::r=>(a+4294967296*b)::vA r
theorem aL:∀ l:List Nat,val 18446744073709551616 (vA l)=val 4294967296 l
 | []=>rfl
 | [a]=>by simp[vA]
 | a::b::r=>by simp only[vA,jr,aL r];omega
theorem bB:∀ {l:List Nat},Dig l→∀ x∈vA l,x<18446744073709551616
 | [],_,x,hx=>by cases hx
 | [a], h, x, hx => by
   have:=h a (by simp);simp only[vA,List.mem_singleton]at hx;omega
 | a :: b :: r, h, x, hx => by
   have h1:=h a (by simp);have h2:=h b (by simp);simp only[vA,List.mem_cons]at hx;rcases hx with rfl|hx
   · omega
   · exact bB (fun y hy=>h y (by simp[hy])) x hx
theorem zAd:∀ {l:List Nat},l≠[]→vA l≠[]
 | [],h=>absurd rfl h
 | [a],_=>by simp[vA]
 | a::b::r,_=>by simp[vA]
theorem bC:∀ {l:List Nat}(h:l≠[]),l.getLast h≠0→∀ h':vA l≠[],(vA l).getLast h'≠0
 | [],h,_,_=>absurd rfl h
 | [a],_,h,h'=>by simpa[vA]using h
 | [a, b], _, h, h' => by
   simp at h;simp[vA];omega
 | a :: b :: d :: r, _, h, h' => by
   have e:vA (a::b::d::r)=(a+4294967296*b)::vA (d::r):=rfl;have hne:vA (d::r)≠[]:=zAd (by simp);simp only[e,List.getLast_cons hne];exact bC (by simp) (by simpa using h) hne
theorem pC (x:Nat):vA (digs 4294967296 x)=digs 18446744073709551616 x:=by
 have h1:=aL (digs 4294967296 x);rw[zd (by omega)]at h1;have h2:=gN (B:=18446744073709551616) (by omega) (bB (Dig.digs x)) fun hne=>by
  have hne':digs 4294967296 x≠[]:=by intro e;rw[e]at hne;exact hne rfl
  exact bC hne' (uO (by omega) x hne') hne
 rw[h1]at h2;exact h2.symm
theorem fP:∀ l:List Nat,(vA l).length=(l.length+1)/2
 | []=>rfl
 | [a]=>by simp[vA]
 | a::b::r=>by simp only[vA,jZ,fP r];omega
theorem yH (a:Nat)(l:List Nat):dg (a::l) 0=a:=rfl
theorem xG (a:Nat)(l:List Nat)(i:Nat):dg (a::l) (i+1)=dg l i:=rfl
theorem pY (i:Nat):dg [] i=0:=rfl
theorem nV:∀(l:List Nat) (k:Nat),dg (vA l) k=dg l (2*k)+4294967296*dg l (2*k+1)
 | [],k=>by simp[vA,pY]
 | [a],0=>by simp[vA,yH,xG,pY]
 | [a],k+1=>by rw[show 2*(k+1)=2*k+1+1 by omega];simp[vA,xG,pY]
 | a::b::r,0=>by simp[vA,yH,xG]
 | a :: b :: r, k + 1 => by
   rw[show 2*(k+1)=2*k+1+1 by omega];simp only[vA,xG,nV r k]
theorem uU {l:List Nat}{k:Nat}(h:k<l.length):l.take (k+1)=l.take k++[dg l k]:=by
 rw[List.take_succ_eq_append_getElem h,dg,jU h]
theorem ua {w:World}{base n size:Nat}{e:TypeId}{v:Value}{xs:List Value}(h:w.ownsRow base e size v n xs){j:Nat}(hj:v.ownBlock=some j):base≤j:=by
 obtain⟨h0,⟨rfl,_⟩|⟨g,cap,cur,rfl,hg,_⟩⟩:=h
 · simp[Value.ownBlock]at hj
 · simp[Value.ownBlock]at hj;omega
theorem t8 (P:Nat→Prop)(A:Option Addr)(c:Nat)(x:Nat)(w:World)(h:RN w P A c (digs 4294967296 x))(hP:∀ b,P b→b<w.heap.size) :
 Calls Tryz.prog 47 #[.slice A (digs 4294967296 x).length c] w fun e w'=>∃ A1 c1,e=.returned (.slice A1 (digs 18446744073709551616 x).length c1) ∧
  OB w' w.heap.size A1 c1 (digs 18446744073709551616 x)∧Below w.heap.size w w':=by
 obtain⟨i0,hi,hz0,hz1,hz2⟩:=info_parts kS
 obtain⟨h1,h2,h3⟩:=h.cap
 have hx:=pC x
 have hd:=Dig.digs x
 rw[←hx]
 generalize digs 4294967296 x=l at *
 have hpl:=fP l
 have hpd:=nV l
 have hplt:=bB hd
 generalize vA l=m at *
 clear hx
 have Hpd:=zF hpd
 have Hpl:=zF hpl
 have hmb:m.length≤1000000:=by omega
 clear hpd hpl
 have hLm:Lim m:=⟨hplt,hmb⟩
 go_enter Tryz.func47,Tryz.ntmps47
 go_wp2
 go_loopw [3,4] (fun lv iv wr=>∃(k:Nat),iv=.int .i64 (2*(k:Int))∧k≤m.length∧wr.ownsRow w.heap.size 65 1 lv k (nts (m.take k))∧Below w.heap.size w wr) (fun _ iv _=>l.length+1-(intOf iv).toNat)
 case atStart=>exact⟨0,rfl,by omega,World.ownsRow_nil _ _ _ _,zl _ _⟩
 case round =>
  obtain⟨k,rfl,hk,hO,hB⟩:=hrel;have hkl:=Hpl.out;by_cases hlt:k<m.length
  · obtain⟨ad,rfl,had,q1⟩:=(h.below hB hP).at_ (i:=2*k) (by omega);have hd1:=hd.dgLt (2*k);have hd2:=hd.dgLt (2*k+1);have he:=Hpd.out k;have hmk:=hLm.dgLt k;have hs:=hB.size;have htk:=uU hlt;have k1:(2:Int)*(k:Int)<(l.length:Int):=by omega
    by_cases h2:2*k+1<l.length
    · have q2:=(h.below hB hP).cells (2*k+1) h2;rw[oR]at q2;have k2:(2:Int)*(k:Int)+1<(l.length:Int):=by omega
      have e1:(dg l (2*k):Int)+(dg l (2*k+1):Int)*4294967296=(dg m k:Int):=by omega
      clear he hkl;go_wp2_with (at_builtin;refine jf _ rfl _ _ 24 rfl w.heap.size 65 i0 (.int .u64 0) 1 8 Tryz.underlying24 hi hz0 hz1 hz2 rfl (by decide) _ k (nts (m.take k)) rfl (hO.alloc _) (In wr.heap.size (wr.heap.size+1)) (some ⟨wr.heap.size,0,none⟩) 1 1 [.int .u64 (dg m k:Int)] rfl (RS.fresh #[.int .u64 (dg m k:Int)] 65 1 1 rfl (by unfold maxLen;omega) ⟨zG _,by omega⟩) (by simp[Value.oneCell']) (k+1) rfl (by unfold maxLen;omega) (by omega) (by simp;omega) ?_);intro A' c' w1 hown hgrow hblk;go_wp2;go_roundw;case rel=>exact⟨k+1,by go_num,by omega,by rw[htk];simpa[nts]using hown,(hB.alloc hs _).grown hgrow (by simp;omega) (by intro j hj;exact ua hO hj)⟩
      case measure=>simp[intOf];omega
    · have e1:dg l (2*k)=dg m k:=by rw[he,km (by omega:l.length≤2*k+1)];omega
      have k2:¬(2:Int)*(k:Int)+1<(l.length:Int):=by omega
      rw[e1]at q1;clear he hkl e1;go_wp2_with (at_builtin;refine jf _ rfl _ _ 24 rfl w.heap.size 65 i0 (.int .u64 0) 1 8 Tryz.underlying24 hi hz0 hz1 hz2 rfl (by decide) _ k (nts (m.take k)) rfl (hO.alloc _) (In wr.heap.size (wr.heap.size+1)) (some ⟨wr.heap.size,0,none⟩) 1 1 [.int .u64 (dg m k:Int)] rfl (RS.fresh #[.int .u64 (dg m k:Int)] 65 1 1 rfl (by unfold maxLen;omega) ⟨zG _,by omega⟩) (by simp[Value.oneCell']) (k+1) rfl (by unfold maxLen;omega) (by omega) (by simp;omega) ?_);intro A' c' w1 hown hgrow hblk;go_wp2;go_roundw;case rel=>exact⟨k+1,by go_num,by omega,by rw[htk];simpa[nts]using hown,(hB.alloc hs _).grown hgrow (by simp;omega) (by intro j hj;exact ua hO hj)⟩
      case measure=>simp[intOf];omega
  · obtain rfl:k=m.length:=by omega
    have k1:¬(2:Int)*(m.length:Int)<(l.length:Int):=by omega
    obtain⟨A1,c1,rfl⟩:=dB hO;rw[jE]at hO;clear hkl;go_wp2;go_ret;exact⟨_,_,rfl,OB.of_own hO hLm,hB⟩
end Go.Proofs.YtaemogcomplhiaaGreatDoor
namespace Go.Proofs.YtaemogcomplhiaaGreatDoor
theorem wJ:type_of% @Dig.digs:=@Dig.digs
end Go.Proofs.YtaemogcomplhiaaGreatDoor
namespace Go.Proofs.YtaemogcomplhiaaGreatDoor
open Go.RowKit
def bX (l m:List Nat) (k:Nat):Prop:=∀ j,j<k→dg l j=dg m j
theorem bX.step {l m:List Nat}{k:Nat}(h:bX l m k)(he:dg l k=dg m k):bX l m (k+1):=fun j hj=>by
 rcases qF j k with h1|h1
 · exact h j h1
 · obtain rfl:j=k:=by omega
   exact he
theorem bX.fin {l m:List Nat}(h:bX l m l.length)(hl:l.length=m.length):l=m:=by
 apply List.ext_getElem hl;intro i h1 h2;have:=h i h1;rwa [dg,dg,jU h1,jU h2]at this
def RL (w:World) (P:Nat→Prop) (A:Option Addr) (c:Nat) (l:List Nat):Prop:=RS w P 1 A l.length c (nts l)∧(∀ x∈l,x<18446744073709551616)∧l.length≤17592186044416
theorem RL.take {w:World}{P:Nat→Prop}{A:Option Addr}{c:Nat}{l:List Nat}(h:RL w P A c l){n:Nat}(hn:n≤1000000)(hn':n≤l.length):RN w P A c (l.take n):=by
 have:=h.1.pre hn';rw[jO,bG]at this;refine⟨by rw[zo,qU hn'];exact this,fun x hx=>h.2.1 x (qM hx),by rw[zo];omega⟩
theorem RL.below {w w':World}{P:Nat→Prop}{A:Option Addr}{c B:Nat}{l:List Nat}(h:RL w P A c l)(hb:Below B w w')(hB:∀ b,P b→b<B):RL w' P A c l:=⟨h.1.below hb hB,h.2⟩
theorem zCZ (P:Nat→Prop)(A:Option Addr)(c:Nat)(l:List Nat)(n:Nat)(w:World)(h:RL w P A c l)(hn:n≤100000) :
 Calls Tryz.prog 28 #[.slice A l.length c,.int .i64 (n:Int)] w fun e w'=>∃ A1 c1,e=.returned (.slice A1 (l.take n).length c1)∧OB w' w.heap.size A1 c1 (l.take n)∧Below w.heap.size w w':=by
 obtain⟨i0,hi,hz0,hz1,hz2⟩:=info_parts kS
 obtain⟨⟨h1,h2,_⟩,h4,h5⟩:=id h
 unfold maxLen at h2
 by_cases hl:l.length<n
 · have ht:l.take n=l:=zx (by omega);have hR:RN w P A c l:=⟨h.1,h4,by omega⟩
   rw[ht];have hlB:decide (l.length<n)=true:=by simpa using hl
   clear ht h4;go_enter Tryz.func28,Tryz.ntmps28;go_wp2_with (at_builtin;refine jf _ rfl _ _ 24 rfl w.heap.size 65 i0 (.int .u64 0) 1 8 Tryz.underlying24 hi hz0 hz1 hz2 rfl (by decide) _ 0 [] rfl (World.ownsRow_nil _ _ _ _) P A l.length c (nts l) rfl hR.1 (kj l) l.length (by omega) (by unfold maxLen;omega) (by omega) (zG _) ?_);intro A' c' w1 hown hgrow hblk;go_wp2;go_ret;exact⟨A',c',rfl,OB.of_own (by simpa using hown) hR.2,(zl _ w).grown hgrow (zG _) (by intro k hk;simp[Value.ownBlock]at hk)⟩
 · have hR:=h.take (n:=n) (by omega) (by omega);have hlen:(l.take n).length=n:=by rw[zo];omega
   have hlB:decide (l.length<n)=false:=by simpa using hl
   have k1:(n:Int)≤(c:Int):=by omega
   generalize l.take n=d at *;subst hlen;clear h4 hl;go_enter Tryz.func28,Tryz.ntmps28;go_wp2_with (at_builtin;refine jf _ rfl _ _ 24 rfl w.heap.size 65 i0 (.int .u64 0) 1 8 Tryz.underlying24 hi hz0 hz1 hz2 rfl (by decide) _ 0 [] rfl (World.ownsRow_nil _ _ _ _) P A d.length c (nts d) rfl hR.1 (kj d) d.length (by omega) (by unfold maxLen;omega) (by omega) (zG _) ?_);intro A' c' w1 hown hgrow hblk;go_wp2;go_ret;exact⟨A',c',rfl,OB.of_own (by simpa using hown) hR.2,(zl _ w).grown hgrow (zG _) (by intro k hk;simp[Value.ownBlock]at hk)⟩
theorem uY (P P':Nat→Prop)(A A':Option Addr)(c c':Nat)(x y:Nat)(w:World)(h:RN w P A c (digs 4294967296 x))(h':RN w P' A' c' (digs 4294967296 y))(hP:∀ b,P b→b<w.heap.size)(hP':∀ b,P' b→b<w.heap.size)
 (hl:(digs 4294967296 x).length<100000) (hl':(digs 4294967296 y).length<100000) :
 Calls Tryz.prog 50 #[.slice A (digs 4294967296 x).length c,.slice A' (digs 4294967296 y).length c'] w fun e w'=>∃ A1 c1,e=.returned (.slice A1 (digs 4294967296 (x+y)).length c1) ∧
  OB w' w.heap.size A1 c1 (digs 4294967296 (x+y))∧Below w.heap.size w w':=by
 have hx:=zd (B:=4294967296) (by omega) x
 have hy:=zd (B:=4294967296) (by omega) y
 have dx:=wJ x
 have dy:=wJ y
 generalize digs 4294967296 x=l at *
 generalize digs 4294967296 y=m at *
 have Hx:=zF hx
 have Hy:=zF hy
 clear hx hy
 obtain⟨h1,h2,h3⟩:=h.cap
 obtain⟨g1,g2,g3⟩:=h'.cap
 go_enter Tryz.func50,Tryz.ntmps50
 go_upto_if 14 with fail
 go_cut [5] (fun s5 wx=>∃ n:Nat,s5=.int .i64 (n:Int)∧l.length≤n∧m.length≤n∧n<100000∧w=wx)
 case first =>
  by_cases hs:l.length<m.length
  · go_wp2_with fail;go_meet;case rel=>exact⟨m.length,rfl,by omega,by omega,by omega,rfl⟩
  · go_wp2_with fail;go_meet;case rel=>exact⟨l.length,rfl,by omega,by omega,by omega,rfl⟩
 case rest =>
  obtain⟨n,rfl,hln,hmn,hn,rfl⟩:=hcut;have hmk:=jD (P:=Tryz.prog) 28 65 (.int .u64 0) 8 Tryz.underlying28 kS rfl .i64 .i64 (n+1) (by omega) (by omega);simp only[vX,qW]at hmk;go_wp2;go_loopw [7,8] (fun cv iv wr=>∃(k cr:Nat) (o:List Nat),iv=.int .i64 (k:Int)∧cv=.int .u64 (cr:Int)∧k≤n+1∧(k≤n→cr≤1)∧(k=n+1→cr=0)∧wk 4294967296 l m o k cr∧Hid (o.length=n+1)∧Dig o∧Blk wr w.heap.size o∧Below w.heap.size w wr) (fun _ iv _=>n+1-(intOf iv).toNat);case atStart=>exact⟨0,0,List.replicate (n+1) 0,rfl,rfl,by omega,by omega,by omega,wk.zero _ _ _ _,zF (by simp),by intro x hx;simp at hx;omega,wK w _,(zl _ w).alloc (zG _) _⟩
  case round =>
   obtain⟨k,cr,o,rfl,rfl,hk,hcr,hcr0,hA,Ho,hD,hblk,hB⟩:=hrel;by_cases hlt:k≤n
   · have hok:k<o.length:=by have:=Ho.out;omega
     have q3:=hblk.cell hok;have q4:=hblk.free k;have hcr1:=hcr hlt;have b1:=dx.dgLt k;have b2:=dy.dgLt k;obtain⟨s,cr',hs,hcr',he,hend⟩:∃ s c':Nat,s<4294967296∧c'≤1∧s+4294967296*c'=dg l k+dg m k+cr∧(k=n→c'=0):=by
      refine⟨(dg l k+dg m k+cr)%4294967296,(dg l k+dg m k+cr)/4294967296,by omega,by omega,by omega,fun e=>?_⟩;rw[km (by omega:l.length≤k),km (by omega:m.length≤k)];omega
     have hA':=hA.step hok he;have hblk':=hblk.set k s;have hD':=hD.set k s hs;have hB':=hB.setCell (p:=⟨w.heap.size,k,none⟩) (zG _) (.int .u64 (s:Int));have Ho':Hid ((o.set k s).length=n+1):=zF (by rw[jw];exact Ho.out);have k1:(k:Int)<(n:Int)+1:=by omega
     by_cases hm1:k<l.length
     · obtain⟨ad,rfl,had,q1⟩:=(h.below hB hP).at_ hm1;by_cases hm2:k<m.length
       · obtain⟨ae,rfl,hae,q2⟩:=(h'.below hB hP').at_ hm2;have e1:((cr:Int)+(dg l k:Int)+(dg m k:Int))%4294967296=(s:Int):=by omega
         have e2:((cr:Int)+(dg l k:Int)+(dg m k:Int))/4294967296=(cr':Int):=by omega
         clear he hA hblk hD hB hok hcr;go_wp2;go_roundw;case rel=>exact⟨k+1,cr',o.set k s,by go_num,(by first|rfl|exact congrArg (Value.int .u64) e2),by omega,fun _=>hcr',fun e=>hend (by omega),hA',Ho',hD',hblk',hB'⟩
         case measure=>simp[intOf];omega
       · have e0:dg m k=0:=km (by omega);have e1:((cr:Int)+(dg l k:Int))%4294967296=(s:Int):=by omega
         have e2:((cr:Int)+(dg l k:Int))/4294967296=(cr':Int):=by omega
         clear he hA hblk hD hB hok hcr e0;go_wp2;go_roundw;case rel=>exact⟨k+1,cr',o.set k s,by go_num,(by first|rfl|exact congrArg (Value.int .u64) e2),by omega,fun _=>hcr',fun e=>hend (by omega),hA',Ho',hD',hblk',hB'⟩
         case measure=>simp[intOf];omega
     · by_cases hm2:k<m.length
       · obtain⟨ae,rfl,hae,q2⟩:=(h'.below hB hP').at_ hm2;have e0:dg l k=0:=km (by omega);have e1:((cr:Int)+(dg m k:Int))%4294967296=(s:Int):=by omega
         have e2:((cr:Int)+(dg m k:Int))/4294967296=(cr':Int):=by omega
         clear he hA hblk hD hB hok hcr e0;go_wp2;go_roundw;case rel=>exact⟨k+1,cr',o.set k s,by go_num,(by first|rfl|exact congrArg (Value.int .u64) e2),by omega,fun _=>hcr',fun e=>hend (by omega),hA',Ho',hD',hblk',hB'⟩
         case measure=>simp[intOf];omega
       · have e0:dg l k=0:=km (by omega);have e00:dg m k=0:=km (by omega);have e1:((cr:Int))%4294967296=(s:Int):=by omega
         have e2:((cr:Int))/4294967296=(cr':Int):=by omega
         clear he hA hblk hD hB hok hcr e0 e00;go_wp2;go_roundw;case rel=>exact⟨k+1,cr',o.set k s,by go_num,(by first|rfl|exact congrArg (Value.int .u64) e2),by omega,fun _=>hcr',fun e=>hend (by omega),hA',Ho',hD',hblk',hB'⟩
         case measure=>simp[intOf];omega
   · obtain rfl:k=n+1:=by omega
     have hcr1:=hcr0 rfl;subst hcr1;have hfin:val 4294967296 o=x+y:=by
      have:=hA;unfold wk at this;rwa [zx (by rw[Ho.out];omega),zx (by omega),zx (by omega),Hx.out,Hy.out,ja,q9]at this
     have hLo:Lim o:=⟨fun z hz=>by have:=hD z hz;omega,by rw[Ho.out];omega⟩
     have hOB:OB wr w.heap.size (some ⟨w.heap.size,0,none⟩) (n+1) o:=kq hblk (zG _) hLo (by have:=Ho.out;omega) (by unfold maxLen;omega);have ht:=kh _ _ _ _ _ hOB.rn hD;have hOB':=hOB.trim32 hD;rw[hfin,Ho.out]at ht;rw[hfin]at hOB';have Ht:=zF ht;clear hblk hLo ht hfin hOB hA hcr hcr0;go_wp2_with fail;refine Ht.out.mono ?_;rintro e w1 ⟨rfl,rfl⟩;go_wp2;go_ret;exact⟨_,_,rfl,hOB',hB⟩
end Go.Proofs.YtaemogcomplhiaaGreatDoor
