/- Words for memory, used by all other texts of this seat: a slice that reads as a list; bytes; a list of attributes; append. Nothing here speaks of the program. A range over an iterator that hands over a known row of values: what the iterator owes, what the statement gives. Nothing here speaks of the program. slices.Values over the table of mechanisms; the table. A range over an iterator whose values are laid into memory of their own at each round's head. Nothing here speaks of the program. mechs.of: the mechanism of a kind. -/
import Derived.WalkKit
import Derived.WalkSpells
import Derived.WalkLawsBesides
import Derived.Deep.Draws
import Derived.Deep.AppendLies
import Derived.Maps.AppendAt
import Derived.Lib.Hide
import Derived.RangeFuncFrom
import Derived.RangeFuncLeaves
import Derived.OwnWalkIn
import Derived.Test.YtpbmaapdppdagaaGreatDoorRows
import Derived.Test.YtpbmaapdppdagaaGreatDoorChecked
import Derived.TacticsInMore
import Derived.LoopNIn
import Derived.LoopIn
import Derived.ControlIn
import Derived.Shelf.Abstract
import Derived.Deep.RegionHeld3
import Derived.Deep.Slices
import Derived.Laws.EntriesVeiled
import Derived.Stop.RegionWithIn
import Derived.RangeFuncCalls
namespace Go.Proofs.YtpbmaapdppdagaaGreatDoor
open Go.RowKit

theorem block_of_add (a : Addr) (n : Nat) : (a.add n).block = a.block := by unfold Addr.add; split <;> rfl
theorem add_of_add (a : Addr) (i j : Nat) : (a.add i).add j = a.add (i + j) := by
 unfold Addr.add
 by_cases hi : i = 0 <;> by_cases hj : j = 0 <;> simp [hi, hj, Nat.add_assoc]

def In (lo hi b : Nat) : Prop := lo ≤ b ∧ b < hi

def RS (w : World) (P : Nat → Prop) (size : Nat) (A : Option Addr) (n c : Nat) (cs : List Value) : Prop :=
  n ≤ c ∧ c ≤ maxLen ∧ cs.length = n * size ∧
    (0 < n → ∃ ad, A = some ad ∧ P ad.block ∧ ∀ j u, cs[j]? = some u → w.cell? (ad.add j) = some u)

section
variable {w w' : World} {P P' : Nat → Prop} {size n c : Nat} {A : Option Addr} {cs : List Value}

theorem RS.keep (h : RS w P size A n c cs) (hk : ∀ p : Addr, P p.block → w'.cell? p = w.cell? p) : RS w' P size A n c cs := by
 obtain ⟨h1, h2, h3, h4⟩ := h
 refine ⟨h1, h2, h3, fun hn => ?_⟩
 obtain ⟨ad, e, hb, hc⟩ := h4 hn
 exact ⟨ad, e, hb, fun j u hu => (hk _ (by rw [block_of_add]; exact hb)).trans (hc j u hu)⟩
theorem RS.mono (h : RS w P size A n c cs) (hp : ∀ b, P b → P' b) : RS w P' size A n c cs := by
 obtain ⟨h1, h2, h3, h4⟩ := h
 refine ⟨h1, h2, h3, fun hn => ?_⟩
 obtain ⟨ad, e, hb, hc⟩ := h4 hn
 exact ⟨ad, e, hp _ hb, hc⟩
theorem RS.below {B : Nat} (h : RS w P size A n c cs) (hb : Below B w w') (hB : ∀ b, P b → b < B) : RS w' P size A n c cs := h.keep fun _ hp => hb.cell (hB _ hp)
theorem RS.nil_ (w : World) (P : Nat → Prop) (size : Nat) : RS w P size none 0 0 [] := ⟨by omega, by unfold maxLen; omega, by simp, fun h => absurd h (by omega)⟩
theorem RS.of_own {base : Nat} {e : TypeId} (h : w.ownsRow base e size (.slice A n c) n cs) : RS w (In base w.heap.size) size A n c cs := by
 have hlt := h.lt
 have hcell := fun g => h.cells (g := g)
 obtain ⟨h0, ⟨e1, rfl⟩ | ⟨g, cap, cur, e1, hg, hh, h5, h6, h7, h8⟩⟩ := h
 · injection e1 with e1 e2 e3
   subst e1 e3
   exact ⟨by omega, by unfold maxLen; omega, h0, fun h => absurd h (by omega)⟩
 · injection e1 with e1 e2 e3
   subst e1 e3
   have := hlt g rfl
   exact ⟨h5, h6, h0, fun _ => ⟨_, rfl, ⟨hg, this.2⟩, hcell g rfl⟩⟩
theorem own_shape {base : Nat} {e : TypeId} {v : Value} (h : w.ownsRow base e size v n cs) : ∃ A c, v = .slice A n c := by
 obtain ⟨h0, ⟨rfl, rfl⟩ | ⟨g, cap, cur, rfl, hg, hh, h5, h6, h7, h8⟩⟩ := h
 · exact ⟨_, _, rfl⟩
 · exact ⟨_, _, rfl⟩
theorem own_kept {w w' : World} {base : Nat} {e : TypeId} {v : Value} (h : w.ownsRow base e size v n cs) (hg : w.grownBy w' none) : w'.ownsRow base e size v n cs :=
 h.kept hg (by cases v.ownBlock <;> simp)
theorem below_drewN {B : Nat} {a w : World} (h : Below B a w) (n : Nat) : Below B a (w.drewN n) := ⟨h.os, h.tape, h.output, h.size, h.block⟩
theorem blk_cell {w : World} {B : Nat} {cs : Array Value} {t : TypeId} (h : w.heap[B]? = some (.cells cs t (0, 0))) (i : Nat) : w.cell? ⟨B, i, none⟩ = cs[i]? := cell_of_row w B i cs t (0, 0) h
theorem blk_free {w : World} {B : Nat} {cs : Array Value} {t : TypeId} (h : w.heap[B]? = some (.cells cs t (0, 0))) (i : Nat) : w.frozen? ⟨B, i, none⟩ = false := by simp [World.frozen?, h]
theorem blk_lt {w : World} {B : Nat} {o : Obj} (h : w.heap[B]? = some o) : B < w.heap.size := (Array.getElem?_eq_some_iff.1 h).1
theorem RS.fresh {w : World} {P : Nat → Prop} (cs : Array Value) (t : TypeId) (size n : Nat) (h : cs.size = n * size) (hn : n ≤ maxLen) (hP : P w.heap.size) : RS (w.alloc (.cells cs t)) P size (some ⟨w.heap.size, 0, none⟩) n n cs.toList :=
 ⟨Nat.le_refl _, hn, by simpa using h, fun _ => ⟨_, rfl, hP, World.news_of_block (heap_alloc_new w _)⟩⟩
theorem RS.sub {c' k m : Nat} (h : RS w P size A n c cs) (hkm : k ≤ m) (hm : m ≤ n) (hc : m - k ≤ c') (hc' : c' ≤ maxLen) {A' : Option Addr} (hA : k < m → A' = A.map (·.add (k * size))) :
 RS w P size A' (m - k) c' ((cs.drop (k * size)).take ((m - k) * size)) := by
 obtain ⟨h1, h2, h3, h4⟩ := h
 refine ⟨hc, hc', ?_, fun hn => ?_⟩
 · rw [List.length_take, List.length_drop, h3, ← Nat.sub_mul]
   exact Nat.min_eq_left (Nat.mul_le_mul_right _ (by omega))
 · obtain ⟨ad, rfl, hb, hc⟩ := h4 (by omega)
   rw [hA (by omega)]
   refine ⟨ad.add (k * size), rfl, by rw [block_of_add]; exact hb, fun j u hu => ?_⟩
   rw [add_of_add]
   apply hc
   rw [List.getElem?_take] at hu
   split at hu
   · rw [← hu, List.getElem?_drop]
   · cases hu
theorem RS.pre {m : Nat} (h : RS w P size A n c cs) (hm : m ≤ n) : RS w P size A m c (cs.take (m * size)) := by
 have := h.1
 have := h.2.1
 have := h.sub (k := 0) (m := m) (c' := c) (A' := A) (by omega) hm (by omega) (by omega) (fun _ => by cases A <;> simp [Addr.add])
 simpa using this
end

def bys (bs : List Nat) : List Value := bs.map fun b : Nat => .int .u8 (b : Int)
def RB (w : World) (P : Nat → Prop) (A : Option Addr) (c : Nat) (bs : List Nat) : Prop := RS w P 1 A bs.length c (bys bs) ∧ (∀ b ∈ bs, b < 256) ∧ bs.length ≤ 140737488355328

def RA (w : World) (P : Nat → Prop) (A : Option Addr) (c : Nat) (l : List (Int × List Nat)) : Prop :=
 ∃ cs, RS w P 2 A l.length c cs ∧ ∀ j x, l[j]? = some x → cs[j * 2]? = some (.int .i64 x.1) ∧ ∃ A' c', cs[j * 2 + 1]? = some (.slice A' x.2.length c') ∧ RB w P A' c' x.2

section
variable {w w' : World} {P P' : Nat → Prop} {A : Option Addr} {c : Nat} {bs : List Nat} {l : List (Int × List Nat)}
theorem RB.keep (h : RB w P A c bs) (hk : ∀ p : Addr, P p.block → w'.cell? p = w.cell? p) : RB w' P A c bs := ⟨h.1.keep hk, h.2⟩
theorem RB.mono (h : RB w P A c bs) (hp : ∀ b, P b → P' b) : RB w P' A c bs := ⟨h.1.mono hp, h.2⟩
theorem RB.below {B : Nat} (h : RB w P A c bs) (hb : Below B w w') (hB : ∀ b, P b → b < B) : RB w' P A c bs := ⟨h.1.below hb hB, h.2⟩
theorem RB.cap (h : RB w P A c bs) : bs.length ≤ c ∧ c ≤ 9223372036854775807 ∧ bs.length ≤ 140737488355328 := ⟨h.1.1, h.1.2.1, h.2.2⟩
theorem RB.nil_ (w : World) (P : Nat → Prop) : RB w P none 0 [] := ⟨RS.nil_ _ _ _, by simp, by simp⟩
theorem RA.keep (h : RA w P A c l) (hk : ∀ p : Addr, P p.block → w'.cell? p = w.cell? p) : RA w' P A c l := by
 obtain ⟨cs, h1, h2⟩ := h
 exact ⟨cs, h1.keep hk, fun j x hx => by obtain ⟨h3, A', c', h4, h5⟩ := h2 j x hx; exact ⟨h3, A', c', h4, h5.keep hk⟩⟩
theorem RA.mono (h : RA w P A c l) (hp : ∀ b, P b → P' b) : RA w P' A c l := by
 obtain ⟨cs, h1, h2⟩ := h
 exact ⟨cs, h1.mono hp, fun j x hx => by obtain ⟨h3, A', c', h4, h5⟩ := h2 j x hx; exact ⟨h3, A', c', h4, h5.mono hp⟩⟩
theorem RA.below {B : Nat} (h : RA w P A c l) (hb : Below B w w') (hB : ∀ b, P b → b < B) : RA w' P A c l := h.keep fun _ hp => hb.cell (hB _ hp)
theorem RA.cap (h : RA w P A c l) : l.length ≤ c ∧ c ≤ 9223372036854775807 := by obtain ⟨cs, h1, h2⟩ := h; exact ⟨h1.1, h1.2.1⟩
theorem RA.nil_ (w : World) (P : Nat → Prop) : RA w P none 0 [] := ⟨[], RS.nil_ _ _ _, by simp⟩
theorem RA.at_ (h : RA w P A c l) {i : Nat} (hi' : i < l.length) :
 ∃ ad A' c', A = some ad ∧ P ad.block ∧ w.cell? (ad.add (i * 2)) = some (.int .i64 (l[i]).1) ∧ w.cell? ⟨(ad.add (i * 2)).block, (ad.add (i * 2)).off + 1, none⟩ = some (.slice A' (l[i]).2.length c') ∧ RB w P A' c' (l[i]).2 := by
 obtain ⟨cs, ⟨h1, h2, h3, h4⟩, h5⟩ := h
 obtain ⟨ad, rfl, hb, hc⟩ := h4 (by omega)
 obtain ⟨h6, A', c', h7, h8⟩ := h5 i _ (List.getElem?_eq_getElem hi')
 exact ⟨ad, A', c', rfl, hb, hc _ _ h6, by have := hc _ _ h7; rwa [← add_of_add] at this, h8⟩
theorem RB.at_ (h : RB w P A c bs) {i : Nat} (hi' : i < bs.length) : ∃ ad, A = some ad ∧ P ad.block ∧ w.cell? (ad.add i) = some (.int .u8 (bs[i] : Int)) ∧ (bs[i] : Int) < 256 := by
 obtain ⟨⟨h1, h2, h3, h4⟩, h5, _⟩ := h
 obtain ⟨ad, rfl, hb, hc⟩ := h4 (by omega)
 exact ⟨ad, rfl, hb, hc _ _ (by simp [bys, List.getElem?_eq_getElem hi']), by have := h5 _ (List.getElem_mem hi'); omega⟩
end

section
variable {P : Program} (w : World)
theorem run_append_of_nil (base : Nat) (t ty e : TypeId) (i : TypeInfo) (size : Nat) (ht : P.underlying t = some (.slice e)) (hi : P.info? e = some i)
 (v : Value) (n : Nat) (xs : List Value) (hown : w.ownsRow base e size v n xs) (c : Nat) : (Builtin.append_ #[t, t] ty #[v, .slice none 0 c]).run P w = .ok v w := by
 rcases hown.2 with ⟨rfl, rfl⟩ | ⟨g, cap, cur, rfl, _, _, hnc, _⟩
 · simp [Builtin.append_, run_underlying ht, sizeOf, typeInfo, hi, Builtin.lenOf, Builtin.firstCells]
 · simp [Builtin.append_, run_underlying ht, sizeOf, typeInfo, hi, Builtin.lenOf, Builtin.firstCells, hnc, storeCells]

theorem run_append_rs (base : Nat) (t ty e : TypeId) (i : TypeInfo) (z : Value) (size bytes : Nat) (ht : P.underlying t = some (.slice e)) (hi : P.info? e = some i) (hz : i.zero = some z)
    (hsize : i.size = size) (hby : i.bytes = bytes) (hzs : z.cells.size = size) (hsz : 0 < size)
    (v : Value) (n : Nat) (xs : List Value) (hown : w.ownsRow base e size v n xs)
    (Q : Nat → Prop) (A : Option Addr) (m c : Nat) (news : List Value) (hr : RS w Q size A m c news) (h1 : ∀ u ∈ news, u.oneCell' = true)
    (h63 : n + m ≤ maxLen) (hbytes : (n + m) * bytes ≤ 140737488355328) (hbase : base ≤ w.heap.size) :
    ∃ A' c' w', (Builtin.append_ #[t, t] ty #[v, .slice A m c]).run P w = .ok (.slice A' (n + m) c') w' ∧ w'.ownsRow base e size (.slice A' (n + m) c') (n + m) (xs ++ news) ∧ w.grownBy w' v.ownBlock ∧
      ((Value.slice A' (n + m) c').ownBlock = v.ownBlock ∨ (Value.slice A' (n + m) c').ownBlock = some w.heap.size) := by
  rcases A with _ | ad
  · have hm : m = 0 := by
      rcases Nat.eq_zero_or_pos m with h0 | h0
      · exact h0
      · obtain ⟨ad, h, _⟩ := hr.2.2.2 h0
        cases h
    subst hm
    have hn : news = [] := List.eq_nil_of_length_eq_zero (by simpa using hr.2.2.1)
    subst hn
    obtain ⟨A', c', rfl⟩ := own_shape hown
    exact ⟨A', c', w, run_append_of_nil w base t ty e i size ht hi _ n xs hown c, by simpa using hown, World.grownBy.refl w _, .inl rfl⟩
  · have hcells : ∀ j u, news[j]? = some u → w.cell? (ad.add j) = some u := by
      intro j u hu
      rcases Nat.eq_zero_or_pos m with h0 | h0
      · subst h0
        have hn : news = [] := List.eq_nil_of_length_eq_zero (by simpa using hr.2.2.1)
        subst hn
        simp at hu
      · obtain ⟨ad', h, _, hc⟩ := hr.2.2.2 h0
        injection h with h
        subst h
        exact hc j u hu
    obtain ⟨v', w', hrun, h2, h3, _, h5⟩ := run_append_own_at (P := P) w base t ty e i z size bytes ht hi hz hsize hby hzs hsz v n xs hown ad m c news hr.2.2.1 hcells h1 h63 hbytes hbase
    obtain ⟨A', c', rfl⟩ := own_shape h2
    exact ⟨A', c', w', hrun, h2, h3, h5⟩

theorem wp_append_rs {o : Oper} {a : Act} {K : Act → World → Prop} {Q : Exit → Act → World → Prop} (s x : Operand) (t : TypeId)
 (ho : o.op = .call { callee := .builtin .append, args := #[s, x], argTypes := #[t, t] })
 (base : Nat) (e : TypeId) (i : TypeInfo) (z : Value) (size bytes : Nat) (ht : P.underlying t = some (.slice e)) (hi : P.info? e = some i) (hz : i.zero = some z)
 (hsize : i.size = size) (hby : i.bytes = bytes) (hzs : z.cells.size = size) (hsz : 0 < size)
 (v : Value) (n : Nat) (xs : List Value) (hs : a.eval s = v) (hown : w.ownsRow base e size v n xs)
 (B : Nat → Prop) (A : Option Addr) (m c : Nat) (news : List Value) (hx : a.eval x = .slice A m c) (hr : RS w B size A m c news) (h1 : ∀ u ∈ news, u.oneCell' = true)
 (k : Nat) (hk : n + m = k) (h63 : n + m ≤ maxLen) (hbytes : (n + m) * bytes ≤ 140737488355328) (hbase : base ≤ w.heap.size)
 (h : ∀ A' c' w', w'.ownsRow base e size (.slice A' k c') k (xs ++ news) → w.grownBy w' v.ownBlock → ((Value.slice A' k c').ownBlock = v.ownBlock ∨ (Value.slice A' k c').ownBlock = some w.heap.size) → K (a.put o.dst (.slice A' k c')) w') : o.wp P a w K Q := by
 subst hk
 obtain ⟨A', c', w', hrun, h2, h3, h4⟩ := run_append_rs (P := P) w base t o.type e i z size bytes ht hi hz hsize hby hzs hsz v n xs hown B A m c news hr h1 h63 hbytes hbase
 unfold Oper.wp execOp
 simp only [ho, resolve, invoke, builtin, Sem.run_bind, Sem.run_pure, Result.andThen_ok, List.map_toArray, List.map_cons, List.map_nil, hs, hx, hrun]
 exact h A' c' w' h2 h3 h4

theorem wpList_append_rs {ops : Array Oper} {rest : List Oper} {o : Oper} {a : Act} {Q : Exit → Act → World → Prop} (hgd : o.guard = none) (s x : Operand) (t : TypeId)
 (ho : o.op = .call { callee := .builtin .append, args := #[s, x], argTypes := #[t, t] })
 (base : Nat) (e : TypeId) (i : TypeInfo) (z : Value) (size bytes : Nat) (ht : P.underlying t = some (.slice e)) (hi : P.info? e = some i) (hz : i.zero = some z)
 (hsize : i.size = size) (hby : i.bytes = bytes) (hzs : z.cells.size = size) (hsz : 0 < size)
 (v : Value) (n : Nat) (xs : List Value) (hs : a.eval s = v) (hown : w.ownsRow base e size v n xs)
 (B : Nat → Prop) (A : Option Addr) (m c : Nat) (news : List Value) (hx : a.eval x = .slice A m c) (hr : RS w B size A m c news) (h1 : ∀ u ∈ news, u.oneCell' = true)
 (k : Nat) (hk : n + m = k) (h63 : n + m ≤ maxLen) (hbytes : (n + m) * bytes ≤ 140737488355328) (hbase : base ≤ w.heap.size)
 (h : ∀ A' c' w', w'.ownsRow base e size (.slice A' k c') k (xs ++ news) → w.grownBy w' v.ownBlock → ((Value.slice A' k c').ownBlock = v.ownBlock ∨ (Value.slice A' k c').ownBlock = some w.heap.size) → wpList P ops Q rest (a.put o.dst (.slice A' k c')) w') : wpList P ops Q (o :: rest) a w :=
 wpList_plain hgd fun _ hK => wp_append_rs w s x t ho base e i z size bytes ht hi hz hsize hby hzs hsz v n xs hs hown B A m c news hx hr h1 k hk h63 hbytes hbase fun A' c' w' h2 h3 h4 => hK _ _ (h A' c' w' h2 h3 h4)

end
end Go.Proofs.YtpbmaapdppdagaaGreatDoor

namespace Go.Proofs.YtpbmaapdppdagaaGreatDoor
open Go.RowKit

structure Keeps (B C m : Nat) (W W' : World) : Prop where
 size : W.heap.size ≤ W'.heap.size
 others : ∀ (k : Nat) (o : Obj), B ≤ k → W.heap[k]? = some o → o.isCells = false → W'.heap[k]? = some o
 cells : ∀ k, C ≤ k → k < C + m → k < W.heap.size → W'.heap[k]? = W.heap[k]?
theorem Keeps.refl (B C m : Nat) (W : World) : Keeps B C m W W := ⟨Nat.le_refl _, fun _ _ _ h _ => h, fun _ _ _ _ => rfl⟩
theorem Keeps.trans {B C m : Nat} {W W' W'' : World} (h : Keeps B C m W W') (k : Keeps B C m W' W'') : Keeps B C m W W'' :=
 ⟨Nat.le_trans h.size k.size, fun i o hb hi ho => k.others i o hb (h.others i o hb hi ho) ho, fun i hc hm hi => (k.cells i hc hm (Nat.lt_of_lt_of_le hi h.size)).trans (h.cells i hc hm hi)⟩
theorem Keeps.mono {B B' C C' m m' : Nat} {W W' : World} (h : Keeps B C m W W') (hB : B ≤ B') (hC : C ≤ C') (hm : C' + m' ≤ C + m) : Keeps B' C' m' W W' :=
 ⟨h.size, fun k o hb => h.others k o (Nat.le_trans hB hb), fun k hc hk => h.cells k (Nat.le_trans hC hc) (Nat.lt_of_lt_of_le hk hm)⟩
theorem Keeps.none {B C C' m : Nat} {W W' : World} (h : Keeps B C m W W') : Keeps B C' 0 W W' := ⟨h.size, h.others, fun k h1 h2 => absurd h2 (by omega)⟩
theorem Keeps.setCell (B C m : Nat) (W : World) {a : Addr} (ha : a.block < C ∨ C + m ≤ a.block) (v : Value) : Keeps B C m W (W.setCell a v) :=
 ⟨(KeepsOthers.setCell W a v).size, fun k o _ => (KeepsOthers.setCell W a v).same k o, fun k h1 h2 _ => Below.heap_setCell W a v k (by omega)⟩
theorem Keeps.alloc (B C m : Nat) (W : World) (o : Obj) : Keeps B C m W (W.alloc o) := ⟨by simp, fun k o' _ => (KeepsOthers.alloc W o).same k o', fun k _ _ hk => Below.heap_alloc W o k hk⟩
theorem Keeps.drew (B C m : Nat) (W : World) : Keeps B C m W W.drew := ⟨Nat.le_refl _, fun _ _ _ h _ => h, fun _ _ _ _ => rfl⟩
theorem Keeps.drewN (B C m : Nat) (W : World) (n : Nat) : Keeps B C m W (W.drewN n) := ⟨Nat.le_refl _, fun _ _ _ h _ => h, fun _ _ _ _ => rfl⟩
theorem Keeps.below {B C m D : Nat} {W W' : World} (h : Below D W W') (hD : W.heap.size ≤ D) : Keeps B C m W W' :=
 ⟨h.size, fun k _ _ hk _ => (h.block k (Nat.lt_of_lt_of_le (Array.getElem?_eq_some_iff.1 hk).1 hD)).trans hk, fun k _ _ hk => h.block k (Nat.lt_of_lt_of_le hk hD)⟩
theorem Keeps.putObj {B C m : Nat} {W : World} {l : Nat} {o : Obj} (hl : l < B) (hC : l < C) : Keeps B C m W (W.putObj l o) :=
 ⟨by simp, fun k _ hb hk _ => (World.putObj_heap_other (by omega)).trans hk, fun k hc _ _ => World.putObj_heap_other (by omega)⟩

def SeqAt (P : Program) (g : Nat) (lb : Array Value) (xs : Nat → Array Value) (Nd : Nat → World → Prop) (T : Nat → Nat → World → World → Prop) (Kp : World → World → Prop) (m N : Nat) (fin : Bool) (w : World) : Prop :=
  ∀ (n l : Nat) (J J' Jx : Nat → World → Prop) (W : World), 1 ≤ n → Below w.heap.size w W → l < W.heap.size → OwnFrom W.heap.size J → OwnFrom W.heap.size J' → OwnFrom W.heap.size Jx →
    (∀ k W1, k ≤ N → J k W1 → Nd k W1) → (∀ k W1 W2, k ≤ N → J k W1 → T W.heap.size k W1 W2 → J' k W2) → (fin = false → ∀ W', ¬ J' N W') →
    (∀ k W1, J' k W1 → k < N → W.heap.size + m ≤ W1.heap.size → YieldAt Fence.wide (n - 1) P l (xs k) W1 fun e W' =>
      (e = .returned (.bool true) ∧ J (k + 1) W' ∧ Kp W1 W' ∧ Keeps W.heap.size W.heap.size m W1 W') ∨ (e = .returned (.bool false) ∧ Jx (k + 1) W' ∧ Keeps W.heap.size W.heap.size m W1 W')) →
    J 0 W →
    CallsIn Fence.wide n P g (#[.func (.yield l) #[] #[]] ++ lb) W fun e W' => (∃ v, e = .returned v) ∧ (J' N W' ∨ ∃ k, 0 < k ∧ k ≤ N ∧ Jx k W')

def NoNeed (_ : Nat) (_ : World) : Prop := True
def TPlain (_B _k : Nat) (W W' : World) : Prop := W.grownBy W' none

def iterPost (B m : Nat) (Kp : World → World → Prop) (I : Nat → World → Prop) (Ix : Code → Nat → World → Prop) (k : Nat) (W : World) : Exit → Act → World → Prop
 | .normal, _, W' => Keeps B (B + 2) m W W' ∧ Kp W W' ∧ I k W'
 | .ret, _, W' => Keeps B (B + 2) m W W' ∧ Ix .ret k W'
 | .exit id, _, W' => Keeps B (B + 2) m W W' ∧ Ix (.exit id) k W'
 | .goto t, _, W' => Keeps B (B + 2) m W W' ∧ Ix (.goto t) k W'
 | .panic _, _, _ => False
 | .outgrown, _, _ => False

theorem ownFrom_mono {β : Type} {B C : Nat} {I : β → World → Prop} (h : OwnFrom B I) (hc : B ≤ C) : OwnFrom C I :=
 fun s W W' row hs hg hr => h s W W' row hs hg fun r e => ⟨Nat.le_trans hc (hr r e).1, (hr r e).2⟩
theorem ownFrom_block {β : Type} {B g : Nat} (o : Obj) (hg : g < B) : OwnFrom B (fun (_ : β) W => g < W.heap.size ∧ W.heap[g]? = some o) := fun _ W W' row hs hw hr =>
 ⟨Nat.lt_of_lt_of_le hs.1 hw.size, (hw.block g hs.1 fun e => by have := (hr g e.symm).1; omega).trans hs.2⟩

theorem wpIn_iter {n : Nat} {P : Program} {g : Operand} {ps : Array Tmp} {assign body : Code} {Q : Exit → Act → World → Prop} {a : Act} {w : World}
    (h2 : 2 ≤ n) {gf : Nat} {lb : Array Value} (hg : a.eval g = .func (.func gf) #[] lb) (eg : ∀ args w, (callFunc gf args).run P w = .ok (.enter gf args) w)
    {xs : Nat → Array Value} {Nd : Nat → World → Prop} {T : Nat → Nat → World → World → Prop} {Kp : World → World → Prop} {m N : Nat} {fin : Bool} {w0 : World} (hseq : SeqAt P gf lb xs Nd T Kp m N fin w0)
    (hKt : ∀ {A B C : World}, Kp A B → Kp B C → Kp A C) (hKb : ∀ (W : World) (l : Nat) (o o' : Obj), w.heap.size ≤ l → W.heap[l]? = some o → o.isCells = false → o.isWalk = false → Kp W (W.putObj l o'))
    (hT : ∀ B k W1 W2, T B k W1 W2 → W1.heap.size ≤ W2.heap.size ∧ ∀ b o, b < B → W1.heap[b]? = some o → o.isCells = false → W2.heap[b]? = some o)
    (hb0 : Below w0.heap.size w0 w) (hps : ∀ k, (xs k).size = ps.size)
    (I I' : Nat → World → Prop) (Ix : Code → Nat → World → Prop) (hI : OwnFrom w.heap.size I) (hI' : OwnFrom w.heap.size I') (hIx : ∀ c, OwnFrom w.heap.size (Ix c))
    (hNd : ∀ k W, k ≤ N → I k W → Nd k W) (hIT : ∀ B k W1 W2, w.heap.size ≤ B → k ≤ N → I k W1 → T B k W1 W2 → I' k W2) (hfin : fin = false → ∀ W', ¬ I' N W') (h0 : I 0 w) (a₁ : Nat → Act)
    (hassign : ∀ (l k : Nat) (W : World) (K : Act → World → Prop), K (a₁ k) W →
      assign.wpIn (Fence.wide.inRound l) (n - 1 - 1) P (Exit.then K (fun _ _ _ => False)) { tmps := (ps.zip (xs k)).foldl (fun t (p, v) => t.setIfInBounds p v) a.tmps, defers := [] } W)
    (hbody : ∀ (l k : Nat) (W : World), I' k W → k < N → w.heap.size + 2 + m ≤ W.heap.size → body.wpIn (Fence.wide.inRound l) (n - 1 - 1) P (iterPost w.heap.size m Kp I Ix (k + 1) W) (a₁ k) W)
    (hdone : ∀ (D : Nat) (W : World), w.heap.size ≤ D → I' N W → W.heap[D]? = some (.deferred (some [])) → Q .normal { a with defers := { target := .collected D, args := #[] } :: a.defers } W)
    (hstop : ∀ (D : Nat) (c : Code) (k : Nat) (W : World), w.heap.size ≤ D → 0 < k → k ≤ N → Ix c k W → W.heap[D]? = some (.deferred (some [])) → c.wpIn Fence.wide n P Q { a with defers := { target := .collected D, args := #[] } :: a.defers } W) :
    (Code.rangeFunc g ps assign body).wpIn Fence.wide n P Q a w := by
  refine wpIn_rangeFunc ?_
  intro fn hfn
  obtain ⟨rc, hrc⟩ : ∃ rc : LoopState → Option Code → Loop, rc = fun st pe => { state := st, pending := pe, fn, tmps := a.tmps, params := ps, assign, body, defers := w.heap.size } := ⟨_, rfl⟩
  obtain ⟨L, hL⟩ : ∃ L, w.heap.size + 1 = L := ⟨_, rfl⟩
  obtain ⟨D, hD⟩ : ∃ D, w.heap.size = D := ⟨_, rfl⟩
  obtain ⟨W1, hW1⟩ : ∃ W1, (w.alloc (.deferred (some []))).alloc (.loop (rc .ready none)) = W1 := ⟨_, rfl⟩
  have hz1 : W1.heap.size = D + 2 := by rw [← hW1, ← hD]; simp
  have hl1 : W1.heap[L]? = some (.loop (rc .ready none)) := by
    rw [← hW1, ← hL]; have := World.alloc_heap_new (w.alloc (.deferred (some []))) (.loop (rc .ready none)); rwa [World.size_alloc] at this
  have hd1 : W1.heap[D]? = some (.deferred (some [])) := by
    rw [← hW1, ← hD]; exact (Below.heap_alloc _ _ _ (by simp)).trans (World.alloc_heap_new w _)
  have hi1 : I 0 W1 := by rw [← hW1]; exact hI.alloc _ (hI.alloc _ h0)
  have hb1 : Below w0.heap.size w0 W1 := by rw [← hW1]; exact hb0.trans ((((Below.refl _ w).alloc (Nat.le_refl _) _).alloc (by simp) _).mono hb0.size)
  have hlD : L = D + 1 := by omega
  refine ⟨L, [{ target := .collected D, args := #[] }], W1, { target := .fn (.func gf) lb, args := #[.func (.yield L) #[] #[]] }, W1, gf,
    #[.func (.yield L) #[] #[]] ++ lb, W1, ?_, ?_, ?_, ?_, fun _ => by omega, ?_⟩
  · rw [← hW1, hrc, ← hL, ← hD]; exact run_enterLoop_outer _ _ _ _ _
  · simp only [resolve, hg]
    simp [go_sem]
  · exact fun _ _ => trivial
  · simp [invoke, go_sem, eg]
  -- the record's two blocks, beside what the caller holds
  have recs : ∀ (st : LoopState) (pe : Option Code), OwnFrom W1.heap.size (fun (_ : Nat) (W : World) => (L < W.heap.size ∧ W.heap[L]? = some (.loop (rc st pe))) ∧ D < W.heap.size ∧ W.heap[D]? = some (.deferred (some []))) := fun st pe =>
    OwnFrom.and (ownFrom_block _ (by omega)) (ownFrom_block _ (by omega))
  have lt : ∀ {W : World} {b : Nat} {o : Obj}, W.heap[b]? = some o → b < W.heap.size := fun h => (Array.getElem?_eq_some_iff.1 h).1
  refine (hseq (n - 1) L
    (fun k W => I k W ∧ (L < W.heap.size ∧ W.heap[L]? = some (.loop (rc .ready none))) ∧ D < W.heap.size ∧ W.heap[D]? = some (.deferred (some [])))
    (fun k W => I' k W ∧ (L < W.heap.size ∧ W.heap[L]? = some (.loop (rc .ready none))) ∧ D < W.heap.size ∧ W.heap[D]? = some (.deferred (some [])))
    (fun k W => ∃ c, Ix c k W ∧ (L < W.heap.size ∧ W.heap[L]? = some (.loop (rc .done (some c)))) ∧ D < W.heap.size ∧ W.heap[D]? = some (.deferred (some [])))
    W1 (by omega) hb1 (by omega) (OwnFrom.and (ownFrom_mono hI (by omega)) (recs _ _)) (OwnFrom.and (ownFrom_mono hI' (by omega)) (recs _ _))
    (fun k A B row hs hg' hr => by obtain ⟨c, hc, hr2⟩ := hs; exact ⟨c, ownFrom_mono (hIx c) (by omega) k A B row hc hg' hr, recs _ _ k A B row hr2 hg' hr⟩)
    (fun k A hk hs => hNd k A hk hs.1) ?_ (fun hf W' hs => hfin hf W' hs.1) ?_ ⟨hi1, ⟨lt hl1, hl1⟩, lt hd1, hd1⟩).mono ?_
  · rintro k A B hk ⟨hi, ⟨_, hl⟩, _, hd⟩ ht
    have hl' := (hT _ _ _ _ ht).2 L _ (by omega) hl rfl
    have hd' := (hT _ _ _ _ ht).2 D _ (by omega) hd rfl
    exact ⟨hIT _ k A B (by omega) hk hi ht, ⟨lt hl', hl'⟩, lt hd', hd'⟩
  · -- one round
    rintro k W ⟨hi, ⟨_, hl⟩, _, hd⟩ hlen hm
    have hlt : L < W.heap.size := lt hl
    have hy := run_yield (P := P) (args := xs k) hl (by rw [hrc]; exact hps k)
    rw [hrc] at hy
    refine ⟨fn, _, assign, body, hy, roundIn_of_wpIn hfn (hassign _ k W _ ⟨_, run_beginRound hl (by rw [hrc]), ?_⟩)⟩
    have hl2 : (W.putObj L (.loop { rc .ready none with state := .busy })).heap[L]? = some (.loop { rc .ready none with state := .busy }) := World.putObj_heap_same hlt
    have hd2 : (W.putObj L (.loop { rc .ready none with state := .busy })).heap[D]? = some (.deferred (some [])) := (World.putObj_heap_other (by omega)).trans hd
    have hw2 : Kp W (W.putObj L (.loop { rc .ready none with state := .busy })) := hKb _ _ _ _ (by omega) hl rfl rfl
    have hk2 : Keeps W1.heap.size W1.heap.size m W (W.putObj L (.loop { rc .ready none with state := .busy })) := Keeps.putObj (by omega) (by omega)
    refine wpIn_mono (hbody _ k _ (hI'.putObj _ hi (by omega) hl rfl) hlen (by simp; omega)) ?_
    have fin : ∀ (jump : Option Code) (W3 : World), Keeps w.heap.size (w.heap.size + 2) m (W.putObj L (.loop { rc .ready none with state := .busy })) W3 →
        (Instr.endRound L jump).run P W3 = .ok (.bool jump.isNone) (W3.putObj L (.loop (rc (if jump.isNone then .ready else .done) jump))) ∧
        W3.heap[L]? = some (.loop { rc .ready none with state := .busy }) ∧
        (W3.putObj L (.loop (rc (if jump.isNone then .ready else .done) jump))).heap[L]? = some (.loop (rc (if jump.isNone then .ready else .done) jump)) ∧
        (W3.putObj L (.loop (rc (if jump.isNone then .ready else .done) jump))).heap[D]? = some (.deferred (some [])) ∧
        Keeps W1.heap.size W1.heap.size m W (W3.putObj L (.loop (rc (if jump.isNone then .ready else .done) jump))) := fun jump W3 hk3 => by
      have hl3 := hk3.others L _ (by omega) hl2 rfl
      have hd3 := hk3.others D _ (by omega) hd2 rfl
      have := run_endRound (P := P) jump hl3
      rw [hrc] at this ⊢
      exact ⟨this, by rw [hrc] at hl3; exact hl3, World.putObj_heap_same (lt hl3), (World.putObj_heap_other (by omega)).trans hd3, by rw [hrc] at hk2 hk3; exact hk2.trans ((hk3.mono (by omega) (by omega) (by omega)).trans (Keeps.putObj (by omega) (by omega)))⟩
    rintro e a3 W3 hp
    cases e with
    | normal =>
      obtain ⟨hk3, hkp3, hi3⟩ := hp
      obtain ⟨hr, hl3, hl4, hd4, hk4⟩ := fin none W3 hk3
      exact ⟨_, _, hr, .inl ⟨rfl, ⟨hI.putObj _ hi3 (by omega) hl3 rfl, ⟨lt hl4, hl4⟩, lt hd4, hd4⟩, hKt (hKt hw2 hkp3) (hKb _ _ _ _ (by omega) hl3 rfl rfl), hk4⟩⟩
    | ret =>
      obtain ⟨hk3, hi3⟩ := hp
      obtain ⟨hr, hl3, hl4, hd4, hk4⟩ := fin (some .ret) W3 hk3
      exact ⟨_, _, hr, .inr ⟨rfl, ⟨.ret, (hIx _).putObj _ hi3 (by omega) hl3 rfl, ⟨lt hl4, hl4⟩, lt hd4, hd4⟩, hk4⟩⟩
    | exit id =>
      obtain ⟨hk3, hi3⟩ := hp
      obtain ⟨hr, hl3, hl4, hd4, hk4⟩ := fin (some (.exit id)) W3 hk3
      exact ⟨_, _, hr, .inr ⟨rfl, ⟨.exit id, (hIx _).putObj _ hi3 (by omega) hl3 rfl, ⟨lt hl4, hl4⟩, lt hd4, hd4⟩, hk4⟩⟩
    | goto t =>
      obtain ⟨hk3, hi3⟩ := hp
      obtain ⟨hr, hl3, hl4, hd4, hk4⟩ := fin (some (.goto t)) W3 hk3
      exact ⟨_, _, hr, .inr ⟨rfl, ⟨.goto t, (hIx _).putObj _ hi3 (by omega) hl3 rfl, ⟨lt hl4, hl4⟩, lt hd4, hd4⟩, hk4⟩⟩
    | panic ch => exact hp.elim
    | outgrown => exact hp.elim
  · -- behind the iterator
    rintro e W2 ⟨⟨v, rfl⟩, (⟨hi, ⟨_, hl⟩, _, hd⟩ | ⟨k, hk0, hk, c, hi, ⟨_, hl⟩, _, hd⟩)⟩
    · exact ⟨none, _, by have := run_endLoop (P := P) hl (by rw [hrc]; simp); rw [hrc] at this; exact this, hdone _ _ (by omega) (hI'.putObj _ hi (by omega) hl rfl) ((World.putObj_heap_other (by omega)).trans hd)⟩
    · exact ⟨some c, _, by have := run_endLoop (P := P) hl (by rw [hrc]; simp); rw [hrc] at this; exact this, hstop _ c k _ (by omega) hk0 hk ((hIx c).putObj _ hi (by omega) hl rfl) ((World.putObj_heap_other (by omega)).trans hd)⟩

theorem tplain_keeps : ∀ B k W1 W2, TPlain B k W1 W2 → W1.heap.size ≤ W2.heap.size ∧ ∀ b o, b < B → W1.heap[b]? = some o → o.isCells = false → W2.heap[b]? = some o := fun _ _ _ _ h =>
 ⟨h.size, fun b o _ hb _ => (h.block b (Array.getElem?_eq_some_iff.1 hb).1 (by simp)).trans hb⟩
theorem ownFrom_plain {B : Nat} {I : Nat → World → Prop} (h : OwnFrom B I) {C k : Nat} {W1 W2 : World} (hi : I k W1) (ht : TPlain C k W1 W2) : I k W2 := h k W1 W2 none hi ht (fun r e => by cases e)
end Go.Proofs.YtpbmaapdppdagaaGreatDoor

namespace Go.Proofs.YtpbmaapdppdagaaGreatDoor.Mc
open Go.RowKit Go.Shelf

attribute [local go_sem] Oper.semAt_some

structure MRow where
 kind : Int
 uses : Int
 key : Int
 multi : Bool
 param : Option Nat
def fnv : Option Nat → Value
 | none => .nilFunc
 | some n => .func (.func n) #[] #[]
def MRow.val (r : MRow) : Value := .agg #[.int .i64 r.kind, .int .i64 r.uses, .int .i64 r.key, .bool r.multi, fnv r.param]
def MRow.cells (r : MRow) : List Value := [.int .i64 r.kind, .int .i64 r.uses, .int .i64 r.key, .bool r.multi, fnv r.param]
def mtab : List MRow := [⟨0, 64, 0, false, none⟩, ⟨1, 414, 0, false, none⟩, ⟨9, 408, 0, false, some 109⟩, ⟨13, 6, 0, false, some 110⟩, ⟨64, 6, 0, true, none⟩, ⟨67, 6, 0, true, some 110⟩,
 ⟨544, 1, -1, true, none⟩, ⟨592, 1, -1, true, none⟩, ⟨593, 6, 16, true, none⟩, ⟨608, 1, -1, true, none⟩, ⟨624, 1, -1, true, none⟩, ⟨848, 32, 16, false, none⟩, ⟨4160, 64, 3, false, none⟩, ⟨4161, 6, 3, false, none⟩, ⟨4164, 6, 3, true, none⟩,
 ⟨4176, 512, 3, false, some 111⟩, ⟨4224, 32, 31, false, none⟩, ⟨4225, 24, 31, true, none⟩, ⟨4226, 24, 31, true, some 112⟩, ⟨4229, 408, 31, true, some 112⟩, ⟨4230, 24, 31, true, some 113⟩, ⟨4231, 24, 31, true, some 114⟩, ⟨4234, 6, 31, true, none⟩, ⟨8457, 384, 31, false, none⟩]
def mcells : List Value := mtab.flatMap MRow.cells
def mrow (k : Nat) : MRow := mtab.getD k ⟨0, 0, 0, false, none⟩
theorem flat5 (l : List MRow) : ∀ (k : Nat) r, l[k]? = some r → ∀ i, i < 5 → (l.flatMap MRow.cells)[k * 5 + i]? = r.cells[i]? := by
  induction l with
  | nil => intro k r h; simp at h
  | cons a l ih =>
    intro k r h i hi
    have h5 : a.cells.length = 5 := rfl
    rw [List.flatMap_cons]
    cases k with
    | zero =>
      simp at h
      subst h
      rw [List.getElem?_append_left (by omega), Nat.zero_mul, Nat.zero_add]
    | succ k =>
      rw [List.getElem?_append_right (by omega), show (k + 1) * 5 + i - a.cells.length = k * 5 + i by omega]
      exact ih k r (by simpa using h) i hi
theorem mrow_at {k : Nat} (hk : k < 24) : mtab[k]? = some (mrow k) := by
 have : k < mtab.length := hk
 rw [mrow, List.getD_eq_getElem?_getD, List.getElem?_eq_getElem this]; rfl
theorem mcells_at : ∀ k, k < 24 → mcells.toArray[k * 5]? = some (.int .i64 (mrow k).kind) ∧ mcells.toArray[k * 5 + 1]? = some (.int .i64 (mrow k).uses) ∧ mcells.toArray[k * 5 + 2]? = some (.int .i64 (mrow k).key) ∧ mcells.toArray[k * 5 + 3]? = some (.bool (mrow k).multi) ∧ mcells.toArray[k * 5 + 4]? = some (fnv (mrow k).param) := by
 intro k hk
 have h := flat5 mtab k _ (mrow_at hk)
 simp only [List.getElem?_toArray]
 exact ⟨h 0 (by omega), h 1 (by omega), h 2 (by omega), h 3 (by omega), h 4 (by omega)⟩

set_option maxRecDepth 100000 in
set_option maxHeartbeats 1000000 in
theorem values_any (A : Option Addr) (c n : Nat) (w : World) :
 Calls Tryz.prog 108 #[.slice A n c] w fun e w' => e = .returned (.func (.func 163) #[] #[.pointer (some ⟨w.heap.size, 0, none⟩)]) ∧ w' = w.alloc (.cells #[.slice A n c] 152) := by
 go_enter Tryz.func108, Tryz.ntmps108
 go_wp2
 go_ret
 exact ⟨rfl, rfl⟩

set_option maxRecDepth 100000 in
set_option maxHeartbeats 4000000 in
theorem all_any (w : World) :
 Calls Tryz.prog 62 #[] w fun e w' => e = .returned (.func (.func 163) #[] #[.pointer (some ⟨w.heap.size + 1, 0, none⟩)]) ∧
  w' = (w.alloc (.cells mcells.toArray 69)).alloc (.cells #[.slice (some ⟨w.heap.size, 0, none⟩) 24 24] 152) := by
 go_enter Tryz.func62, Tryz.ntmps62
 go_wp2_with fail
 refine (values_any _ _ _ _).mono ?_
 rintro e w' ⟨rfl, rfl⟩
 go_wp2
 go_ret
 exact ⟨by simp, by simp [mcells, mtab, MRow.cells, fnv]⟩

def Stay (lo hi : Nat) (W W' : World) : Prop := W.heap.size ≤ W'.heap.size ∧ ∀ k, lo ≤ k → k < hi → W'.heap[k]? = W.heap[k]?
theorem Stay.trans {lo hi : Nat} {a b c : World} (h : Stay lo hi a b) (k : Stay lo hi b c) : Stay lo hi a c := ⟨Nat.le_trans h.1 k.1, fun i h1 h2 => (k.2 i h1 h2).trans (h.2 i h1 h2)⟩
theorem Stay.refl (lo hi : Nat) (w : World) : Stay lo hi w w := ⟨Nat.le_refl _, fun _ _ _ => rfl⟩
theorem Stay.below {lo hi B : Nat} {w w' : World} (h : Below B w w') (hB : hi ≤ B) : Stay lo hi w w' := ⟨h.size, fun k _ h2 => h.block k (by omega)⟩

set_option maxRecDepth 100000 in
set_option maxHeartbeats 2000000 in
theorem values_seq (g : Nat) (w : World) (h1 : w.heap[g]? = some (.cells mcells.toArray 69 (0, 0))) (h2 : w.heap[g + 1]? = some (.cells #[.slice (some ⟨g, 0, none⟩) 24 24] 152 (0, 0))) :
 SeqAt Tryz.prog 163 #[.pointer (some ⟨g + 1, 0, none⟩)] (fun k => #[(mrow k).val]) NoNeed TPlain (Stay g (g + 2)) 0 24 true w := by
 intro n l' J J' Jx W _ hW _ _ _ _ _ hT _ hY h0
 have zg := blk_lt h2
 have k1 := (hW.block g (by omega)).trans h1
 have k2 := (hW.block (g + 1) zg).trans h2
 have HT := Lib.hid hT
 have HY := Lib.hid hY
 have c0 := blk_cell k2 0
 simp only [List.getElem?_toArray, List.getElem?_cons_zero] at c0
 have zW := hW.size
 clear hT hY h1 h2
 refine callsIn_of_wp Tryz.func163 rfl trivial ?_ rfl
 simp only [Tryz.ntmps163, List.size_toArray, List.length_cons, List.length_nil, Nat.reduceAdd, Nat.reduceSub, Array.replicate_succ, Array.replicate_zero, List.push_toArray, List.append_toArray, List.nil_append, List.cons_append]
 gi_wp2
 gi_loopw [7] (fun i wr => ∃ k : Nat, k ≤ 24 ∧ i = .int .i64 (k : Int) ∧ J k wr ∧ Stay g (g + 2) W wr) (fun i _ => 24 - (intOf i).toNat)
 case atStart => exact ⟨0, by omega, rfl, h0, Stay.refl _ _ _⟩
 case round =>
  obtain ⟨k, hk, rfl, hj, hB⟩ := hrel
  by_cases hlt : k < 24
  · have q1 := (hB.2 g (Nat.le_refl _) (by omega)).trans k1
    obtain ⟨m0, m1, m2, m3, m4⟩ := mcells_at k hlt
    have d0 := (blk_cell q1 (k * 5)).trans m0
    have d1 := (blk_cell q1 (k * 5 + 1)).trans m1
    have d2 := (blk_cell q1 (k * 5 + 2)).trans m2
    have d3 := (blk_cell q1 (k * 5 + 3)).trans m3
    have d4 := (blk_cell q1 (k * 5 + 4)).trans m4
    clear c0 k2 m0 m1 m2 m3 m4 q1
    obtain ⟨⟨z0, z1, z2, b, f⟩, hr⟩ : ∃ r, mrow k = r := ⟨_, rfl⟩
    rw [hr] at d0 d1 d2 d3 d4
    simp only [] at d0 d1 d2 d3 d4
    have Hr := Lib.hid hr
    clear hr
    cases f
    · simp only [fnv] at d4
      have hz := HT.out k wr _ hk hj (World.grownBy_alloc wr (.cells #[.int .i64 z0, .int .i64 z1, .int .i64 z2, .bool b, .nilFunc] 69) none)
      obtain ⟨fn, tmps, assign, body, hy, hRo⟩ := HY.out k _ hz hlt (by have := hB.1; simp; omega)
      rw [Hr.out] at hy
      simp only [MRow.val, fnv] at hy
      have hst : Stay g (g + 2) wr (wr.alloc (.cells #[.int .i64 z0, .int .i64 z1, .int .i64 z2, .bool b, .nilFunc] 69)) := ⟨by simp, fun i _ h => Below.heap_alloc _ _ _ (by have := hB.1; omega)⟩
      gi_wp2
      refine hRo.mono ?_
      rintro e W3 (⟨rfl, hJ3, hk3, _⟩ | ⟨rfl, hJx3, _⟩)
      · gi_wp2
        go_roundw
        case rel => exact ⟨k + 1, by omega, by go_num, hJ3, (hB.trans hst).trans hk3⟩
        case measure => simp [intOf]; omega
      · gi_wp2
        refine bodyPost_ret (results_none rfl _ _ _) rfl ?_
        exact ⟨⟨_, rfl⟩, .inr ⟨k + 1, by omega, by omega, hJx3⟩⟩
    · rename_i fi
      simp only [fnv] at d4
      have hz := HT.out k wr _ hk hj (World.grownBy_alloc wr (.cells #[.int .i64 z0, .int .i64 z1, .int .i64 z2, .bool b, .func (.func fi) #[] #[]] 69) none)
      obtain ⟨fn, tmps, assign, body, hy, hRo⟩ := HY.out k _ hz hlt (by have := hB.1; simp; omega)
      rw [Hr.out] at hy
      simp only [MRow.val, fnv] at hy
      have hst : Stay g (g + 2) wr (wr.alloc (.cells #[.int .i64 z0, .int .i64 z1, .int .i64 z2, .bool b, .func (.func fi) #[] #[]] 69)) := ⟨by simp, fun i _ h => Below.heap_alloc _ _ _ (by have := hB.1; omega)⟩
      gi_wp2
      refine hRo.mono ?_
      rintro e W3 (⟨rfl, hJ3, hk3, _⟩ | ⟨rfl, hJx3, _⟩)
      · gi_wp2
        go_roundw
        case rel => exact ⟨k + 1, by omega, by go_num, hJ3, (hB.trans hst).trans hk3⟩
        case measure => simp [intOf]; omega
      · gi_wp2
        refine bodyPost_ret (results_none rfl _ _ _) rfl ?_
        exact ⟨⟨_, rfl⟩, .inr ⟨k + 1, by omega, by omega, hJx3⟩⟩
  · obtain rfl : k = 24 := by omega
    have hj' := HT.out 24 _ _ (Nat.le_refl _) hj (World.grownBy.refl wr none)
    gi_wp2
    go_end0
    exact ⟨⟨_, rfl⟩, .inl hj'⟩
end Go.Proofs.YtpbmaapdppdagaaGreatDoor.Mc

namespace Go.Proofs.YtpbmaapdppdagaaGreatDoor
open Go.RowKit

theorem wpIn_iterA {n : Nat} {P : Program} {g : Operand} {ps : Array Tmp} {assign body : Code} {Q : Exit → Act → World → Prop} {a : Act} {w : World}
    (h2 : 2 ≤ n) {gf : Nat} {lb : Array Value} (hg : a.eval g = .func (.func gf) #[] lb) (eg : ∀ args w, (callFunc gf args).run P w = .ok (.enter gf args) w)
    {xs : Nat → Array Value} {Nd : Nat → World → Prop} {T : Nat → Nat → World → World → Prop} {Kp : World → World → Prop} {m N : Nat} {fin : Bool} {w0 : World} (hseq : SeqAt P gf lb xs Nd T Kp m N fin w0)
    (hKt : ∀ {A B C : World}, Kp A B → Kp B C → Kp A C) (hKb : ∀ (W : World) (l : Nat) (o o' : Obj), w.heap.size ≤ l → W.heap[l]? = some o → o.isCells = false → o.isWalk = false → Kp W (W.putObj l o'))
    (hT : ∀ B k W1 W2, T B k W1 W2 → W1.heap.size ≤ W2.heap.size ∧ ∀ b o, b < B → W1.heap[b]? = some o → o.isCells = false → W2.heap[b]? = some o)
    (hb0 : Below w0.heap.size w0 w) (hps : ∀ k, (xs k).size = ps.size)
    (I I' : Nat → World → Prop) (Ix : Code → Nat → World → Prop) (hI : OwnFrom w.heap.size I) (hI' : OwnFrom w.heap.size I') (hIx : ∀ c, OwnFrom w.heap.size (Ix c))
    (hNd : ∀ k W, k ≤ N → I k W → Nd k W) (hIT : ∀ B k W1 W2, w.heap.size ≤ B → k ≤ N → I k W1 → T B k W1 W2 → I' k W2) (hfin : fin = false → ∀ W', ¬ I' N W') (h0 : I 0 w) (Ia : Nat → Act → World → Prop) (hIa : ∀ a, OwnFrom w.heap.size (fun k => Ia k a))
    (hassign : ∀ (l k : Nat) (W : World) (K : Act → World → Prop), I' k W → k < N → w.heap.size + 2 + m ≤ W.heap.size → (∀ a' W', Ia k a' W' → Keeps w.heap.size (w.heap.size + 2) m W W' → Kp W W' → K a' W') →
      assign.wpIn (Fence.wide.inRound l) (n - 1 - 1) P (Exit.then K (fun _ _ _ => False)) { tmps := (ps.zip (xs k)).foldl (fun t (p, v) => t.setIfInBounds p v) a.tmps, defers := [] } W)
    (hbody : ∀ (l k : Nat) (a' : Act) (W : World), Ia k a' W → k < N → w.heap.size + 2 + m ≤ W.heap.size → body.wpIn (Fence.wide.inRound l) (n - 1 - 1) P (iterPost w.heap.size m Kp I Ix (k + 1) W) a' W)
    (hdone : ∀ (D : Nat) (W : World), w.heap.size ≤ D → I' N W → W.heap[D]? = some (.deferred (some [])) → Q .normal { a with defers := { target := .collected D, args := #[] } :: a.defers } W)
    (hstop : ∀ (D : Nat) (c : Code) (k : Nat) (W : World), w.heap.size ≤ D → 0 < k → k ≤ N → Ix c k W → W.heap[D]? = some (.deferred (some [])) → c.wpIn Fence.wide n P Q { a with defers := { target := .collected D, args := #[] } :: a.defers } W) :
    (Code.rangeFunc g ps assign body).wpIn Fence.wide n P Q a w := by
  refine wpIn_rangeFunc ?_
  intro fn hfn
  obtain ⟨rc, hrc⟩ : ∃ rc : LoopState → Option Code → Loop, rc = fun st pe => { state := st, pending := pe, fn, tmps := a.tmps, params := ps, assign, body, defers := w.heap.size } := ⟨_, rfl⟩
  obtain ⟨L, hL⟩ : ∃ L, w.heap.size + 1 = L := ⟨_, rfl⟩
  obtain ⟨D, hD⟩ : ∃ D, w.heap.size = D := ⟨_, rfl⟩
  obtain ⟨W1, hW1⟩ : ∃ W1, (w.alloc (.deferred (some []))).alloc (.loop (rc .ready none)) = W1 := ⟨_, rfl⟩
  have hz1 : W1.heap.size = D + 2 := by rw [← hW1, ← hD]; simp
  have hl1 : W1.heap[L]? = some (.loop (rc .ready none)) := by
    rw [← hW1, ← hL]; have := World.alloc_heap_new (w.alloc (.deferred (some []))) (.loop (rc .ready none)); rwa [World.size_alloc] at this
  have hd1 : W1.heap[D]? = some (.deferred (some [])) := by
    rw [← hW1, ← hD]; exact (Below.heap_alloc _ _ _ (by simp)).trans (World.alloc_heap_new w _)
  have hi1 : I 0 W1 := by rw [← hW1]; exact hI.alloc _ (hI.alloc _ h0)
  have hb1 : Below w0.heap.size w0 W1 := by rw [← hW1]; exact hb0.trans ((((Below.refl _ w).alloc (Nat.le_refl _) _).alloc (by simp) _).mono hb0.size)
  have hlD : L = D + 1 := by omega
  refine ⟨L, [{ target := .collected D, args := #[] }], W1, { target := .fn (.func gf) lb, args := #[.func (.yield L) #[] #[]] }, W1, gf,
    #[.func (.yield L) #[] #[]] ++ lb, W1, ?_, ?_, ?_, ?_, fun _ => by omega, ?_⟩
  · rw [← hW1, hrc, ← hL, ← hD]; exact run_enterLoop_outer _ _ _ _ _
  · simp only [resolve, hg]
    simp [go_sem]
  · exact fun _ _ => trivial
  · simp [invoke, go_sem, eg]
  -- the record's two blocks, beside what the caller holds
  have recs : ∀ (st : LoopState) (pe : Option Code), OwnFrom W1.heap.size (fun (_ : Nat) (W : World) => (L < W.heap.size ∧ W.heap[L]? = some (.loop (rc st pe))) ∧ D < W.heap.size ∧ W.heap[D]? = some (.deferred (some []))) := fun st pe =>
    OwnFrom.and (ownFrom_block _ (by omega)) (ownFrom_block _ (by omega))
  have lt : ∀ {W : World} {b : Nat} {o : Obj}, W.heap[b]? = some o → b < W.heap.size := fun h => (Array.getElem?_eq_some_iff.1 h).1
  refine (hseq (n - 1) L
    (fun k W => I k W ∧ (L < W.heap.size ∧ W.heap[L]? = some (.loop (rc .ready none))) ∧ D < W.heap.size ∧ W.heap[D]? = some (.deferred (some [])))
    (fun k W => I' k W ∧ (L < W.heap.size ∧ W.heap[L]? = some (.loop (rc .ready none))) ∧ D < W.heap.size ∧ W.heap[D]? = some (.deferred (some [])))
    (fun k W => ∃ c, Ix c k W ∧ (L < W.heap.size ∧ W.heap[L]? = some (.loop (rc .done (some c)))) ∧ D < W.heap.size ∧ W.heap[D]? = some (.deferred (some [])))
    W1 (by omega) hb1 (by omega) (OwnFrom.and (ownFrom_mono hI (by omega)) (recs _ _)) (OwnFrom.and (ownFrom_mono hI' (by omega)) (recs _ _))
    (fun k A B row hs hg' hr => by obtain ⟨c, hc, hr2⟩ := hs; exact ⟨c, ownFrom_mono (hIx c) (by omega) k A B row hc hg' hr, recs _ _ k A B row hr2 hg' hr⟩)
    (fun k A hk hs => hNd k A hk hs.1) ?_ (fun hf W' hs => hfin hf W' hs.1) ?_ ⟨hi1, ⟨lt hl1, hl1⟩, lt hd1, hd1⟩).mono ?_
  · rintro k A B hk ⟨hi, ⟨_, hl⟩, _, hd⟩ ht
    have hl' := (hT _ _ _ _ ht).2 L _ (by omega) hl rfl
    have hd' := (hT _ _ _ _ ht).2 D _ (by omega) hd rfl
    exact ⟨hIT _ k A B (by omega) hk hi ht, ⟨lt hl', hl'⟩, lt hd', hd'⟩
  · -- one round
    rintro k W ⟨hi, ⟨_, hl⟩, _, hd⟩ hlen hm
    have hlt : L < W.heap.size := lt hl
    have hy := run_yield (P := P) (args := xs k) hl (by rw [hrc]; exact hps k)
    rw [hrc] at hy
    refine ⟨fn, _, assign, body, hy, roundIn_of_wpIn hfn (hassign _ k W _ hi hlen (by omega) fun a₂ Wa hia hka hkpa => ⟨_, run_beginRound (hka.others L _ (by omega) hl rfl) (by rw [hrc]), ?_⟩)⟩
    have hla := hka.others L _ (by omega) hl rfl
    have hda := hka.others D _ (by omega) hd rfl
    have hza := hka.size
    have hlta : L < Wa.heap.size := lt hla
    have hl2 : (Wa.putObj L (.loop { rc .ready none with state := .busy })).heap[L]? = some (.loop { rc .ready none with state := .busy }) := World.putObj_heap_same hlta
    have hd2 : (Wa.putObj L (.loop { rc .ready none with state := .busy })).heap[D]? = some (.deferred (some [])) := (World.putObj_heap_other (by omega)).trans hda
    have hw2 : Kp Wa (Wa.putObj L (.loop { rc .ready none with state := .busy })) := hKb _ _ _ _ (by omega) hla rfl rfl
    have hk2 : Keeps W1.heap.size W1.heap.size m Wa (Wa.putObj L (.loop { rc .ready none with state := .busy })) := Keeps.putObj (by omega) (by omega)
    refine wpIn_mono (hbody _ k _ _ ((hIa a₂).putObj _ hia (by omega) hla rfl) hlen (by simp; omega)) ?_
    have fin : ∀ (jump : Option Code) (W3 : World), Keeps w.heap.size (w.heap.size + 2) m (Wa.putObj L (.loop { rc .ready none with state := .busy })) W3 →
        (Instr.endRound L jump).run P W3 = .ok (.bool jump.isNone) (W3.putObj L (.loop (rc (if jump.isNone then .ready else .done) jump))) ∧
        W3.heap[L]? = some (.loop { rc .ready none with state := .busy }) ∧
        (W3.putObj L (.loop (rc (if jump.isNone then .ready else .done) jump))).heap[L]? = some (.loop (rc (if jump.isNone then .ready else .done) jump)) ∧
        (W3.putObj L (.loop (rc (if jump.isNone then .ready else .done) jump))).heap[D]? = some (.deferred (some [])) ∧
        Keeps W1.heap.size W1.heap.size m W (W3.putObj L (.loop (rc (if jump.isNone then .ready else .done) jump))) := fun jump W3 hk3 => by
      have hl3 := hk3.others L _ (by omega) hl2 rfl
      have hd3 := hk3.others D _ (by omega) hd2 rfl
      have := run_endRound (P := P) jump hl3
      rw [hrc] at this ⊢
      exact ⟨this, by rw [hrc] at hl3; exact hl3, World.putObj_heap_same (lt hl3), (World.putObj_heap_other (by omega)).trans hd3, by rw [hrc] at hk2 hk3; exact (hka.mono (by omega) (by omega) (by omega)).trans (hk2.trans ((hk3.mono (by omega) (by omega) (by omega)).trans (Keeps.putObj (by omega) (by omega))))⟩
    rintro e a3 W3 hp
    cases e with
    | normal =>
      obtain ⟨hk3, hkp3, hi3⟩ := hp
      obtain ⟨hr, hl3, hl4, hd4, hk4⟩ := fin none W3 hk3
      exact ⟨_, _, hr, .inl ⟨rfl, ⟨hI.putObj _ hi3 (by omega) hl3 rfl, ⟨lt hl4, hl4⟩, lt hd4, hd4⟩, hKt (hKt hkpa (hKt hw2 hkp3)) (hKb _ _ _ _ (by omega) hl3 rfl rfl), hk4⟩⟩
    | ret =>
      obtain ⟨hk3, hi3⟩ := hp
      obtain ⟨hr, hl3, hl4, hd4, hk4⟩ := fin (some .ret) W3 hk3
      exact ⟨_, _, hr, .inr ⟨rfl, ⟨.ret, (hIx _).putObj _ hi3 (by omega) hl3 rfl, ⟨lt hl4, hl4⟩, lt hd4, hd4⟩, hk4⟩⟩
    | exit id =>
      obtain ⟨hk3, hi3⟩ := hp
      obtain ⟨hr, hl3, hl4, hd4, hk4⟩ := fin (some (.exit id)) W3 hk3
      exact ⟨_, _, hr, .inr ⟨rfl, ⟨.exit id, (hIx _).putObj _ hi3 (by omega) hl3 rfl, ⟨lt hl4, hl4⟩, lt hd4, hd4⟩, hk4⟩⟩
    | goto t =>
      obtain ⟨hk3, hi3⟩ := hp
      obtain ⟨hr, hl3, hl4, hd4, hk4⟩ := fin (some (.goto t)) W3 hk3
      exact ⟨_, _, hr, .inr ⟨rfl, ⟨.goto t, (hIx _).putObj _ hi3 (by omega) hl3 rfl, ⟨lt hl4, hl4⟩, lt hd4, hd4⟩, hk4⟩⟩
    | panic ch => exact hp.elim
    | outgrown => exact hp.elim
  · -- behind the iterator
    rintro e W2 ⟨⟨v, rfl⟩, (⟨hi, ⟨_, hl⟩, _, hd⟩ | ⟨k, hk0, hk, c, hi, ⟨_, hl⟩, _, hd⟩)⟩
    · exact ⟨none, _, by have := run_endLoop (P := P) hl (by rw [hrc]; simp); rw [hrc] at this; exact this, hdone _ _ (by omega) (hI'.putObj _ hi (by omega) hl rfl) ((World.putObj_heap_other (by omega)).trans hd)⟩
    · exact ⟨some c, _, by have := run_endLoop (P := P) hl (by rw [hrc]; simp); rw [hrc] at this; exact this, hstop _ c k _ (by omega) hk0 hk ((hIx c).putObj _ hi (by omega) hl rfl) ((World.putObj_heap_other (by omega)).trans hd)⟩
end Go.Proofs.YtpbmaapdppdagaaGreatDoor

namespace Go.Proofs.YtpbmaapdppdagaaGreatDoor.Mc
open Go.RowKit Go.Shelf

attribute [local go_sem] Oper.semAt_some

theorem blk_set {w : World} {g : Nat} {t : TypeId} {cs : Array Value} (h : w.heap[g]? = some (.cells cs t (0, 0))) (i : Nat) (u : Value) : (w.setCell ⟨g, i, none⟩ u).heap[g]? = some (.cells (cs.setIfInBounds i u) t (0, 0)) := by
 simp [World.setCell, Array.getElem?_modify, h]
def mechOf (kind : Int) : MRow := (mtab.find? fun x => x.kind == kind).getD ⟨0, 0, -1, false, none⟩
def noneTo (kind : Int) (k : Nat) : Prop := ∀ i, i < k → (mrow i).kind ≠ kind
theorem find_at (kind : Int) (l : List MRow) : ∀ (k : Nat) r, l[k]? = some r → r.kind = kind → (∀ i, i < k → ∀ q, l[i]? = some q → q.kind ≠ kind) → l.find? (fun x => x.kind == kind) = some r := by
  induction l with
  | nil => intro k r h; simp at h
  | cons a l ih =>
    intro k r h hr hn
    cases k with
    | zero =>
      simp at h
      subst h
      simp [hr]
    | succ k =>
      have h0 := hn 0 (by omega) a (by simp)
      rw [List.find?_cons_of_neg (by simpa using h0)]
      exact ih k r (by simpa using h) hr fun i hi q hq => hn (i + 1) (by omega) q (by simpa using hq)
theorem mechOf_at {kind : Int} {k : Nat} (hk : k < 24) (hn : noneTo kind k) (h : (mrow k).kind = kind) : mechOf kind = mrow k := by
 rw [mechOf, find_at kind mtab k _ (mrow_at hk) h fun i hi q hq => by
  rw [mrow_at (by omega)] at hq
  injection hq with hq
  rw [← hq]
  exact hn i hi]
 rfl
theorem find_none (kind : Int) (l : List MRow) : (∀ (i : Nat) q, l[i]? = some q → q.kind ≠ kind) → l.find? (fun x => x.kind == kind) = none := by
 intro h
 rw [List.find?_eq_none]
 intro x hx
 obtain ⟨i, hi⟩ := List.getElem?_of_mem hx
 simpa using h i x hi
theorem mechOf_none {kind : Int} (hn : noneTo kind 24) : mechOf kind = ⟨0, 0, -1, false, none⟩ := by
 rw [mechOf, find_none kind mtab fun i q hq => by
  have hi : i < 24 := (List.getElem?_eq_some_iff.1 hq).1
  rw [mrow_at hi] at hq
  injection hq with hq
  rw [← hq]
  exact hn i hi]
 rfl
theorem alloc4 (w : World) (o1 o2 o3 o4 : Obj) : ((((w.alloc o1).alloc o2).alloc o3).alloc o4).heap[w.heap.size]? = some o1 ∧ ((((w.alloc o1).alloc o2).alloc o3).alloc o4).heap[w.heap.size + 1]? = some o2 ∧ ((((w.alloc o1).alloc o2).alloc o3).alloc o4).heap[w.heap.size + 2]? = some o3 ∧
 ((((w.alloc o1).alloc o2).alloc o3).alloc o4).heap[w.heap.size + 3]? = some o4 ∧ ((((w.alloc o1).alloc o2).alloc o3).alloc o4).heap.size = w.heap.size + 4 ∧ Below w.heap.size w ((((w.alloc o1).alloc o2).alloc o3).alloc o4) := by
 have h1 := heap_alloc_new w o1
 have h2 := heap_alloc_new (w.alloc o1) o2
 have h3 := heap_alloc_new ((w.alloc o1).alloc o2) o3
 have h4 := heap_alloc_new (((w.alloc o1).alloc o2).alloc o3) o4
 simp only [World.size_alloc] at h2 h3 h4
 refine ⟨?_, ?_, ?_, h4, by simp, ((((Below.refl _ w).alloc (Nat.le_refl _) _).alloc (by simp) _).alloc (by simp; omega) _).alloc (by simp; omega) _⟩
 · exact (Below.heap_alloc _ _ _ (by simp; omega)).trans ((Below.heap_alloc _ _ _ (by simp <;> omega)).trans ((Below.heap_alloc _ _ _ (by simp)).trans h1))
 · exact (Below.heap_alloc _ _ _ (by simp <;> omega)).trans ((Below.heap_alloc _ _ _ (by simp)).trans h2)
 · exact (Below.heap_alloc _ _ _ (by simp)).trans h3

def OfI (w : World) (s : Nat) (kind : Int) (k : Nat) (X : World) : Prop := noneTo kind k ∧ X.heap[s]? = some (.cells #[.int .i64 kind] 3 (0, 0)) ∧ X.heap[s + 1]? = some (.cells #[.int .i64 0, .int .i64 0, .int .i64 0, .bool false, .nilFunc] 69 (0, 0)) ∧ Below s w X
theorem OfI.own {w : World} {s : Nat} {kind : Int} {B : Nat} (hs : s ≤ w.heap.size) (hB : s ≤ B) : OwnFrom B (OfI w s kind) := fun k X X' row h hg hr => by
 obtain ⟨h0, h1, h2, h3⟩ := h
 have hr' := fun r e => (hr r e).2
 exact ⟨h0, (grownBy_keeps_cells hg hr' h1 rfl).trans h1, (grownBy_keeps_cells hg hr' h2 rfl).trans h2, ownFrom_below hs hB k X X' row h3 hg hr⟩
def OfX (s : Nat) (kind : Int) (X : World) : Prop := X.heap[s + 1]? = some (.cells (mechOf kind).cells.toArray 69 (0, 0))
def InBlk (B : Nat) (r : MRow) (q : Nat) (X : World) : Prop := B ≤ q ∧ X.heap[q]? = some (.cells r.cells.toArray 69 (0, 0))
theorem InBlk.own {B : Nat} {r : Nat → MRow} {q B' : Nat} : OwnFrom B' (fun k X => InBlk B (r k) q X) := fun _ _ _ _ h hg hr => ⟨h.1, (grownBy_keeps_cells hg (fun r e => (hr r e).2) h.2 rfl).trans h.2⟩

set_option maxRecDepth 100000 in
set_option maxHeartbeats 4000000 in
theorem of_any (kind : Int) (w : World) : Calls Tryz.prog 30 #[.int .i64 kind] w fun e w' => e = .returned (mechOf kind).val ∧ Below w.heap.size w w' := by
 refine (callsIn_wide (n := 6)).1 ?_
 refine callsIn_of_wp_marks Tryz.func30 rfl trivial ?_ rfl
 simp only [Tryz.ntmps30, List.size_toArray, List.length_cons, List.length_nil, Nat.reduceAdd, Nat.reduceSub, Array.replicate_succ, Array.replicate_zero, List.push_toArray, List.append_toArray, List.nil_append, List.cons_append]
 gi_wp2
 refine ⟨trivial, (callsIn_wide.2 (all_any _)).mono ?_⟩
 rintro e w' ⟨rfl, rfl⟩
 have ez : ((w.alloc (.cells #[.int .i64 kind] 3)).alloc (.cells #[.int .i64 0, .int .i64 0, .int .i64 0, .bool false, .nilFunc] 69)).heap.size = w.heap.size + 2 := by simp
 rw [ez]
 obtain ⟨m0, m1, m2, m3, z, hB⟩ := alloc4 w (.cells #[.int .i64 kind] 3) (.cells #[.int .i64 0, .int .i64 0, .int .i64 0, .bool false, .nilFunc] 69) (.cells mcells.toArray 69) (.cells #[.slice (some ⟨w.heap.size + 2, 0, none⟩) 24 24] 152)
 obtain ⟨s, hs⟩ : ∃ s, w.heap.size = s := ⟨_, rfl⟩
 rw [hs] at m0 m1 m2 m3 z hB ⊢
 generalize (((w.alloc (.cells #[.int .i64 kind] 3)).alloc (.cells #[.int .i64 0, .int .i64 0, .int .i64 0, .bool false, .nilFunc] 69)).alloc (.cells mcells.toArray 69)).alloc (.cells #[.slice (some ⟨s + 2, 0, none⟩) 24 24] 152) = W1 at *
 have Hs := Lib.hid hs
 clear hs ez
 gi_wp2
 have hseq := values_seq (s + 2) W1 m2 m3
 clear m2 m3
 have hzs : s ≤ w.heap.size := by have := Hs.out; omega
 refine' wpIn_iterA (by omega) (gf := 163) (lb := #[.pointer (some ⟨s + 2 + 1, 0, none⟩)]) rfl (enters_of Tryz.func163 (by kernel_rfl) rfl)
  hseq (fun h k => Stay.trans h k) (fun X l o o' hl ho _ _ => ⟨by simp, fun i _ hi => World.putObj_heap_other (by omega)⟩) tplain_keeps (Below.refl _ _) (fun _ => rfl)
  (OfI w s kind) (OfI w s kind) (fun c _ X => c = .ret ∧ OfX s kind X ∧ Below s w X)
  (OfI.own hzs (by omega)) (OfI.own hzs (by omega)) ?hIx (fun _ _ _ _ => trivial) (fun B k A C _ _ hi ht => ownFrom_plain (OfI.own (B := s) hzs (Nat.le_refl _)) hi ht) (fun h => by cases h) ⟨fun i hi => absurd hi (by omega), m0, m1, hB⟩
  (fun k a X => ∃ q, a = { tmps := #[.int .i64 kind, .pointer (some ⟨s, 0, none⟩), .pointer (some ⟨s + 1, 0, none⟩), .pointer (some ⟨q, 0, none⟩), .func (.func 163) #[] #[.pointer (some ⟨s + 2 + 1, 0, none⟩)], (mrow k).val, undef, undef, undef, undef, undef, undef], defers := [] } ∧ InBlk W1.heap.size (mrow k) q X ∧ OfI w s kind k X)
  (fun a k X X' row h hg hr => by
   obtain ⟨q, e, h1, h2⟩ := h
   exact ⟨q, e, InBlk.own (r := mrow) k X X' row h1 hg hr, OfI.own hzs (by omega) k X X' row h2 hg hr⟩) ?assign ?body ?done ?stop
 case hIx =>
  rintro c k X X' row ⟨h0, h1, h3⟩ hg hr
  have hr' := fun r e => (hr r e).2
  exact ⟨h0, (grownBy_keeps_cells hg hr' h1 rfl).trans h1, ownFrom_below hzs (by omega) k X X' row h3 hg hr⟩
 case assign =>
  intro l k X K hi hk hz hK
  have hK' := fun q a' (e : a' = _) h1 => hK a' (X.alloc (.cells (mrow k).cells.toArray 69)) ⟨q, e, h1, OfI.own (B := s) hzs (Nat.le_refl _) k X _ none hi (World.grownBy_alloc X _ none) (fun r e => by cases e)⟩ (Keeps.alloc _ _ _ _ _) ⟨by simp, fun i _ h => Below.heap_alloc _ _ _ (by omega)⟩
  have hn := heap_alloc_new X (.cells (mrow k).cells.toArray 69)
  have hk' := hK' X.heap.size _ rfl ⟨by omega, hn⟩
  have HK := Lib.hid hk'
  clear hK hK' hn hk'
  obtain ⟨⟨z0, z1, z2, b, f⟩, hr⟩ : ∃ r, mrow k = r := ⟨_, rfl⟩
  rw [hr] at HK ⊢
  simp only [MRow.val, MRow.cells] at HK ⊢
  clear hr hi
  cases f
  · simp only [fnv] at HK ⊢
    gi_wp2
    exact HK.out
  · simp only [fnv] at HK ⊢
    gi_wp2
    exact HK.out
 case body =>
  rintro l k a X ⟨q, rfl, ⟨hq, hblk⟩, hn, h1, h2, h3⟩ hlt hlen
  have c0 := blk_cell h1 0
  have r0 := blk_cell h2 0
  have r1 := blk_cell h2 1
  have r2 := blk_cell h2 2
  have r3 := blk_cell h2 3
  have r4 := blk_cell h2 4
  have f0 := blk_free h2 0
  have f1 := blk_free h2 1
  have f2 := blk_free h2 2
  have f3 := blk_free h2 3
  have f4 := blk_free h2 4
  simp at c0 r0 r1 r2 r3 r4
  have hat := fun h => mechOf_at hlt hn h
  have hns : (mrow k).kind ≠ kind → noneTo kind (k + 1) := fun h i hi => by
   rcases Nat.lt_or_ge i k with h' | h'
   · exact hn i h'
   · obtain rfl : i = k := by omega
     exact h
  obtain ⟨⟨z0, z1, z2, b, f⟩, hr⟩ : ∃ r, mrow k = r := ⟨_, rfl⟩
  rw [hr] at hat hns hblk ⊢
  simp only [MRow.val, MRow.cells] at hat hns hblk ⊢
  have q0 := blk_cell hblk 0
  have q1 := blk_cell hblk 1
  have q2 := blk_cell hblk 2
  have q3 := blk_cell hblk 3
  have q4 := blk_cell hblk 4
  simp at q0 q1 q2 q3 q4
  have zX := h3.size
  have hs5 : ∀ v0 v1 v2 v3 v4, (((((X.setCell ⟨s + 1, 0, none⟩ v0).setCell ⟨s + 1, 1, none⟩ v1).setCell ⟨s + 1, 2, none⟩ v2).setCell ⟨s + 1, 3, none⟩ v3).setCell ⟨s + 1, 4, none⟩ v4).heap[s + 1]? = some (.cells #[v0, v1, v2, v3, v4] 69 (0, 0)) := fun v0 v1 v2 v3 v4 => by
   have := blk_set (blk_set (blk_set (blk_set (blk_set h2 0 v0) 1 v1) 2 v2) 3 v3) 4 v4
   simpa using this
  have hK5 : ∀ v0 v1 v2 v3 v4, Keeps W1.heap.size (W1.heap.size + 2) 0 X (((((X.setCell ⟨s + 1, 0, none⟩ v0).setCell ⟨s + 1, 1, none⟩ v1).setCell ⟨s + 1, 2, none⟩ v2).setCell ⟨s + 1, 3, none⟩ v3).setCell ⟨s + 1, 4, none⟩ v4) := fun v0 v1 v2 v3 v4 =>
   ((((Keeps.setCell _ _ 0 _ (.inl (by show s + 1 < _; omega)) _).trans (Keeps.setCell _ _ 0 _ (.inl (by show s + 1 < _; omega)) _)).trans (Keeps.setCell _ _ 0 _ (.inl (by show s + 1 < _; omega)) _)).trans (Keeps.setCell _ _ 0 _ (.inl (by show s + 1 < _; omega)) _)).trans (Keeps.setCell _ _ 0 _ (.inl (by show s + 1 < _; omega)) _)
  have hB5 : ∀ v0 v1 v2 v3 v4, Below s w (((((X.setCell ⟨s + 1, 0, none⟩ v0).setCell ⟨s + 1, 1, none⟩ v1).setCell ⟨s + 1, 2, none⟩ v2).setCell ⟨s + 1, 3, none⟩ v3).setCell ⟨s + 1, 4, none⟩ v4) := fun v0 v1 v2 v3 v4 =>
   ((((h3.setCell (p := ⟨s + 1, 0, none⟩) (by show s ≤ s + 1; omega) _).setCell (p := ⟨s + 1, 1, none⟩) (by show s ≤ s + 1; omega) _).setCell (p := ⟨s + 1, 2, none⟩) (by show s ≤ s + 1; omega) _).setCell (p := ⟨s + 1, 3, none⟩) (by show s ≤ s + 1; omega) _).setCell (p := ⟨s + 1, 4, none⟩) (by show s ≤ s + 1; omega) _
  have Hs5 := Lib.hid hs5
  have HK5 := Lib.hid hK5
  have HB5 := Lib.hid hB5
  have Hat := Lib.hid hat
  have Hns := Lib.hid hns
  have H1 := Lib.hid h1
  have H2 := Lib.hid h2
  clear hat hns hr h1 h2 hn hs5 hK5 hB5 hblk
  by_cases hz' : z0 = kind
  · have hm := Lib.hid (Hat.out hz')
    have t1 : (z0 == kind) = true := by simp [hz']
    clear hz'
    cases f
    · simp only [fnv] at q4 ⊢
      gi_wp2
      exact ⟨HK5.out _ _ _ _ _, rfl, by rw [OfX, hm.out]; exact Hs5.out _ _ _ _ _, HB5.out _ _ _ _ _⟩
    · simp only [fnv] at q4 ⊢
      gi_wp2
      exact ⟨HK5.out _ _ _ _ _, rfl, by rw [OfX, hm.out]; exact Hs5.out _ _ _ _ _, HB5.out _ _ _ _ _⟩
  · have hm := Lib.hid (Hns.out hz')
    have t1 : (z0 == kind) = false := by simp [hz']
    clear hz'
    gi_wp2
    exact ⟨Keeps.refl _ _ _ _, Stay.refl _ _ _, hm.out, H1.out, H2.out, h3⟩
 case done =>
  rintro D X hD ⟨hn, h1, h2, h3⟩ hK
  have r0 := blk_cell h2 0
  have r1 := blk_cell h2 1
  have r2 := blk_cell h2 2
  have r3 := blk_cell h2 3
  have r4 := blk_cell h2 4
  have f0 := blk_free h2 0
  have f1 := blk_free h2 1
  have f2 := blk_free h2 2
  have f3 := blk_free h2 3
  have f4 := blk_free h2 4
  simp at r0 r1 r2 r3 r4
  have Hm := Lib.hid (mechOf_none hn)
  clear h1 hn
  have hs5 : ∀ v0 v1 v2 v3 v4, (((((X.setCell ⟨s + 1, 0, none⟩ v0).setCell ⟨s + 1, 1, none⟩ v1).setCell ⟨s + 1, 2, none⟩ v2).setCell ⟨s + 1, 3, none⟩ v3).setCell ⟨s + 1, 4, none⟩ v4).heap[s + 1]? = some (.cells #[v0, v1, v2, v3, v4] 69 (0, 0)) := fun v0 v1 v2 v3 v4 => by
   have := blk_set (blk_set (blk_set (blk_set (blk_set h2 0 v0) 1 v1) 2 v2) 3 v3) 4 v4
   simpa using this
  have hK5 : ∀ v0 v1 v2 v3 v4, (((((X.setCell ⟨s + 1, 0, none⟩ v0).setCell ⟨s + 1, 1, none⟩ v1).setCell ⟨s + 1, 2, none⟩ v2).setCell ⟨s + 1, 3, none⟩ v3).setCell ⟨s + 1, 4, none⟩ v4).heap[D]? = some (.deferred (some [])) := fun v0 v1 v2 v3 v4 => by
   have e : ∀ (Y : World) (i : Nat) (v : Value), (Y.setCell ⟨s + 1, i, none⟩ v).heap[D]? = Y.heap[D]? := fun Y i v => Below.heap_setCell _ _ _ _ (by show D ≠ s + 1; omega)
   rw [e, e, e, e, e]
   exact hK
  have hB5 : ∀ v0 v1 v2 v3 v4, Below s w (((((X.setCell ⟨s + 1, 0, none⟩ v0).setCell ⟨s + 1, 1, none⟩ v1).setCell ⟨s + 1, 2, none⟩ v2).setCell ⟨s + 1, 3, none⟩ v3).setCell ⟨s + 1, 4, none⟩ v4) := fun v0 v1 v2 v3 v4 =>
   ((((h3.setCell (p := ⟨s + 1, 0, none⟩) (by show s ≤ s + 1; omega) _).setCell (p := ⟨s + 1, 1, none⟩) (by show s ≤ s + 1; omega) _).setCell (p := ⟨s + 1, 2, none⟩) (by show s ≤ s + 1; omega) _).setCell (p := ⟨s + 1, 3, none⟩) (by show s ≤ s + 1; omega) _).setCell (p := ⟨s + 1, 4, none⟩) (by show s ≤ s + 1; omega) _
  have x1 := Lib.hid (hs5 (.int .i64 0) (.int .i64 0) (.int .i64 (-1)) (.bool false) .nilFunc)
  have x2 := Lib.hid (hK5 (.int .i64 0) (.int .i64 0) (.int .i64 (-1)) (.bool false) .nilFunc)
  have x3 := Lib.hid (hB5 (.int .i64 0) (.int .i64 0) (.int .i64 (-1)) (.bool false) .nilFunc)
  clear hs5 hK5 hB5 h2
  gi_wp2
  clear r0 r1 r2 r3 r4 f0 f1 f2 f3 f4
  generalize ((((X.setCell ⟨s + 1, 0, none⟩ (.int .i64 0)).setCell ⟨s + 1, 1, none⟩ (.int .i64 0)).setCell ⟨s + 1, 2, none⟩ (.int .i64 (-1))).setCell ⟨s + 1, 3, none⟩ (.bool false)).setCell ⟨s + 1, 4, none⟩ .nilFunc = Y at *
  have hc : ∀ (i : Nat) v, (#[.int .i64 0, .int .i64 0, .int .i64 (-1), .bool false, .nilFunc] : Array Value)[i]? = some v → (Y.putObj D (.deferred none)).cell? ⟨s + 1, i, none⟩ = some v := fun i v h =>
   cell_kept ((blk_cell x1.out i).trans h) (grownBy_putObj' _ D (.deferred none)) (fun r e => by cases e; exact ⟨_, x2.out, rfl⟩)
  have k0 := hc 0 _ rfl
  have k1 := hc 1 _ rfl
  have k2 := hc 2 _ rfl
  have k3 := hc 3 _ rfl
  have k4 := hc 4 _ rfl
  refine ⟨by simp, .inl ⟨_, _, rfl, run_takeDeferred x2.out, (mechOf kind).val, ?_, rfl, ?_⟩⟩
  · rw [Hm.out]
    simp [results, Tryz.f30, go_sem, k0, k1, k2, k3, k4, MRow.val, fnv]
  · rw [Hs.out]
    exact x3.out.trans (belowK_b (w := w) hzs _ D _ _ (by have := Hs.out; omega) x2.out rfl rfl)
 case stop =>
  rintro D c k X hD _ _ ⟨rfl, h1, h3⟩ hK
  obtain ⟨⟨z0, z1, z2, b, f⟩, hr⟩ : ∃ r, mechOf kind = r := ⟨_, rfl⟩
  rw [OfX, hr] at h1
  simp only [MRow.cells] at h1
  have zX := h3.size
  gi_wp2
  have hc : ∀ (i : Nat) v, (#[.int .i64 z0, .int .i64 z1, .int .i64 z2, .bool b, fnv f] : Array Value)[i]? = some v → (X.putObj D (.deferred none)).cell? ⟨s + 1, i, none⟩ = some v := fun i v h =>
   cell_kept ((blk_cell h1 i).trans h) (grownBy_putObj' _ D (.deferred none)) (fun r e => by cases e; exact ⟨_, hK, rfl⟩)
  have k0 := hc 0 _ rfl
  have k1 := hc 1 _ rfl
  have k2 := hc 2 _ rfl
  have k3 := hc 3 _ rfl
  have k4 := hc 4 _ rfl
  refine ⟨by simp, .inl ⟨_, _, rfl, run_takeDeferred hK, (mechOf kind).val, ?_, rfl, ?_⟩⟩
  · rw [hr]
    simp [results, Tryz.f30, go_sem, k0, k1, k2, k3, k4, MRow.val]
  · rw [Hs.out]
    exact h3.trans (belowK_b (w := w) hzs _ D _ _ (by have := Hs.out; omega) hK rfl rfl)
end Go.Proofs.YtpbmaapdppdagaaGreatDoor.Mc
