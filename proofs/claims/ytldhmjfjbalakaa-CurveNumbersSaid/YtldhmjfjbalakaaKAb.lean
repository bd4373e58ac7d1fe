/- Words for memory, used by all other texts of this seat: a slice that reads as a list; bytes; a list of attributes; append. Nothing here speaks of the program. Plain arithmetic of digits, the lowest first, to a base: nothing of the program. Plain arithmetic of the rounds of sums, differences and products: nothing of the program. The library contracts of math/bits at this program, as the shelf lays them. -/
import Derived.WalkKit
import Derived.WalkSpells
import Derived.WalkLawsBesides
import Derived.Deep.Draws
import Derived.Deep.AppendLies
import Derived.Maps.AppendAt
import Derived.Lib.Hide
import Derived.Shelf.Small.Bits
import Derived.Shelf.Strconv.Itoa0
import Derived.Shelf.Bits.Mul64
import Derived.Test.YtldhmjfjbalakaaProg
import Derived.Shelf.Spec.BitsCarry
namespace Go.Proofs.Ytldhmjfjbalakaa
open Go.RowKit

theorem ret_int {k : IntKind} {a b : Int} (h : a = b) : Ending.returned (.int k a) = .returned (.int k b) := by rw [h]
theorem ret_bool {a b : Bool} (h : a = b) : Ending.returned (.bool a) = .returned (.bool b) := by rw [h]

theorem block_of_add (a : Addr) (n : Nat) : (a.add n).block = a.block := by unfold Addr.add; split <;> rfl
theorem add_of_add (a : Addr) (i j : Nat) : (a.add i).add j = a.add (i + j) := by
  unfold Addr.add
  by_cases hi : i = 0 <;> by_cases hj : j = 0 <;> simp [hi, hj, Nat.add_assoc]

/-- Blocks from lo on, below hi. -/
def In (lo hi b : Nat) : Prop := lo ≤ b ∧ b < hi

/-- The slice at A, of n elements and capacity c, reads as the cells cs, that lie in a block of which P holds. -/
def RS (w : World) (P : Nat → Prop) (size : Nat) (A : Option Addr) (n c : Nat) (cs : List Value) : Prop :=
  n ≤ c ∧ c ≤ maxLen ∧ cs.length = n * size ∧
    (0 < n → ∃ ad, A = some ad ∧ P ad.block ∧ ∀ j u, cs[j]? = some u → w.cell? (ad.add j) = some u)

section
variable {w w' : World} {P P' : Nat → Prop} {size n c : Nat} {A : Option Addr} {cs : List Value}

theorem RS.keep (h : RS w P size A n c cs) (hk : ∀ p : Addr, P p.block → w'.cell? p = w.cell? p) : RS w' P size A n c cs := by
  obtain ⟨h1, h2, h3, h4⟩ := h
  refine ⟨h1, h2, h3, fun hn => ?_⟩
  obtain ⟨ad, e, hb, hc⟩ := h4 hn
  exact ⟨ad, e, hb, fun j u hu => (hk _ (by rw [block_of_add]; exact hb)).trans (hc j u hu)⟩
theorem RS.mono (h : RS w P size A n c cs) (hp : ∀ b, P b → P' b) : RS w P' size A n c cs := by
  obtain ⟨h1, h2, h3, h4⟩ := h
  refine ⟨h1, h2, h3, fun hn => ?_⟩
  obtain ⟨ad, e, hb, hc⟩ := h4 hn
  exact ⟨ad, e, hp _ hb, hc⟩
theorem RS.below {B : Nat} (h : RS w P size A n c cs) (hb : Below B w w') (hB : ∀ b, P b → b < B) : RS w' P size A n c cs := h.keep fun _ hp => hb.cell (hB _ hp)
theorem RS.nil_ (w : World) (P : Nat → Prop) (size : Nat) : RS w P size none 0 0 [] := ⟨by omega, by unfold maxLen; omega, by simp, fun h => absurd h (by omega)⟩
theorem RS.of_own {base : Nat} {e : TypeId} (h : w.ownsRow base e size (.slice A n c) n cs) : RS w (In base w.heap.size) size A n c cs := by
  have hlt := h.lt
  have hcell := fun g => h.cells (g := g)
  obtain ⟨h0, ⟨e1, rfl⟩ | ⟨g, cap, cur, e1, hg, hh, h5, h6, h7, h8⟩⟩ := h
  · injection e1 with e1 e2 e3
    subst e1 e3
    exact ⟨by omega, by unfold maxLen; omega, h0, fun h => absurd h (by omega)⟩
  · injection e1 with e1 e2 e3
    subst e1 e3
    have := hlt g rfl
    exact ⟨h5, h6, h0, fun _ => ⟨_, rfl, ⟨hg, this.2⟩, hcell g rfl⟩⟩
theorem own_shape {base : Nat} {e : TypeId} {v : Value} (h : w.ownsRow base e size v n cs) : ∃ A c, v = .slice A n c := by
  obtain ⟨h0, ⟨rfl, rfl⟩ | ⟨g, cap, cur, rfl, hg, hh, h5, h6, h7, h8⟩⟩ := h
  · exact ⟨_, _, rfl⟩
  · exact ⟨_, _, rfl⟩
/-- What is owned stays so where new blocks alone were made. -/
theorem own_kept {w w' : World} {base : Nat} {e : TypeId} {v : Value} (h : w.ownsRow base e size v n cs) (hg : w.grownBy w' none) : w'.ownsRow base e size v n cs :=
  h.kept hg (by cases v.ownBlock <;> simp)
theorem below_drewN {B : Nat} {a w : World} (h : Below B a w) (n : Nat) : Below B a (w.drewN n) := ⟨h.os, h.tape, h.output, h.size, h.block⟩
/-- A block that is known whole: its cells, and that none is frozen. -/
theorem blk_cell {w : World} {B : Nat} {cs : Array Value} {t : TypeId} (h : w.heap[B]? = some (.cells cs t (0, 0))) (i : Nat) : w.cell? ⟨B, i, none⟩ = cs[i]? := cell_of_row w B i cs t (0, 0) h
theorem blk_free {w : World} {B : Nat} {cs : Array Value} {t : TypeId} (h : w.heap[B]? = some (.cells cs t (0, 0))) (i : Nat) : w.frozen? ⟨B, i, none⟩ = false := by simp [World.frozen?, h]
theorem blk_lt {w : World} {B : Nat} {o : Obj} (h : w.heap[B]? = some o) : B < w.heap.size := (Array.getElem?_eq_some_iff.1 h).1
/-- A block that was just laid reads as its cells. -/
theorem RS.fresh {w : World} {P : Nat → Prop} (cs : Array Value) (t : TypeId) (size n : Nat) (h : cs.size = n * size) (hn : n ≤ maxLen) (hP : P w.heap.size) : RS (w.alloc (.cells cs t)) P size (some ⟨w.heap.size, 0, none⟩) n n cs.toList :=
  ⟨Nat.le_refl _, hn, by simpa using h, fun _ => ⟨_, rfl, hP, World.news_of_block (heap_alloc_new w _)⟩⟩
/-- A cut '[k:m]' of what reads. -/
theorem RS.sub {c' k m : Nat} (h : RS w P size A n c cs) (hkm : k ≤ m) (hm : m ≤ n) (hc : m - k ≤ c') (hc' : c' ≤ maxLen) {A' : Option Addr} (hA : k < m → A' = A.map (·.add (k * size))) :
    RS w P size A' (m - k) c' ((cs.drop (k * size)).take ((m - k) * size)) := by
  obtain ⟨h1, h2, h3, h4⟩ := h
  refine ⟨hc, hc', ?_, fun hn => ?_⟩
  · rw [List.length_take, List.length_drop, h3, ← Nat.sub_mul]
    exact Nat.min_eq_left (Nat.mul_le_mul_right _ (by omega))
  · obtain ⟨ad, rfl, hb, hc⟩ := h4 (by omega)
    rw [hA (by omega)]
    refine ⟨ad.add (k * size), rfl, by rw [block_of_add]; exact hb, fun j u hu => ?_⟩
    rw [add_of_add]
    apply hc
    rw [List.getElem?_take] at hu
    split at hu
    · rw [← hu, List.getElem?_drop]
    · cases hu
/-- A cut '[:m]'. -/
theorem RS.pre {m : Nat} (h : RS w P size A n c cs) (hm : m ≤ n) : RS w P size A m c (cs.take (m * size)) := by
  have := h.1
  have := h.2.1
  have := h.sub (k := 0) (m := m) (c' := c) (A' := A) (by omega) hm (by omega) (by omega) (fun _ => by cases A <;> simp [Addr.add])
  simpa using this
end

/-- Bytes as cells. -/
def bys (bs : List Nat) : List Value := bs.map fun b : Nat => .int .u8 (b : Int)
/-- The slice reads as the bytes bs. -/
def RB (w : World) (P : Nat → Prop) (A : Option Addr) (c : Nat) (bs : List Nat) : Prop := RS w P 1 A bs.length c (bys bs) ∧ (∀ b ∈ bs, b < 256) ∧ bs.length ≤ 140737488355328

/-- The slice reads as a list of attributes. -/
def RA (w : World) (P : Nat → Prop) (A : Option Addr) (c : Nat) (l : List (Int × List Nat)) : Prop :=
  ∃ cs, RS w P 2 A l.length c cs ∧ ∀ j x, l[j]? = some x → cs[j * 2]? = some (.int .i64 x.1) ∧ ∃ A' c', cs[j * 2 + 1]? = some (.slice A' x.2.length c') ∧ RB w P A' c' x.2

section
variable {w w' : World} {P P' : Nat → Prop} {A : Option Addr} {c : Nat} {bs : List Nat} {l : List (Int × List Nat)}
theorem RB.keep (h : RB w P A c bs) (hk : ∀ p : Addr, P p.block → w'.cell? p = w.cell? p) : RB w' P A c bs := ⟨h.1.keep hk, h.2⟩
theorem RB.mono (h : RB w P A c bs) (hp : ∀ b, P b → P' b) : RB w P' A c bs := ⟨h.1.mono hp, h.2⟩
theorem RB.below {B : Nat} (h : RB w P A c bs) (hb : Below B w w') (hB : ∀ b, P b → b < B) : RB w' P A c bs := ⟨h.1.below hb hB, h.2⟩
theorem RB.cap (h : RB w P A c bs) : bs.length ≤ c ∧ c ≤ 9223372036854775807 ∧ bs.length ≤ 140737488355328 := ⟨h.1.1, h.1.2.1, h.2.2⟩
theorem RB.nil_ (w : World) (P : Nat → Prop) : RB w P none 0 [] := ⟨RS.nil_ _ _ _, by simp, by simp⟩
theorem RA.keep (h : RA w P A c l) (hk : ∀ p : Addr, P p.block → w'.cell? p = w.cell? p) : RA w' P A c l := by
  obtain ⟨cs, h1, h2⟩ := h
  exact ⟨cs, h1.keep hk, fun j x hx => by obtain ⟨h3, A', c', h4, h5⟩ := h2 j x hx; exact ⟨h3, A', c', h4, h5.keep hk⟩⟩
theorem RA.mono (h : RA w P A c l) (hp : ∀ b, P b → P' b) : RA w P' A c l := by
  obtain ⟨cs, h1, h2⟩ := h
  exact ⟨cs, h1.mono hp, fun j x hx => by obtain ⟨h3, A', c', h4, h5⟩ := h2 j x hx; exact ⟨h3, A', c', h4, h5.mono hp⟩⟩
theorem RA.below {B : Nat} (h : RA w P A c l) (hb : Below B w w') (hB : ∀ b, P b → b < B) : RA w' P A c l := h.keep fun _ hp => hb.cell (hB _ hp)
theorem RA.cap (h : RA w P A c l) : l.length ≤ c ∧ c ≤ 9223372036854775807 := by obtain ⟨cs, h1, h2⟩ := h; exact ⟨h1.1, h1.2.1⟩
theorem RA.nil_ (w : World) (P : Nat → Prop) : RA w P none 0 [] := ⟨[], RS.nil_ _ _ _, by simp⟩
/-- One element of a list of attributes, with the cells that the walk reads. -/
theorem RA.at_ (h : RA w P A c l) {i : Nat} (hi' : i < l.length) :
    ∃ ad A' c', A = some ad ∧ P ad.block ∧ w.cell? (ad.add (i * 2)) = some (.int .i64 (l[i]).1) ∧ w.cell? ⟨(ad.add (i * 2)).block, (ad.add (i * 2)).off + 1, none⟩ = some (.slice A' (l[i]).2.length c') ∧ RB w P A' c' (l[i]).2 := by
  obtain ⟨cs, ⟨h1, h2, h3, h4⟩, h5⟩ := h
  obtain ⟨ad, rfl, hb, hc⟩ := h4 (by omega)
  obtain ⟨h6, A', c', h7, h8⟩ := h5 i _ (List.getElem?_eq_getElem hi')
  exact ⟨ad, A', c', rfl, hb, hc _ _ h6, by have := hc _ _ h7; rwa [← add_of_add] at this, h8⟩
theorem RB.at_ (h : RB w P A c bs) {i : Nat} (hi' : i < bs.length) : ∃ ad, A = some ad ∧ P ad.block ∧ w.cell? (ad.add i) = some (.int .u8 (bs[i] : Int)) ∧ (bs[i] : Int) < 256 := by
  obtain ⟨⟨h1, h2, h3, h4⟩, h5, _⟩ := h
  obtain ⟨ad, rfl, hb, hc⟩ := h4 (by omega)
  exact ⟨ad, rfl, hb, hc _ _ (by simp [bys, List.getElem?_eq_getElem hi']), by have := h5 _ (List.getElem_mem hi'); omega⟩
end

section
variable {P : Program} (w : World)
theorem run_append_of_nil (base : Nat) (t ty e : TypeId) (i : TypeInfo) (size : Nat) (ht : P.underlying t = some (.slice e)) (hi : P.info? e = some i)
    (v : Value) (n : Nat) (xs : List Value) (hown : w.ownsRow base e size v n xs) (c : Nat) : (Builtin.append_ #[t, t] ty #[v, .slice none 0 c]).run P w = .ok v w := by
  rcases hown.2 with ⟨rfl, rfl⟩ | ⟨g, cap, cur, rfl, _, _, hnc, _⟩
  · simp [Builtin.append_, run_underlying ht, sizeOf, typeInfo, hi, Builtin.lenOf, Builtin.firstCells]
  · simp [Builtin.append_, run_underlying ht, sizeOf, typeInfo, hi, Builtin.lenOf, Builtin.firstCells, hnc, storeCells]

theorem run_append_rs (base : Nat) (t ty e : TypeId) (i : TypeInfo) (z : Value) (size bytes : Nat) (ht : P.underlying t = some (.slice e)) (hi : P.info? e = some i) (hz : i.zero = some z)
    (hsize : i.size = size) (hby : i.bytes = bytes) (hzs : z.cells.size = size) (hsz : 0 < size)
    (v : Value) (n : Nat) (xs : List Value) (hown : w.ownsRow base e size v n xs)
    (Q : Nat → Prop) (A : Option Addr) (m c : Nat) (news : List Value) (hr : RS w Q size A m c news) (h1 : ∀ u ∈ news, u.oneCell' = true)
    (h63 : n + m ≤ maxLen) (hbytes : (n + m) * bytes ≤ 140737488355328) (hbase : base ≤ w.heap.size) :
    ∃ A' c' w', (Builtin.append_ #[t, t] ty #[v, .slice A m c]).run P w = .ok (.slice A' (n + m) c') w' ∧ w'.ownsRow base e size (.slice A' (n + m) c') (n + m) (xs ++ news) ∧ w.grownBy w' v.ownBlock ∧
      ((Value.slice A' (n + m) c').ownBlock = v.ownBlock ∨ (Value.slice A' (n + m) c').ownBlock = some w.heap.size) := by
  rcases A with _ | ad
  · have hm : m = 0 := by
      rcases Nat.eq_zero_or_pos m with h0 | h0
      · exact h0
      · obtain ⟨ad, h, _⟩ := hr.2.2.2 h0
        cases h
    subst hm
    have hn : news = [] := List.eq_nil_of_length_eq_zero (by simpa using hr.2.2.1)
    subst hn
    obtain ⟨A', c', rfl⟩ := own_shape hown
    exact ⟨A', c', w, run_append_of_nil w base t ty e i size ht hi _ n xs hown c, by simpa using hown, World.grownBy.refl w _, .inl rfl⟩
  · have hcells : ∀ j u, news[j]? = some u → w.cell? (ad.add j) = some u := by
      intro j u hu
      rcases Nat.eq_zero_or_pos m with h0 | h0
      · subst h0
        have hn : news = [] := List.eq_nil_of_length_eq_zero (by simpa using hr.2.2.1)
        subst hn
        simp at hu
      · obtain ⟨ad', h, _, hc⟩ := hr.2.2.2 h0
        injection h with h
        subst h
        exact hc j u hu
    obtain ⟨v', w', hrun, h2, h3, _, h5⟩ := run_append_own_at (P := P) w base t ty e i z size bytes ht hi hz hsize hby hzs hsz v n xs hown ad m c news hr.2.2.1 hcells h1 h63 hbytes hbase
    obtain ⟨A', c', rfl⟩ := own_shape h2
    exact ⟨A', c', w', hrun, h2, h3, h5⟩

theorem wp_append_rs {o : Oper} {a : Act} {K : Act → World → Prop} {Q : Exit → Act → World → Prop} (s x : Operand) (t : TypeId)
    (ho : o.op = .call { callee := .builtin .append, args := #[s, x], argTypes := #[t, t] })
    (base : Nat) (e : TypeId) (i : TypeInfo) (z : Value) (size bytes : Nat) (ht : P.underlying t = some (.slice e)) (hi : P.info? e = some i) (hz : i.zero = some z)
    (hsize : i.size = size) (hby : i.bytes = bytes) (hzs : z.cells.size = size) (hsz : 0 < size)
    (v : Value) (n : Nat) (xs : List Value) (hs : a.eval s = v) (hown : w.ownsRow base e size v n xs)
    (B : Nat → Prop) (A : Option Addr) (m c : Nat) (news : List Value) (hx : a.eval x = .slice A m c) (hr : RS w B size A m c news) (h1 : ∀ u ∈ news, u.oneCell' = true)
    (k : Nat) (hk : n + m = k) (h63 : n + m ≤ maxLen) (hbytes : (n + m) * bytes ≤ 140737488355328) (hbase : base ≤ w.heap.size)
    (h : ∀ A' c' w', w'.ownsRow base e size (.slice A' k c') k (xs ++ news) → w.grownBy w' v.ownBlock → ((Value.slice A' k c').ownBlock = v.ownBlock ∨ (Value.slice A' k c').ownBlock = some w.heap.size) → K (a.put o.dst (.slice A' k c')) w') : o.wp P a w K Q := by
  subst hk
  obtain ⟨A', c', w', hrun, h2, h3, h4⟩ := run_append_rs (P := P) w base t o.type e i z size bytes ht hi hz hsize hby hzs hsz v n xs hown B A m c news hr h1 h63 hbytes hbase
  unfold Oper.wp execOp
  simp only [ho, resolve, invoke, builtin, Sem.run_bind, Sem.run_pure, Result.andThen_ok, List.map_toArray, List.map_cons, List.map_nil, hs, hx, hrun]
  exact h A' c' w' h2 h3 h4

/-- append onto a row of the call's own, the source whatever reads. -/
theorem wpList_append_rs {ops : Array Oper} {rest : List Oper} {o : Oper} {a : Act} {Q : Exit → Act → World → Prop} (hgd : o.guard = none) (s x : Operand) (t : TypeId)
    (ho : o.op = .call { callee := .builtin .append, args := #[s, x], argTypes := #[t, t] })
    (base : Nat) (e : TypeId) (i : TypeInfo) (z : Value) (size bytes : Nat) (ht : P.underlying t = some (.slice e)) (hi : P.info? e = some i) (hz : i.zero = some z)
    (hsize : i.size = size) (hby : i.bytes = bytes) (hzs : z.cells.size = size) (hsz : 0 < size)
    (v : Value) (n : Nat) (xs : List Value) (hs : a.eval s = v) (hown : w.ownsRow base e size v n xs)
    (B : Nat → Prop) (A : Option Addr) (m c : Nat) (news : List Value) (hx : a.eval x = .slice A m c) (hr : RS w B size A m c news) (h1 : ∀ u ∈ news, u.oneCell' = true)
    (k : Nat) (hk : n + m = k) (h63 : n + m ≤ maxLen) (hbytes : (n + m) * bytes ≤ 140737488355328) (hbase : base ≤ w.heap.size)
    (h : ∀ A' c' w', w'.ownsRow base e size (.slice A' k c') k (xs ++ news) → w.grownBy w' v.ownBlock → ((Value.slice A' k c').ownBlock = v.ownBlock ∨ (Value.slice A' k c').ownBlock = some w.heap.size) → wpList P ops Q rest (a.put o.dst (.slice A' k c')) w') : wpList P ops Q (o :: rest) a w :=
  wpList_plain hgd fun _ hK => wp_append_rs w s x t ho base e i z size bytes ht hi hz hsize hby hzs hsz v n xs hs hown B A m c news hx hr h1 k hk h63 hbytes hbase fun A' c' w' h2 h3 h4 => hK _ _ (h A' c' w' h2 h3 h4)

theorem step_append_rs {ops : Array Oper} {o : Oper} {a : Act} {K : Act → World → Prop} {Q : Exit → Act → World → Prop} {E : Prop} (hgd : o.guard = none) (s x : Operand) (t : TypeId)
    (ho : o.op = .call { callee := .builtin .append, args := #[s, x], argTypes := #[t, t] })
    (base : Nat) (e : TypeId) (i : TypeInfo) (z : Value) (size bytes : Nat) (ht : P.underlying t = some (.slice e)) (hi : P.info? e = some i) (hz : i.zero = some z)
    (hsize : i.size = size) (hby : i.bytes = bytes) (hzs : z.cells.size = size) (hsz : 0 < size)
    (v : Value) (n : Nat) (xs : List Value) (hs : a.eval s = v) (hown : w.ownsRow base e size v n xs)
    (B : Nat → Prop) (A : Option Addr) (m c : Nat) (news : List Value) (hx : a.eval x = .slice A m c) (hr : RS w B size A m c news) (h1 : ∀ u ∈ news, u.oneCell' = true)
    (k : Nat) (hk : n + m = k) (h63 : n + m ≤ maxLen) (hbytes : (n + m) * bytes ≤ 140737488355328) (hbase : base ≤ w.heap.size)
    (h : ∀ A' c' w', w'.ownsRow base e size (.slice A' k c') k (xs ++ news) → w.grownBy w' v.ownBlock → ((Value.slice A' k c').ownBlock = v.ownBlock ∨ (Value.slice A' k c').ownBlock = some w.heap.size) → K (a.put o.dst (.slice A' k c')) w') :
    if Region.wanted o (yielded ops a.tmps) = true then Oper.wp P o a w K Q else E := by
  have hw : Region.wanted o (yielded ops a.tmps) = true := by simp [Region.wanted, hgd]
  rw [if_pos hw]
  exact wp_append_rs w s x t ho base e i z size bytes ht hi hz hsize hby hzs hsz v n xs hs hown B A m c news hx hr h1 k hk h63 hbytes hbase h
end
end Go.Proofs.Ytldhmjfjbalakaa

namespace Go.Proofs.Ytldhmjfjbalakaa

/-- The number of digits to the base B, the lowest first. -/
def val (B : Nat) : List Nat → Nat
  | [] => 0
  | x :: l => x + B * val B l
/-- A number's digits to the base B, none at the end that is 0. -/
def digs (B : Nat) (n : Nat) : List Nat := if _h : 2 ≤ B ∧ 0 < n then n % B :: digs B (n / B) else []
termination_by n
decreasing_by exact Nat.div_lt_self _h.2 _h.1

@[simp] theorem val_nil (B : Nat) : val B [] = 0 := rfl
@[simp] theorem val_cons (B x : Nat) (l : List Nat) : val B (x :: l) = x + B * val B l := rfl
theorem digs_zero (B : Nat) : digs B 0 = [] := by rw [digs]; simp
theorem digs_pos {B n : Nat} (hB : 2 ≤ B) (hn : 0 < n) : digs B n = n % B :: digs B (n / B) := by rw [digs]; simp [hB, hn]
theorem val_digs {B : Nat} (hB : 2 ≤ B) (n : Nat) : val B (digs B n) = n := by
  induction n using Nat.strongRecOn with
  | ind n ih =>
    rcases Nat.eq_zero_or_pos n with h | h
    · subst h; rw [digs_zero]; rfl
    · rw [digs_pos hB h, val_cons, ih _ (Nat.div_lt_self h hB)]
      exact Nat.mod_add_div n B
theorem digs_lt {B : Nat} (hB : 2 ≤ B) (n : Nat) : ∀ x ∈ digs B n, x < B := by
  induction n using Nat.strongRecOn with
  | ind n ih =>
    rcases Nat.eq_zero_or_pos n with h | h
    · subst h; rw [digs_zero]; simp
    · rw [digs_pos hB h]
      intro x hx
      rcases List.mem_cons.1 hx with rfl | hx
      · exact Nat.mod_lt _ (by omega)
      · exact ih _ (Nat.div_lt_self h hB) x hx
theorem val_append (B : Nat) (l m : List Nat) : val B (l ++ m) = val B l + B ^ l.length * val B m := by
  induction l with
  | nil => simp
  | cons x l ih => simp [ih, Nat.pow_succ, Nat.mul_add, Nat.mul_assoc, Nat.mul_comm, Nat.add_assoc]
theorem val_lt {B : Nat} {l : List Nat} (h : ∀ x ∈ l, x < B) : val B l < B ^ l.length := by
  induction l with
  | nil => simp
  | cons x l ih =>
    have h1 := h x (by simp)
    have h2 := ih fun y hy => h y (by simp [hy])
    simp only [val_cons, List.length_cons, Nat.pow_succ]
    have : B * (val B l + 1) ≤ B * B ^ l.length := Nat.mul_le_mul_left _ h2
    rw [Nat.mul_add] at this
    rw [Nat.mul_comm (B ^ l.length)]
    omega
theorem val_zeros {B : Nat} {l : List Nat} (h : ∀ x ∈ l, x = 0) : val B l = 0 := by
  induction l with
  | nil => rfl
  | cons x l ih => rw [val_cons, h x (by simp), ih fun y hy => h y (by simp [hy])]; simp
theorem val_replicate (B n : Nat) : val B (List.replicate n 0) = 0 := val_zeros (by simp)
theorem val_take_drop (B : Nat) (l : List Nat) {n : Nat} (hn : n ≤ l.length) : val B l = val B (l.take n) + B ^ n * val B (l.drop n) := by
  have := val_append B (l.take n) (l.drop n)
  rwa [List.take_append_drop, List.length_take, Nat.min_eq_left hn] at this
theorem val_take_succ (B : Nat) {l : List Nat} {n : Nat} (hn : n < l.length) : val B (l.take (n + 1)) = val B (l.take n) + B ^ n * l[n] := by
  rw [List.take_succ_eq_append_getElem hn, val_append, List.length_take, Nat.min_eq_left (by omega)]
  simp
theorem val_set (B : Nat) {l : List Nat} {n : Nat} (hn : n < l.length) (x : Nat) : val B (l.set n x) + B ^ n * l[n] = val B l + B ^ n * x := by
  have h1 := val_take_drop B l (Nat.le_of_lt hn)
  have h2 := val_take_drop B (l.set n x) (n := n) (by simp; omega)
  have h3 : l.drop n = l[n] :: l.drop (n + 1) := List.drop_eq_getElem_cons hn
  have h4 : (l.set n x).drop n = x :: l.drop (n + 1) := by
    rw [List.drop_set, if_neg (Nat.lt_irrefl _), h3, Nat.sub_self, List.set_cons_zero]
  have h5 : (l.set n x).take n = l.take n := by rw [List.take_set]; apply List.set_eq_of_length_le; simp; omega
  rw [h4, h5, val_cons] at h2
  rw [h3, val_cons] at h1
  rw [h1, h2]
  simp only [Nat.mul_add]
  omega
/-- Digits, none at the end that is 0, are those of their number. -/
theorem digs_val {B : Nat} (hB : 2 ≤ B) : ∀ {l : List Nat}, (∀ x ∈ l, x < B) → (∀ h : l ≠ [], l.getLast h ≠ 0) → digs B (val B l) = l
  | [], _, _ => digs_zero B
  | x :: l, h, hl => by
    have hx := h x (by simp)
    have hpos : 0 < val B (x :: l) := by
      rcases Nat.eq_zero_or_pos (val B (x :: l)) with h0 | h0
      · exfalso
        have hz : ∀ (m : List Nat) (hm : m ≠ []), val B m = 0 → m.getLast hm = 0 := by
          intro m
          induction m with
          | nil => intro hm; exact absurd rfl hm
          | cons y m ih =>
            intro hm hv
            rw [val_cons] at hv
            have hy : y = 0 := by omega
            have hB0 : B * val B m = 0 := by omega
            rcases Nat.mul_eq_zero.1 hB0 with h' | h'
            · omega
            · rcases m with _ | ⟨z, m⟩
              · simpa using hy
              · rw [List.getLast_cons (by simp)]; exact ih (by simp) h'
        exact hl (by simp) (hz _ _ h0)
      · exact h0
    rw [digs_pos hB hpos]
    have e1 : val B (x :: l) % B = x := by rw [val_cons, Nat.add_mul_mod_self_left, Nat.mod_eq_of_lt hx]
    have e2 : val B (x :: l) / B = val B l := by rw [val_cons, Nat.add_mul_div_left _ _ (by omega), Nat.div_eq_of_lt hx]; omega
    rw [e1, e2, digs_val hB (fun y hy => h y (by simp [hy])) fun hne => by
      have := hl (by simp)
      rwa [List.getLast_cons hne] at this]
theorem digs_last {B : Nat} (hB : 2 ≤ B) (n : Nat) (h : digs B n ≠ []) : (digs B n).getLast h ≠ 0 := by
  induction n using Nat.strongRecOn with
  | ind n ih =>
    rcases Nat.eq_zero_or_pos n with h0 | h0
    · subst h0; exact absurd (digs_zero B) h
    · rcases Nat.eq_zero_or_pos (n / B) with h1 | h1
      · have e : digs B n = [n % B] := by rw [digs_pos hB h0, h1, digs_zero]
        have hlt : n < B := by rcases Nat.lt_or_ge n B with h | h; exact h; have := Nat.div_pos h (by omega); omega
        simp only [e, List.getLast_singleton]
        rw [Nat.mod_eq_of_lt hlt]; omega
      · have e := digs_pos hB h0
        have hne : digs B (n / B) ≠ [] := by rw [digs_pos hB h1]; simp
        simp only [e, List.getLast_cons hne]
        exact ih _ (Nat.div_lt_self h0 hB) hne
theorem digs_inj {B : Nat} (hB : 2 ≤ B) {m n : Nat} (h : digs B m = digs B n) : m = n := by rw [← val_digs hB m, h, val_digs hB]
theorem digs_nil {B : Nat} (hB : 2 ≤ B) {n : Nat} : digs B n = [] ↔ n = 0 :=
  ⟨fun h => by have := val_digs hB n; rw [h] at this; simpa using this.symm, fun h => by rw [h, digs_zero]⟩
/-- What is left when the noughts at the end are cut. -/
theorem take_digs {B : Nat} (hB : 2 ≤ B) {l : List Nat} (hl : ∀ x ∈ l, x < B) {n : Nat} (hn : n ≤ l.length) (hz : ∀ x ∈ l.drop n, x = 0) (h0 : 0 < n → l.getD (n - 1) 0 ≠ 0) : l.take n = digs B (val B l) := by
  have e : val B l = val B (l.take n) := by rw [val_take_drop B l hn, val_zeros hz]; simp
  rw [e]
  refine (digs_val hB (fun x hx => hl x (List.mem_of_mem_take hx)) fun hne => ?_).symm
  have hn0 : 0 < n := by
    rcases Nat.eq_zero_or_pos n with h | h
    · subst h; simp at hne
    · exact h
  have := h0 hn0
  rw [List.getLast_eq_getElem, List.getElem_take]
  simp only [List.length_take, Nat.min_eq_left hn]
  rwa [List.getD_eq_getElem?_getD, List.getElem?_eq_getElem (by omega), Option.getD_some] at this
theorem digs_length_le {B : Nat} (hB : 2 ≤ B) {l : List Nat} (hl : ∀ x ∈ l, x < B) : (digs B (val B l)).length ≤ l.length := by
  rcases Nat.lt_or_ge l.length (digs B (val B l)).length with h | h
  · exfalso
    have h1 := val_lt hl
    have hne : digs B (val B l) ≠ [] := by intro e; rw [e] at h; simp at h
    have h2 : B ^ ((digs B (val B l)).length - 1) ≤ val B l := by
      generalize val B l = v at hne ⊢
      have := digs_last hB v hne
      have h3 := val_digs hB v
      obtain ⟨m, x, hm⟩ : ∃ m x, digs B v = m ++ [x] := ⟨_, _, (List.dropLast_concat_getLast hne).symm⟩
      have hx : x ≠ 0 := by have h4 : (digs B v).getLast hne = x := by simp [hm]
                            rw [h4] at this; exact this
      rw [hm, val_append] at h3
      rw [hm]
      simp at h3 ⊢
      rw [← h3]
      have : B ^ m.length * 1 ≤ B ^ m.length * x := Nat.mul_le_mul_left _ (by omega)
      omega
    have h3 : B ^ l.length ≤ B ^ ((digs B (val B l)).length - 1) := Nat.pow_le_pow_right (by omega) (by omega)
    omega
  · exact h
theorem pow_digs_le {B : Nat} (hB : 2 ≤ B) {v : Nat} (hv : 0 < v) : B ^ ((digs B v).length - 1) ≤ v := by
  have hne : digs B v ≠ [] := by rw [digs_pos hB hv]; simp
  have := digs_last hB v hne
  have h3 := val_digs hB v
  obtain ⟨m, x, hm⟩ : ∃ m x, digs B v = m ++ [x] := ⟨_, _, (List.dropLast_concat_getLast hne).symm⟩
  have hx : x ≠ 0 := by
    have h4 : (digs B v).getLast hne = x := by simp [hm]
    rw [h4] at this; exact this
  rw [hm, val_append] at h3
  rw [hm]
  simp at h3 ⊢
  rw [← h3]
  have : B ^ m.length * 1 ≤ B ^ m.length * x := Nat.mul_le_mul_left _ (by omega)
  omega
theorem lt_pow_digs {B : Nat} (hB : 2 ≤ B) (v : Nat) : v < B ^ (digs B v).length := by
  have := val_lt (digs_lt hB v)
  rwa [val_digs hB] at this
theorem digs_length_of_lt {B : Nat} (hB : 2 ≤ B) {v n : Nat} (h : v < B ^ n) : (digs B v).length ≤ n := by
  rcases Nat.eq_zero_or_pos v with h0 | h0
  · subst h0; rw [digs_zero]; simp
  · have h1 := pow_digs_le hB h0
    rcases Nat.lt_or_ge n (digs B v).length with h2 | h2
    · have : B ^ n ≤ B ^ ((digs B v).length - 1) := Nat.pow_le_pow_right (by omega) (by omega)
      omega
    · exact h2
theorem digs_length_mono {B : Nat} (hB : 2 ≤ B) {m n : Nat} (h : m ≤ n) : (digs B m).length ≤ (digs B n).length :=
  digs_length_of_lt hB (Nat.lt_of_le_of_lt h (lt_pow_digs hB n))
/-- Orders: fewer digits. -/
theorem lt_of_digs_length {B : Nat} (hB : 2 ≤ B) {m n : Nat} (h : (digs B m).length < (digs B n).length) : m < n := by
  rcases Nat.lt_or_ge m n with h1 | h1
  · exact h1
  · have := digs_length_mono hB h1; omega
/-- Orders: the highest digit that is another one decides. -/
theorem val_lt_of {B : Nat} {l m : List Nat} (hl : ∀ x ∈ l, x < B) (hlen : l.length = m.length) {i : Nat} (hi : i < l.length) (hd : l.drop (i + 1) = m.drop (i + 1)) (h : l[i] < m[i]'(by omega)) : val B l < val B m := by
  have h1 := val_take_drop B l (n := i + 1) (by omega)
  have h2 := val_take_drop B m (n := i + 1) (by omega)
  rw [val_take_succ B hi] at h1
  rw [val_take_succ B (by omega)] at h2
  have h3 : val B (l.take i) < B ^ i := by
    have := val_lt (B := B) (l := l.take i) fun x hx => hl x (List.mem_of_mem_take hx)
    rwa [List.length_take, Nat.min_eq_left (by omega)] at this
  have h4 : B ^ i * (l[i] + 1) ≤ B ^ i * m[i]'(by omega) := Nat.mul_le_mul_left _ h
  rw [Nat.mul_add] at h4
  rw [hd] at h1
  omega
end Go.Proofs.Ytldhmjfjbalakaa

namespace Go.Proofs.Ytldhmjfjbalakaa

/-- The digit at place i; 0 beyond the end. -/
def dg (l : List Nat) (i : Nat) : Nat := l.getD i 0

theorem getD_eq' {l : List Nat} {i : Nat} (h : i < l.length) : l.getD i 0 = l[i] := by
  rw [List.getD_eq_getElem?_getD, List.getElem?_eq_getElem h, Option.getD_some]
theorem val_take_getD (B : Nat) (l : List Nat) (k : Nat) : val B (l.take (k + 1)) = val B (l.take k) + B ^ k * dg l k := by
  rcases Nat.lt_or_ge k l.length with h | h
  · rw [val_take_succ B h, dg, List.getD_eq_getElem?_getD, List.getElem?_eq_getElem h, Option.getD_some]
  · rw [List.take_of_length_le (by omega), List.take_of_length_le h, dg, List.getD_eq_getElem?_getD, List.getElem?_eq_none h]
    simp
theorem val_take_set (B : Nat) {o : List Nat} {k : Nat} (h : k < o.length) (s : Nat) : val B ((o.set k s).take (k + 1)) = val B (o.take k) + B ^ k * s := by
  rw [val_take_getD, List.take_set, List.set_eq_of_length_le (by simp; omega), dg, List.getD_eq_getElem?_getD, List.getElem?_set_self h, Option.getD_some]
/-- Behind k rounds of a sum: the digits that are laid, and the carry. -/
def AddAt (B : Nat) (a b o : List Nat) (k c : Nat) : Prop := val B (o.take k) + B ^ k * c = val B (a.take k) + val B (b.take k)
theorem AddAt.zero (B : Nat) (a b o : List Nat) : AddAt B a b o 0 0 := by simp [AddAt]
theorem AddAt.step {B : Nat} {a b o : List Nat} {k c s c' : Nat} (h : AddAt B a b o k c) (hk : k < o.length) (he : s + B * c' = dg a k + dg b k + c) : AddAt B a b (o.set k s) (k + 1) c' := by
  unfold AddAt at *
  rw [val_take_set B hk, val_take_getD, val_take_getD, Nat.pow_succ]
  have : B ^ k * (s + B * c') = B ^ k * (dg a k + dg b k + c) := by rw [he]
  simp only [Nat.mul_add, ← Nat.mul_assoc] at this
  omega
/-- Behind the last round: the carry is laid too. -/
theorem AddAt.fin {B : Nat} {a b o : List Nat} {k c : Nat} (h : AddAt B a b o k c) (hk : o.length = k + 1) (ha : a.length ≤ k) (hb : b.length ≤ k) : val B (o.set k c) = val B a + val B b := by
  unfold AddAt at h
  rw [List.take_of_length_le ha, List.take_of_length_le hb] at h
  have := val_take_set B (o := o) (k := k) (by omega) c
  rw [List.take_of_length_le (by simp; omega)] at this
  rw [this, h]
/-- Behind k rounds of a difference. -/
def SubAt (B : Nat) (a b o : List Nat) (k c : Nat) : Prop := val B (o.take k) + val B (b.take k) = val B (a.take k) + B ^ k * c
theorem SubAt.zero (B : Nat) (a b o : List Nat) : SubAt B a b o 0 0 := by simp [SubAt]
theorem SubAt.step {B : Nat} {a b o : List Nat} {k c s c' : Nat} (h : SubAt B a b o k c) (hk : k < o.length) (he : s + dg b k + c = dg a k + B * c') : SubAt B a b (o.set k s) (k + 1) c' := by
  unfold SubAt at *
  rw [val_take_set B hk, val_take_getD, val_take_getD, Nat.pow_succ]
  have : B ^ k * (s + dg b k + c) = B ^ k * (dg a k + B * c') := by rw [he]
  simp only [Nat.mul_add, ← Nat.mul_assoc] at this
  omega
theorem SubAt.fin {B : Nat} {a b o : List Nat} {k c : Nat} (h : SubAt B a b o k c) (hk : o.length = k) (ho : ∀ x ∈ o, x < B) (ha : a.length = k) (hb : b.length ≤ k) (hle : val B b ≤ val B a) : val B o = val B a - val B b := by
  unfold SubAt at h
  rw [List.take_of_length_le (by omega), List.take_of_length_le hb, List.take_of_length_le (by omega)] at h
  have h1 := val_lt ho
  rw [hk] at h1
  rcases Nat.eq_zero_or_pos c with h0 | h0
  · subst h0; omega
  · have : B ^ k * 1 ≤ B ^ k * c := Nat.mul_le_mul_left _ h0
    omega
/-- Within row i of a product, behind j rounds: o0 is what stood when the row began. -/
def MulAt (B : Nat) (o0 b : List Nat) (x i : Nat) (o : List Nat) (j c : Nat) : Prop :=
  o.length = o0.length ∧ val B o + B ^ (i + j) * c = val B o0 + B ^ i * (x * val B (b.take j)) ∧ (∀ n, i + j ≤ n → dg o n = dg o0 n)
theorem MulAt.zero (B : Nat) (o0 b : List Nat) (x i : Nat) : MulAt B o0 b x i o0 0 0 := by simp [MulAt]
theorem getD_set_ne {l : List Nat} {i j x : Nat} (h : i ≠ j) : dg (l.set i x) j = dg l j := by
  simp [dg, List.getD_eq_getElem?_getD, List.getElem?_set_ne h]
theorem getD_set_eq {l : List Nat} {i x : Nat} (h : i < l.length) : dg (l.set i x) i = x := by
  simp [dg, List.getD_eq_getElem?_getD, List.getElem?_set_self h]
theorem getD_eq {l : List Nat} {i : Nat} (h : i < l.length) : dg l i = l[i] := by
  rw [dg, List.getD_eq_getElem?_getD, List.getElem?_eq_getElem h, Option.getD_some]
theorem val_set' (B : Nat) {l : List Nat} {n : Nat} (hn : n < l.length) (x : Nat) : val B (l.set n x) + B ^ n * dg l n = val B l + B ^ n * x := by
  rw [getD_eq hn]; exact val_set B hn x
theorem MulAt.step {B : Nat} {o0 b o : List Nat} {x i j c s c' : Nat} (h : MulAt B o0 b x i o j c) (hk : i + j < o.length) (he : s + B * c' = x * dg b j + dg o (i + j) + c) :
    MulAt B o0 b x i (o.set (i + j) s) (j + 1) c' := by
  obtain ⟨h1, h2, h3⟩ := h
  refine ⟨by simpa using h1, ?_, fun n hn => by rw [getD_set_ne (by omega), h3 n (by omega)]⟩
  have hs := val_set' B hk s
  rw [val_take_getD, ← Nat.add_assoc, Nat.pow_succ]
  have e1 : B ^ (i + j) * (s + B * c') = B ^ (i + j) * (x * dg b j + dg o (i + j) + c) := by rw [he]
  simp only [Nat.mul_add, ← Nat.mul_assoc] at e1 ⊢
  have e2 : B ^ i * x * B ^ j * dg b j = B ^ (i + j) * x * dg b j := by
    rw [Nat.pow_add]; simp only [Nat.mul_comm, Nat.mul_assoc]
  simp only [← Nat.mul_assoc] at h2
  omega
/-- A row's end: the carry is laid; what stood there was nought. -/
theorem MulAt.fin {B : Nat} {o0 b o : List Nat} {x i n c : Nat} (h : MulAt B o0 b x i o n c) (hn : b.length = n) (hk : i + n < o.length) (h0 : dg o0 (i + n) = 0) : val B (o.set (i + n) c) = val B o0 + B ^ i * (x * val B b) := by
  obtain ⟨h1, h2, h3⟩ := h
  have hs := val_set' B hk c
  rw [h3 _ (Nat.le_refl _), h0] at hs
  rw [List.take_of_length_le (by omega)] at h2
  omega
/-- Behind i rows of a product. -/
def RowAt (B : Nat) (a b o : List Nat) (i : Nat) : Prop := o.length = a.length + b.length ∧ val B o = val B (a.take i) * val B b ∧ ∀ n, i + b.length ≤ n → dg o n = 0
theorem RowAt.zero (B : Nat) (a b : List Nat) : RowAt B a b (List.replicate (a.length + b.length) 0) 0 := by
  refine ⟨by simp, by simp [val_replicate], fun n _ => ?_⟩
  rw [dg, List.getD_eq_getElem?_getD, List.getElem?_replicate]
  split <;> rfl
theorem RowAt.step {B : Nat} {a b o0 o : List Nat} {i c : Nat} (h : RowAt B a b o0 i) (hi : i < a.length) (hm : MulAt B o0 b (dg a i) i o b.length c) : RowAt B a b (o.set (i + b.length) c) (i + 1) := by
  obtain ⟨h1, h2, h3⟩ := h
  have hl := hm.1
  refine ⟨by simpa [hl] using h1, ?_, fun n hn => ?_⟩
  · rw [hm.fin rfl (by omega) (h3 _ (Nat.le_refl _)), h2, val_take_getD, Nat.add_mul, Nat.mul_assoc]
  · rw [getD_set_ne (by omega), hm.2.2 n (by omega), h3 n (by omega)]
theorem RowAt.fin {B : Nat} {a b o : List Nat} (h : RowAt B a b o a.length) : val B o = val B a * val B b := by
  have := h.2.1
  rwa [List.take_length] at this
theorem set_lt {B : Nat} {o : List Nat} (h : ∀ x ∈ o, x < B) {k s : Nat} (hs : s < B) : ∀ x ∈ o.set k s, x < B := by
  intro x hx
  rcases List.mem_or_eq_of_mem_set hx with hx | rfl
  · exact h x hx
  · exact hs
/-- What a round of a product comes to stays within two digits. -/
theorem mul_bound {B x y u c : Nat} (hx : x < B) (hy : y < B) (hu : u < B) (hc : c < B) : x * y + u + c < B * B := by
  obtain ⟨n, rfl⟩ : ∃ n, B = n + 1 := ⟨B - 1, by omega⟩
  have : x * y ≤ n * n := Nat.mul_le_mul (by omega) (by omega)
  simp only [Nat.add_mul, Nat.mul_add, Nat.mul_one, Nat.one_mul]
  omega
theorem getD_lt {B : Nat} (hB : 0 < B) {l : List Nat} (h : ∀ x ∈ l, x < B) (i : Nat) : dg l i < B := by
  rcases Nat.lt_or_ge i l.length with hi | hi
  · rw [getD_eq hi]; exact h _ (List.getElem_mem hi)
  · rw [dg, List.getD_eq_getElem?_getD, List.getElem?_eq_none hi]; exact hB
end Go.Proofs.Ytldhmjfjbalakaa

namespace Go.Proofs
open Go.Shelf
def Try.lays134_ren : Go.Shelf.Ren := ⟨fun | 134 => 90 | 129 => 78 | n => n, fun | 53 => 72 | 3 => 3 | 4 => 4 | 46 => 87 | 5 => 5 | 9 => 9 | n => n, fun | n => n⟩
theorem Try.lays134 : Go.Proofs.Lays.n134 Try.prog Try.lays134_ren := {
  mixed := by kernel_rfl
  f129 := Try.func78.trans (congrArg some (by kernel_rfl))
  f134 := Try.func90.trans (congrArg some (by kernel_rfl))
  t3 := Try.underlying3
  a3 := Try.isAgg3
  z3 := Try.sizeOf3
  v3 := Try.zeroValue3
  t4 := Try.underlying4
  a4 := Try.isAgg4
  z4 := Try.sizeOf4
  v4 := Try.zeroValue4
  t5 := Try.underlying5
  a5 := Try.isAgg5
  z5 := Try.sizeOf5
  v5 := Try.zeroValue5
  t9 := Try.underlying9
  a9 := Try.isAgg9
  z9 := Try.sizeOf9
  v9 := Try.zeroValue9
  t46 := Try.underlying87
  a46 := Try.isAgg87
  z46 := Try.sizeOf87
  v46 := Try.zeroValue87
  t53 := Try.underlying72
  a53 := Try.isAgg72
  z53 := Try.sizeOf72
  v53 := Try.zeroValue72 }
/-- bits.LeadingZeros64: "LeadingZeros64 returns the number of leading zero bits in x; the result is 64 for x == 0.": IT RETURNS '64 - Lib.bitLen x'; the world is as it was. ITS CALLEE bits.Len64 IS MET BY ITS OWN CONTRACT OFF THE SHELF (lay that first): entered in place it sends the kernel out of memory. (LAID: no walk: one application.) -/
theorem Try.bits_LeadingZeros64 (x : Int) (w : World) (h0 : 0 ≤ x) (h1 : x ≤ 18446744073709551615) :
    Calls Try.prog 90 #[.int .u64 x] w fun e w' => e = .returned (.int .i64 (64 - (Lib.bitLen x.toNat : Int))) ∧ w' = w := Any.bits_LeadingZeros64 Try.lays134 x w h0 h1
def Try.lays129_ren : Go.Shelf.Ren := ⟨fun | 129 => 78 | n => n, fun | 53 => 72 | 3 => 3 | 4 => 4 | 46 => 87 | 5 => 5 | 9 => 9 | n => n, fun | n => n⟩
theorem Try.lays129 : Go.Proofs.Lays.n129 Try.prog Try.lays129_ren := {
  mixed := by kernel_rfl
  f129 := Try.func78.trans (congrArg some (by kernel_rfl))
  t3 := Try.underlying3
  a3 := Try.isAgg3
  z3 := Try.sizeOf3
  v3 := Try.zeroValue3
  t4 := Try.underlying4
  a4 := Try.isAgg4
  z4 := Try.sizeOf4
  v4 := Try.zeroValue4
  t5 := Try.underlying5
  a5 := Try.isAgg5
  z5 := Try.sizeOf5
  v5 := Try.zeroValue5
  t9 := Try.underlying9
  a9 := Try.isAgg9
  z9 := Try.sizeOf9
  v9 := Try.zeroValue9
  t46 := Try.underlying87
  a46 := Try.isAgg87
  z46 := Try.sizeOf87
  v46 := Try.zeroValue87
  t53 := Try.underlying72
  a53 := Try.isAgg72
  z53 := Try.sizeOf72
  v53 := Try.zeroValue72 }
/-- bits.Len64: "Len64 returns the minimum number of bits required to represent x; the result is 0 for x == 0.": IT RETURNS 'Lib.bitLen x'; the world is as it was. ('h0', 'h1': x is a uint64.) (LAID: no walk: one application.) -/
theorem Try.bits_Len64 (x : Int) (w : World) (h0 : 0 ≤ x) (h1 : x ≤ 18446744073709551615) :
    Calls Try.prog 78 #[.int .u64 x] w fun e w' => e = .returned (.int .i64 (Lib.bitLen x.toNat)) ∧ w' = w := Any.bits_Len64 Try.lays129 x w h0 h1
def Try.lays264_ren : Go.Shelf.Ren := ⟨fun | 264 => 99 | n => n, fun | 53 => 72 | 46 => 87 | n => n, fun | n => n⟩
theorem Try.lays264 : Go.Proofs.Lays.n264 Try.prog Try.lays264_ren := {
  mixed := by kernel_rfl
  f264 := Try.func99.trans (congrArg some (by kernel_rfl))
  t46 := Try.underlying87
  a46 := Try.isAgg87
  z46 := Try.sizeOf87
  v46 := Try.zeroValue87
  t53 := Try.underlying72
  a53 := Try.isAgg72
  z53 := Try.sizeOf72
  v53 := Try.zeroValue72 }
open Go.RowKit Go.Lib in
theorem Try.bits_Mul64 (x y : Nat) (hx : x < 18446744073709551616) (hy : y < 18446744073709551616) (w : World) :
    Calls Try.prog 99 #[.int .u64 x, .int .u64 y] w fun e w' => e = .returned (.tuple #[.int .u64 ((x * y / 18446744073709551616 : Nat) : Int), .int .u64 ((x * y % 18446744073709551616 : Nat) : Int)]) ∧ w' = w := Any.bits_Mul64 Try.lays264 x y hx hy w

theorem Try.add64_run (x y c : Nat) (hc : c ≤ 1) (w : World) :
    (callFunc 97 #[.int .u64 x, .int .u64 y, .int .u64 c]).run Try.prog w =
      .ok (.value (.tuple #[.int .u64 (((x + y + c) % 18446744073709551616 : Nat) : Int), .int .u64 (((x + y + c) / 18446744073709551616 : Nat) : Int)])) w := by
  rw [run_callFunc_extern Try.func97 (by kernel_rfl) (by kernel_rfl) (by kernel_rfl) (e := add64Entry) (by kernel_rfl), run_add64 x y c (by omega) (by omega) (by omega) (by omega)]
  simp only [Result.andThen]
  congr 5 <;> omega
theorem Try.sub64_run (x y b : Nat) (hb : b ≤ 1) (w : World) :
    (callFunc 88 #[.int .u64 x, .int .u64 y, .int .u64 b]).run Try.prog w =
      .ok (.value (.tuple #[.int .u64 (((x + 18446744073709551616 - y - b) % 18446744073709551616 : Nat) : Int), .int .u64 ((if x < y + b then 1 else 0 : Nat) : Int)])) w := by
  rw [run_callFunc_extern Try.func88 (by kernel_rfl) (by kernel_rfl) (by kernel_rfl) (e := sub64Entry) (by kernel_rfl), run_sub64 x y b hb]
  rfl
end Go.Proofs
