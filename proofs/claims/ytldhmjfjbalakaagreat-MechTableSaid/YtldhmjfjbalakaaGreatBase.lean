/- Words for memory, used by all other texts of this seat: a slice that reads as a list; bytes; a list of attributes; append. Nothing here speaks of the program. -/
import Derived.WalkKit
import Derived.WalkSpells
import Derived.WalkLawsBesides
import Derived.Deep.Draws
import Derived.Deep.AppendLies
import Derived.Maps.AppendAt
import Derived.Lib.Hide
namespace Go.Proofs.YtldhmjfjbalakaaGreat
open Go.RowKit

theorem ret_int {k : IntKind} {a b : Int} (h : a = b) : Ending.returned (.int k a) = .returned (.int k b) := by rw [h]
theorem ret_bool {a b : Bool} (h : a = b) : Ending.returned (.bool a) = .returned (.bool b) := by rw [h]

theorem block_of_add (a : Addr) (n : Nat) : (a.add n).block = a.block := by unfold Addr.add; split <;> rfl
theorem add_of_add (a : Addr) (i j : Nat) : (a.add i).add j = a.add (i + j) := by
  unfold Addr.add
  by_cases hi : i = 0 <;> by_cases hj : j = 0 <;> simp [hi, hj, Nat.add_assoc]

/-- Blocks from lo on, below hi. -/
def In (lo hi b : Nat) : Prop := lo ≤ b ∧ b < hi

/-- The slice at A, of n elements and capacity c, reads as the cells cs, that lie in a block of which P holds. -/
def RS (w : World) (P : Nat → Prop) (size : Nat) (A : Option Addr) (n c : Nat) (cs : List Value) : Prop :=
  n ≤ c ∧ c ≤ maxLen ∧ cs.length = n * size ∧
    (0 < n → ∃ ad, A = some ad ∧ P ad.block ∧ ∀ j u, cs[j]? = some u → w.cell? (ad.add j) = some u)

section
variable {w w' : World} {P P' : Nat → Prop} {size n c : Nat} {A : Option Addr} {cs : List Value}

theorem RS.keep (h : RS w P size A n c cs) (hk : ∀ p : Addr, P p.block → w'.cell? p = w.cell? p) : RS w' P size A n c cs := by
  obtain ⟨h1, h2, h3, h4⟩ := h
  refine ⟨h1, h2, h3, fun hn => ?_⟩
  obtain ⟨ad, e, hb, hc⟩ := h4 hn
  exact ⟨ad, e, hb, fun j u hu => (hk _ (by rw [block_of_add]; exact hb)).trans (hc j u hu)⟩
theorem RS.mono (h : RS w P size A n c cs) (hp : ∀ b, P b → P' b) : RS w P' size A n c cs := by
  obtain ⟨h1, h2, h3, h4⟩ := h
  refine ⟨h1, h2, h3, fun hn => ?_⟩
  obtain ⟨ad, e, hb, hc⟩ := h4 hn
  exact ⟨ad, e, hp _ hb, hc⟩
theorem RS.below {B : Nat} (h : RS w P size A n c cs) (hb : Below B w w') (hB : ∀ b, P b → b < B) : RS w' P size A n c cs := h.keep fun _ hp => hb.cell (hB _ hp)
theorem RS.nil_ (w : World) (P : Nat → Prop) (size : Nat) : RS w P size none 0 0 [] := ⟨by omega, by unfold maxLen; omega, by simp, fun h => absurd h (by omega)⟩
theorem RS.of_own {base : Nat} {e : TypeId} (h : w.ownsRow base e size (.slice A n c) n cs) : RS w (In base w.heap.size) size A n c cs := by
  have hlt := h.lt
  have hcell := fun g => h.cells (g := g)
  obtain ⟨h0, ⟨e1, rfl⟩ | ⟨g, cap, cur, e1, hg, hh, h5, h6, h7, h8⟩⟩ := h
  · injection e1 with e1 e2 e3
    subst e1 e3
    exact ⟨by omega, by unfold maxLen; omega, h0, fun h => absurd h (by omega)⟩
  · injection e1 with e1 e2 e3
    subst e1 e3
    have := hlt g rfl
    exact ⟨h5, h6, h0, fun _ => ⟨_, rfl, ⟨hg, this.2⟩, hcell g rfl⟩⟩
theorem own_shape {base : Nat} {e : TypeId} {v : Value} (h : w.ownsRow base e size v n cs) : ∃ A c, v = .slice A n c := by
  obtain ⟨h0, ⟨rfl, rfl⟩ | ⟨g, cap, cur, rfl, hg, hh, h5, h6, h7, h8⟩⟩ := h
  · exact ⟨_, _, rfl⟩
  · exact ⟨_, _, rfl⟩
/-- What is owned stays so where new blocks alone were made. -/
theorem own_kept {w w' : World} {base : Nat} {e : TypeId} {v : Value} (h : w.ownsRow base e size v n cs) (hg : w.grownBy w' none) : w'.ownsRow base e size v n cs :=
  h.kept hg (by cases v.ownBlock <;> simp)
theorem below_drewN {B : Nat} {a w : World} (h : Below B a w) (n : Nat) : Below B a (w.drewN n) := ⟨h.os, h.tape, h.output, h.size, h.block⟩
/-- A block that is known whole: its cells, and that none is frozen. -/
theorem blk_cell {w : World} {B : Nat} {cs : Array Value} {t : TypeId} (h : w.heap[B]? = some (.cells cs t (0, 0))) (i : Nat) : w.cell? ⟨B, i, none⟩ = cs[i]? := cell_of_row w B i cs t (0, 0) h
theorem blk_free {w : World} {B : Nat} {cs : Array Value} {t : TypeId} (h : w.heap[B]? = some (.cells cs t (0, 0))) (i : Nat) : w.frozen? ⟨B, i, none⟩ = false := by simp [World.frozen?, h]
theorem blk_lt {w : World} {B : Nat} {o : Obj} (h : w.heap[B]? = some o) : B < w.heap.size := (Array.getElem?_eq_some_iff.1 h).1
/-- A block that was just laid reads as its cells. -/
theorem RS.fresh {w : World} {P : Nat → Prop} (cs : Array Value) (t : TypeId) (size n : Nat) (h : cs.size = n * size) (hn : n ≤ maxLen) (hP : P w.heap.size) : RS (w.alloc (.cells cs t)) P size (some ⟨w.heap.size, 0, none⟩) n n cs.toList :=
  ⟨Nat.le_refl _, hn, by simpa using h, fun _ => ⟨_, rfl, hP, World.news_of_block (heap_alloc_new w _)⟩⟩
/-- A cut '[k:m]' of what reads. -/
theorem RS.sub {c' k m : Nat} (h : RS w P size A n c cs) (hkm : k ≤ m) (hm : m ≤ n) (hc : m - k ≤ c') (hc' : c' ≤ maxLen) {A' : Option Addr} (hA : k < m → A' = A.map (·.add (k * size))) :
    RS w P size A' (m - k) c' ((cs.drop (k * size)).take ((m - k) * size)) := by
  obtain ⟨h1, h2, h3, h4⟩ := h
  refine ⟨hc, hc', ?_, fun hn => ?_⟩
  · rw [List.length_take, List.length_drop, h3, ← Nat.sub_mul]
    exact Nat.min_eq_left (Nat.mul_le_mul_right _ (by omega))
  · obtain ⟨ad, rfl, hb, hc⟩ := h4 (by omega)
    rw [hA (by omega)]
    refine ⟨ad.add (k * size), rfl, by rw [block_of_add]; exact hb, fun j u hu => ?_⟩
    rw [add_of_add]
    apply hc
    rw [List.getElem?_take] at hu
    split at hu
    · rw [← hu, List.getElem?_drop]
    · cases hu
/-- A cut '[:m]'. -/
theorem RS.pre {m : Nat} (h : RS w P size A n c cs) (hm : m ≤ n) : RS w P size A m c (cs.take (m * size)) := by
  have := h.1
  have := h.2.1
  have := h.sub (k := 0) (m := m) (c' := c) (A' := A) (by omega) hm (by omega) (by omega) (fun _ => by cases A <;> simp [Addr.add])
  simpa using this
end

/-- Bytes as cells. -/
def bys (bs : List Nat) : List Value := bs.map fun b : Nat => .int .u8 (b : Int)
/-- The slice reads as the bytes bs. -/
def RB (w : World) (P : Nat → Prop) (A : Option Addr) (c : Nat) (bs : List Nat) : Prop := RS w P 1 A bs.length c (bys bs) ∧ (∀ b ∈ bs, b < 256) ∧ bs.length ≤ 140737488355328

/-- The slice reads as a list of attributes. -/
def RA (w : World) (P : Nat → Prop) (A : Option Addr) (c : Nat) (l : List (Int × List Nat)) : Prop :=
  ∃ cs, RS w P 2 A l.length c cs ∧ ∀ j x, l[j]? = some x → cs[j * 2]? = some (.int .i64 x.1) ∧ ∃ A' c', cs[j * 2 + 1]? = some (.slice A' x.2.length c') ∧ RB w P A' c' x.2

section
variable {w w' : World} {P P' : Nat → Prop} {A : Option Addr} {c : Nat} {bs : List Nat} {l : List (Int × List Nat)}
theorem RB.keep (h : RB w P A c bs) (hk : ∀ p : Addr, P p.block → w'.cell? p = w.cell? p) : RB w' P A c bs := ⟨h.1.keep hk, h.2⟩
theorem RB.mono (h : RB w P A c bs) (hp : ∀ b, P b → P' b) : RB w P' A c bs := ⟨h.1.mono hp, h.2⟩
theorem RB.below {B : Nat} (h : RB w P A c bs) (hb : Below B w w') (hB : ∀ b, P b → b < B) : RB w' P A c bs := ⟨h.1.below hb hB, h.2⟩
theorem RB.cap (h : RB w P A c bs) : bs.length ≤ c ∧ c ≤ 9223372036854775807 ∧ bs.length ≤ 140737488355328 := ⟨h.1.1, h.1.2.1, h.2.2⟩
theorem RB.nil_ (w : World) (P : Nat → Prop) : RB w P none 0 [] := ⟨RS.nil_ _ _ _, by simp, by simp⟩
theorem RA.keep (h : RA w P A c l) (hk : ∀ p : Addr, P p.block → w'.cell? p = w.cell? p) : RA w' P A c l := by
  obtain ⟨cs, h1, h2⟩ := h
  exact ⟨cs, h1.keep hk, fun j x hx => by obtain ⟨h3, A', c', h4, h5⟩ := h2 j x hx; exact ⟨h3, A', c', h4, h5.keep hk⟩⟩
theorem RA.mono (h : RA w P A c l) (hp : ∀ b, P b → P' b) : RA w P' A c l := by
  obtain ⟨cs, h1, h2⟩ := h
  exact ⟨cs, h1.mono hp, fun j x hx => by obtain ⟨h3, A', c', h4, h5⟩ := h2 j x hx; exact ⟨h3, A', c', h4, h5.mono hp⟩⟩
theorem RA.below {B : Nat} (h : RA w P A c l) (hb : Below B w w') (hB : ∀ b, P b → b < B) : RA w' P A c l := h.keep fun _ hp => hb.cell (hB _ hp)
theorem RA.cap (h : RA w P A c l) : l.length ≤ c ∧ c ≤ 9223372036854775807 := by obtain ⟨cs, h1, h2⟩ := h; exact ⟨h1.1, h1.2.1⟩
theorem RA.nil_ (w : World) (P : Nat → Prop) : RA w P none 0 [] := ⟨[], RS.nil_ _ _ _, by simp⟩
/-- One element of a list of attributes, with the cells that the walk reads. -/
theorem RA.at_ (h : RA w P A c l) {i : Nat} (hi' : i < l.length) :
    ∃ ad A' c', A = some ad ∧ P ad.block ∧ w.cell? (ad.add (i * 2)) = some (.int .i64 (l[i]).1) ∧ w.cell? ⟨(ad.add (i * 2)).block, (ad.add (i * 2)).off + 1, none⟩ = some (.slice A' (l[i]).2.length c') ∧ RB w P A' c' (l[i]).2 := by
  obtain ⟨cs, ⟨h1, h2, h3, h4⟩, h5⟩ := h
  obtain ⟨ad, rfl, hb, hc⟩ := h4 (by omega)
  obtain ⟨h6, A', c', h7, h8⟩ := h5 i _ (List.getElem?_eq_getElem hi')
  exact ⟨ad, A', c', rfl, hb, hc _ _ h6, by have := hc _ _ h7; rwa [← add_of_add] at this, h8⟩
theorem RB.at_ (h : RB w P A c bs) {i : Nat} (hi' : i < bs.length) : ∃ ad, A = some ad ∧ P ad.block ∧ w.cell? (ad.add i) = some (.int .u8 (bs[i] : Int)) ∧ (bs[i] : Int) < 256 := by
  obtain ⟨⟨h1, h2, h3, h4⟩, h5, _⟩ := h
  obtain ⟨ad, rfl, hb, hc⟩ := h4 (by omega)
  exact ⟨ad, rfl, hb, hc _ _ (by simp [bys, List.getElem?_eq_getElem hi']), by have := h5 _ (List.getElem_mem hi'); omega⟩
end

section
variable {P : Program} (w : World)
theorem run_append_of_nil (base : Nat) (t ty e : TypeId) (i : TypeInfo) (size : Nat) (ht : P.underlying t = some (.slice e)) (hi : P.info? e = some i)
    (v : Value) (n : Nat) (xs : List Value) (hown : w.ownsRow base e size v n xs) (c : Nat) : (Builtin.append_ #[t, t] ty #[v, .slice none 0 c]).run P w = .ok v w := by
  rcases hown.2 with ⟨rfl, rfl⟩ | ⟨g, cap, cur, rfl, _, _, hnc, _⟩
  · simp [Builtin.append_, run_underlying ht, sizeOf, typeInfo, hi, Builtin.lenOf, Builtin.firstCells]
  · simp [Builtin.append_, run_underlying ht, sizeOf, typeInfo, hi, Builtin.lenOf, Builtin.firstCells, hnc, storeCells]

theorem run_append_rs (base : Nat) (t ty e : TypeId) (i : TypeInfo) (z : Value) (size bytes : Nat) (ht : P.underlying t = some (.slice e)) (hi : P.info? e = some i) (hz : i.zero = some z)
    (hsize : i.size = size) (hby : i.bytes = bytes) (hzs : z.cells.size = size) (hsz : 0 < size)
    (v : Value) (n : Nat) (xs : List Value) (hown : w.ownsRow base e size v n xs)
    (Q : Nat → Prop) (A : Option Addr) (m c : Nat) (news : List Value) (hr : RS w Q size A m c news) (h1 : ∀ u ∈ news, u.oneCell' = true)
    (h63 : n + m ≤ maxLen) (hbytes : (n + m) * bytes ≤ 140737488355328) (hbase : base ≤ w.heap.size) :
    ∃ A' c' w', (Builtin.append_ #[t, t] ty #[v, .slice A m c]).run P w = .ok (.slice A' (n + m) c') w' ∧ w'.ownsRow base e size (.slice A' (n + m) c') (n + m) (xs ++ news) ∧ w.grownBy w' v.ownBlock ∧
      ((Value.slice A' (n + m) c').ownBlock = v.ownBlock ∨ (Value.slice A' (n + m) c').ownBlock = some w.heap.size) := by
  rcases A with _ | ad
  · have hm : m = 0 := by
      rcases Nat.eq_zero_or_pos m with h0 | h0
      · exact h0
      · obtain ⟨ad, h, _⟩ := hr.2.2.2 h0
        cases h
    subst hm
    have hn : news = [] := List.eq_nil_of_length_eq_zero (by simpa using hr.2.2.1)
    subst hn
    obtain ⟨A', c', rfl⟩ := own_shape hown
    exact ⟨A', c', w, run_append_of_nil w base t ty e i size ht hi _ n xs hown c, by simpa using hown, World.grownBy.refl w _, .inl rfl⟩
  · have hcells : ∀ j u, news[j]? = some u → w.cell? (ad.add j) = some u := by
      intro j u hu
      rcases Nat.eq_zero_or_pos m with h0 | h0
      · subst h0
        have hn : news = [] := List.eq_nil_of_length_eq_zero (by simpa using hr.2.2.1)
        subst hn
        simp at hu
      · obtain ⟨ad', h, _, hc⟩ := hr.2.2.2 h0
        injection h with h
        subst h
        exact hc j u hu
    obtain ⟨v', w', hrun, h2, h3, _, h5⟩ := run_append_own_at (P := P) w base t ty e i z size bytes ht hi hz hsize hby hzs hsz v n xs hown ad m c news hr.2.2.1 hcells h1 h63 hbytes hbase
    obtain ⟨A', c', rfl⟩ := own_shape h2
    exact ⟨A', c', w', hrun, h2, h3, h5⟩

theorem wp_append_rs {o : Oper} {a : Act} {K : Act → World → Prop} {Q : Exit → Act → World → Prop} (s x : Operand) (t : TypeId)
    (ho : o.op = .call { callee := .builtin .append, args := #[s, x], argTypes := #[t, t] })
    (base : Nat) (e : TypeId) (i : TypeInfo) (z : Value) (size bytes : Nat) (ht : P.underlying t = some (.slice e)) (hi : P.info? e = some i) (hz : i.zero = some z)
    (hsize : i.size = size) (hby : i.bytes = bytes) (hzs : z.cells.size = size) (hsz : 0 < size)
    (v : Value) (n : Nat) (xs : List Value) (hs : a.eval s = v) (hown : w.ownsRow base e size v n xs)
    (B : Nat → Prop) (A : Option Addr) (m c : Nat) (news : List Value) (hx : a.eval x = .slice A m c) (hr : RS w B size A m c news) (h1 : ∀ u ∈ news, u.oneCell' = true)
    (k : Nat) (hk : n + m = k) (h63 : n + m ≤ maxLen) (hbytes : (n + m) * bytes ≤ 140737488355328) (hbase : base ≤ w.heap.size)
    (h : ∀ A' c' w', w'.ownsRow base e size (.slice A' k c') k (xs ++ news) → w.grownBy w' v.ownBlock → ((Value.slice A' k c').ownBlock = v.ownBlock ∨ (Value.slice A' k c').ownBlock = some w.heap.size) → K (a.put o.dst (.slice A' k c')) w') : o.wp P a w K Q := by
  subst hk
  obtain ⟨A', c', w', hrun, h2, h3, h4⟩ := run_append_rs (P := P) w base t o.type e i z size bytes ht hi hz hsize hby hzs hsz v n xs hown B A m c news hr h1 h63 hbytes hbase
  unfold Oper.wp execOp
  simp only [ho, resolve, invoke, builtin, Sem.run_bind, Sem.run_pure, Result.andThen_ok, List.map_toArray, List.map_cons, List.map_nil, hs, hx, hrun]
  exact h A' c' w' h2 h3 h4

/-- append onto a row of the call's own, the source whatever reads. -/
theorem wpList_append_rs {ops : Array Oper} {rest : List Oper} {o : Oper} {a : Act} {Q : Exit → Act → World → Prop} (hgd : o.guard = none) (s x : Operand) (t : TypeId)
    (ho : o.op = .call { callee := .builtin .append, args := #[s, x], argTypes := #[t, t] })
    (base : Nat) (e : TypeId) (i : TypeInfo) (z : Value) (size bytes : Nat) (ht : P.underlying t = some (.slice e)) (hi : P.info? e = some i) (hz : i.zero = some z)
    (hsize : i.size = size) (hby : i.bytes = bytes) (hzs : z.cells.size = size) (hsz : 0 < size)
    (v : Value) (n : Nat) (xs : List Value) (hs : a.eval s = v) (hown : w.ownsRow base e size v n xs)
    (B : Nat → Prop) (A : Option Addr) (m c : Nat) (news : List Value) (hx : a.eval x = .slice A m c) (hr : RS w B size A m c news) (h1 : ∀ u ∈ news, u.oneCell' = true)
    (k : Nat) (hk : n + m = k) (h63 : n + m ≤ maxLen) (hbytes : (n + m) * bytes ≤ 140737488355328) (hbase : base ≤ w.heap.size)
    (h : ∀ A' c' w', w'.ownsRow base e size (.slice A' k c') k (xs ++ news) → w.grownBy w' v.ownBlock → ((Value.slice A' k c').ownBlock = v.ownBlock ∨ (Value.slice A' k c').ownBlock = some w.heap.size) → wpList P ops Q rest (a.put o.dst (.slice A' k c')) w') : wpList P ops Q (o :: rest) a w :=
  wpList_plain hgd fun _ hK => wp_append_rs w s x t ho base e i z size bytes ht hi hz hsize hby hzs hsz v n xs hs hown B A m c news hx hr h1 k hk h63 hbytes hbase fun A' c' w' h2 h3 h4 => hK _ _ (h A' c' w' h2 h3 h4)

theorem step_append_rs {ops : Array Oper} {o : Oper} {a : Act} {K : Act → World → Prop} {Q : Exit → Act → World → Prop} {E : Prop} (hgd : o.guard = none) (s x : Operand) (t : TypeId)
    (ho : o.op = .call { callee := .builtin .append, args := #[s, x], argTypes := #[t, t] })
    (base : Nat) (e : TypeId) (i : TypeInfo) (z : Value) (size bytes : Nat) (ht : P.underlying t = some (.slice e)) (hi : P.info? e = some i) (hz : i.zero = some z)
    (hsize : i.size = size) (hby : i.bytes = bytes) (hzs : z.cells.size = size) (hsz : 0 < size)
    (v : Value) (n : Nat) (xs : List Value) (hs : a.eval s = v) (hown : w.ownsRow base e size v n xs)
    (B : Nat → Prop) (A : Option Addr) (m c : Nat) (news : List Value) (hx : a.eval x = .slice A m c) (hr : RS w B size A m c news) (h1 : ∀ u ∈ news, u.oneCell' = true)
    (k : Nat) (hk : n + m = k) (h63 : n + m ≤ maxLen) (hbytes : (n + m) * bytes ≤ 140737488355328) (hbase : base ≤ w.heap.size)
    (h : ∀ A' c' w', w'.ownsRow base e size (.slice A' k c') k (xs ++ news) → w.grownBy w' v.ownBlock → ((Value.slice A' k c').ownBlock = v.ownBlock ∨ (Value.slice A' k c').ownBlock = some w.heap.size) → K (a.put o.dst (.slice A' k c')) w') :
    if Region.wanted o (yielded ops a.tmps) = true then Oper.wp P o a w K Q else E := by
  have hw : Region.wanted o (yielded ops a.tmps) = true := by simp [Region.wanted, hgd]
  rw [if_pos hw]
  exact wp_append_rs w s x t ho base e i z size bytes ht hi hz hsize hby hzs hsz v n xs hs hown B A m c news hx hr h1 k hk h63 hbytes hbase h
end
end Go.Proofs.YtldhmjfjbalakaaGreat
