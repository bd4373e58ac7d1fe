/- Words for memory, used by all other texts of this seat: a slice that reads as a list; bytes; a list of attributes; append. Nothing here speaks of the program. What the reference's Get and attrs.Get compute: the value of the first attribute of a type. What bytes.Equal, attrs.Flag and the reference's Flag, find.Seen, Match and the reference's Match compute. A list of attributes in memory of the call's own; what Short and Cut compute. What attrs.Num, attrs.Bool and the reference's, and zbyte's functions compute. What the reference's Eq, Clone and Put compute. The append laws at this program's types. What the reference's Put computes. What attrs.copied computes. What slices.Insert computes at attributes, one value being inserted into a row of the caller's own. slices.Insert, the other two ways: no room; at the end. -/
import Derived.WalkKit
import Derived.WalkSpells
import Derived.WalkLawsBesides
import Derived.Deep.Draws
import Derived.Deep.AppendLies
import Derived.Maps.AppendAt
import Derived.Lib.Hide
import Derived.Test.YtendnkpiidhogaaGreatRows
import Derived.Laws.BytesArg
import Derived.Lib.Bytes
import Derived.BigQuiet
import Derived.Deep.QuietTactic
import Derived.Deep.RegionHeld3
import Derived.Deep.CutRange
import Derived.Deep.DeepCutAuto
import Derived.Deep.DeepMust
import Derived.Lib.AppendZerosOnto
import Derived.Lib.Overlaps
import Derived.Laws.IdiomCopy
import Derived.Laws.Externs
import Derived.Laws.CopyOwn
import Derived.Deep.RegionLaw
namespace Go.Proofs.YtendnkpiidhogaaGreat
open Go.RowKit

theorem ret_int {k : IntKind} {a b : Int} (h : a = b) : Ending.returned (.int k a) = .returned (.int k b) := by rw [h]
theorem ret_bool {a b : Bool} (h : a = b) : Ending.returned (.bool a) = .returned (.bool b) := by rw [h]

theorem block_of_add (a : Addr) (n : Nat) : (a.add n).block = a.block := by unfold Addr.add; split <;> rfl
theorem add_of_add (a : Addr) (i j : Nat) : (a.add i).add j = a.add (i + j) := by
 unfold Addr.add
 by_cases hi : i = 0 <;> by_cases hj : j = 0 <;> simp [hi, hj, Nat.add_assoc]

def In (lo hi b : Nat) : Prop := lo ≤ b ∧ b < hi

def RS (w : World) (P : Nat → Prop) (size : Nat) (A : Option Addr) (n c : Nat) (cs : List Value) : Prop :=
  n ≤ c ∧ c ≤ maxLen ∧ cs.length = n * size ∧
    (0 < n → ∃ ad, A = some ad ∧ P ad.block ∧ ∀ j u, cs[j]? = some u → w.cell? (ad.add j) = some u)

section
variable {w w' : World} {P P' : Nat → Prop} {size n c : Nat} {A : Option Addr} {cs : List Value}

theorem RS.keep (h : RS w P size A n c cs) (hk : ∀ p : Addr, P p.block → w'.cell? p = w.cell? p) : RS w' P size A n c cs := by
 obtain ⟨h1, h2, h3, h4⟩ := h
 refine ⟨h1, h2, h3, fun hn => ?_⟩
 obtain ⟨ad, e, hb, hc⟩ := h4 hn
 exact ⟨ad, e, hb, fun j u hu => (hk _ (by rw [block_of_add]; exact hb)).trans (hc j u hu)⟩
theorem RS.mono (h : RS w P size A n c cs) (hp : ∀ b, P b → P' b) : RS w P' size A n c cs := by
 obtain ⟨h1, h2, h3, h4⟩ := h
 refine ⟨h1, h2, h3, fun hn => ?_⟩
 obtain ⟨ad, e, hb, hc⟩ := h4 hn
 exact ⟨ad, e, hp _ hb, hc⟩
theorem RS.below {B : Nat} (h : RS w P size A n c cs) (hb : Below B w w') (hB : ∀ b, P b → b < B) : RS w' P size A n c cs := h.keep fun _ hp => hb.cell (hB _ hp)
theorem RS.nil_ (w : World) (P : Nat → Prop) (size : Nat) : RS w P size none 0 0 [] := ⟨by omega, by unfold maxLen; omega, by simp, fun h => absurd h (by omega)⟩
theorem RS.of_own {base : Nat} {e : TypeId} (h : w.ownsRow base e size (.slice A n c) n cs) : RS w (In base w.heap.size) size A n c cs := by
 have hlt := h.lt
 have hcell := fun g => h.cells (g := g)
 obtain ⟨h0, ⟨e1, rfl⟩ | ⟨g, cap, cur, e1, hg, hh, h5, h6, h7, h8⟩⟩ := h
 · injection e1 with e1 e2 e3
   subst e1 e3
   exact ⟨by omega, by unfold maxLen; omega, h0, fun h => absurd h (by omega)⟩
 · injection e1 with e1 e2 e3
   subst e1 e3
   have := hlt g rfl
   exact ⟨h5, h6, h0, fun _ => ⟨_, rfl, ⟨hg, this.2⟩, hcell g rfl⟩⟩
theorem own_shape {base : Nat} {e : TypeId} {v : Value} (h : w.ownsRow base e size v n cs) : ∃ A c, v = .slice A n c := by
 obtain ⟨h0, ⟨rfl, rfl⟩ | ⟨g, cap, cur, rfl, hg, hh, h5, h6, h7, h8⟩⟩ := h
 · exact ⟨_, _, rfl⟩
 · exact ⟨_, _, rfl⟩
theorem own_kept {w w' : World} {base : Nat} {e : TypeId} {v : Value} (h : w.ownsRow base e size v n cs) (hg : w.grownBy w' none) : w'.ownsRow base e size v n cs :=
 h.kept hg (by cases v.ownBlock <;> simp)
theorem below_drewN {B : Nat} {a w : World} (h : Below B a w) (n : Nat) : Below B a (w.drewN n) := ⟨h.os, h.tape, h.output, h.size, h.block⟩
theorem blk_cell {w : World} {B : Nat} {cs : Array Value} {t : TypeId} (h : w.heap[B]? = some (.cells cs t (0, 0))) (i : Nat) : w.cell? ⟨B, i, none⟩ = cs[i]? := cell_of_row w B i cs t (0, 0) h
theorem blk_free {w : World} {B : Nat} {cs : Array Value} {t : TypeId} (h : w.heap[B]? = some (.cells cs t (0, 0))) (i : Nat) : w.frozen? ⟨B, i, none⟩ = false := by simp [World.frozen?, h]
theorem blk_lt {w : World} {B : Nat} {o : Obj} (h : w.heap[B]? = some o) : B < w.heap.size := (Array.getElem?_eq_some_iff.1 h).1
theorem RS.fresh {w : World} {P : Nat → Prop} (cs : Array Value) (t : TypeId) (size n : Nat) (h : cs.size = n * size) (hn : n ≤ maxLen) (hP : P w.heap.size) : RS (w.alloc (.cells cs t)) P size (some ⟨w.heap.size, 0, none⟩) n n cs.toList :=
 ⟨Nat.le_refl _, hn, by simpa using h, fun _ => ⟨_, rfl, hP, World.news_of_block (heap_alloc_new w _)⟩⟩
theorem RS.sub {c' k m : Nat} (h : RS w P size A n c cs) (hkm : k ≤ m) (hm : m ≤ n) (hc : m - k ≤ c') (hc' : c' ≤ maxLen) {A' : Option Addr} (hA : k < m → A' = A.map (·.add (k * size))) :
 RS w P size A' (m - k) c' ((cs.drop (k * size)).take ((m - k) * size)) := by
 obtain ⟨h1, h2, h3, h4⟩ := h
 refine ⟨hc, hc', ?_, fun hn => ?_⟩
 · rw [List.length_take, List.length_drop, h3, ← Nat.sub_mul]
   exact Nat.min_eq_left (Nat.mul_le_mul_right _ (by omega))
 · obtain ⟨ad, rfl, hb, hc⟩ := h4 (by omega)
   rw [hA (by omega)]
   refine ⟨ad.add (k * size), rfl, by rw [block_of_add]; exact hb, fun j u hu => ?_⟩
   rw [add_of_add]
   apply hc
   rw [List.getElem?_take] at hu
   split at hu
   · rw [← hu, List.getElem?_drop]
   · cases hu
theorem RS.pre {m : Nat} (h : RS w P size A n c cs) (hm : m ≤ n) : RS w P size A m c (cs.take (m * size)) := by
 have := h.1
 have := h.2.1
 have := h.sub (k := 0) (m := m) (c' := c) (A' := A) (by omega) hm (by omega) (by omega) (fun _ => by cases A <;> simp [Addr.add])
 simpa using this
end

def bys (bs : List Nat) : List Value := bs.map fun b : Nat => .int .u8 (b : Int)
def RB (w : World) (P : Nat → Prop) (A : Option Addr) (c : Nat) (bs : List Nat) : Prop := RS w P 1 A bs.length c (bys bs) ∧ (∀ b ∈ bs, b < 256) ∧ bs.length ≤ 140737488355328

def RA (w : World) (P : Nat → Prop) (A : Option Addr) (c : Nat) (l : List (Int × List Nat)) : Prop :=
 ∃ cs, RS w P 2 A l.length c cs ∧ ∀ j x, l[j]? = some x → cs[j * 2]? = some (.int .i64 x.1) ∧ ∃ A' c', cs[j * 2 + 1]? = some (.slice A' x.2.length c') ∧ RB w P A' c' x.2

section
variable {w w' : World} {P P' : Nat → Prop} {A : Option Addr} {c : Nat} {bs : List Nat} {l : List (Int × List Nat)}
theorem RB.keep (h : RB w P A c bs) (hk : ∀ p : Addr, P p.block → w'.cell? p = w.cell? p) : RB w' P A c bs := ⟨h.1.keep hk, h.2⟩
theorem RB.mono (h : RB w P A c bs) (hp : ∀ b, P b → P' b) : RB w P' A c bs := ⟨h.1.mono hp, h.2⟩
theorem RB.below {B : Nat} (h : RB w P A c bs) (hb : Below B w w') (hB : ∀ b, P b → b < B) : RB w' P A c bs := ⟨h.1.below hb hB, h.2⟩
theorem RB.cap (h : RB w P A c bs) : bs.length ≤ c ∧ c ≤ 9223372036854775807 ∧ bs.length ≤ 140737488355328 := ⟨h.1.1, h.1.2.1, h.2.2⟩
theorem RB.nil_ (w : World) (P : Nat → Prop) : RB w P none 0 [] := ⟨RS.nil_ _ _ _, by simp, by simp⟩
theorem RA.keep (h : RA w P A c l) (hk : ∀ p : Addr, P p.block → w'.cell? p = w.cell? p) : RA w' P A c l := by
 obtain ⟨cs, h1, h2⟩ := h
 exact ⟨cs, h1.keep hk, fun j x hx => by obtain ⟨h3, A', c', h4, h5⟩ := h2 j x hx; exact ⟨h3, A', c', h4, h5.keep hk⟩⟩
theorem RA.mono (h : RA w P A c l) (hp : ∀ b, P b → P' b) : RA w P' A c l := by
 obtain ⟨cs, h1, h2⟩ := h
 exact ⟨cs, h1.mono hp, fun j x hx => by obtain ⟨h3, A', c', h4, h5⟩ := h2 j x hx; exact ⟨h3, A', c', h4, h5.mono hp⟩⟩
theorem RA.below {B : Nat} (h : RA w P A c l) (hb : Below B w w') (hB : ∀ b, P b → b < B) : RA w' P A c l := h.keep fun _ hp => hb.cell (hB _ hp)
theorem RA.cap (h : RA w P A c l) : l.length ≤ c ∧ c ≤ 9223372036854775807 := by obtain ⟨cs, h1, h2⟩ := h; exact ⟨h1.1, h1.2.1⟩
theorem RA.nil_ (w : World) (P : Nat → Prop) : RA w P none 0 [] := ⟨[], RS.nil_ _ _ _, by simp⟩
theorem RA.at_ (h : RA w P A c l) {i : Nat} (hi' : i < l.length) :
 ∃ ad A' c', A = some ad ∧ P ad.block ∧ w.cell? (ad.add (i * 2)) = some (.int .i64 (l[i]).1) ∧ w.cell? ⟨(ad.add (i * 2)).block, (ad.add (i * 2)).off + 1, none⟩ = some (.slice A' (l[i]).2.length c') ∧ RB w P A' c' (l[i]).2 := by
 obtain ⟨cs, ⟨h1, h2, h3, h4⟩, h5⟩ := h
 obtain ⟨ad, rfl, hb, hc⟩ := h4 (by omega)
 obtain ⟨h6, A', c', h7, h8⟩ := h5 i _ (List.getElem?_eq_getElem hi')
 exact ⟨ad, A', c', rfl, hb, hc _ _ h6, by have := hc _ _ h7; rwa [← add_of_add] at this, h8⟩
theorem RB.at_ (h : RB w P A c bs) {i : Nat} (hi' : i < bs.length) : ∃ ad, A = some ad ∧ P ad.block ∧ w.cell? (ad.add i) = some (.int .u8 (bs[i] : Int)) ∧ (bs[i] : Int) < 256 := by
 obtain ⟨⟨h1, h2, h3, h4⟩, h5, _⟩ := h
 obtain ⟨ad, rfl, hb, hc⟩ := h4 (by omega)
 exact ⟨ad, rfl, hb, hc _ _ (by simp [bys, List.getElem?_eq_getElem hi']), by have := h5 _ (List.getElem_mem hi'); omega⟩
end

section
variable {P : Program} (w : World)
theorem run_append_of_nil (base : Nat) (t ty e : TypeId) (i : TypeInfo) (size : Nat) (ht : P.underlying t = some (.slice e)) (hi : P.info? e = some i)
 (v : Value) (n : Nat) (xs : List Value) (hown : w.ownsRow base e size v n xs) (c : Nat) : (Builtin.append_ #[t, t] ty #[v, .slice none 0 c]).run P w = .ok v w := by
 rcases hown.2 with ⟨rfl, rfl⟩ | ⟨g, cap, cur, rfl, _, _, hnc, _⟩
 · simp [Builtin.append_, run_underlying ht, sizeOf, typeInfo, hi, Builtin.lenOf, Builtin.firstCells]
 · simp [Builtin.append_, run_underlying ht, sizeOf, typeInfo, hi, Builtin.lenOf, Builtin.firstCells, hnc, storeCells]

theorem run_append_rs (base : Nat) (t ty e : TypeId) (i : TypeInfo) (z : Value) (size bytes : Nat) (ht : P.underlying t = some (.slice e)) (hi : P.info? e = some i) (hz : i.zero = some z)
    (hsize : i.size = size) (hby : i.bytes = bytes) (hzs : z.cells.size = size) (hsz : 0 < size)
    (v : Value) (n : Nat) (xs : List Value) (hown : w.ownsRow base e size v n xs)
    (Q : Nat → Prop) (A : Option Addr) (m c : Nat) (news : List Value) (hr : RS w Q size A m c news) (h1 : ∀ u ∈ news, u.oneCell' = true)
    (h63 : n + m ≤ maxLen) (hbytes : (n + m) * bytes ≤ 140737488355328) (hbase : base ≤ w.heap.size) :
    ∃ A' c' w', (Builtin.append_ #[t, t] ty #[v, .slice A m c]).run P w = .ok (.slice A' (n + m) c') w' ∧ w'.ownsRow base e size (.slice A' (n + m) c') (n + m) (xs ++ news) ∧ w.grownBy w' v.ownBlock ∧
      ((Value.slice A' (n + m) c').ownBlock = v.ownBlock ∨ (Value.slice A' (n + m) c').ownBlock = some w.heap.size) := by
  rcases A with _ | ad
  · have hm : m = 0 := by
      rcases Nat.eq_zero_or_pos m with h0 | h0
      · exact h0
      · obtain ⟨ad, h, _⟩ := hr.2.2.2 h0
        cases h
    subst hm
    have hn : news = [] := List.eq_nil_of_length_eq_zero (by simpa using hr.2.2.1)
    subst hn
    obtain ⟨A', c', rfl⟩ := own_shape hown
    exact ⟨A', c', w, run_append_of_nil w base t ty e i size ht hi _ n xs hown c, by simpa using hown, World.grownBy.refl w _, .inl rfl⟩
  · have hcells : ∀ j u, news[j]? = some u → w.cell? (ad.add j) = some u := by
      intro j u hu
      rcases Nat.eq_zero_or_pos m with h0 | h0
      · subst h0
        have hn : news = [] := List.eq_nil_of_length_eq_zero (by simpa using hr.2.2.1)
        subst hn
        simp at hu
      · obtain ⟨ad', h, _, hc⟩ := hr.2.2.2 h0
        injection h with h
        subst h
        exact hc j u hu
    obtain ⟨v', w', hrun, h2, h3, _, h5⟩ := run_append_own_at (P := P) w base t ty e i z size bytes ht hi hz hsize hby hzs hsz v n xs hown ad m c news hr.2.2.1 hcells h1 h63 hbytes hbase
    obtain ⟨A', c', rfl⟩ := own_shape h2
    exact ⟨A', c', w', hrun, h2, h3, h5⟩

theorem wp_append_rs {o : Oper} {a : Act} {K : Act → World → Prop} {Q : Exit → Act → World → Prop} (s x : Operand) (t : TypeId)
 (ho : o.op = .call { callee := .builtin .append, args := #[s, x], argTypes := #[t, t] })
 (base : Nat) (e : TypeId) (i : TypeInfo) (z : Value) (size bytes : Nat) (ht : P.underlying t = some (.slice e)) (hi : P.info? e = some i) (hz : i.zero = some z)
 (hsize : i.size = size) (hby : i.bytes = bytes) (hzs : z.cells.size = size) (hsz : 0 < size)
 (v : Value) (n : Nat) (xs : List Value) (hs : a.eval s = v) (hown : w.ownsRow base e size v n xs)
 (B : Nat → Prop) (A : Option Addr) (m c : Nat) (news : List Value) (hx : a.eval x = .slice A m c) (hr : RS w B size A m c news) (h1 : ∀ u ∈ news, u.oneCell' = true)
 (k : Nat) (hk : n + m = k) (h63 : n + m ≤ maxLen) (hbytes : (n + m) * bytes ≤ 140737488355328) (hbase : base ≤ w.heap.size)
 (h : ∀ A' c' w', w'.ownsRow base e size (.slice A' k c') k (xs ++ news) → w.grownBy w' v.ownBlock → ((Value.slice A' k c').ownBlock = v.ownBlock ∨ (Value.slice A' k c').ownBlock = some w.heap.size) → K (a.put o.dst (.slice A' k c')) w') : o.wp P a w K Q := by
 subst hk
 obtain ⟨A', c', w', hrun, h2, h3, h4⟩ := run_append_rs (P := P) w base t o.type e i z size bytes ht hi hz hsize hby hzs hsz v n xs hown B A m c news hr h1 h63 hbytes hbase
 unfold Oper.wp execOp
 simp only [ho, resolve, invoke, builtin, Sem.run_bind, Sem.run_pure, Result.andThen_ok, List.map_toArray, List.map_cons, List.map_nil, hs, hx, hrun]
 exact h A' c' w' h2 h3 h4

theorem wpList_append_rs {ops : Array Oper} {rest : List Oper} {o : Oper} {a : Act} {Q : Exit → Act → World → Prop} (hgd : o.guard = none) (s x : Operand) (t : TypeId)
 (ho : o.op = .call { callee := .builtin .append, args := #[s, x], argTypes := #[t, t] })
 (base : Nat) (e : TypeId) (i : TypeInfo) (z : Value) (size bytes : Nat) (ht : P.underlying t = some (.slice e)) (hi : P.info? e = some i) (hz : i.zero = some z)
 (hsize : i.size = size) (hby : i.bytes = bytes) (hzs : z.cells.size = size) (hsz : 0 < size)
 (v : Value) (n : Nat) (xs : List Value) (hs : a.eval s = v) (hown : w.ownsRow base e size v n xs)
 (B : Nat → Prop) (A : Option Addr) (m c : Nat) (news : List Value) (hx : a.eval x = .slice A m c) (hr : RS w B size A m c news) (h1 : ∀ u ∈ news, u.oneCell' = true)
 (k : Nat) (hk : n + m = k) (h63 : n + m ≤ maxLen) (hbytes : (n + m) * bytes ≤ 140737488355328) (hbase : base ≤ w.heap.size)
 (h : ∀ A' c' w', w'.ownsRow base e size (.slice A' k c') k (xs ++ news) → w.grownBy w' v.ownBlock → ((Value.slice A' k c').ownBlock = v.ownBlock ∨ (Value.slice A' k c').ownBlock = some w.heap.size) → wpList P ops Q rest (a.put o.dst (.slice A' k c')) w') : wpList P ops Q (o :: rest) a w :=
 wpList_plain hgd fun _ hK => wp_append_rs w s x t ho base e i z size bytes ht hi hz hsize hby hzs hsz v n xs hs hown B A m c news hx hr h1 k hk h63 hbytes hbase fun A' c' w' h2 h3 h4 => hK _ _ (h A' c' w' h2 h3 h4)

theorem step_append_rs {ops : Array Oper} {o : Oper} {a : Act} {K : Act → World → Prop} {Q : Exit → Act → World → Prop} {E : Prop} (hgd : o.guard = none) (s x : Operand) (t : TypeId)
 (ho : o.op = .call { callee := .builtin .append, args := #[s, x], argTypes := #[t, t] })
 (base : Nat) (e : TypeId) (i : TypeInfo) (z : Value) (size bytes : Nat) (ht : P.underlying t = some (.slice e)) (hi : P.info? e = some i) (hz : i.zero = some z)
 (hsize : i.size = size) (hby : i.bytes = bytes) (hzs : z.cells.size = size) (hsz : 0 < size)
 (v : Value) (n : Nat) (xs : List Value) (hs : a.eval s = v) (hown : w.ownsRow base e size v n xs)
 (B : Nat → Prop) (A : Option Addr) (m c : Nat) (news : List Value) (hx : a.eval x = .slice A m c) (hr : RS w B size A m c news) (h1 : ∀ u ∈ news, u.oneCell' = true)
 (k : Nat) (hk : n + m = k) (h63 : n + m ≤ maxLen) (hbytes : (n + m) * bytes ≤ 140737488355328) (hbase : base ≤ w.heap.size)
 (h : ∀ A' c' w', w'.ownsRow base e size (.slice A' k c') k (xs ++ news) → w.grownBy w' v.ownBlock → ((Value.slice A' k c').ownBlock = v.ownBlock ∨ (Value.slice A' k c').ownBlock = some w.heap.size) → K (a.put o.dst (.slice A' k c')) w') :
 if Region.wanted o (yielded ops a.tmps) = true then Oper.wp P o a w K Q else E := by
 have hw : Region.wanted o (yielded ops a.tmps) = true := by simp [Region.wanted, hgd]
 rw [if_pos hw]
 exact wp_append_rs w s x t ho base e i z size bytes ht hi hz hsize hby hzs hsz v n xs hs hown B A m c news hx hr h1 k hk h63 hbytes hbase h
end
end Go.Proofs.YtendnkpiidhogaaGreat

namespace Go.Proofs.YtendnkpiidhogaaGreat.At
open Go.RowKit

def seek (l : List (Int × List Nat)) (t : Int) : Option (List Nat) := (l.find? fun x => x.1 == t).map (·.2)
def noneOf (l : List (Int × List Nat)) (t : Int) (k : Nat) : Prop := ∀ x ∈ l.take k, (x.1 == t) = false
theorem noneOf_zero (l : List (Int × List Nat)) (t : Int) : noneOf l t 0 := by intro x hx; simp at hx
theorem noneOf_succ {l : List (Int × List Nat)} {t : Int} {k : Nat} (h : noneOf l t k) (hk : k < l.length) (hne : (l[k].1 == t) = false) : noneOf l t (k + 1) := by
 intro x hx
 rw [List.take_succ_eq_append_getElem hk] at hx
 rcases List.mem_append.1 hx with hx | hx
 · exact h x hx
 · obtain rfl := List.mem_singleton.1 hx
   exact hne
theorem seek_hit {l : List (Int × List Nat)} {t : Int} {k : Nat} (h : noneOf l t k) (hk : k < l.length) (he : (l[k].1 == t) = true) : seek l t = some l[k].2 := by
 have h1 : l.find? (fun x => x.1 == t) = some l[k] := by
  rw [List.find?_eq_some_iff_append]
  refine ⟨he, l.take k, l.drop (k + 1), by rw [List.getElem_cons_drop, List.take_append_drop], fun x hx => by simpa using h x hx⟩
 simp [seek, h1]
theorem seek_miss {l : List (Int × List Nat)} {t : Int} (h : noneOf l t l.length) : seek l t = none := by
 have h1 : l.find? (fun x => x.1 == t) = none := by
  rw [List.find?_eq_none]
  intro x hx
  have := h x (by simpa using hx)
  simp [this]
 simp [seek, h1]

theorem info5 : (Tryz.prog.info? 5).map (fun i => (i.zero, i.size, i.bytes)) = some (some (.int .u8 0), 1, 1) := by kernel_rfl
theorem oneCell_bys (bs : List Nat) : ∀ u ∈ bys bs, u.oneCell' = true := by
 intro u hu
 obtain ⟨x, _, rfl⟩ := List.mem_map.1 hu
 rfl

theorem _root_.Go.Proofs.YtendnkpiidhogaaGreat.RB.of_own {w : World} {base : Nat} {e : TypeId} {A : Option Addr} {c : Nat} {bs : List Nat} (h : w.ownsRow base e 1 (.slice A bs.length c) bs.length (bys bs)) (hb : ∀ b ∈ bs, b < 256) (hl : bs.length ≤ 140737488355328) : RB w (In base w.heap.size) A c bs :=
 ⟨RS.of_own h, hb, hl⟩

set_option maxHeartbeats 400000 in
theorem clone_any (P : Nat → Prop) (A : Option Addr) (c : Nat) (bs : List Nat) (w : World) (h : RB w P A c bs) (hP : ∀ b, P b → b < w.heap.size) :
 Calls Tryz.prog 83 #[.slice A bs.length c] w fun e w' => ∃ A' c', e = .returned (.slice A' bs.length c') ∧ RB w' (In w.heap.size w'.heap.size) A' c' bs ∧ Below w.heap.size w w' := by
 obtain ⟨i0, hi, hz0, hz1, hz2⟩ := info_parts info5
 have q22 : ∀ (w : World) (a : Option Addr) (n c n' c' : Nat), (binOp .eql 33 (.slice a n c) (.slice none n' c')).run Tryz.prog w = .ok (.bool a.isNone) w := fun w a n c n' c' => Lib.run_eql_slice_nil w _ _ a n c n' c' Tryz.underlying33
 obtain ⟨h1, h2, h3⟩ := h.cap
 have hc0 := h.2.1
 rcases A with _ | ad
 · have hl : bs.length = 0 := by
    rcases Nat.eq_zero_or_pos bs.length with h0 | h0
    · exact h0
    · obtain ⟨ad, h, _⟩ := h.1.2.2.2 h0
      cases h
   obtain rfl := List.eq_nil_of_length_eq_zero hl
   clear hl
   go_enter Tryz.func83, Tryz.ntmps83
   go_wp2
   go_ret
   exact ⟨none, 0, rfl, RB.nil_ _ _, Below.refl _ _⟩
 · have h' : RS (w.alloc (.cells #[] 5)) P 1 (some ad) bs.length c (bys bs) := h.1.keep fun p hp => World.cell?_alloc_lt w _ p (hP _ hp)
   clear h
   go_enter Tryz.func83, Tryz.ntmps83
   go_wp2_with (at_builtin; refine wpList_append_rs _ rfl _ _ 33 rfl w.heap.size 5 i0 (.int .u8 0) 1 1 Tryz.underlying33 hi hz0 hz1 hz2 rfl (by decide) _ _ _ rfl (World.ownsRow_made w #[] 0 (Nat.le_refl _) (Nat.zero_le _) rfl) P (some ad) bs.length c (bys bs) rfl h' (oneCell_bys bs) bs.length (by omega) (by unfold maxLen; omega) (by omega) (by simp) ?_)
   intro A' c' w1 hown hgrow _
   go_wp2
   go_ret
   exact ⟨A', c', rfl, RB.of_own (by simpa using hown) hc0 h3, ((Below.refl _ w).alloc (Nat.le_refl _) _).grown hgrow (by simp) (by intro k hk; simp [Value.ownBlock] at hk; omega)⟩

set_option maxHeartbeats 400000 in
theorem get_any (P : Nat → Prop) (A : Option Addr) (c : Nat) (l : List (Int × List Nat)) (t : Int) (w : World) (hv : RA w P A c l) (hP : ∀ b, P b → b < w.heap.size) :
 Calls Tryz.prog 42 #[.slice A l.length c, .int .i64 t] w fun e w' => ∃ A' c', e = .returned (.tuple #[.slice A' ((seek l t).getD []).length c', .bool (seek l t).isSome]) ∧
  RB w' (In w.heap.size w'.heap.size) A' c' ((seek l t).getD []) ∧ Below w.heap.size w w' := by
 obtain ⟨hlc, hc⟩ := hv.cap
 go_enter Tryz.func42, Tryz.ntmps42
 go_wp2
 go_loopw [10] (fun i wr => ∃ k : Nat, k ≤ l.length ∧ i = .int .i64 k ∧ noneOf l t k ∧ Below w.heap.size w wr) (fun i _ => l.length - (intOf i).toNat)
 case atStart => exact ⟨0, Nat.zero_le _, rfl, noneOf_zero l t, Below.refl _ _⟩
 case round =>
  obtain ⟨k, hk, rfl, hno, hB⟩ := hrel
  by_cases hlt : k < l.length
  · have hv' := hv.below hB hP
    obtain ⟨ad, A', c', rfl, hb, hc1, hc2, hu⟩ := hv'.at_ hlt
    have hs := hB.size
    go_wp2_with fail
    · refine (clone_any P _ _ _ _ (hu.keep fun p hp => ?_) fun b hb => ?_).mono ?_
      · have := hP _ hp
        exact World.cell?_alloc_lt wr _ p (by omega)
      · have := hP b hb
        simp; omega
      · rintro e w1 ⟨A1, c1, rfl, hr, hB1⟩
        go_wp2
        go_ret2
        refine ⟨A1, c1, ?_, ?_, ?_⟩
        · rw [seek_hit hno hlt (by assumption)]
          rfl
        · rw [seek_hit hno hlt (by assumption)]
          refine hr.mono fun b hb => ⟨?_, hb.2⟩
          have := hb.1
          simp at this
          omega
        · exact (hB.alloc hs _).trans (hB1.mono (by simp; omega))
    · go_roundw
      case rel => exact ⟨k + 1, by omega, by go_num, noneOf_succ hno hlt (by assumption), hB.alloc hs _⟩
      case measure => simp [intOf]; omega
  · have hm : seek l t = none := seek_miss ((show k = l.length by omega) ▸ hno)
    have Hm := Lib.hid hm
    clear hm
    go_wp2
    go_ret2
    refine ⟨none, 0, ?_, ?_, hB⟩ <;> rw [Hm.out]
    · rfl
    · exact RB.nil_ _ _

end Go.Proofs.YtendnkpiidhogaaGreat.At

namespace Go.Proofs.YtendnkpiidhogaaGreat.At
open Go.RowKit

def strB (bs : List Nat) : ByteArray := strOfNums (bs.map fun b : Nat => (b : Int))
theorem strB_inj {a b : List Nat} (ha : ∀ x ∈ a, x < 256) (hb : ∀ x ∈ b, x < 256) (h : (strB a).toList = (strB b).toList) : a = b := by
 have e : ∀ l : List Nat, (∀ x ∈ l, x < 256) → (strB l).toList.map UInt8.toNat = l := by
  intro l hl
  rw [strB, Lib.strOfNums_toList, Lib.bytesOf]
  simp only [List.map_map]
  conv => rhs; rw [← List.map_id l]
  apply List.map_congr_left
  intro x hx
  have := hl x hx
  simp
  omega
 rw [← e a ha, ← e b hb, h]

section
variable {w : World} {Q : Nat → Prop} {A : Option Addr} {c : Nat} {bs : List Nat}
theorem _root_.Go.Proofs.YtendnkpiidhogaaGreat.RB.strA {P : Program} (h : RB w Q A c bs) (src e dst : TypeId) (hs : P.underlying src = some (.slice e)) (he : P.underlying e = some (.int .u8)) (hd : P.underlying dst = some .string) :
 (convert src dst (.slice A bs.length c)).run P w = .ok (.string (strB bs)) w := by
 rcases A with _ | ad
 · have hl : bs.length = 0 := by
    rcases Nat.eq_zero_or_pos bs.length with h0 | h0
    · exact h0
    · obtain ⟨ad, h, _⟩ := h.1.2.2.2 h0
      cases h
   obtain rfl := List.eq_nil_of_length_eq_zero hl
   rw [run_convert_bytes_nil w src e hs he _ _ dst hd]
   rfl
 · have hc : ∀ j v, (bys bs)[j]? = some v → w.cell? (ad.add j) = some v := by
    intro j v hj
    rcases Nat.eq_zero_or_pos bs.length with h0 | h0
    · obtain rfl := List.eq_nil_of_length_eq_zero h0
      simp [bys] at hj
    · obtain ⟨ad', h, _, hc⟩ := h.1.2.2.2 h0
      injection h with h
      subst h
      exact hc j v hj
   have hl : (loadCells ad bs.length).run P w = .ok ((bs.map fun b : Nat => (b : Int)).map (Value.int .u8)).toArray w := by
    have := run_loadCells_list (P := P) w ad (bys bs) hc
    simpa [bys, Function.comp_def] using this
   rw [run_convert_bytes_string w src dst e _ _ c hs he hd, run_bytesToString w _ _ c _ hl, foldl_push_bytes]
   simp [strB, strOfNums, ByteArray.empty, ByteArray.emptyWithCapacity]
   rfl
end

set_option maxHeartbeats 400000 in
theorem equal_any (P P' : Nat → Prop) (A A' : Option Addr) (c c' : Nat) (bs bs' : List Nat) (w : World) (h : RB w P A c bs) (h' : RB w P' A' c' bs') :
 Calls Tryz.prog 85 #[.slice A bs.length c, .slice A' bs'.length c'] w fun e w' => e = .returned (.bool (decide (bs = bs'))) ∧ w = w' := by
 have s1 := h.strA (P := Tryz.prog) 33 5 9 Tryz.underlying33 Tryz.underlying5 Tryz.underlying9
 have s2 := h'.strA (P := Tryz.prog) 33 5 9 Tryz.underlying33 Tryz.underlying5 Tryz.underlying9
 by_cases e : bs = bs'
 · subst e
   go_enter Tryz.func85, Tryz.ntmps85
   go_wp2
   go_ret
   exact ⟨by simp, rfl⟩
 · have hne : ((strB bs).toList == (strB bs').toList) = false := by
    rw [beq_eq_false_iff_ne]
    exact fun h1 => e (strB_inj h.2.1 h'.2.1 h1)
   go_enter Tryz.func85, Tryz.ntmps85
   go_wp2
   go_ret
   exact ⟨by simp [e], rfl⟩

def flagOf (l : List (Int × List Nat)) (t : Int) : Bool := decide ((seek l t) = some [1])

theorem flagOf_eq {l : List (Int × List Nat)} {t : Int} {o : Option (List Nat)} (h : seek l t = o) : flagOf l t = decide (o = some [1]) := by rw [flagOf, h]

set_option maxHeartbeats 400000 in
theorem flag_any (P : Nat → Prop) (A : Option Addr) (c : Nat) (l : List (Int × List Nat)) (t : Int) (w : World) (hv : RA w P A c l) (hP : ∀ b, P b → b < w.heap.size) :
 Calls Tryz.prog 45 #[.slice A l.length c, .int .i64 t] w fun e w' => e = .returned (.bool (flagOf l t)) ∧ Below w.heap.size w w' := by
 have hg := Lib.hid (get_any P A c l t w hv hP)
 obtain ⟨o, ho⟩ : ∃ o, seek l t = o := ⟨_, rfl⟩
 rw [flagOf_eq ho]
 rw [ho] at hg
 clear ho
 rcases o with _ | bs
 · go_enter Tryz.func45, Tryz.ntmps45
   go_wp2_with fail
   refine hg.out.mono ?_
   rintro e w1 ⟨A1, c1, rfl, hr, hB⟩
   go_wp2
   go_ret
   exact ⟨by simp, hB⟩
 · by_cases h1 : bs.length = 1
   · obtain ⟨x, rfl⟩ : ∃ x, bs = [x] := by
      match bs, h1 with
      | [x], _ => exact ⟨x, rfl⟩
     clear h1
     by_cases hx : x = 1
     · subst hx
       go_enter Tryz.func45, Tryz.ntmps45
       go_wp2_with fail
       refine hg.out.mono ?_
       rintro e w1 ⟨A1, c1, rfl, hr, hB⟩
       obtain ⟨ad, rfl, hp, hc, _⟩ := hr.at_ (i := 0) (by simp)
       simp [Addr.add] at hc
       go_wp2
       go_ret
       exact ⟨by simp, hB⟩
     · have hx' : ((x : Int) == 1) = false := by simp; omega
       go_enter Tryz.func45, Tryz.ntmps45
       go_wp2_with fail
       refine hg.out.mono ?_
       rintro e w1 ⟨A1, c1, rfl, hr, hB⟩
       obtain ⟨ad, rfl, hp, hc, _⟩ := hr.at_ (i := 0) (by simp)
       simp [Addr.add] at hc
       go_wp2
       go_ret
       exact ⟨by simp [hx], hB⟩
   · have h1' : ((bs.length : Int) == 1) = false := by simp; omega
     go_enter Tryz.func45, Tryz.ntmps45
     go_wp2_with fail
     refine hg.out.mono ?_
     rintro e w1 ⟨A1, c1, rfl, hr, hB⟩
     simp only [Option.getD_some]
     go_wp2
     go_ret
     exact ⟨by simp; intro e; simp [e] at h1, hB⟩

end Go.Proofs.YtendnkpiidhogaaGreat.At

namespace Go.Proofs.YtendnkpiidhogaaGreat.At
open Go.RowKit

def OA (w : World) (base : Nat) (A : Option Addr) (c : Nat) (l : List (Int × List Nat)) (cs : List Value) : Prop :=
 w.ownsRow base 37 2 (.slice A l.length c) l.length cs ∧ ∀ j x, l[j]? = some x → cs[j * 2]? = some (.int .i64 x.1) ∧
  ∃ A' c', cs[j * 2 + 1]? = some (.slice A' x.2.length c') ∧ RB w (fun b => base ≤ b ∧ b < w.heap.size ∧ (Value.slice A l.length c).ownBlock ≠ some b) A' c' x.2

theorem OA.ra {w : World} {base : Nat} {A : Option Addr} {c : Nat} {l : List (Int × List Nat)} {cs : List Value} (h : OA w base A c l cs) : RA w (In base w.heap.size) A c l :=
 ⟨cs, RS.of_own h.1, fun j x hx => by
  obtain ⟨h1, A', c', h2, h3⟩ := h.2 j x hx
  exact ⟨h1, A', c', h2, h3.mono fun b hb => ⟨hb.1, hb.2.1⟩⟩⟩
theorem OA.nil_ (w : World) (base : Nat) : OA w base none 0 [] [] := ⟨World.ownsRow_nil _ _ _ _, by simp⟩
theorem OA.below {w w' : World} {base : Nat} {A : Option Addr} {c : Nat} {l : List (Int × List Nat)} {cs : List Value} (h : OA w base A c l cs) (hb : Below w.heap.size w w') : OA w' base A c l cs := by
 refine ⟨h.1.kept ⟨hb.os, hb.tape, hb.output, hb.size, fun k hk _ => hb.block k hk⟩ (row := none) ?_, fun j x hx => ?_⟩
 · cases (Value.slice A l.length c).ownBlock <;> simp
 · obtain ⟨h1, A', c', h2, h3⟩ := h.2 j x hx
   have := hb.size
   exact ⟨h1, A', c', h2, (h3.below hb fun b hb => hb.2.1).mono fun b hb => ⟨hb.1, by omega, hb.2.2⟩⟩
theorem OA.drewN {w : World} {base : Nat} {A : Option Addr} {c : Nat} {l : List (Int × List Nat)} {cs : List Value} (h : OA w base A c l cs) (n : Nat) : OA (w.drewN n) base A c l cs := h

theorem OA.snoc {wr W2 W3 : World} {base : Nat} {A A' : Option Addr} {c c' : Nat} {l : List (Int × List Nat)} {cs : List Value} {m : Nat} (h : OA wr base A c l cs) (hm : l.length = m) (hb : Below wr.heap.size wr W2) {x : Int × List Nat} {Au : Option Addr} {cu : Nat}
 (hu : RB W2 (In wr.heap.size W2.heap.size) Au cu x.2) (hbase : base ≤ wr.heap.size)
 (hown : W3.ownsRow base 37 2 (.slice A' (m + 1) c') (m + 1) (cs ++ [.int .i64 x.1, .slice Au x.2.length cu])) (hg : W2.grownBy W3 (Value.slice A m c).ownBlock)
 (hor : (Value.slice A' (m + 1) c').ownBlock = (Value.slice A m c).ownBlock ∨ (Value.slice A' (m + 1) c').ownBlock = some W2.heap.size) :
 OA W3 base A' c' (l ++ [x]) (cs ++ [.int .i64 x.1, .slice Au x.2.length cu]) := by
 subst hm
 have hl := h.1.1
 have hlt := h.1.lt
 have hs := hb.size
 have hs' := hg.size
 have eown : (Value.slice A' (l.length + 1) c').ownBlock = (Value.slice A' (l ++ [x]).length c').ownBlock := by cases A' <;> rfl
 rw [eown] at hor
 have kept : ∀ (b : Nat), b < W2.heap.size → (Value.slice A l.length c).ownBlock ≠ some b → W3.heap[b]? = W2.heap[b]? := fun b h1 h2 => hg.block b h1 (fun e => h2 e.symm)
 refine ⟨by simpa using hown, fun j y hy => ?_⟩
 rcases Nat.lt_or_ge j l.length with hj | hj
 · rw [List.getElem?_append_left hj] at hy
   obtain ⟨h1, A1, c1, h2, h3⟩ := h.2 j y hy
   rw [List.getElem?_append_left (by omega), List.getElem?_append_left (by omega)]
   refine ⟨h1, A1, c1, h2, ((h3.below hb fun b hb => hb.2.1).keep fun p hp => ?_).mono fun b hp => ?_⟩
   · exact World.cell?_of_block (kept _ (by omega) hp.2.2)
   · refine ⟨hp.1, by omega, ?_⟩
     rcases hor with e | e
     · rw [e]; exact hp.2.2
     · rw [e]; intro e'; injection e' with e'; omega
 · have hjl : j = l.length := by
    have := (List.getElem?_eq_some_iff.1 hy).1
    simp at this
    omega
   subst hjl
   simp at hy
   subst hy
   rw [List.getElem?_append_right (by omega), List.getElem?_append_right (by omega), hl]
   refine ⟨by simp, Au, cu, by simp, (hu.keep fun p hp => ?_).mono fun b hp => ?_⟩
   · refine World.cell?_of_block (kept _ hp.2 fun e => ?_)
     have := (hlt _ e).2
     have := hp.1
     omega
   · have h1 := hp.1
     have h2 := hp.2
     refine ⟨by omega, by omega, ?_⟩
     rcases hor with e | e
     · rw [e]; intro e'; have := (hlt _ e').2; omega
     · rw [e]; intro e'; injection e' with e'; omega

theorem _root_.Go.Proofs.YtendnkpiidhogaaGreat.RB.take {w : World} {P : Nat → Prop} {A : Option Addr} {c : Nat} {bs : List Nat} (h : RB w P A c bs) (n : Nat) : RB w P A c (bs.take n) := by
 have h1 := h.1.pre (m := (bs.take n).length) (by simp; omega)
 have e : (bys bs).take ((bs.take n).length * 1) = bys (bs.take n) := by
  simp [bys, List.map_take]
 rw [e] at h1
 exact ⟨h1, fun b hb => h.2.1 b (List.mem_of_mem_take hb), by have := h.2.2; simp; omega⟩

set_option maxHeartbeats 400000 in
theorem short_any (P : Nat → Prop) (A : Option Addr) (c n : Nat) (bs : List Nat) (w : World) (h : RB w P A c bs) (hn : n ≤ 4611686018427387904) :
 Calls Tryz.prog 62 #[.slice A bs.length c, .int .i64 n] w fun e w' => e = .returned (.slice A (bs.take n).length c) ∧ w = w' := by
 obtain ⟨h1, h2, h3⟩ := h.cap
 by_cases hlt : n < bs.length
 · have e : (bs.take n).length = n := by simp; omega
   rw [e]
   clear e
   go_enter Tryz.func62, Tryz.ntmps62
   go_wp2
   go_ret
   exact ⟨rfl, rfl⟩
 · have e : (bs.take n).length = bs.length := by simp; omega
   rw [e]
   clear e
   go_enter Tryz.func62, Tryz.ntmps62
   go_wp2
   go_ret
   exact ⟨rfl, rfl⟩

theorem info48 : (Tryz.prog.info? 37).map (fun i => (i.zero, i.size, i.bytes)) = some (some (.agg #[.int .i64 0, .slice none 0 0]), 2, 32) := by kernel_rfl

def cutOf (l : List (Int × List Nat)) (n b : Nat) : List (Int × List Nat) := (l.take n).map fun x => (x.1, x.2.take b)
theorem cutOf_succ {l : List (Int × List Nat)} {k b : Nat} (hk : k < l.length) : cutOf l (k + 1) b = cutOf l k b ++ [(l[k].1, l[k].2.take b)] := by
 rw [cutOf, List.take_succ_eq_append_getElem hk, List.map_append]; rfl
theorem cutOf_length (l : List (Int × List Nat)) (n b : Nat) : (cutOf l n b).length = min n l.length := by simp [cutOf]

set_option maxRecDepth 100000 in
set_option maxHeartbeats 1600000 in
theorem cut_any (P : Nat → Prop) (A : Option Addr) (c : Nat) (l : List (Int × List Nat)) (n b : Nat) (w : World) (hv : RA w P A c l) (hP : ∀ b, P b → b < w.heap.size) (hn : n ≤ 1000000) (hb : b ≤ 1000000) :
 Calls Tryz.prog 47 #[.slice A l.length c, .int .i64 n, .int .i64 b] w fun e w' => ∃ A' c' cs, e = .returned (.slice A' (cutOf l n b).length c') ∧ OA w' w.heap.size A' c' (cutOf l n b) cs ∧ Below w.heap.size w w' := by
 obtain ⟨hlc, hc⟩ := hv.cap
 obtain ⟨i0, hi, hz0, hz1, hz2⟩ := info_parts info5
 obtain ⟨i1, hj, hy0, hy1, hy2⟩ := info_parts info48
 go_enter Tryz.func47, Tryz.ntmps47
 go_wp2
 go_loopw [7, 8] (fun v i wr => ∃ (k : Nat) (A' : Option Addr) (c' : Nat) (cs : List Value), k ≤ l.length ∧ k ≤ n ∧ i = .int .i64 k ∧ v = .slice A' (cutOf l k b).length c' ∧ OA wr w.heap.size A' c' (cutOf l k b) cs ∧ Below w.heap.size w wr) (fun _ i _ => l.length - (intOf i).toNat)
 case atStart => exact ⟨0, none, 0, [], Nat.zero_le _, Nat.zero_le _, rfl, rfl, OA.nil_ _ _, Below.refl _ _⟩
 case round =>
  obtain ⟨k, A', c', cs, hk, hkn, rfl, rfl, hO, hB⟩ := hrel
  have hs := hB.size
  by_cases hlt : k < l.length
  · by_cases hltn : k < n
    · obtain ⟨ad, Au, cu, rfl, hb, hc1, hc2, hu⟩ := (hv.below hB hP).at_ hlt
      have hP1 : ∀ b, P b → b < wr.heap.size := fun b hb => Nat.lt_of_lt_of_le (hP b hb) hs
      obtain ⟨bs, hbs⟩ : ∃ bs, l[k].2.take b = bs := ⟨_, rfl⟩
      obtain ⟨x, hx⟩ : ∃ x, l[k].1 = x := ⟨_, rfl⟩
      have hub : RB wr P Au cu bs := hbs ▸ hu.take b
      have hsucc := Lib.hid (cutOf_succ (b := b) hlt)
      rw [hx, hbs] at hsucc
      have hcall : ∀ W, RB W P Au cu l[k].2 → Calls Tryz.prog 62 #[.slice Au l[k].2.length cu, .int .i64 b] W fun e w' => e = .returned (.slice Au bs.length cu) ∧ W = w' := fun W h => hbs ▸ short_any P Au cu b _ W h (by omega)
      have Hcall := Lib.hid hcall
      have hn1 : (cutOf l k b).length ≤ 1000000 := by rw [cutOf_length]; omega
      obtain ⟨m, hm⟩ : ∃ m, (cutOf l k b).length = m := ⟨_, rfl⟩
      have hbs256 := hub.2.1
      have hbsl : bs.length ≤ 1000000 := by rw [← hbs]; simp; omega
      have hsz : (l[k].2.length : Int) ≤ 9223372036854775807 := by have := hu.cap; omega
      have hne : (Value.slice A' m c').ownBlock ≠ some ad.block := by
       intro e
       have := hO.1.lt _ (by rw [hm]; exact e)
       have := hP _ hb
       omega
      have hadlt := hP1 _ hb
      have HO := Lib.hid hO
      have Hm := Lib.hid hm
      have hown : wr.ownsRow w.heap.size 37 2 (.slice A' m c') m cs := hm ▸ hO.1
      rw [hx] at hc1
      rw [hm] at hn1
      rw [hm]
      clear hcall hbs hx hO hm
      go_wp2_with fail
      go_region_held3 (fun w' => w'.cell? (ad.add (k * 2)) = some (.int .i64 x) ∧ w'.cell? ⟨(ad.add (k * 2)).block, (ad.add (k * 2)).off + 1, none⟩ = some (.slice Au l[k].2.length cu))
       (first
        | go_keep
        | ((try dsimp only); refine ⟨?_, ?_⟩ <;> (first | go_keep | (rw [hg1.cell_far _ (by simp [block_of_add]; omega) (by simp [Value.ownBlock])]; assumption) | (go_split_ands; rw [hg2.cell_far _ (by have := hg1.size; simp [block_of_add] at this ⊢; omega) (fun e => hne (by simpa [block_of_add] using e.symm))]; go_keep))))
       (first
        | (go_at_call 62; refine (Hcall.out _ (by exact hu)).mono ?_; rintro e w' ⟨rfl, rfl⟩)
        | (refine step_append_rs _ (by rfl) _ _ _ (by rfl) wr.heap.size 5 i0 _ 1 1 Tryz.underlying33 hi hz0 hz1 hz2 rfl (by omega) (.slice none 0 0) 0 [] (by rfl) (World.ownsRow_nil _ _ _ _) P Au bs.length cu (bys bs) (by rfl) hub.1 (oneCell_bys _) bs.length (by omega) (by unfold maxLen; omega) (by omega) (by simp) ?_; intro A1 c1 w1 hown1 hg1 hor1)
        | (have _t := hg1; go_must (refine step_append_rs _ (by rfl) _ _ _ (by rfl) w.heap.size 37 i1 _ 2 32 Tryz.underlying24 hj hy0 hy1 hy2 rfl (by omega) (.slice A' m c') m cs (by rfl) ((own_kept (w := wr.drew) hown hg1).alloc _) (fun _ => True) (some ⟨w1.heap.size, 0, none⟩) 1 1 [.int .i64 x, .slice A1 bs.length c1] (by rfl) (RS.fresh #[.int .i64 x, .slice A1 bs.length c1] 37 2 1 rfl (by unfold maxLen; omega) trivial) (by simp [Value.oneCell']) (m + 1) rfl (by unfold maxLen; omega) (by omega) (by have := hg1.size; simp at this ⊢; omega) ?_; intro A2 c2 w2 hown2 hg2 hor2)))
      have hb1 : Below wr.heap.size wr w1 := (Below.refl wr.heap.size wr).drew.grown hg1 (Nat.le_refl _) (by simp [Value.ownBlock])
      have hb2 := hb1.alloc hb1.size (.cells #[.int .i64 x, .slice A1 bs.length c1] 37)
      have hu1 : RB w1 (In wr.heap.size w1.heap.size) A1 c1 bs := RB.of_own (by simpa using hown1) hbs256 (by omega)
      have hO' := Lib.hid (OA.snoc (x := (x, bs)) HO.out Hm.out hb2 ((hu1.keep fun p hp => World.cell?_alloc_lt w1 _ p hp.2).mono fun b hb => ⟨hb.1, by have := hb.2; simp; omega⟩) hs hown2 hg2 hor2)
      have hB' := (hB.trans (hb2.mono hs)).grown hg2 (by have := hb1.size; simp; omega) (fun g hg => by rw [← Hm.out] at hg; exact (HO.out.1.lt g hg).1)
      rw [← hsucc.out] at hO'
      have hlen := Lib.hid (show (cutOf l (k + 1) b).length = m + 1 by rw [hsucc.out, List.length_append, Hm.out]; rfl)
      clear hg1 hor1 hg2 hor2 hown1 hown2 hb1 hb2 hu1 _t
      go_wp2
      go_roundw
      case rel => exact ⟨k + 1, A2, c2, _, by omega, by omega, by go_num, by rw [hlen.out], hO'.out, hB'⟩
      case measure => simp [intOf]; omega
    · obtain rfl : k = n := by omega
      go_wp2
      go_ret
      exact ⟨A', c', cs, rfl, hO, hB⟩
  · have e : cutOf l k b = cutOf l n b := by
     have : k = l.length := by omega
     subst this
     unfold cutOf
     rw [List.take_of_length_le (Nat.le_refl _), List.take_of_length_le (by omega)]
    have he := Lib.hid e
    clear e
    by_cases hltn : k < n
    all_goals
     go_wp2
     go_ret
     exact ⟨A', c', cs, by rw [← he.out]; rfl, by rw [← he.out]; exact hO, hB⟩
end Go.Proofs.YtendnkpiidhogaaGreat.At

namespace Go.Proofs.YtendnkpiidhogaaGreat.At
open Go.RowKit

def num4 (v : Int) : List Nat := [(v / 16777216 % 256).toNat, (v / 65536 % 256).toNat, (v / 256 % 256).toNat, (v % 256).toNat]
theorem num4_lt (v : Int) : ∀ b ∈ num4 v, b < 256 := by
 intro b hb
 simp [num4] at hb
 omega
theorem bys_num4 (v : Int) : bys (num4 v) = [.int .u8 (v / 16777216 % 256), .int .u8 (v / 65536 % 256), .int .u8 (v / 256 % 256), .int .u8 (v % 256)] := by
 simp [bys, num4]
 omega

theorem _root_.Go.Proofs.YtendnkpiidhogaaGreat.RB.setCell {w : World} {P : Nat → Prop} {A : Option Addr} {c : Nat} {bs : List Nat} (h : RB w P A c bs) {p : Addr} (hp : ¬ P p.block) (u : Value) : RB (w.setCell p u) P A c bs :=
 h.keep fun q hq => World.cell?_setCell_other w p q u (fun e => by subst e; exact hp hq)
theorem _root_.Go.Proofs.YtendnkpiidhogaaGreat.RB.fresh {w : World} {P : Nat → Prop} (cs : Array Value) (t : TypeId) (bs : List Nat) (n H : Nat) (h : cs.toList = bys bs) (hb : ∀ b ∈ bs, b < 256) (hn : bs.length = n) (hl : n ≤ 1000000) (hH : w.heap.size = H) (hP : P H) : RB (w.alloc (.cells cs t)) P (some ⟨H, 0, none⟩) n bs := by
 subst hH hn
 have h1 : cs.size = bs.length * 1 := by
  have := congrArg List.length h
  simp [bys] at this
  omega
 have := RS.fresh (w := w) (P := P) cs t 1 bs.length h1 (by unfold maxLen; omega) hP
 rw [h] at this
 exact ⟨this, hb, by omega⟩
theorem grownBy_alloc_left {w w1 : World} {o : Obj} {row : Option Nat} (h : (w.alloc o).grownBy w1 row) : w.grownBy w1 row :=
 ⟨h.os, h.tape, h.output, by have := h.size; simp at this; omega, fun k hk hne => (h.block k (by simp; omega) hne).trans (Below.heap_alloc w o k hk)⟩

set_option maxHeartbeats 400000 in
theorem refNum_any (t v : Int) (w : World) :
 Calls Tryz.prog 31 #[.int .i64 t, .int .i64 v] w fun e w' => ∃ A c, e = .returned (.agg #[.int .i64 t, .slice A (num4 v).length c]) ∧ RB w' (In w.heap.size w'.heap.size) A c (num4 v) ∧ Below w.heap.size w w' := by
 go_enter Tryz.func31, Tryz.ntmps31
 go_wp2
 refine bodyPost_ret (v := .agg #[.int .i64 t, .slice (some ⟨w.heap.size + 1, 0, none⟩) 4 4]) (by simp [results, Tryz.results31, go_sem]) rfl ⟨_, _, rfl, ?_, ?_⟩
 · exact RB.fresh _ _ _ _ _ (by rw [bys_num4]) (num4_lt v) rfl (by decide) (by simp) ⟨by omega, by simp⟩
 · exact ((Below.refl _ w).alloc (Nat.le_refl _) _).alloc (by simp) _

set_option maxHeartbeats 400000 in
theorem append32_any (x : Int) (base : Nat) (A : Option Addr) (c n : Nat) (bs : List Nat) (w : World) (hx : 0 ≤ x ∧ x < 4294967296) (h : w.ownsRow base 5 1 (.slice A n c) n (bys bs)) (hbase : base ≤ w.heap.size) (hl : n ≤ 1000000) :
 Calls Tryz.prog 143 #[.slice A n c, .int .u32 x] w fun e w' => ∃ A' c', e = .returned (.slice A' (n + 4) c') ∧ w'.ownsRow base 5 1 (.slice A' (n + 4) c') (n + 4) (bys (bs ++ num4 x)) ∧ w.grownBy w' (Value.slice A n c).ownBlock := by
 obtain ⟨i0, hi, hz0, hz1, hz2⟩ := info_parts info5
 go_enter Tryz.func143, Tryz.ntmps143
 go_wp2_with (at_builtin; refine wpList_append_rs _ rfl _ _ 33 rfl base 5 i0 (.int .u8 0) 1 1 Tryz.underlying33 hi hz0 hz1 hz2 rfl (by decide) _ _ _ rfl (h.alloc _) (fun _ => True) (some ⟨w.heap.size, 0, none⟩) 4 4 (bys (num4 x)) rfl ?src (oneCell_bys _) (n + 4) rfl (by unfold maxLen; omega) (by omega) (by simp; omega) ?_)
 case src =>
  have e : (bys (num4 x)) = [.int .u8 (x / 16777216), .int .u8 (x / 65536 % 256), .int .u8 (x / 256 % 256), .int .u8 (x % 256)] := by
   rw [bys_num4, show x / 16777216 % 256 = x / 16777216 from by omega]
  rw [e]
  exact RS.fresh _ _ 1 4 rfl (by unfold maxLen; omega) trivial
 intro A' c' w1 hown hgrow hor
 go_wp2
 go_ret
 exact ⟨A', c', rfl, by rw [bys, List.map_append]; exact hown, grownBy_alloc_left hgrow⟩

theorem _root_.Go.Proofs.YtendnkpiidhogaaGreat.RB.of_own' {w : World} {base n : Nat} {e : TypeId} {A : Option Addr} {c : Nat} {bs : List Nat} (h : w.ownsRow base e 1 (.slice A n c) n (bys bs)) (hn : bs.length = n) (hb : ∀ b ∈ bs, b < 256) (hl : n ≤ 140737488355328) : RB w (In base w.heap.size) A c bs := by
 subst hn
 exact RB.of_own h hb hl

set_option maxHeartbeats 400000 in
theorem num_any (t v : Int) (w : World) :
 Calls Tryz.prog 99 #[.int .i64 t, .int .i64 v] w fun e w' => ∃ A c, e = .returned (.agg #[.int .i64 t, .slice A (num4 v).length c]) ∧ RB w' (In w.heap.size w'.heap.size) A c (num4 v) ∧ Below w.heap.size w w' := by
 have e4 : num4 (v % 4294967296) = num4 v := by
  simp [num4]
  omega
 go_enter Tryz.func99, Tryz.ntmps99
 go_wp2_with fail
 refine (append32_any (v % 4294967296) _ none 0 0 [] _ (by omega) (World.ownsRow_nil _ (w.heap.size + 1) _ _) (by simp) (by omega)).mono ?_
 rintro e w1 ⟨A1, c1, rfl, hown, hg⟩
 rw [e4] at hown
 have hb1 : Below w.heap.size w w1 := ((Below.refl _ w).alloc (Nat.le_refl _) _).grown hg (by simp) (by simp [Value.ownBlock])
 have hc := (hg.block w.heap.size (by simp) (by simp [Value.ownBlock])).trans (heap_alloc_new w _)
 have c0 := blk_cell hc 0
 have c1' := blk_cell hc 1
 simp at c0 c1'
 have f0 := blk_free hc 0
 have f1 := blk_free hc 1
 have hlt := blk_lt hc
 have Hc := Lib.hid hc
 clear hc hg
 go_wp2
 refine bodyPost_ret (v := .agg #[.int .i64 t, .slice A1 4 c1]) (by simp [results, Tryz.results99, go_sem, c0, c1']) rfl ⟨_, _, rfl, ?_, ?_⟩
 · have h1 : RB w1 (In (w.heap.size + 1) w1.heap.size) A1 c1 (num4 v) := RB.of_own' (n := 4) (by simpa using hown) rfl (num4_lt v) (by omega)
   refine ((h1.setCell (p := ⟨w.heap.size, 0, none⟩) (fun h => by have := h.1; simp at this; omega) _).setCell (p := ⟨w.heap.size, 1, none⟩) (fun h => by have := h.1; simp at this; omega) _).mono fun b hb => ⟨by have := hb.1; omega, by have := hb.2; simpa [World.setCell] using this⟩
 · exact (hb1.setCell (p := ⟨w.heap.size, 0, none⟩) (Nat.le_refl _) _).setCell (p := ⟨w.heap.size, 1, none⟩) (Nat.le_refl _) _

set_option maxHeartbeats 400000 in
theorem bool_any (t : Int) (v : Bool) (w : World) :
 Calls Tryz.prog 89 #[.int .i64 t, .bool v] w fun e w' => ∃ A c, e = .returned (.agg #[.int .i64 t, .slice A 1 c]) ∧ RB w' (In w.heap.size w'.heap.size) A c [v.toNat] ∧ Below w.heap.size w w' := by
 cases v
 all_goals
  go_enter Tryz.func89, Tryz.ntmps89
  go_wp2
  refine bodyPost_ret (v := .agg #[.int .i64 t, .slice (some ⟨w.heap.size + 1, 0, none⟩) 1 1]) (by simp [results, Tryz.results89, go_sem]) rfl ⟨_, _, rfl, ?_, ?_⟩
  · exact RB.fresh _ _ _ _ _ rfl (by simp) rfl (by decide) (by simp) ⟨by omega, by simp⟩
  · exact ((Below.refl _ w).alloc (Nat.le_refl _) _).alloc (by simp) _

set_option maxHeartbeats 400000 in
theorem refBool_any (t : Int) (v : Bool) (w : World) :
 Calls Tryz.prog 34 #[.int .i64 t, .bool v] w fun e w' => ∃ A c, e = .returned (.agg #[.int .i64 t, .slice A 1 c]) ∧ RB w' (In w.heap.size w'.heap.size) A c [v.toNat] ∧ Below w.heap.size w w' := by
 cases v
 all_goals
  go_enter Tryz.func34, Tryz.ntmps34
  go_wp2
  refine bodyPost_ret (v := .agg #[.int .i64 t, .slice (some ⟨w.heap.size + 1, 0, none⟩) 1 1]) (by simp [results, Tryz.results34, go_sem]) rfl ⟨_, _, rfl, ?_, ?_⟩
  · exact RB.fresh _ _ _ _ _ rfl (by simp) rfl (by decide) (by simp) ⟨by omega, by simp⟩
  · exact ((Below.refl _ w).alloc (Nat.le_refl _) _).alloc (by simp) _
end Go.Proofs.YtendnkpiidhogaaGreat.At

namespace Go.Proofs.YtendnkpiidhogaaGreat.At
open Go.RowKit

theorem take_succ_eq {α : Type} {l l' : List α} {k : Nat} (h : l.take k = l'.take k) (hk : k < l.length) (hk' : k < l'.length) (he : l[k] = l'[k]) : l.take (k + 1) = l'.take (k + 1) := by
 rw [List.take_succ_eq_append_getElem hk, List.take_succ_eq_append_getElem hk', h, he]
theorem take_ne {α : Type} {l l' : List α} {k : Nat} (hk : k < l.length) (hk' : k < l'.length) (he : l[k] ≠ l'[k]) : l ≠ l' := by
 rintro rfl
 exact he rfl

set_option maxRecDepth 100000 in
set_option maxHeartbeats 800000 in
theorem eq_any (P P' : Nat → Prop) (A A' : Option Addr) (c c' : Nat) (l l' : List (Int × List Nat)) (w : World) (hv : RA w P A c l) (hv' : RA w P' A' c' l') :
 Calls Tryz.prog 15 #[.slice A l.length c, .slice A' l'.length c'] w fun e w' => e = .returned (.bool (decide (l = l'))) ∧ ∃ n, w' = w.drewN n := by
 obtain ⟨hlc, hc⟩ := hv.cap
 obtain ⟨hlc', hc'⟩ := hv'.cap
 by_cases hlen : l.length = l'.length
 · have Hlen := Lib.hid hlen
   have e1 : ((l.length : Int) == (l'.length : Int)) = true := by simp; omega
   clear hlen
   go_enter Tryz.func15, Tryz.ntmps15
   go_wp2
   go_loopw [5] (fun i wr => ∃ k : Nat, k ≤ l.length ∧ i = .int .i64 k ∧ l.take k = l'.take k ∧ ∃ n, wr = w.drewN n) (fun i _ => l.length - (intOf i).toNat)
   case atStart => exact ⟨0, Nat.zero_le _, rfl, rfl, 0, rfl⟩
   case round =>
    obtain ⟨k, hk, rfl, htk, n, rfl⟩ := hrel
    have Htk := Lib.hid htk
    clear htk
    by_cases hlt : k < l.length
    · have hlt' : k < l'.length := by have := Hlen.out; omega
      obtain ⟨ad, Au, cu, rfl, hb, hc1, hc2, hu⟩ := hv.at_ hlt
      obtain ⟨ad', Au', cu', rfl, hb', hc1', hc2', hu'⟩ := hv'.at_ hlt'
      obtain ⟨x, hx⟩ : ∃ x, l[k] = x := ⟨_, rfl⟩
      obtain ⟨x', hx'⟩ : ∃ x', l'[k] = x' := ⟨_, rfl⟩
      rw [hx] at hc1 hc2 hu
      rw [hx'] at hc1' hc2' hu'
      have s1 := fun m => RB.strA (P := Tryz.prog) (show RB (w.drewN m) P Au cu x.2 from hu) 33 5 9 Tryz.underlying33 Tryz.underlying5 Tryz.underlying9
      have s2 := fun m => RB.strA (P := Tryz.prog) (show RB (w.drewN m) P' Au' cu' x'.2 from hu') 33 5 9 Tryz.underlying33 Tryz.underlying5 Tryz.underlying9
      have Hx := Lib.hid hx
      have Hx' := Lib.hid hx'
      clear hx hx'
      by_cases ht : x.1 = x'.1
      · have ht1 : (x.1 != x'.1) = false := by simp [ht]
        have Ht := Lib.hid ht
        clear ht
        by_cases he : x.2 = x'.2
        · have hne : ((strB x.2).toList == (strB x'.2).toList) = true := by rw [he]; simp
          have He := Lib.hid he
          clear he
          go_wp2_with fail
          go_quiet (fail)
          go_wp2
          go_roundw
          case rel => exact ⟨k + 1, by omega, by go_num, take_succ_eq Htk.out hlt hlt' (by rw [Hx.out, Hx'.out]; exact Prod.ext Ht.out He.out), _, rfl⟩
          case measure => simp [intOf]; omega
        · have hne : ((strB x.2).toList == (strB x'.2).toList) = false := by
           rw [beq_eq_false_iff_ne]
           exact fun h1 => he (strB_inj hu.2.1 hu'.2.1 h1)
          have hd := Lib.hid (show decide (l = l') = false by simp; exact take_ne hlt hlt' (by rw [Hx.out, Hx'.out]; intro e; exact he (by rw [e])))
          clear he
          go_wp2_with fail
          go_quiet (fail)
          go_wp2
          go_ret
          exact ⟨by rw [hd.out]; rfl, _, World.drewN_drewN _ _ _⟩
      · have ht1 : (x.1 != x'.1) = true := by simp [ht]
        have hd := Lib.hid (show decide (l = l') = false by simp; exact take_ne hlt hlt' (by rw [Hx.out, Hx'.out]; intro e; exact ht (by rw [e])))
        clear ht
        go_wp2_with fail
        go_quiet (fail)
        go_wp2
        go_ret
        exact ⟨by rw [hd.out]; rfl, _, World.drewN_drewN _ _ _⟩
    · have hd := Lib.hid (show decide (l = l') = true by
       have e := Htk.out
       have h2 := Hlen.out
       rw [List.take_of_length_le (by omega), List.take_of_length_le (by omega)] at e
       simp [e])
      go_wp2
      go_ret
      exact ⟨by rw [hd.out]; rfl, _, rfl⟩
 · have e1 : ((l.length : Int) == (l'.length : Int)) = false := by simp; omega
   have hd := Lib.hid (show decide (l = l') = false by simp; rintro rfl; exact hlen rfl)
   clear hlen
   go_enter Tryz.func15, Tryz.ntmps15
   go_wp2
   go_ret
   exact ⟨by rw [hd.out]; rfl, 0, rfl⟩

end Go.Proofs.YtendnkpiidhogaaGreat.At

namespace Go.Proofs.YtendnkpiidhogaaGreat.At
open Go.RowKit

theorem _root_.Go.Proofs.YtendnkpiidhogaaGreat.RS.drewN {w : World} {P : Nat → Prop} {size : Nat} {A : Option Addr} {n c : Nat} {cs : List Value} (h : RS w P size A n c cs) (d : Nat) : RS (w.drewN d) P size A n c cs := h

section
variable {w : World} {ops : Array Oper} {rest : List Oper} {o : Oper} {a : Act} {Q : Exit → Act → World → Prop}
theorem app48 (hgd : o.guard = none) (s x : Operand) (ho : o.op = .call { callee := .builtin .append, args := #[s, x], argTypes := #[24, 24] }) (base : Nat)
 (v : Value) (n : Nat) (xs : List Value) (hs : a.eval s = v) (hown : w.ownsRow base 37 2 v n xs)
 (B : Nat → Prop) (A : Option Addr) (m c : Nat) (news : List Value) (hx : a.eval x = .slice A m c) (hr : RS w B 2 A m c news) (h1 : ∀ u ∈ news, u.oneCell' = true) (k : Nat) (hk : n + m = k) (hb : k ≤ 1099511627776) (hbase : base ≤ w.heap.size)
 (h : ∀ A' c' w', w'.ownsRow base 37 2 (.slice A' k c') k (xs ++ news) → w.grownBy w' v.ownBlock → ((Value.slice A' k c').ownBlock = v.ownBlock ∨ (Value.slice A' k c').ownBlock = some w.heap.size) → wpList Tryz.prog ops Q rest (a.put o.dst (.slice A' k c')) w') : wpList Tryz.prog ops Q (o :: rest) a w := by
 obtain ⟨i1, hj, hy0, hy1, hy2⟩ := info_parts info48
 exact wpList_append_rs w hgd s x 24 ho base 37 i1 _ 2 32 Tryz.underlying24 hj hy0 hy1 hy2 rfl (by decide) v n xs hs hown B A m c news hx hr h1 k hk (by unfold maxLen; omega) (by omega) hbase h

theorem app48one {w0 : World} {y z : Value} (hgd : o.guard = none) (s x : Operand) (ho : o.op = .call { callee := .builtin .append, args := #[s, x], argTypes := #[24, 24] }) (base : Nat)
 (v : Value) (n : Nat) (xs : List Value) (hs : a.eval s = v) (hown : w0.ownsRow base 37 2 v n xs) (d : Nat) (hw : w = (w0.alloc (.cells #[y, z] 37)).drewN d)
 (hx : a.eval x = .slice (some ⟨w0.heap.size, 0, none⟩) 1 1) (h1 : y.oneCell' = true ∧ z.oneCell' = true) (hb : n + 1 ≤ 1099511627776) (hbase : base ≤ w0.heap.size)
 (h : ∀ A' c' w', w'.ownsRow base 37 2 (.slice A' (n + 1) c') (n + 1) (xs ++ [y, z]) → (w0.alloc (.cells #[y, z] 37)).grownBy w' v.ownBlock → ((Value.slice A' (n + 1) c').ownBlock = v.ownBlock ∨ (Value.slice A' (n + 1) c').ownBlock = some (w0.alloc (.cells #[y, z] 37)).heap.size) → wpList Tryz.prog ops Q rest (a.put o.dst (.slice A' (n + 1) c')) w') : wpList Tryz.prog ops Q (o :: rest) a w := by
 subst hw
 exact app48 hgd s x ho base v n xs hs (show (w0.alloc _).ownsRow _ _ _ _ _ _ from hown.alloc _) (fun _ => True) _ 1 1 [y, z] hx (RS.drewN (RS.fresh (P := fun _ => True) #[y, z] 37 2 1 rfl (by unfold maxLen; omega) trivial) d) (by simp [h1]) (n + 1) rfl hb (by simp; omega)
  (fun A' c' w' h2 h3 h4 => h A' c' w' h2 ⟨h3.os, h3.tape, h3.output, h3.size, h3.block⟩ h4)
end

def OV (w : World) (base : Nat) (V : Nat → Prop) (A : Option Addr) (c : Nat) (l : List (Int × List Nat)) (cs : List Value) : Prop :=
 w.ownsRow base 37 2 (.slice A l.length c) l.length cs ∧ (∀ b, V b → b < base) ∧ ∀ j x, l[j]? = some x → cs[j * 2]? = some (.int .i64 x.1) ∧
  ∃ A' c', cs[j * 2 + 1]? = some (.slice A' x.2.length c') ∧ RB w V A' c' x.2
theorem OV.nil_ (w : World) (base : Nat) (V : Nat → Prop) (hV : ∀ b, V b → b < base) : OV w base V none 0 [] [] := ⟨World.ownsRow_nil _ _ _ _, hV, by simp⟩
theorem OV.snoc {wr W2 W3 : World} {base : Nat} {V : Nat → Prop} {A A' : Option Addr} {c c' : Nat} {l : List (Int × List Nat)} {cs : List Value} {m : Nat} (h : OV wr base V A c l cs) (hm : l.length = m) (hb : Below wr.heap.size wr W2) {x : Int × List Nat} {Au : Option Addr} {cu : Nat}
 (hu : RB wr V Au cu x.2) (hbase : base ≤ wr.heap.size)
 (hown : W3.ownsRow base 37 2 (.slice A' (m + 1) c') (m + 1) (cs ++ [.int .i64 x.1, .slice Au x.2.length cu])) (hg : W2.grownBy W3 (Value.slice A m c).ownBlock) :
 OV W3 base V A' c' (l ++ [x]) (cs ++ [.int .i64 x.1, .slice Au x.2.length cu]) ∧ Below base wr W3 := by
 subst hm
 have hl := h.1.1
 have hlt := h.1.lt
 have hs := hb.size
 have hB3 : Below base wr W3 := (hb.mono hbase).grown hg (by omega) (fun g hg => (hlt g hg).1)
 refine ⟨⟨by simpa using hown, h.2.1, fun j y hy => ?_⟩, hB3⟩
 rcases Nat.lt_or_ge j l.length with hj | hj
 · rw [List.getElem?_append_left hj] at hy
   obtain ⟨h1, A1, c1, h2, h3⟩ := h.2.2 j y hy
   rw [List.getElem?_append_left (by omega), List.getElem?_append_left (by omega)]
   exact ⟨h1, A1, c1, h2, h3.below hB3 h.2.1⟩
 · have hjl : j = l.length := by
    have := (List.getElem?_eq_some_iff.1 hy).1
    simp at this
    omega
   subst hjl
   simp at hy
   subst hy
   rw [List.getElem?_append_right (by omega), List.getElem?_append_right (by omega), hl]
   exact ⟨by simp, Au, cu, by simp, hu.below hB3 h.2.1⟩
theorem OV.keep {w w' : World} {base : Nat} {V : Nat → Prop} {A : Option Addr} {c : Nat} {l : List (Int × List Nat)} {cs : List Value} (h : OV w base V A c l cs) (hb : Below w.heap.size w w') (hbase : base ≤ w.heap.size) : OV w' base V A c l cs := by
 refine ⟨own_kept h.1 ⟨hb.os, hb.tape, hb.output, hb.size, fun k hk _ => hb.block k hk⟩, h.2.1, fun j x hx => ?_⟩
 obtain ⟨h1, A', c', h2, h3⟩ := h.2.2 j x hx
 exact ⟨h1, A', c', h2, h3.below hb fun b hb => Nat.lt_of_lt_of_le (h.2.1 b hb) hbase⟩
theorem OV.ra {w : World} {base : Nat} {V : Nat → Prop} {A : Option Addr} {c : Nat} {l : List (Int × List Nat)} {cs : List Value} (h : OV w base V A c l cs) : RA w (fun b => V b ∨ In base w.heap.size b) A c l :=
 ⟨cs, (RS.of_own h.1).mono fun b hb => .inr hb, fun j x hx => by
  obtain ⟨h1, A', c', h2, h3⟩ := h.2.2 j x hx
  exact ⟨h1, A', c', h2, h3.mono fun b hb => .inl hb⟩⟩

def ins (a : Int × List Nat) : List (Int × List Nat) → List (Int × List Nat)
 | [] => [a]
 | x :: r => if a.1 < x.1 then a :: x :: r else x :: ins a r
def others (t : Int) (l : List (Int × List Nat)) : List (Int × List Nat) := l.filter fun x => !(x.1 == t)
def putOf (l : List (Int × List Nat)) (a : Int × List Nat) : List (Int × List Nat) := ins a (others a.1 l)
theorem others_skip {t : Int} {l : List (Int × List Nat)} {k : Nat} (hk : k < l.length) (h : (l[k].1 == t) = true) : others t (l.drop k) = others t (l.drop (k + 1)) := by
 rw [List.drop_eq_getElem_cons hk, others, List.filter_cons, h]; rfl
theorem others_take {t : Int} {l : List (Int × List Nat)} {k : Nat} (hk : k < l.length) (h : (l[k].1 == t) = false) : others t (l.drop k) = l[k] :: others t (l.drop (k + 1)) := by
 rw [List.drop_eq_getElem_cons hk, others, List.filter_cons, h]; rfl
theorem length_ins (a : Int × List Nat) (l : List (Int × List Nat)) : (ins a l).length = l.length + 1 := by
 induction l with
 | nil => rfl
 | cons x r ih => unfold ins; split <;> simp [ih]
theorem length_putOf (l : List (Int × List Nat)) (a : Int × List Nat) : (putOf l a).length ≤ l.length + 1 := by
 rw [putOf, length_ins, others]
 have := List.length_filter_le (fun x => !(x.1 == a.1)) l
 omega
def putInv (l : List (Int × List Nat)) (a : Int × List Nat) (k : Nat) (out : List (Int × List Nat)) (d : Bool) : Prop :=
 putOf l a = out ++ (if d then others a.1 (l.drop k) else ins a (others a.1 (l.drop k)))
theorem putInv_zero (l : List (Int × List Nat)) (a : Int × List Nat) : putInv l a 0 [] false := by simp [putInv, putOf]
theorem putInv_skip {l : List (Int × List Nat)} {a : Int × List Nat} {k : Nat} {out : List (Int × List Nat)} {d : Bool} (h : putInv l a k out d) (hk : k < l.length) (he : (l[k].1 == a.1) = true) : putInv l a (k + 1) out d := by
 rw [putInv, others_skip hk he] at h; exact h
theorem putInv_done {l : List (Int × List Nat)} {a : Int × List Nat} {k : Nat} {out : List (Int × List Nat)} (h : putInv l a k out true) (hk : k < l.length) (he : (l[k].1 == a.1) = false) : putInv l a (k + 1) (out ++ [l[k]]) true := by
 rw [putInv, others_take hk he] at h; rw [putInv, h]; simp
theorem putInv_lo {l : List (Int × List Nat)} {a : Int × List Nat} {k : Nat} {out : List (Int × List Nat)} (h : putInv l a k out false) (hk : k < l.length) (he : (l[k].1 == a.1) = false) (hl : ¬ a.1 < l[k].1) : putInv l a (k + 1) (out ++ [l[k]]) false := by
 rw [putInv, others_take hk he] at h; rw [putInv, h]; simp [ins, hl]
theorem putInv_hi {l : List (Int × List Nat)} {a : Int × List Nat} {k : Nat} {out : List (Int × List Nat)} (h : putInv l a k out false) (hk : k < l.length) (he : (l[k].1 == a.1) = false) (hl : a.1 < l[k].1) : putInv l a (k + 1) ((out ++ [a]) ++ [l[k]]) true := by
 rw [putInv, others_take hk he] at h; rw [putInv, h]; simp [ins, hl]
theorem putInv_end_done {l : List (Int × List Nat)} {a : Int × List Nat} {k : Nat} {out : List (Int × List Nat)} (h : putInv l a k out true) (hk : ¬ k < l.length) : putOf l a = out := by
 rw [putInv, List.drop_eq_nil_of_le (by omega)] at h; simpa [others] using h
theorem putInv_end {l : List (Int × List Nat)} {a : Int × List Nat} {k : Nat} {out : List (Int × List Nat)} (h : putInv l a k out false) (hk : ¬ k < l.length) : putOf l a = out ++ [a] := by
 rw [putInv, List.drop_eq_nil_of_le (by omega)] at h; simpa [others, ins] using h
def putAt (l : List (Int × List Nat)) (a : Int × List Nat) (k : Nat) (out : List (Int × List Nat)) (p : Nat) : Prop :=
 p ≤ out.length ∧ putOf l a = out.take p ++ a :: (out.drop p ++ others a.1 (l.drop k))
theorem putAt_skip {l : List (Int × List Nat)} {a : Int × List Nat} {k : Nat} {out : List (Int × List Nat)} {p : Nat} (h : putAt l a k out p) (hk : k < l.length) (he : (l[k].1 == a.1) = true) : putAt l a (k + 1) out p := by
 obtain ⟨h1, h2⟩ := h; rw [others_skip hk he] at h2; exact ⟨h1, h2⟩
theorem putAt_more {l : List (Int × List Nat)} {a : Int × List Nat} {k : Nat} {out : List (Int × List Nat)} {p : Nat} (h : putAt l a k out p) (hk : k < l.length) (he : (l[k].1 == a.1) = false) : putAt l a (k + 1) (out ++ [l[k]]) p := by
 obtain ⟨h1, h2⟩ := h
 rw [others_take hk he] at h2
 refine ⟨by simp; omega, ?_⟩
 rw [h2, List.take_append_of_le_length h1, List.drop_append_of_le_length h1]
 simp
theorem putAt_hi {l : List (Int × List Nat)} {a : Int × List Nat} {k : Nat} {out : List (Int × List Nat)} (h : putInv l a k out false) (hk : k < l.length) (he : (l[k].1 == a.1) = false) (hl : a.1 < l[k].1) : putAt l a (k + 1) (out ++ [l[k]]) out.length := by
 rw [putInv, others_take hk he] at h
 refine ⟨by simp, ?_⟩
 rw [h]
 simp [ins, hl]
theorem putAt_end {l : List (Int × List Nat)} {a : Int × List Nat} {k : Nat} {out : List (Int × List Nat)} {p : Nat} (h : putAt l a k out p) (hk : ¬ k < l.length) : putOf l a = out.take p ++ a :: out.drop p := by
 obtain ⟨h1, h2⟩ := h
 rw [List.drop_eq_nil_of_le (by omega : l.length ≤ k)] at h2
 simpa [others] using h2
end Go.Proofs.YtendnkpiidhogaaGreat.At

namespace Go.Proofs.YtendnkpiidhogaaGreat.At
open Go.RowKit

set_option maxRecDepth 100000 in
set_option maxHeartbeats 2000000 in
theorem refPut_any (P : Nat → Prop) (A : Option Addr) (c : Nat) (l : List (Int × List Nat)) (a : Int × List Nat) (Aa : Option Addr) (ca : Nat) (w : World) (hv : RA w P A c l) (ha : RB w P Aa ca a.2) (hP : ∀ b, P b → b < w.heap.size) (hl : l.length ≤ 1000000) :
 Calls Tryz.prog 18 #[.slice A l.length c, .agg #[.int .i64 a.1, .slice Aa a.2.length ca]] w fun e w' => ∃ A' c' cs, e = .returned (.slice A' (putOf l a).length c') ∧ OV w' (w.heap.size + 1) P A' c' (putOf l a) cs ∧ Below w.heap.size w w' := by
 obtain ⟨hlc, hc⟩ := hv.cap
 go_enter Tryz.func18, Tryz.ntmps18
 go_wp2
 obtain ⟨w1, hw1⟩ : ∃ w1, w.alloc (.cells #[.int .i64 a.1, .slice Aa a.2.length ca] 37) = w1 := ⟨_, rfl⟩
 have hsz : w1.heap.size = w.heap.size + 1 := by rw [← hw1]; simp
 have hb1 : w1.heap[w.heap.size]? = some (.cells #[.int .i64 a.1, .slice Aa a.2.length ca] 37) := by rw [← hw1]; exact heap_alloc_new w _
 have hBw : Below w.heap.size w w1 := by rw [← hw1]; exact (Below.refl _ _).alloc (Nat.le_refl _) _
 rw [hw1]
 have Hsz := Lib.hid hsz
 have Hb1 := Lib.hid hb1
 clear hw1 hsz hb1
 go_loopw [5, 6, 7] (fun v d i wr => ∃ (k : Nat) (A' : Option Addr) (c' n : Nat) (cs : List Value) (out : List (Int × List Nat)) (dn : Bool), k ≤ l.length ∧ n ≤ k + 1 ∧ out.length = n ∧ v = .slice A' n c' ∧ d = .bool dn ∧ i = .int .i64 k ∧ OV wr (w.heap.size + 1) P A' c' out cs ∧ Below (w.heap.size + 1) w1 wr ∧ putInv l a k out dn ∧ (dn = false → n ≤ k)) (fun _ _ i _ => l.length - (intOf i).toNat)
 case atStart => exact ⟨0, none, 0, 0, [], [], false, Nat.zero_le _, by omega, rfl, rfl, rfl, rfl, OV.nil_ _ _ _ (fun b hb => by have := hP b hb; omega), Below.refl _ _, putInv_zero l a, by omega⟩
 case round =>
  obtain ⟨k, A', c', n, cs, out, dn, hk, hn, hout, rfl, rfl, rfl, hO, hB, hI, hdn⟩ := hrel
  have Hout := Lib.hid hout
  clear hout
  have hs : w.heap.size + 1 ≤ wr.heap.size := by have := hB.size; have := Hsz.out; omega
  have hbox := (hB.block w.heap.size (by omega)).trans Hb1.out
  have x0 := blk_cell hbox 0
  have x1 := blk_cell hbox 1
  simp at x0 x1
  have HI := Lib.hid hI
  have HO := Lib.hid hO
  have Hbox := Lib.hid hbox
  have hBw' := hBw.trans (hB.mono (by omega))
  clear hI hbox
  by_cases hlt : k < l.length
  · obtain ⟨ad, Au, cu, rfl, hb, hc1, hc2, hu⟩ := (hv.below hBw' hP).at_ hlt
    obtain ⟨x, hx⟩ : ∃ x, l[k] = x := ⟨_, rfl⟩
    rw [hx] at hc1 hc2 hu
    have Hx := Lib.hid hx
    clear hx
    by_cases he : x.1 = a.1
    · have he' : (x.1 == a.1) = true := by simp [he]
      have hi := Lib.hid (putInv_skip HI.out hlt (by rw [Hx.out]; exact he'))
      clear he
      go_wp2_with fail
      go_quiet (fail)
      go_wp2
      go_roundw
      case rel => exact ⟨k + 1, A', c', n, cs, out, dn, by omega, by omega, Hout.out, rfl, rfl, by go_num, HO.out, below_drewN hB _, hi.out, fun h => by have := hdn h; omega⟩
      case measure => simp [intOf]; omega
    · have he' : (x.1 == a.1) = false := by simp [he]
      clear he
      have har : RB wr P Aa ca a.2 := ha.below hBw' hP
      have hadlt := hP _ hb
      cases dn
      · have hn2 : n ≤ k := hdn rfl
        by_cases hgt : a.1 < x.1
        · have hi := Lib.hid (putInv_hi HI.out hlt (by rw [Hx.out]; exact he') (by rw [Hx.out]; exact hgt))
          rw [Hx.out] at hi
          go_wp2_with fail
          go_quiet (fail)
          go_wp2_with fail
          go_quiet (fail)
          go_wp2_with (first
           | (at_builtin; refine app48one (w0 := wr) rfl (.tmp 34) (.tmp 36) rfl (w.heap.size + 1) (.slice A' n c') n cs rfl (Hout.out ▸ HO.out.1) _ rfl rfl ⟨rfl, rfl⟩ (by omega) hs ?_; intro A1 c1 w2 hown2 hg2 hor2; have hW2 := OV.snoc (x := a) HO.out Hout.out ((Below.refl wr.heap.size wr).alloc (Nat.le_refl _) _) har hs hown2 hg2; clear hown2 hg2 hor2; have y1 : w2.cell? (ad.add (k * 2)) = some (.int .i64 x.1) := (hW2.2.cell (by rw [block_of_add]; omega)).trans hc1; have y2 : w2.cell? ⟨(ad.add (k * 2)).block, (ad.add (k * 2)).off + 1, none⟩ = some (.slice Au x.2.length cu) := (hW2.2.cell (by show (ad.add (k * 2)).block < _; rw [block_of_add]; omega)).trans hc2; have hs2 := hW2.2.size; have Hl2 := Lib.hid (show (out ++ [a]).length = n + 1 by rw [List.length_append, Hout.out]; rfl))
           | (at_builtin; refine app48one (w0 := w2) rfl (.tmp 38) (.tmp 43) rfl (w.heap.size + 1) (.slice A1 (n + 1) c1) (n + 1) _ rfl (Hl2.out ▸ hW2.1.1) 0 rfl rfl ⟨rfl, rfl⟩ (by omega) (by omega) ?_; intro A2 c2 w3 hown3 hg3 hor3; have hW3 := OV.snoc (x := x) hW2.1 Hl2.out ((Below.refl w2.heap.size w2).alloc (Nat.le_refl _) _) (hu.below hW2.2 fun b hb => by have := hP b hb; omega) (by omega) hown3 hg3; clear hown3 hg3 hor3))
          go_roundw
          case rel => exact ⟨k + 1, A2, c2, n + 1 + 1, _, _, true, by omega, by omega, by simp [Hout.out], rfl, rfl, by go_num, hW3.1, (hB.trans hW2.2).trans hW3.2, hi.out, by simp⟩
          case measure => simp [intOf]; omega
        · have hi := Lib.hid (putInv_lo HI.out hlt (by rw [Hx.out]; exact he') (by rw [Hx.out]; exact hgt))
          rw [Hx.out] at hi
          go_wp2_with fail
          go_quiet (fail)
          go_wp2_with fail
          go_quiet (fail)
          go_wp2_with (at_builtin; refine app48one (w0 := wr) rfl (.tmp 38) (.tmp 43) rfl (w.heap.size + 1) (.slice A' n c') n cs rfl (Hout.out ▸ HO.out.1) _ rfl rfl ⟨rfl, rfl⟩ (by omega) hs ?_; intro A1 c1 w2 hown2 hg2 hor2; have hW2 := OV.snoc (x := x) HO.out Hout.out ((Below.refl wr.heap.size wr).alloc (Nat.le_refl _) _) hu hs hown2 hg2; clear hown2 hg2 hor2)
          go_roundw
          case rel => exact ⟨k + 1, A1, c1, n + 1, _, _, false, by omega, by omega, by simp [Hout.out], rfl, rfl, by go_num, hW2.1, hB.trans hW2.2, hi.out, by omega⟩
          case measure => simp [intOf]; omega
      · have hi := Lib.hid (putInv_done HI.out hlt (by rw [Hx.out]; exact he'))
        rw [Hx.out] at hi
        go_wp2_with fail
        go_quiet (fail)
        go_wp2_with fail
        go_quiet (fail)
        go_wp2_with (at_builtin; refine app48one (w0 := wr) rfl (.tmp 38) (.tmp 43) rfl (w.heap.size + 1) (.slice A' n c') n cs rfl (Hout.out ▸ HO.out.1) _ rfl rfl ⟨rfl, rfl⟩ (by omega) hs ?_; intro A1 c1 w2 hown2 hg2 hor2; have hW2 := OV.snoc (x := x) HO.out Hout.out ((Below.refl wr.heap.size wr).alloc (Nat.le_refl _) _) hu hs hown2 hg2; clear hown2 hg2 hor2)
        go_roundw
        case rel => exact ⟨k + 1, A1, c1, n + 1, _, _, true, by omega, by omega, by simp [Hout.out], rfl, rfl, by go_num, hW2.1, hB.trans hW2.2, hi.out, by simp⟩
        case measure => simp [intOf]; omega
  · have har : RB wr P Aa ca a.2 := ha.below hBw' hP
    cases dn
    · have hi := Lib.hid (putInv_end HI.out hlt)
      go_wp2_with (at_builtin; refine app48one (w0 := wr) rfl (.tmp 47) (.tmp 49) rfl (w.heap.size + 1) (.slice A' n c') n cs rfl (Hout.out ▸ HO.out.1) 0 rfl rfl ⟨rfl, rfl⟩ (by omega) hs ?_; intro A1 c1 w2 hown2 hg2 hor2; have hW2 := OV.snoc (x := a) HO.out Hout.out ((Below.refl wr.heap.size wr).alloc (Nat.le_refl _) _) har hs hown2 hg2; clear hown2 hg2 hor2)
      go_ret
      have hW3 := hW2.1
      rw [← hi.out] at hW3
      exact ⟨A1, c1, by rw [hi.out, List.length_append, Hout.out]; rfl, ⟨_, hW3⟩, hBw'.trans (hW2.2.mono (by omega))⟩
    · have hi := Lib.hid (putInv_end_done HI.out hlt)
      go_wp2
      go_ret
      refine ⟨A', c', cs, ?_, ?_, hBw'⟩
      · rw [hi.out, Hout.out]; rfl
      · rw [hi.out]; exact HO.out
end Go.Proofs.YtendnkpiidhogaaGreat.At

namespace Go.Proofs.YtendnkpiidhogaaGreat.At
open Go.RowKit

set_option maxRecDepth 100000 in
set_option maxHeartbeats 1000000 in
theorem copied_any (P : Nat → Prop) (a : Int × List Nat) (Aa : Option Addr) (ca : Nat) (w : World) (ha : RB w P Aa ca a.2) (hP : ∀ b, P b → b < w.heap.size) :
 Calls Tryz.prog 126 #[.agg #[.int .i64 a.1, .slice Aa a.2.length ca]] w fun e w' => ∃ A' c', e = .returned (.agg #[.int .i64 a.1, .slice A' a.2.length c']) ∧ RB w' (In w.heap.size w'.heap.size) A' c' a.2 ∧ Below w.heap.size w w' := by
 go_enter Tryz.func126, Tryz.ntmps126
 go_wp2_with fail
 obtain ⟨W, hW⟩ : ∃ W, (w.alloc (.cells #[.int .i64 a.1, .slice Aa a.2.length ca] 37)).alloc (.cells #[.int .i64 0, .slice none 0 0] 37) = W := ⟨_, rfl⟩
 have hb0 : W.heap[w.heap.size]? = some (.cells #[.int .i64 a.1, .slice Aa a.2.length ca] 37) := by
  rw [← hW]; exact (Below.heap_alloc _ _ _ (by simp)).trans (heap_alloc_new w _)
 have hb1 : W.heap[w.heap.size + 1]? = some (.cells #[.int .i64 0, .slice none 0 0] 37) := by
  rw [← hW]; have := heap_alloc_new (w.alloc (.cells #[.int .i64 a.1, .slice Aa a.2.length ca] 37)) (.cells #[.int .i64 0, .slice none 0 0] 37); rwa [World.size_alloc] at this
 have hsz : W.heap.size = w.heap.size + 2 := by rw [← hW]; simp
 have hBW : Below w.heap.size w W := by rw [← hW]; exact ((Below.refl _ w).alloc (Nat.le_refl _) _).alloc (by simp) _
 rw [hW]
 have x0 := blk_cell hb0 0
 have x1 := blk_cell hb0 1
 have y0 := blk_cell hb1 0
 have y1 := blk_cell hb1 1
 have f0 := blk_free hb1 0
 have f1 := blk_free hb1 1
 simp at x0 x1 y0 y1
 have haW : RB W P Aa ca a.2 := ha.below hBW hP
 have Hcall := Lib.hid (fun V (hV : RB V P Aa ca a.2) (hs : ∀ b, P b → b < V.heap.size) => clone_any P Aa ca a.2 V hV hs)
 have hPW : ∀ b, P b → b < W.heap.size := fun b hb => by have := hP b hb; omega
 have Hsz := Lib.hid hsz
 have hlt0 : w.heap.size < W.heap.size := by omega
 have hlt1 : w.heap.size + 1 < W.heap.size := by omega
 clear hW hsz hb0 hb1
 go_region_held3 (fun w' => w'.cell? ⟨w.heap.size, 0, none⟩ = some (.int .i64 a.1) ∧ w'.cell? ⟨w.heap.size, 1, none⟩ = some (.slice Aa a.2.length ca))
  (first
   | go_keep
   | ((try dsimp only); refine ⟨(hB1.cell (by simp; omega)).trans x0, (hB1.cell (by simp; omega)).trans x1⟩))
  (first
   | (go_at_call 83; refine (Hcall.out _ (by exact haW) (by exact hPW)).mono ?_; rintro e w1 ⟨A1, c1, rfl, hr, hB1⟩; have z0 := (hB1.cell (p := ⟨w.heap.size + 1, 0, none⟩) (by simp; omega)).trans y0; have z1 := (hB1.cell (p := ⟨w.heap.size + 1, 1, none⟩) (by simp; omega)).trans y1; have g0 := (hB1.frozen (p := ⟨w.heap.size + 1, 0, none⟩) (by simp; omega)).trans f0; have g1 := (hB1.frozen (p := ⟨w.heap.size + 1, 1, none⟩) (by simp; omega)).trans f1; have hs1 := hB1.size))
 go_wp2
 have hs1' : W.heap.size ≤ w1.heap.size := by simpa using hs1
 have hB1' : Below W.heap.size W w1 := ⟨hB1.os, hB1.tape, hB1.output, hB1.size, hB1.block⟩
 have hr' : RB w1 (In W.heap.size w1.heap.size) A1 c1 a.2 := hr
 refine bodyPost_ret (v := .agg #[.int .i64 a.1, .slice A1 a.2.length c1]) (by simp [results, Tryz.results126, go_sem, z0, z1]) rfl ⟨A1, c1, rfl, ?_, ?_⟩
 · refine ((hr'.setCell (p := ⟨w.heap.size + 1, 0, none⟩) (fun h => by have := h.1; simp at this; omega) _).setCell (p := ⟨w.heap.size + 1, 1, none⟩) (fun h => by have := h.1; simp at this; omega) _).mono fun b hb => ⟨by have := hb.1; omega, by have := hb.2; simpa [World.setCell] using this⟩
 · exact ((hBW.trans (hB1'.mono (by omega))).setCell (p := ⟨w.heap.size + 1, 0, none⟩) (by simp) _).setCell (p := ⟨w.heap.size + 1, 1, none⟩) (by simp) _
end Go.Proofs.YtendnkpiidhogaaGreat.At

namespace Go.Proofs.YtendnkpiidhogaaGreat.At
open Go.RowKit

theorem run_copy_rowN {P : Program} (w : World) (dT sT ty elem : TypeId) (g o dLen dCap : Nat) (a : Addr) (sLen sCap size n : Nat) (cur : Array Value) (t : TypeId) (cs : List Value)
    (hu : P.underlying dT = some (.slice elem)) (hs : (P.info? elem).map (·.size) = some size)
    (hg : w.heap[g]? = some (.cells cur t (0, 0))) (hn : n = Nat.min sLen dLen) (hl : cs.length = n * size)
    (hsrc : ∀ j v, cs[j]? = some v → w.cell? (a.add j) = some v) (hfit : o + cs.length ≤ cur.size) (h1 : ∀ v ∈ cs, v.oneCell' = true) :
    (Builtin.copy_ #[dT, sT] ty #[.slice (some ⟨g, o, none⟩) dLen dCap, .slice (some a) sLen sCap]).run P w =
      .ok (goInt n) (w.setRow g (cur.toList.take o ++ cs ++ cur.toList.drop (o + cs.length)).toArray) := by
  have hld := run_loadCells_list (P := P) w a cs hsrc
  have hst := run_storeCells_at P g o t cs 0 cur w hg (by simpa using hfit) h1
  cases hq : P.info? elem with
  | none => simp [hq] at hs
  | some i =>
    have hi : i.size = size := by simpa [hq] using hs
    rw [hl] at hld
    simp [Builtin.copy_, run_underlying hu, Builtin.lenOf, Builtin.firstCells, sizeOf, typeInfo, hq, hi, ← hn, hld, hst]

theorem wp_copy_eq {P : Program} (w : World) {o : Oper} {a : Act} {K : Act → World → Prop} {Q : Exit → Act → World → Prop} (d s : Operand) (t t' : TypeId)
 (ho : o.op = .call { callee := .builtin .copy, args := #[d, s], argTypes := #[t, t'] }) (v u : Value) (hd : a.eval d = v) (hs : a.eval s = u) {v' : Value} {w' : World}
 (hr : (Builtin.copy_ #[t, t'] o.type #[v, u]).run P w = .ok v' w') (h : K (a.put o.dst v') w') : o.wp P a w K Q := by
 unfold Oper.wp execOp
 simp only [ho, resolve, invoke, builtin, Sem.run_bind, Sem.run_pure, Result.andThen_ok, List.map_toArray, List.map_cons, List.map_nil, hd, hs, hr]
 exact h
theorem wpList_copy_eq {P : Program} (w : World) {ops : Array Oper} {rest : List Oper} {o : Oper} {a : Act} {Q : Exit → Act → World → Prop} (hgd : o.guard = none) (d s : Operand) (t t' : TypeId)
 (ho : o.op = .call { callee := .builtin .copy, args := #[d, s], argTypes := #[t, t'] }) (v u : Value) (hd : a.eval d = v) (hs : a.eval s = u) {v' : Value} {w' : World}
 (hr : (Builtin.copy_ #[t, t'] o.type #[v, u]).run P w = .ok v' w') (h : wpList P ops Q rest (a.put o.dst v') w') : wpList P ops Q (o :: rest) a w :=
 wpList_plain hgd fun _ hK => wp_copy_eq w d s t t' ho v u hd hs hr (hK _ _ h)
theorem step_copy_eq {P : Program} {ops : Array Oper} {o : Oper} {a : Act} {w : World} {K : Act → World → Prop} {Q : Exit → Act → World → Prop} {E : Prop}
 (hg : o.guard = none) (d x : Operand) (dT sT : TypeId) (hop : o.op = Op.call { callee := Callee.builtin Builtin.copy, args := #[d, x], argTypes := #[dT, sT] })
 (v u : Value) (hd : a.eval d = v) (hx : a.eval x = u) {v' : Value} {w' : World} (hr : (Builtin.copy_ #[dT, sT] o.type #[v, u]).run P w = .ok v' w') (hK : K (a.put o.dst v') w') :
 if Region.wanted o (yielded ops a.tmps) = true then Oper.wp P o a w K Q else E := by
 have hw : Region.wanted o (yielded ops a.tmps) = true := by simp [Region.wanted, hg]
 rw [if_pos hw]
 exact wp_copy_eq w d x dT sT hop v u hd hx hr hK

theorem grownBy_setRow {w w1 : World} {g : Nat} (h : w.grownBy w1 (some g)) (cs : Array Value) : w.grownBy (w1.setRow g cs) (some g) :=
 ⟨h.os, h.tape, h.output, by simpa [World.setRow] using h.size, fun k hk hne => (setRow_other w1 g k cs (fun e => hne (by rw [e]))).trans (h.block k hk hne)⟩

def insCells (cur : List Value) (i n : Nat) (y z : Value) : List Value :=
 let X1 := cur.take ((i + 1) * 2) ++ (cur.drop (i * 2)).take ((n - i) * 2) ++ cur.drop ((i + 1) * 2 + (n - i) * 2)
 X1.take (i * 2) ++ [y, z] ++ X1.drop (i * 2 + 2)
theorem insCells_take (cur : List Value) (i n : Nat) (y z : Value) (hi : i < n) (hn : (n + 1) * 2 ≤ cur.length) :
 (insCells cur i n y z).take ((n + 1) * 2) = (cur.take (n * 2)).take (i * 2) ++ [y, z] ++ (cur.take (n * 2)).drop (i * 2) := by
 have h1 : (cur.take ((i + 1) * 2)).length = (i + 1) * 2 := by simp; omega
 have h2 : ((cur.drop (i * 2)).take ((n - i) * 2)).length = (n - i) * 2 := by simp; omega
 unfold insCells
 have e1 : ∀ A B C : List Value, A.length = (i + 1) * 2 → (A ++ B ++ C).take (i * 2) = A.take (i * 2) := fun A B C h => by
  rw [List.append_assoc, List.take_append_of_le_length (by omega)]
 have e2 : ∀ A B C : List Value, A.length = (i + 1) * 2 → (A ++ B ++ C).drop (i * 2 + 2) = B ++ C := fun A B C h => by
  rw [show i * 2 + 2 = A.length by omega, List.append_assoc, List.drop_left]
 simp only [e1 _ _ _ h1, e2 _ _ _ h1]
 rw [List.take_take, show min (i * 2) ((i + 1) * 2) = i * 2 by omega, List.take_take, show min (i * 2) (n * 2) = i * 2 by omega]
 have h3 : (cur.take (i * 2)).length = i * 2 := by simp; omega
 rw [← List.append_assoc, List.take_append_of_le_length (by simp; omega), List.take_of_length_le (by simp; omega)]
 congr 1
 rw [List.drop_take]
 congr 1
 omega

set_option maxRecDepth 100000 in
set_option maxHeartbeats 2000000 in
theorem insert_room (g n c i G : Nat) (cur : List Value) (y z : Value) (w : World) (hi : i < n) (hroom : n + 1 ≤ c) (hn : n ≤ 1000000)
 (hg : w.heap[g]? = some (.cells cur.toArray 37 (0, 0))) (hcur : cur.length = c * 2) (hG : w.heap[G]? = some (.cells #[y, z] 37 (0, 0))) (hne : G ≠ g) (h1 : ∀ v ∈ cur.take (n * 2), v.oneCell' = true) (hy : y.oneCell' = true ∧ z.oneCell' = true) :
 Calls Tryz.prog 127 #[.slice (some ⟨g, 0, none⟩) n c, .int .i64 i, .slice (some ⟨G, 0, none⟩) 1 1] w fun e w' => e = .returned (.slice (some ⟨g, 0, none⟩) (n + 1) c) ∧ w'.heap[g]? = some (.cells (insCells cur i n y z).toArray 37 (0, 0)) ∧ w.grownBy w' (some g) := by
 have hov : ∀ (A : Addr) lb cb (W : World), A.block = g → W.shape? G = some (37, 2) → W.shape? g = some (37, c * 2) → W.frozen? ⟨G, 0, none⟩ = false → W.frozen? ⟨G, 2, none⟩ = false → (callFunc 161 #[.slice (some ⟨G, 0, none⟩) 1 1, .slice (some A) lb cb]).run Tryz.prog W = .ok (.value (.bool false)) W := fun A lb cb W hA s1 s2 f1 f2 => by
  rw [run_callFunc_extern Tryz.func161 (by kernel_rfl) (by kernel_rfl) (by kernel_rfl) (e := Extern.SlicesOverlaps.overlaps #[24, 24] #[4]) (by kernel_rfl),
   Lib.run_overlaps_apart W 24 4 37 Tryz.underlying24 2 (fun w => by kernel_rfl) ⟨G, 0, none⟩ A 1 1 lb cb (by rw [hA]; exact hne) 37 37 2 (c * 2) s1 (by rw [hA]; exact s2) (by omega) f1 f2]
  rfl
 have s1 : w.shape? G = some (37, 2) := by simp [World.shape?, hG]
 have s2 : w.shape? g = some (37, c * 2) := by simp [World.shape?, hg, hcur]
 have f1 : w.frozen? ⟨G, 0, none⟩ = false := blk_free hG 0
 have f2 : w.frozen? ⟨G, 2, none⟩ = false := blk_free hG 2
 have hov1 := fun off lb cb => hov ⟨g, off, none⟩ lb cb w rfl s1 s2 f1 f2
 have hi48 : (Tryz.prog.info? 37).map (·.size) = some 2 := by
  obtain ⟨i1, hj, hy0, hy1, hy2⟩ := info_parts info48
  rw [hj]; simp [hy1]
 obtain ⟨X1, hX1⟩ : ∃ X1, X1 = cur.take ((i + 1) * 2) ++ (cur.drop (i * 2)).take ((n - i) * 2) ++ cur.drop ((i + 1) * 2 + (n - i) * 2) := ⟨_, rfl⟩
 have hl1 : X1.length = c * 2 := by rw [hX1]; simp; omega
 have hl2 : ((cur.drop (i * 2)).take ((n - i) * 2)).length = (n - i) * 2 := by simp; omega
 have hX2 : insCells cur i n y z = X1.take (i * 2) ++ [y, z] ++ X1.drop (i * 2 + 2) := by rw [hX1]; rfl
 have hcp1 : ∀ ty, (Builtin.copy_ #[24, 24] ty #[.slice (some ⟨g, (i + 1) * 2, none⟩) (n - i) (c - (i + 1)), .slice (some ⟨g, i * 2, none⟩) (n + 1 - i) (c - i)]).run Tryz.prog w.drew = .ok (goInt ((n - i : Nat) : Int)) (w.drew.setRow g X1.toArray) := fun ty => by
  have := run_copy_rowN (P := Tryz.prog) w.drew 24 24 ty 37 g ((i + 1) * 2) (n - i) (c - (i + 1)) ⟨g, i * 2, none⟩ (n + 1 - i) (c - i) 2 (n - i) cur.toArray 37 ((cur.drop (i * 2)).take ((n - i) * 2)) Tryz.underlying24 hi48 hg
   (by show n - i = min (n + 1 - i) (n - i); omega) hl2 (fun j v hj => by
    have hadd : (⟨g, i * 2, none⟩ : Addr).add j = ⟨g, i * 2 + j, none⟩ := by unfold Addr.add; split <;> simp_all
    rw [hadd, show w.drew.cell? _ = w.cell? _ from rfl, blk_cell hg]
    rw [List.getElem?_take] at hj
    split at hj
    · rw [List.getElem?_drop] at hj; simpa using hj
    · cases hj) (by rw [hl2]; simp; omega) (fun v hv => h1 v (by rw [show (n - i) * 2 = n * 2 - i * 2 by omega, ← List.drop_take] at hv; exact List.mem_of_mem_drop hv))
  rw [this, hX1, hl2]
 have hcp2 : ∀ ty dl dc, 1 ≤ dl → (Builtin.copy_ #[24, 24] ty #[.slice (some ⟨g, i * 2, none⟩) dl dc, .slice (some ⟨G, 0, none⟩) 1 1]).run Tryz.prog (w.drew.setRow g X1.toArray) = .ok (goInt 1) ((w.drew.setRow g X1.toArray).setRow g (insCells cur i n y z).toArray) := fun ty dl dc hdl => by
  have := run_copy_rowN (P := Tryz.prog) (w.drew.setRow g X1.toArray) 24 24 ty 37 g (i * 2) dl dc ⟨G, 0, none⟩ 1 1 2 1 X1.toArray 37 [y, z] Tryz.underlying24 hi48 (setRow_heap w.drew g _ _ 37 _ hg)
   (by show 1 = min 1 dl; omega) rfl (World.news_of_block ((setRow_other w.drew g G _ hne).trans hG)) (by simp [hl1]; omega) (by simp [hy])
  rw [this, hX2]
  rfl
 have hz2 : ((i : Int) == (n : Int)) = false := by simp; omega
 have hw1 : IntKind.i64.wrap ((i : Int) + 1) = (i : Int) + 1 := by rw [IntKind.wrap_i64]; omega
 have hw2 : IntKind.i64.wrap ((n : Int) + 1) = (n : Int) + 1 := by rw [IntKind.wrap_i64]; omega
 have htn : ((i : Int) + 1).toNat = i + 1 := by omega
 have htm : ((n : Int) + 1).toNat = n + 1 := by omega
 have hb1 : ¬ c = i := by omega
 have hb2 : ¬ c = i + 1 := by omega
 have hb3 : i ≤ n := by omega
 have hb4 : (0 : Int) ≤ (i : Int) + 1 := by omega
 have hb5 : (i : Int) + 1 ≤ (n : Int) + 1 := by omega
 have hb6 : (i : Int) ≤ (n : Int) + 1 := by omega
 have Hg := Lib.hid hg
 have hfin : Hid ((((w.drew.setRow g X1.toArray).setRow g (insCells cur i n y z).toArray)).heap[g]? = some (.cells (insCells cur i n y z).toArray 37 (0, 0)) ∧ w.grownBy ((w.drew.setRow g X1.toArray).setRow g (insCells cur i n y z).toArray) (some g)) := ⟨setRow_heap _ g _ _ 37 _ (setRow_heap w.drew g _ _ 37 _ hg), grownBy_setRow (grownBy_setRow (⟨rfl, rfl, rfl, Nat.le_refl _, fun _ _ _ => rfl⟩ : w.grownBy w.drew (some g)) _) _⟩
 clear hov s1 s2 f1 f2 hG hg hX2 hl1 hl2 hX1
 go_enter Tryz.func127, Tryz.ntmps127
 go_wp2_with fail
 go_region_law (refine step_copy_eq rfl _ _ 24 24 rfl _ _ (by simp [Act.eval, Act.put]) (by simp [Act.eval, Act.put]) (hcp1 _) ?_)
 go_wp2_with (refine wpList_copy_eq _ rfl (.tmp 80) (.tmp 81) 24 24 rfl _ _ rfl rfl (hcp2 _ _ _ (by omega)) ?_)
 go_ret
 exact ⟨rfl, hfin.out⟩
end Go.Proofs.YtendnkpiidhogaaGreat.At

namespace Go.Proofs.YtendnkpiidhogaaGreat.At
open Go.RowKit

theorem wpList_append_eq {P : Program} (w : World) {ops : Array Oper} {rest : List Oper} {o : Oper} {a : Act} {Q : Exit → Act → World → Prop} (hgd : o.guard = none) (d s : Operand) (t t' : TypeId)
 (ho : o.op = .call { callee := .builtin .append, args := #[d, s], argTypes := #[t, t'] }) (v u : Value) (hd : a.eval d = v) (hs : a.eval s = u) {v' : Value} {w' : World}
 (hr : (Builtin.append_ #[t, t'] o.type #[v, u]).run P w = .ok v' w') (h : wpList P ops Q rest (a.put o.dst v') w') : wpList P ops Q (o :: rest) a w :=
 wpList_plain hgd fun K hK => by
  unfold Oper.wp execOp
  simp only [ho, resolve, invoke, builtin, Sem.run_bind, Sem.run_pure, Result.andThen_ok, List.map_toArray, List.map_cons, List.map_nil, hd, hs, hr]
  exact hK _ _ h

def insNew (R D : List Value) (i : Nat) (y z : Value) : List Value :=
 let X1 := R.take (i * 2) ++ [y, z] ++ R.drop (i * 2 + 2)
 X1.take ((i + 1) * 2) ++ D ++ X1.drop ((i + 1) * 2 + D.length)
theorem insNew_take (R D : List Value) (i n : Nat) (y z : Value) (hi : i < n) (hR : (n + 1) * 2 ≤ R.length) (hD : D.length = (n - i) * 2) :
 (insNew R D i y z).take ((n + 1) * 2) = R.take (i * 2) ++ [y, z] ++ D := by
 unfold insNew
 have h3 : (R.take (i * 2)).length = i * 2 := by simp; omega
 have e1 : (R.take (i * 2) ++ [y, z] ++ R.drop (i * 2 + 2)).take ((i + 1) * 2) = R.take (i * 2) ++ [y, z] := by
  rw [List.take_append_of_le_length (by simp; omega), List.take_of_length_le (by simp; omega)]
 simp only [e1]
 rw [List.take_append_of_le_length (by simp; omega), List.take_of_length_le (by simp; omega)]

set_option maxRecDepth 100000 in
set_option maxHeartbeats 2000000 in
theorem insert_grow (g n c i G : Nat) (cs : List Value) (y z : Value) (w : World) (hi : i < n) (hnc : n ≤ c) (hroom : c < n + 1) (hn : n ≤ 1000000)
 (hcs : ∀ j v, cs[j]? = some v → w.cell? ⟨g, j, none⟩ = some v) (hcl : cs.length = n * 2) (hgl : g < w.heap.size) (hG : w.heap[G]? = some (.cells #[y, z] 37 (0, 0))) (h1 : ∀ v ∈ cs, v.oneCell' = true) (hy : y.oneCell' = true ∧ z.oneCell' = true) :
 Calls Tryz.prog 127 #[.slice (some ⟨g, 0, none⟩) n c, .int .i64 i, .slice (some ⟨G, 0, none⟩) 1 1] w fun e w' => ∃ c' R, e = .returned (.slice (some ⟨w.heap.size, 0, none⟩) (n + 1) c') ∧ n + 1 ≤ c' ∧ c' ≤ maxLen ∧ R.length = c' * 2 ∧ R.take (i * 2) = cs.take (i * 2) ∧
  w'.heap[w.heap.size]? = some (.cells (insNew R (cs.drop (i * 2)) i y z).toArray 37 (0, 0)) ∧ w.grownBy w' none := by
 obtain ⟨i1, hj, hy0, hy1, hy2⟩ := info_parts info48
 have hi48 : (Tryz.prog.info? 37).map (·.size) = some 2 := by rw [hj]; simp [hy1]
 have hGl := blk_lt hG
 obtain ⟨c', hc'⟩ : ∃ c', c' = grownCap w (n + 1) c 37 := ⟨_, rfl⟩
 have hc1 : n + 1 ≤ c' := by rw [hc']; exact grownCap_ge w _ _ _
 have hc2 : c' ≤ maxLen := by rw [hc']; exact grownCap_le_maxLen w (n + 1) c 37 (by unfold maxLen; omega)
 obtain ⟨R, hR⟩ : ∃ R : List Value, R = cs.take (i * 2) ++ (Builtin.zeroCells (Value.agg #[.int .i64 0, .slice none 0 0]).cells (n + 1 - i)).toList ++ (Builtin.zeroCells (Value.agg #[.int .i64 0, .slice none 0 0]).cells (c' - (n + 1))).toList := ⟨_, rfl⟩
 have hRa : (cs.take (i * 2)).toArray ++ Builtin.zeroCells (Value.agg #[.int .i64 0, .slice none 0 0]).cells (n + 1 - i) ++ Builtin.zeroCells (Value.agg #[.int .i64 0, .slice none 0 0]).cells (c' - (n + 1)) = R.toArray := by
  rw [hR]; apply Array.ext'; simp
 have hz2c : (Value.agg #[.int .i64 0, .slice none 0 0]).cells.size = 2 := rfl
 have hRl : R.length = c' * 2 := by
  rw [hR]; simp [size_zeroCells, hz2c]; omega
 have hRt : R.take (i * 2) = cs.take (i * 2) := by
  rw [hR, List.append_assoc, List.take_append_of_le_length (by simp; omega), List.take_take]
  simp
 have hDl : (cs.drop (i * 2)).length = (n - i) * 2 := by simp; omega
 have hgH : g ≠ w.heap.size := by omega
 have hGH : G ≠ w.heap.size := by omega
 have hrz : ∀ ty, (Builtin.append_ #[24, 3] ty #[.slice (some ⟨g, 0, none⟩) i c, .int .i64 ((n : Int) + 1 - (i : Int))]).run Tryz.prog w =
  .ok (.slice (some ⟨w.heap.size, 0, none⟩) (n + 1) c') (w.drew.alloc (.cells R.toArray 37)) := fun ty => by
  have hold : (Builtin.firstCells i1.size i (.slice (some ⟨g, 0, none⟩) i c)).run Tryz.prog w.drew = .ok (cs.take (i * 2)).toArray w.drew := by
   rw [hy1]
   exact run_firstCells_some w.drew 2 i ⟨g, 0, none⟩ i c (cs.take (i * 2)) (by simp; omega) (fun j v hj => by
    have hadd : (⟨g, 0, none⟩ : Addr).add j = ⟨g, j, none⟩ := by unfold Addr.add; split <;> simp_all
    rw [hadd]
    rw [List.getElem?_take] at hj
    split at hj
    · exact hcs j v hj
    · cases hj)
  have h := Lib.run_append_grow_zeros w 24 3 ty 37 i1 _ .i64 .i64 Tryz.underlying24 Tryz.underlying3 hj hy0 (some ⟨g, 0, none⟩) i c (cs.take (i * 2)) hold (n + 1 - i) (by omega) (by omega) (by omega) (by omega) (by rw [hy2]; omega) (by rw [hy2, show i + (n + 1 - i) = n + 1 by omega]; exact growslice_fits hroom (by omega))
  rw [show i + (n + 1 - i) = n + 1 by omega, ← hc', hRa] at h
  rw [show (n : Int) + 1 - (i : Int) = ((n + 1 - i : Nat) : Int) by omega]
  exact h
 obtain ⟨X1, hX1⟩ : ∃ X1, X1 = R.take (i * 2) ++ [y, z] ++ R.drop (i * 2 + 2) := ⟨_, rfl⟩
 have hl1 : X1.length = c' * 2 := by rw [hX1]; simp; omega
 have hX2 : insNew R (cs.drop (i * 2)) i y z = X1.take ((i + 1) * 2) ++ cs.drop (i * 2) ++ X1.drop ((i + 1) * 2 + (cs.drop (i * 2)).length) := by rw [hX1]; rfl
 have hcpA : ∀ (W : World), W.heap[w.heap.size]? = some (.cells R.toArray 37 (0, 0)) → W.heap[G]? = some (.cells #[y, z] 37 (0, 0)) → ∀ ty dl dc, 1 ≤ dl → (Builtin.copy_ #[24, 24] ty #[.slice (some ⟨w.heap.size, i * 2, none⟩) dl dc, .slice (some ⟨G, 0, none⟩) 1 1]).run Tryz.prog W = .ok (goInt 1) (W.setRow w.heap.size X1.toArray) := fun W hW hWG ty dl dc hdl => by
  have := run_copy_rowN (P := Tryz.prog) W 24 24 ty 37 w.heap.size (i * 2) dl dc ⟨G, 0, none⟩ 1 1 2 1 R.toArray 37 [y, z] Tryz.underlying24 hi48 hW
   (by show 1 = min 1 dl; omega) rfl (World.news_of_block hWG) (by simp [hRl]; omega) (by simp [hy])
  rw [this, hX1]
  rfl
 have hcpB : ∀ (W : World), W.heap[w.heap.size]? = some (.cells X1.toArray 37 (0, 0)) → (∀ j v, cs[j]? = some v → W.cell? ⟨g, j, none⟩ = some v) → ∀ ty dc, (Builtin.copy_ #[24, 24] ty #[.slice (some ⟨w.heap.size, (i + 1) * 2, none⟩) (n - i) dc, .slice (some ⟨g, i * 2, none⟩) (n - i) (c - i)]).run Tryz.prog W = .ok (goInt ((n - i : Nat) : Int)) (W.setRow w.heap.size (insNew R (cs.drop (i * 2)) i y z).toArray) := fun W hW hWc ty dc => by
  have := run_copy_rowN (P := Tryz.prog) W 24 24 ty 37 w.heap.size ((i + 1) * 2) (n - i) dc ⟨g, i * 2, none⟩ (n - i) (c - i) 2 (n - i) X1.toArray 37 (cs.drop (i * 2)) Tryz.underlying24 hi48 hW
   (by show n - i = min (n - i) (n - i); omega) hDl (fun j v hj => by
    have hadd : (⟨g, i * 2, none⟩ : Addr).add j = ⟨g, i * 2 + j, none⟩ := by unfold Addr.add; split <;> simp_all
    rw [hadd]
    rw [List.getElem?_drop] at hj
    exact hWc _ v hj) (by rw [hDl]; simp [hl1]; omega) (fun v hv => h1 v (List.mem_of_mem_drop hv))
  rw [this, hX2]
 obtain ⟨W1, hW1⟩ : ∃ W1, W1 = (w.alloc (.cells R.toArray 37)).drew := ⟨_, rfl⟩
 have hA1 : W1.heap[w.heap.size]? = some (.cells R.toArray 37 (0, 0)) := by rw [hW1]; exact heap_alloc_new w _
 have hA2 : W1.heap[G]? = some (.cells #[y, z] 37 (0, 0)) := by rw [hW1]; exact (Below.heap_alloc w _ G hGl).trans hG
 have hA3 : ∀ j v, cs[j]? = some v → W1.cell? ⟨g, j, none⟩ = some v := fun j v h => by rw [hW1]; exact (World.cell?_alloc_lt w _ ⟨g, j, none⟩ hgl).trans (hcs j v h)
 have hA4 : w.grownBy W1 (some w.heap.size) := by rw [hW1]; exact ⟨rfl, rfl, rfl, by show w.heap.size ≤ (w.alloc _).heap.size; simp, fun k hk _ => Below.heap_alloc w _ k hk⟩
 have hrz' : ∀ ty, (Builtin.append_ #[24, 3] ty #[.slice (some ⟨g, 0, none⟩) i c, .int .i64 ((n : Int) + 1 - (i : Int))]).run Tryz.prog w = .ok (.slice (some ⟨w.heap.size, 0, none⟩) (n + 1) c') W1 := fun ty => by rw [hW1]; exact hrz ty
 clear hrz hW1
 have hcA := fun ty dl dc h => hcpA W1 hA1 hA2 ty dl dc h
 have hB1 : (W1.setRow w.heap.size X1.toArray).drew.heap[w.heap.size]? = some (.cells X1.toArray 37 (0, 0)) := setRow_heap W1 _ _ _ 37 _ hA1
 have hB2 : ∀ j v, cs[j]? = some v → (W1.setRow w.heap.size X1.toArray).drew.cell? ⟨g, j, none⟩ = some v := fun j v h => (World.cell?_of_block (w := W1) (setRow_other W1 _ g _ hgH)).trans (hA3 j v h)
 have hcB := fun ty dc => hcpB _ hB1 hB2 ty dc
 have hfin : Hid (((W1.setRow w.heap.size X1.toArray).drew.setRow w.heap.size (insNew R (cs.drop (i * 2)) i y z).toArray).heap[w.heap.size]? = some (.cells (insNew R (cs.drop (i * 2)) i y z).toArray 37 (0, 0)) ∧ w.grownBy ((W1.setRow w.heap.size X1.toArray).drew.setRow w.heap.size (insNew R (cs.drop (i * 2)) i y z).toArray) none) := by
  refine ⟨setRow_heap _ _ _ _ 37 _ hB1, ?_⟩
  have h2 := grownBy_setRow hA4 X1.toArray
  have h3 : w.grownBy (W1.setRow w.heap.size X1.toArray).drew (some w.heap.size) := ⟨h2.os, h2.tape, h2.output, h2.size, h2.block⟩
  have h4 := grownBy_setRow h3 (insNew R (cs.drop (i * 2)) i y z).toArray
  exact ⟨h4.os, h4.tape, h4.output, h4.size, fun k hk _ => h4.block k hk (by intro e; injection e with e; omega)⟩
 have hz2 : ((i : Int) == (n : Int)) = false := by simp; omega
 have hw1 : IntKind.i64.wrap ((i : Int) + 1) = (i : Int) + 1 := by rw [IntKind.wrap_i64]; omega
 have hw2 : IntKind.i64.wrap ((n : Int) + 1) = (n : Int) + 1 := by rw [IntKind.wrap_i64]; omega
 have hw3 : IntKind.i64.wrap ((n : Int) + 1 - (i : Int)) = (n : Int) + 1 - (i : Int) := by rw [IntKind.wrap_i64]; omega
 have htn : ((i : Int) + 1).toNat = i + 1 := by omega
 have hb1 : ¬ c = i := by omega
 have hb1' : ¬ c' = i := by omega
 have hb2' : ¬ c' = i + 1 := by omega
 have hb3 : i ≤ n := by omega
 have hb4 : (0 : Int) ≤ (i : Int) + 1 := by omega
 have hb5 : (i : Int) + 1 ≤ (n : Int) + 1 := by omega
 have hb6 : (i : Int) ≤ (n : Int) + 1 := by omega
 have hb7 : (i : Int) ≤ (n : Int) := by omega
 have hc263 : c' ≤ 9223372036854775807 := hc2
 have Hpost := Lib.hid (And.intro hc1 (And.intro hc2 (And.intro hRl hRt)))
 clear hcpA hcpB hA1 hA2 hA3 hA4 hB1 hB2 hc2 hRl hRt hX1 hX2 hl1 hR hRa hc' hG hcs hcl hDl
 go_enter Tryz.func127, Tryz.ntmps127
 go_wp2_with (first
  | (at_builtin; refine wpList_append_eq _ rfl (.tmp 34) (.tmp 39) 24 3 rfl _ _ rfl rfl (hrz' _) ?_)
  | (refine wpList_copy_eq _ rfl (.tmp 43) (.tmp 44) 24 24 rfl _ _ rfl rfl (hcA _ _ _ (by omega)) ?_))
 go_region_law (refine step_copy_eq rfl _ _ 24 24 rfl _ _ (by simp [Act.eval, Act.put]) (by simp [Act.eval, Act.put]) (hcB _ _) ?_)
 go_wp2
 go_ret
 exact ⟨c', R, rfl, Hpost.out.1, Hpost.out.2.1, Hpost.out.2.2.1, Hpost.out.2.2.2, hfin.out.1, hfin.out.2⟩

set_option maxRecDepth 100000 in
set_option maxHeartbeats 2000000 in
theorem insert_end (base n c G : Nat) (A : Option Addr) (cs : List Value) (y z : Value) (w : World) (hn : n ≤ 1000000) (hown : w.ownsRow base 37 2 (.slice A n c) n cs) (hbase : base ≤ w.heap.size)
 (hG : w.heap[G]? = some (.cells #[y, z] 37 (0, 0))) (hy : y.oneCell' = true ∧ z.oneCell' = true) :
 Calls Tryz.prog 127 #[.slice A n c, .int .i64 n, .slice (some ⟨G, 0, none⟩) 1 1] w fun e w' => ∃ A' c', e = .returned (.slice A' (n + 1) c') ∧ w'.ownsRow base 37 2 (.slice A' (n + 1) c') (n + 1) (cs ++ [y, z]) ∧ w.grownBy w' (Value.slice A n c).ownBlock ∧
  ((Value.slice A' (n + 1) c').ownBlock = (Value.slice A n c).ownBlock ∨ (Value.slice A' (n + 1) c').ownBlock = some w.heap.size) := by
 have hr : RS w (fun _ => True) 2 (some ⟨G, 0, none⟩) 1 1 [y, z] := ⟨Nat.le_refl _, by unfold maxLen; omega, rfl, fun _ => ⟨_, rfl, trivial, World.news_of_block hG⟩⟩
 have hnc : n ≤ c ∧ c ≤ maxLen := by have := RS.of_own hown; exact ⟨this.1, this.2.1⟩
 have hc1 := hnc.1
 have hc2 : c ≤ 9223372036854775807 := hnc.2
 clear hG hnc
 by_cases hcn : c = n
 · subst hcn
   go_enter Tryz.func127, Tryz.ntmps127
   go_wp2_with (at_builtin; refine app48 rfl (.tmp 23) (.tmp 24) rfl base (.slice A c c) c cs rfl hown (fun _ => True) (some ⟨G, 0, none⟩) 1 1 [y, z] rfl hr (by simp [hy]) (c + 1) rfl (by omega) hbase ?_; intro A' c' w1 h2 h3 h4)
   go_ret
   exact ⟨A', c', rfl, h2, h3, h4⟩
 · go_enter Tryz.func127, Tryz.ntmps127
   go_wp2_with (at_builtin; refine app48 rfl (.tmp 23) (.tmp 24) rfl base (.slice A n c) n cs rfl hown (fun _ => True) (some ⟨G, 0, none⟩) 1 1 [y, z] rfl hr (by simp [hy]) (n + 1) rfl (by omega) hbase ?_; intro A' c' w1 h2 h3 h4)
   go_ret
   exact ⟨A', c', rfl, h2, h3, h4⟩

theorem insert_any (base n c p G : Nat) (A : Option Addr) (cs : List Value) (y z : Value) (w : World) (hp : p ≤ n) (hn : n ≤ 1000000) (hown : w.ownsRow base 37 2 (.slice A n c) n cs) (hbase : base ≤ w.heap.size)
 (hG : w.heap[G]? = some (.cells #[y, z] 37 (0, 0))) (hne : (Value.slice A n c).ownBlock ≠ some G) (h1 : ∀ v ∈ cs, v.oneCell' = true) (hy : y.oneCell' = true ∧ z.oneCell' = true) :
 Calls Tryz.prog 127 #[.slice A n c, .int .i64 p, .slice (some ⟨G, 0, none⟩) 1 1] w fun e w' => ∃ A' c', e = .returned (.slice A' (n + 1) c') ∧ w'.ownsRow base 37 2 (.slice A' (n + 1) c') (n + 1) (cs.take (p * 2) ++ [y, z] ++ cs.drop (p * 2)) ∧ w.grownBy w' (Value.slice A n c).ownBlock ∧
  ((Value.slice A' (n + 1) c').ownBlock = (Value.slice A n c).ownBlock ∨ (Value.slice A' (n + 1) c').ownBlock = some w.heap.size) := by
 have hl := hown.1
 by_cases hpn : p = n
 · subst hpn
   rw [List.take_of_length_le (by omega), List.drop_eq_nil_of_le (by omega), List.append_nil]
   exact insert_end base p c G A cs y z w hn hown hbase hG hy
 · obtain ⟨_, ⟨e, h0⟩ | ⟨g, cap, cur, e, hg, hh, h5, h6, h7, h8⟩⟩ := hown
   · omega
   · injection e with e1 e2 e3
     subst e1 e3
     have hgl := blk_lt hh
     by_cases hroom : n + 1 ≤ c
     · have hh' : w.heap[g]? = some (.cells cur.toList.toArray 37 (0, 0)) := by simpa using hh
       refine (insert_room g n c p G cur.toList y z w (by omega) hroom hn hh' (by simpa using h7) hG (by intro e; exact hne (by rw [e]; rfl)) (by rw [h8]; exact h1) hy).mono ?_
       rintro e w' ⟨rfl, h9, h10⟩
       refine ⟨_, _, rfl, ⟨by simp; omega, .inr ⟨g, c, _, rfl, hg, h9, hroom, h6, ?_, ?_⟩⟩, h10, .inl rfl⟩
       · simp [insCells]; omega
       · rw [List.toList_toArray, insCells_take _ _ _ _ _ (by omega) (by simp; omega), h8]
     · refine (insert_grow g n c p G cs y z w (by omega) h5 (by omega) hn (fun j v hj => ?_) hl hgl hG h1 hy).mono ?_
       · rw [blk_cell hh]
         have : cur.toList[j]? = some v := by
          rw [← h8] at hj
          rw [List.getElem?_take] at hj
          split at hj
          · exact hj
          · cases hj
         simpa using this
       · rintro e w' ⟨c', R, rfl, h9, h10, h11, h12, h13, h14⟩
         refine ⟨_, _, rfl, ⟨by simp; omega, .inr ⟨w.heap.size, c', _, rfl, hbase, h13, h9, h10, ?_, ?_⟩⟩, ⟨h14.os, h14.tape, h14.output, h14.size, fun k hk _ => h14.block k hk (by simp)⟩, .inr rfl⟩
         · simp [insNew]; omega
         · rw [List.toList_toArray, insNew_take _ _ _ n _ _ (by omega) (by omega) (by simp; omega), h12]
end Go.Proofs.YtendnkpiidhogaaGreat.At
