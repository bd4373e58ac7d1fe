/- The append laws at this program's types. -/
import Derived.Test.YtpikikaoelnheaaLists
namespace Go.Proofs.Ytpikikaoelnheaa
open Go.RowKit

theorem info3 : (Try.prog.info? 3).map (fun i => (i.zero, i.size, i.bytes)) = some (some (.int .i64 0), 1, 8) := by kernel_rfl

theorem RS.drewN {w : World} {P : Nat → Prop} {size : Nat} {A : Option Addr} {n c : Nat} {cs : List Value} (h : RS w P size A n c cs) (d : Nat) : RS (w.drewN d) P size A n c cs := h

section
variable {w : World} {ops : Array Oper} {rest : List Oper} {o : Oper} {a : Act} {Q : Exit → Act → World → Prop}
/-- append of bytes. -/
theorem app5 (hgd : o.guard = none) (s x : Operand) (ho : o.op = .call { callee := .builtin .append, args := #[s, x], argTypes := #[46, 46] }) (base : Nat)
    (v : Value) (n : Nat) (xs : List Value) (hs : a.eval s = v) (hown : w.ownsRow base 5 1 v n xs)
    (B : Nat → Prop) (A : Option Addr) (m c : Nat) (news : List Nat) (hx : a.eval x = .slice A m c) (hr : RS w B 1 A m c (bys news)) (k : Nat) (hk : n + m = k) (hb : k ≤ 140737488355328) (hbase : base ≤ w.heap.size)
    (h : ∀ A' c' w', w'.ownsRow base 5 1 (.slice A' k c') k (xs ++ bys news) → w.grownBy w' v.ownBlock → ((Value.slice A' k c').ownBlock = v.ownBlock ∨ (Value.slice A' k c').ownBlock = some w.heap.size) → wpList Try.prog ops Q rest (a.put o.dst (.slice A' k c')) w') : wpList Try.prog ops Q (o :: rest) a w := by
  obtain ⟨i0, hi, hz0, hz1, hz2⟩ := info_parts info5
  exact wpList_append_rs w hgd s x 46 ho base 5 i0 (.int .u8 0) 1 1 Try.underlying46 hi hz0 hz1 hz2 rfl (by decide) v n xs hs hown B A m c (bys news) hx hr (oneCell_bys _) k hk (by unfold maxLen; omega) (by omega) hbase h

/-- append of attributes. -/
theorem app48 (hgd : o.guard = none) (s x : Operand) (ho : o.op = .call { callee := .builtin .append, args := #[s, x], argTypes := #[24, 24] }) (base : Nat)
    (v : Value) (n : Nat) (xs : List Value) (hs : a.eval s = v) (hown : w.ownsRow base 48 2 v n xs)
    (B : Nat → Prop) (A : Option Addr) (m c : Nat) (news : List Value) (hx : a.eval x = .slice A m c) (hr : RS w B 2 A m c news) (h1 : ∀ u ∈ news, u.oneCell' = true) (k : Nat) (hk : n + m = k) (hb : k ≤ 1099511627776) (hbase : base ≤ w.heap.size)
    (h : ∀ A' c' w', w'.ownsRow base 48 2 (.slice A' k c') k (xs ++ news) → w.grownBy w' v.ownBlock → ((Value.slice A' k c').ownBlock = v.ownBlock ∨ (Value.slice A' k c').ownBlock = some w.heap.size) → wpList Try.prog ops Q rest (a.put o.dst (.slice A' k c')) w') : wpList Try.prog ops Q (o :: rest) a w := by
  obtain ⟨i1, hj, hy0, hy1, hy2⟩ := info_parts info48
  exact wpList_append_rs w hgd s x 24 ho base 48 i1 _ 2 32 Try.underlying24 hj hy0 hy1 hy2 rfl (by decide) v n xs hs hown B A m c news hx hr h1 k hk (by unfold maxLen; omega) (by omega) hbase h

/-- append of one attribute, that lies in a new block of its own. -/
theorem app48one {w0 : World} {y z : Value} (hgd : o.guard = none) (s x : Operand) (ho : o.op = .call { callee := .builtin .append, args := #[s, x], argTypes := #[24, 24] }) (base : Nat)
    (v : Value) (n : Nat) (xs : List Value) (hs : a.eval s = v) (hown : w0.ownsRow base 48 2 v n xs) (d : Nat) (hw : w = (w0.alloc (.cells #[y, z] 48)).drewN d)
    (hx : a.eval x = .slice (some ⟨w0.heap.size, 0, none⟩) 1 1) (h1 : y.oneCell' = true ∧ z.oneCell' = true) (hb : n + 1 ≤ 1099511627776) (hbase : base ≤ w0.heap.size)
    (h : ∀ A' c' w', w'.ownsRow base 48 2 (.slice A' (n + 1) c') (n + 1) (xs ++ [y, z]) → (w0.alloc (.cells #[y, z] 48)).grownBy w' v.ownBlock → ((Value.slice A' (n + 1) c').ownBlock = v.ownBlock ∨ (Value.slice A' (n + 1) c').ownBlock = some (w0.alloc (.cells #[y, z] 48)).heap.size) → wpList Try.prog ops Q rest (a.put o.dst (.slice A' (n + 1) c')) w') : wpList Try.prog ops Q (o :: rest) a w := by
  subst hw
  exact app48 hgd s x ho base v n xs hs (show (w0.alloc _).ownsRow _ _ _ _ _ _ from hown.alloc _) (fun _ => True) _ 1 1 [y, z] hx (RS.drewN (RS.fresh (P := fun _ => True) #[y, z] 48 2 1 rfl (by unfold maxLen; omega) trivial) d) (by simp [h1]) (n + 1) rfl hb (by simp; omega)
    (fun A' c' w' h2 h3 h4 => h A' c' w' h2 ⟨h3.os, h3.tape, h3.output, h3.size, h3.block⟩ h4)
end

/-- A list of attributes whose row is the call's own, from base on; the values lie in blocks of which V holds, below base. -/
def OV (w : World) (base : Nat) (V : Nat → Prop) (A : Option Addr) (c : Nat) (l : List (Int × List Nat)) (cs : List Value) : Prop :=
  w.ownsRow base 48 2 (.slice A l.length c) l.length cs ∧ (∀ b, V b → b < base) ∧ ∀ j x, l[j]? = some x → cs[j * 2]? = some (.int .i64 x.1) ∧
    ∃ A' c', cs[j * 2 + 1]? = some (.slice A' x.2.length c') ∧ RB w V A' c' x.2
theorem OV.nil_ (w : World) (base : Nat) (V : Nat → Prop) (hV : ∀ b, V b → b < base) : OV w base V none 0 [] [] := ⟨World.ownsRow_nil _ _ _ _, hV, by simp⟩
theorem OV.snoc {wr W2 W3 : World} {base : Nat} {V : Nat → Prop} {A A' : Option Addr} {c c' : Nat} {l : List (Int × List Nat)} {cs : List Value} {m : Nat} (h : OV wr base V A c l cs) (hm : l.length = m) (hb : Below wr.heap.size wr W2) {x : Int × List Nat} {Au : Option Addr} {cu : Nat}
    (hu : RB wr V Au cu x.2) (hbase : base ≤ wr.heap.size)
    (hown : W3.ownsRow base 48 2 (.slice A' (m + 1) c') (m + 1) (cs ++ [.int .i64 x.1, .slice Au x.2.length cu])) (hg : W2.grownBy W3 (Value.slice A m c).ownBlock) :
    OV W3 base V A' c' (l ++ [x]) (cs ++ [.int .i64 x.1, .slice Au x.2.length cu]) ∧ Below base wr W3 := by
  subst hm
  have hl := h.1.1
  have hlt := h.1.lt
  have hs := hb.size
  have hB3 : Below base wr W3 := (hb.mono hbase).grown hg (by omega) (fun g hg => (hlt g hg).1)
  refine ⟨⟨by simpa using hown, h.2.1, fun j y hy => ?_⟩, hB3⟩
  rcases Nat.lt_or_ge j l.length with hj | hj
  · rw [List.getElem?_append_left hj] at hy
    obtain ⟨h1, A1, c1, h2, h3⟩ := h.2.2 j y hy
    rw [List.getElem?_append_left (by omega), List.getElem?_append_left (by omega)]
    exact ⟨h1, A1, c1, h2, h3.below hB3 h.2.1⟩
  · have hjl : j = l.length := by
      have := (List.getElem?_eq_some_iff.1 hy).1
      simp at this
      omega
    subst hjl
    simp at hy
    subst hy
    rw [List.getElem?_append_right (by omega), List.getElem?_append_right (by omega), hl]
    exact ⟨by simp, Au, cu, by simp, hu.below hB3 h.2.1⟩
theorem OV.keep {w w' : World} {base : Nat} {V : Nat → Prop} {A : Option Addr} {c : Nat} {l : List (Int × List Nat)} {cs : List Value} (h : OV w base V A c l cs) (hb : Below w.heap.size w w') (hbase : base ≤ w.heap.size) : OV w' base V A c l cs := by
  refine ⟨own_kept h.1 ⟨hb.os, hb.tape, hb.output, hb.size, fun k hk _ => hb.block k hk⟩, h.2.1, fun j x hx => ?_⟩
  obtain ⟨h1, A', c', h2, h3⟩ := h.2.2 j x hx
  exact ⟨h1, A', c', h2, h3.below hb fun b hb => Nat.lt_of_lt_of_le (h.2.1 b hb) hbase⟩
theorem OV.ra {w : World} {base : Nat} {V : Nat → Prop} {A : Option Addr} {c : Nat} {l : List (Int × List Nat)} {cs : List Value} (h : OV w base V A c l cs) : RA w (fun b => V b ∨ In base w.heap.size b) A c l :=
  ⟨cs, (RS.of_own h.1).mono fun b hb => .inr hb, fun j x hx => by
    obtain ⟨h1, A', c', h2, h3⟩ := h.2.2 j x hx
    exact ⟨h1, A', c', h2, h3.mono fun b hb => .inl hb⟩⟩

/-- What Put gives. -/
def ins (a : Int × List Nat) : List (Int × List Nat) → List (Int × List Nat)
  | [] => [a]
  | x :: r => if a.1 < x.1 then a :: x :: r else x :: ins a r
def others (t : Int) (l : List (Int × List Nat)) : List (Int × List Nat) := l.filter fun x => !(x.1 == t)
def putOf (l : List (Int × List Nat)) (a : Int × List Nat) : List (Int × List Nat) := ins a (others a.1 l)
theorem others_skip {t : Int} {l : List (Int × List Nat)} {k : Nat} (hk : k < l.length) (h : (l[k].1 == t) = true) : others t (l.drop k) = others t (l.drop (k + 1)) := by
  rw [List.drop_eq_getElem_cons hk, others, List.filter_cons, h]; rfl
theorem others_take {t : Int} {l : List (Int × List Nat)} {k : Nat} (hk : k < l.length) (h : (l[k].1 == t) = false) : others t (l.drop k) = l[k] :: others t (l.drop (k + 1)) := by
  rw [List.drop_eq_getElem_cons hk, others, List.filter_cons, h]; rfl
theorem length_ins (a : Int × List Nat) (l : List (Int × List Nat)) : (ins a l).length = l.length + 1 := by
  induction l with
  | nil => rfl
  | cons x r ih => unfold ins; split <;> simp [ih]
theorem length_putOf (l : List (Int × List Nat)) (a : Int × List Nat) : (putOf l a).length ≤ l.length + 1 := by
  rw [putOf, length_ins, others]
  have := List.length_filter_le (fun x => !(x.1 == a.1)) l
  omega
/-- After k rounds of the reference's Put. -/
def putInv (l : List (Int × List Nat)) (a : Int × List Nat) (k : Nat) (out : List (Int × List Nat)) (d : Bool) : Prop :=
  putOf l a = out ++ (if d then others a.1 (l.drop k) else ins a (others a.1 (l.drop k)))
theorem putInv_zero (l : List (Int × List Nat)) (a : Int × List Nat) : putInv l a 0 [] false := by simp [putInv, putOf]
theorem putInv_skip {l : List (Int × List Nat)} {a : Int × List Nat} {k : Nat} {out : List (Int × List Nat)} {d : Bool} (h : putInv l a k out d) (hk : k < l.length) (he : (l[k].1 == a.1) = true) : putInv l a (k + 1) out d := by
  rw [putInv, others_skip hk he] at h; exact h
theorem putInv_done {l : List (Int × List Nat)} {a : Int × List Nat} {k : Nat} {out : List (Int × List Nat)} (h : putInv l a k out true) (hk : k < l.length) (he : (l[k].1 == a.1) = false) : putInv l a (k + 1) (out ++ [l[k]]) true := by
  rw [putInv, others_take hk he] at h; rw [putInv, h]; simp
theorem putInv_lo {l : List (Int × List Nat)} {a : Int × List Nat} {k : Nat} {out : List (Int × List Nat)} (h : putInv l a k out false) (hk : k < l.length) (he : (l[k].1 == a.1) = false) (hl : ¬ a.1 < l[k].1) : putInv l a (k + 1) (out ++ [l[k]]) false := by
  rw [putInv, others_take hk he] at h; rw [putInv, h]; simp [ins, hl]
theorem putInv_hi {l : List (Int × List Nat)} {a : Int × List Nat} {k : Nat} {out : List (Int × List Nat)} (h : putInv l a k out false) (hk : k < l.length) (he : (l[k].1 == a.1) = false) (hl : a.1 < l[k].1) : putInv l a (k + 1) ((out ++ [a]) ++ [l[k]]) true := by
  rw [putInv, others_take hk he] at h; rw [putInv, h]; simp [ins, hl]
theorem putInv_end_done {l : List (Int × List Nat)} {a : Int × List Nat} {k : Nat} {out : List (Int × List Nat)} (h : putInv l a k out true) (hk : ¬ k < l.length) : putOf l a = out := by
  rw [putInv, List.drop_eq_nil_of_le (by omega)] at h; simpa [others] using h
theorem putInv_end {l : List (Int × List Nat)} {a : Int × List Nat} {k : Nat} {out : List (Int × List Nat)} (h : putInv l a k out false) (hk : ¬ k < l.length) : putOf l a = out ++ [a] := by
  rw [putInv, List.drop_eq_nil_of_le (by omega)] at h; simpa [others, ins] using h
/-- After k rounds of attrs.Put: p is the place that was found. -/
def putAt (l : List (Int × List Nat)) (a : Int × List Nat) (k : Nat) (out : List (Int × List Nat)) (p : Nat) : Prop :=
  p ≤ out.length ∧ putOf l a = out.take p ++ a :: (out.drop p ++ others a.1 (l.drop k))
theorem putAt_skip {l : List (Int × List Nat)} {a : Int × List Nat} {k : Nat} {out : List (Int × List Nat)} {p : Nat} (h : putAt l a k out p) (hk : k < l.length) (he : (l[k].1 == a.1) = true) : putAt l a (k + 1) out p := by
  obtain ⟨h1, h2⟩ := h; rw [others_skip hk he] at h2; exact ⟨h1, h2⟩
theorem putAt_more {l : List (Int × List Nat)} {a : Int × List Nat} {k : Nat} {out : List (Int × List Nat)} {p : Nat} (h : putAt l a k out p) (hk : k < l.length) (he : (l[k].1 == a.1) = false) : putAt l a (k + 1) (out ++ [l[k]]) p := by
  obtain ⟨h1, h2⟩ := h
  rw [others_take hk he] at h2
  refine ⟨by simp; omega, ?_⟩
  rw [h2, List.take_append_of_le_length h1, List.drop_append_of_le_length h1]
  simp
theorem putAt_hi {l : List (Int × List Nat)} {a : Int × List Nat} {k : Nat} {out : List (Int × List Nat)} (h : putInv l a k out false) (hk : k < l.length) (he : (l[k].1 == a.1) = false) (hl : a.1 < l[k].1) : putAt l a (k + 1) (out ++ [l[k]]) out.length := by
  rw [putInv, others_take hk he] at h
  refine ⟨by simp, ?_⟩
  rw [h]
  simp [ins, hl]
theorem putAt_end {l : List (Int × List Nat)} {a : Int × List Nat} {k : Nat} {out : List (Int × List Nat)} {p : Nat} (h : putAt l a k out p) (hk : ¬ k < l.length) : putOf l a = out.take p ++ a :: out.drop p := by
  obtain ⟨h1, h2⟩ := h
  rw [List.drop_eq_nil_of_le (by omega : l.length ≤ k)] at h2
  simpa [others] using h2
end Go.Proofs.Ytpikikaoelnheaa
