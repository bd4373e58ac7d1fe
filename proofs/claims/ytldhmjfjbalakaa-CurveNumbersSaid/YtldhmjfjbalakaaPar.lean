/- A rule for a region that draws its order: each of its first m operations is walked once, in whatever world that came of the first one by steps of a relation E (memory is made, and what stood stands), with what the operations before it gave; the order that is drawn makes no difference. Nothing here speaks of the program. -/
import Derived.RegionTactic
import Derived.WalkKit
import Derived.Below
namespace Go.Proofs.Ytldhmjfjbalakaa
open Go.RowKit

/-- What stood stands. -/
def Ext (w w' : World) : Prop := Below w.heap.size w w'
theorem Ext.refl (w : World) : Ext w w := Below.refl _ w
theorem Ext.trans {a b c : World} (h : Ext a b) (k : Ext b c) : Ext a c := Below.trans h (Below.mono k h.size)
theorem Ext.drew (w : World) : Ext w w.drew := (Below.refl _ w).drew
theorem Ext.alloc (w : World) (o : Obj) : Ext w (w.alloc o) := (Below.refl _ w).alloc (Nat.le_refl _) o
theorem Ext.bsize {w w' : World} (h : Ext w w') : w.heap.size ≤ w'.heap.size := Below.size h
theorem Ext.at_ {w w' : World} (h : Ext w w') {k : Nat} {o : Obj} (hk : w.heap[k]? = some o) : w'.heap[k]? = some o := by
  have hlt : k < w.heap.size := by
    rcases Nat.lt_or_ge k w.heap.size with h | h
    · exact h
    · rw [Array.getElem?_eq_none h] at hk; cases hk
  exact (Below.block h k hlt).trans hk
theorem Ext.cell {w w' : World} (h : Ext w w') {a : Addr} {v : Value} (hk : w.cell? a = some v) : w'.cell? a = some v :=
  (World.cell?_of_block (Below.block h _ (World.block_lt_of_cell? w a hk))).trans hk

namespace Par

def dst (ops : Array Oper) (j : Nat) : Option Nat := (ops[j]?).bind (·.dst)
def binds (e : Edge) : Bool := Region.binds .any e
def put (ops : Array Oper) (sel : Nat → Bool) (f : Nat → Value) : List Nat → Act → Act
  | [], a => a
  | j :: l, a => put ops sel f l (if sel j then a.put (dst ops j) (f j) else a)
def upd (f : Nat → Value) (i : Nat) (v : Value) : Nat → Value := fun j => if j = i then v else f j
/-- Of f is seen what operation j has seen, and its own. -/
def mask (M : Nat → Nat) (j : Nat) (f : Nat → Value) : Nat → Value := fun k => if (k == j || (M j).testBit k) = true then f k else undef
/-- The operations that do not wait for i. -/
def nd (M : Nat → Nat) (i : Nat) : Nat → Bool := fun j => j != i && !(M j).testBit i

theorem put_append (ops : Array Oper) (sel : Nat → Bool) (f : Nat → Value) (l l' : List Nat) (a : Act) : put ops sel f (l ++ l') a = put ops sel f l' (put ops sel f l a) := by
  induction l generalizing a with
  | nil => rfl
  | cons j l ih => exact ih _
theorem put_congr {ops : Array Oper} {sel sel' : Nat → Bool} {f f' : Nat → Value} {l : List Nat} (h : ∀ j ∈ l, sel j = sel' j ∧ f j = f' j) (a : Act) : put ops sel f l a = put ops sel' f' l a := by
  induction l generalizing a with
  | nil => rfl
  | cons j l ih =>
    obtain ⟨h1, h2⟩ := h j (by simp)
    simp only [put, h1, h2]
    exact ih (fun k hk => h k (by simp [hk])) _
/-- Whether two operations write one slot. -/
def clash (ops : Array Oper) (i j : Nat) : Prop := ∃ d, dst ops i = some d ∧ dst ops j = some d
theorem put_put {ops : Array Oper} {sel : Nat → Bool} {f : Nat → Value} {l : List Nat} {i : Nat} {v : Value} (h : ∀ j ∈ l, ¬ clash ops i j) (a : Act) : (put ops sel f l a).put (dst ops i) v = put ops sel f l (a.put (dst ops i) v) := by
  induction l generalizing a with
  | nil => rfl
  | cons j l ih =>
    simp only [put]
    rw [ih (fun k hk => h k (by simp [hk]))]
    cases sel j
    · rfl
    · simp only [if_true]
      rw [Act.put_comm a _ _ (fun d h1 h2 => h j (by simp) ⟨d, h2, h1⟩)]
/-- One more is done. -/
theorem put_more {ops : Array Oper} {sel : Nat → Bool} {f : Nat → Value} {i : Nat} {v : Value} : ∀ {l : List Nat} (_ : i ∈ l) (_ : l.Nodup) (_ : ∀ j ∈ l, j ≠ i → ¬ clash ops i j) (_ : sel i = false) (a : Act), (put ops sel f l a).put (dst ops i) v = put ops (fun j => sel j || j == i) (upd f i v) l a
  | [], hi, _, _, _, _ => by cases hi
  | j :: l, hi, hn, hc, hs, a => by
    rw [List.nodup_cons] at hn
    by_cases hji : j = i
    · subst hji
      simp only [put, hs, Bool.false_eq_true, if_false, beq_self_eq_true, Bool.or_true, if_true, upd]
      rw [put_put (fun k hk => hc k (by simp [hk]) (fun e => hn.1 (e ▸ hk)))]
      refine put_congr (fun k hk => ?_) _
      have hne : k ≠ j := fun e => hn.1 (e ▸ hk)
      simp [hne, upd]
    · have hmem : i ∈ l := by
        rcases List.mem_cons.1 hi with h | h
        · exact absurd h.symm hji
        · exact h
      simp only [put]
      rw [put_more hmem hn.2 (fun k hk => hc k (by simp [hk])) hs]
      have e1 : (sel j || j == i) = sel j := by simp [hji]
      have e2 : upd f i v j = f j := by simp [upd, hji]
      simp only [e1, e2]
theorem put_own (a : Act) (d : Option Nat) (v : Value) (h : ∀ t, d = some t → v = a.tmps.getD t undef) : a.put d v = a := by
  cases d with
  | none => rfl
  | some t =>
    have hv := h t rfl
    subst hv
    show ({ a with tmps := a.tmps.setIfInBounds t (a.tmps.getD t undef) } : Act) = a
    congr 1
    apply Array.ext_getElem?
    intro k
    rw [Array.getElem?_setIfInBounds]
    split
    · rename_i htk
      subst htk
      split
      · rename_i hlt
        simp [hlt]
      · rename_i hlt
        simp [Array.getElem?_eq_none (Nat.le_of_not_lt hlt)]
    · rfl
theorem put_getD {a : Act} {d : Option Nat} {v : Value} {t : Nat} (h : d ≠ some t) : (a.put d v).tmps.getD t undef = a.tmps.getD t undef := by
  cases d with
  | none => rfl
  | some s =>
    have hne : s ≠ t := fun e => h (by rw [e])
    show (a.tmps.setIfInBounds s v).getD t undef = _
    simp [Array.getD_eq_getD_getElem?, Array.getElem?_setIfInBounds_ne hne]
/-- What is not done may be said to hold what its slot holds. -/
theorem put_wide {ops : Array Oper} {D sel : Nat → Bool} {f g : Nat → Value} (b : Act) : ∀ {l : List Nat} (_ : l.Nodup) (_ : ∀ i ∈ l, ∀ j ∈ l, i ≠ j → ¬ clash ops i j) (_ : ∀ j ∈ l, D j = true → sel j = true ∧ g j = f j) (a : Act) (_ : ∀ j ∈ l, D j = false → ∀ t, dst ops j = some t → g j = a.tmps.getD t undef), put ops D f l a = put ops sel g l a
  | [], _, _, _, _, _ => rfl
  | j :: l, hn, hc, hD, a, hg => by
    rw [List.nodup_cons] at hn
    simp only [put]
    have key : ∀ a' : Act, (∀ k ∈ l, ∀ t, dst ops k = some t → a'.tmps.getD t undef = a.tmps.getD t undef) → put ops D f l a' = put ops sel g l a' := fun a' h' =>
      put_wide b hn.2 (fun i hi k hk => hc i (by simp [hi]) k (by simp [hk])) (fun k hk => hD k (by simp [hk])) a' (fun k hk h1 t ht => by rw [h' k hk t ht]; exact hg k (by simp [hk]) h1 t ht)
    have far : ∀ v, ∀ k ∈ l, ∀ t, dst ops k = some t → (a.put (dst ops j) v).tmps.getD t undef = a.tmps.getD t undef := fun v k hk t ht => put_getD (fun e => hc j (by simp) k (by simp [hk]) (fun e => hn.1 (e ▸ hk)) ⟨t, e, ht⟩)
    cases hj : D j
    · have e : (if sel j = true then a.put (dst ops j) (g j) else a) = a := by
        split
        · exact put_own _ _ _ (fun t ht => hg j (by simp) hj t ht)
        · rfl
      rw [e]
      exact key a (fun _ _ _ _ => rfl)
    · obtain ⟨h1, h2⟩ := hD j (by simp) hj
      rw [h1, h2]
      exact key _ (far _)

/-- How many of the first m are done. -/
def cnt (D : Nat → Bool) : Nat → Nat
  | 0 => 0
  | k + 1 => cnt D k + (if D k then 1 else 0)
theorem cnt_le (D : Nat → Bool) : ∀ m, cnt D m ≤ m
  | 0 => Nat.le_refl _
  | k + 1 => by have := cnt_le D k; simp only [cnt]; split <;> omega
theorem cnt_congr {D D' : Nat → Bool} : ∀ {m : Nat}, (∀ j, j < m → D j = D' j) → cnt D m = cnt D' m
  | 0, _ => rfl
  | k + 1, h => by simp only [cnt]; rw [cnt_congr (fun j hj => h j (by omega)), h k (by omega)]
theorem cnt_more {D D' : Nat → Bool} {i : Nat} (hD : D i = false) (hD' : D' i = true) (h : ∀ j, j ≠ i → D' j = D j) : ∀ {m : Nat}, i < m → cnt D' m = cnt D m + 1
  | 0, hi => by omega
  | k + 1, hi => by
    simp only [cnt]
    by_cases hk : k = i
    · subst hk
      rw [hD, hD', cnt_congr (fun j hj => h j (by omega))]
      simp
    · rw [cnt_more hD hD' h (m := k) (by omega), h k hk]
      omega
theorem cnt_full {D : Nat → Bool} : ∀ {m : Nat}, (∀ j, j < m → D j = true) → cnt D m = m
  | 0, _ => rfl
  | k + 1, h => by simp only [cnt]; rw [cnt_full (fun j hj => h j (by omega)), h k (by omega)]; simp
theorem cnt_lt {D : Nat → Bool} {i : Nat} (hD : D i = false) : ∀ {m : Nat}, i < m → cnt D m < m
  | 0, hi => by omega
  | k + 1, hi => by
    simp only [cnt]
    by_cases hk : k = i
    · subst hk; have := cnt_le D k; rw [hD]; simp; omega
    · have := cnt_lt hD (m := k) (by omega); split <;> omega

/-- The premises on the region's form, to be reckoned. -/
def ok (ops : Array Oper) (M : Nat → Nat) (m : Nat) : Bool :=
  decide (m ≤ ops.size) &&
  ((List.range ops.size).all fun i => match ops[i]? with
    | none => false
    | some o => (o.after.all fun e => !binds e || decide (e.on < i)) &&
      ((List.range ops.size).all fun k => !(M i).testBit k || o.after.any fun e => binds e && (e.on == k || (M e.on).testBit k)) &&
      (decide (i < m) || (List.range i).all fun k => (M i).testBit k) && decide (M i < 2 ^ i)) &&
  ((List.range m).all fun i => (List.range m).all fun j => i == j || (match dst ops i, dst ops j with | some d, some e => d != e | _, _ => true))

structure Form (ops : Array Oper) (M : Nat → Nat) (m : Nat) : Prop where
  le : m ≤ ops.size
  up : ∀ i o, ops[i]? = some o → ∀ e ∈ o.after, binds e = true → e.on < i
  by_ : ∀ i o k, ops[i]? = some o → k < ops.size → (M i).testBit k = true → ∃ e ∈ o.after, binds e = true ∧ (e.on = k ∨ (M e.on).testBit k = true)
  low : ∀ i, i < ops.size → M i < 2 ^ i
  late : ∀ i, m ≤ i → i < ops.size → ∀ k, k < i → (M i).testBit k = true
  own : ∀ i j, i < m → j < m → i ≠ j → ¬ clash ops i j
theorem ok.form {ops : Array Oper} {M : Nat → Nat} {m : Nat} (h : ok ops M m = true) : Form ops M m := by
  unfold ok at h
  rw [Bool.and_eq_true, Bool.and_eq_true, decide_eq_true_eq, List.all_eq_true, List.all_eq_true] at h
  obtain ⟨⟨hle, h1⟩, h2⟩ := h
  have key : ∀ i o, ops[i]? = some o → (∀ e ∈ o.after, binds e = true → e.on < i) ∧ (∀ k, k < ops.size → (M i).testBit k = true → ∃ e ∈ o.after, binds e = true ∧ (e.on = k ∨ (M e.on).testBit k = true)) ∧ (m ≤ i → ∀ k, k < i → (M i).testBit k = true) ∧ M i < 2 ^ i := by
    intro i o ho
    have hi : i < ops.size := (Array.getElem?_eq_some_iff.1 ho).1
    have := h1 i (List.mem_range.2 hi)
    rw [ho] at this
    simp only [Bool.and_eq_true, Array.all_eq_true_iff_forall_mem, Bool.or_eq_true, Bool.not_eq_true', decide_eq_true_eq, List.all_eq_true, List.mem_range, Array.any_eq_true', beq_iff_eq] at this
    obtain ⟨⟨⟨a1, a2⟩, a3⟩, a4⟩ := this
    refine ⟨fun e he hb => (a1 e he).resolve_left (by simp [hb]), fun k hk hb => ?_, fun hm k hk => (a3.resolve_left (by omega)) k hk, a4⟩
    obtain ⟨e, he, h3, h4⟩ := (a2 k hk).resolve_left (by simp [hb])
    exact ⟨e, he, h3, h4⟩
  refine ⟨hle, fun i o ho => (key i o ho).1, fun i o k ho => (key i o ho).2.1 k, fun i hi => (key i _ (Array.getElem?_eq_getElem hi)).2.2.2, fun i hm hi k hk => ?_, fun i j hi hj hne => ?_⟩
  · exact (key i _ (Array.getElem?_eq_getElem hi)).2.2.1 hm k hk
  · have h3 := h2 i (List.mem_range.2 hi)
    rw [List.all_eq_true] at h3
    have h4 := h3 j (List.mem_range.2 hj)
    rintro ⟨d, e1, e2⟩
    rw [e1, e2] at h4
    simp [hne] at h4

theorem Form.bit {ops : Array Oper} {M : Nat → Nat} {m : Nat} (h : Form ops M m) (i : Nat) (hi : i < ops.size) (k : Nat) (hk : (M i).testBit k = true) : k < i := by
  rcases Nat.lt_or_ge k i with hlt | hge
  · exact hlt
  · have h1 := h.low i hi
    rw [Nat.testBit_lt_two_pow (Nat.lt_of_lt_of_le h1 (Nat.pow_le_pow_right (by omega) hge))] at hk
    cases hk

/-- What an operation waits for is done where it may come up. -/
theorem anc {ops : Array Oper} {M : Nat → Nat} {m : Nat} (hF : Form ops M m) {listed : Array Bool} (hcl : ∀ j o, ops[j]? = some o → listed.getD j false = true → ∀ e ∈ o.after, binds e = true → listed.getD e.on false = true) :
    ∀ n i o, i ≤ n → ops[i]? = some o → (∀ e ∈ o.after, binds e = true → listed.getD e.on false = true) → ∀ k, k < ops.size → (M i).testBit k = true → listed.getD k false = true := by
  intro n
  induction n with
  | zero =>
    intro i o hin ho hd k hk hb
    obtain ⟨e, he, hb', _⟩ := hF.by_ i o k ho hk hb
    have := hF.up i o ho e he hb'
    omega
  | succ n ihn =>
    intro i o hin ho hd k hk hb
    obtain ⟨e, he, hb', h1⟩ := hF.by_ i o k ho hk hb
    rcases h1 with rfl | h1
    · exact hd e he hb'
    · have hlt' := hF.up i o ho e he hb'
      have hes : e.on < ops.size := by have := (Array.getElem?_eq_some_iff.1 ho).1; omega
      exact ihn e.on _ (by omega) (Array.getElem?_eq_getElem hes) (hcl e.on _ (Array.getElem?_eq_getElem hes) (hd e he hb')) k hk h1

section
variable {P : Program} {ops : Array Oper} {Q : Exit → Act → World → Prop}

/-- Operation i, walked in whatever world: its answer v is as R says, with what the operations that it waits for gave. -/
def Step (P : Program) (ops : Array Oper) (Q : Exit → Act → World → Prop) (E : World → World → Prop) (m : Nat) (M : Nat → Nat) (AL : Nat → Bool) (R : Nat → (Nat → Value) → World → Prop) (a : Act) (w : World) (i : Nat) : Prop :=
  ∀ f X, E w X → (∀ j, (M i).testBit j = true → R j f X) → ∀ K : Act → World → Prop,
    (∀ a' v X', a' = (put ops (nd M i) f (List.range m) a).put (dst ops i) v → E X X' → (if AL i = true then v = .pointer (some ⟨X.heap.size, 0, none⟩) ∧ X.heap.size < X'.heap.size else True) → (∀ Y, E X' Y → R i (upd f i v) Y) → K a' X') →
    wpOp P ops Q i K (put ops (nd M i) f (List.range m) a) X

theorem Step.intro {E : World → World → Prop} {m : Nat} {M : Nat → Nat} {AL : Nat → Bool} {R : Nat → (Nat → Value) → World → Prop} {a : Act} {w : World} {i : Nat} {o : Oper} (ho : ops[i]? = some o)
    (h : ∀ f X, E w X → (∀ j, (M i).testBit j = true → R j f X) → ∀ K : Act → World → Prop,
      (∀ a' v X', a' = (put ops (nd M i) f (List.range m) a).put o.dst v → E X X' → (if AL i = true then v = .pointer (some ⟨X.heap.size, 0, none⟩) ∧ X.heap.size < X'.heap.size else True) → (∀ Y, E X' Y → R i (upd f i v) Y) → K a' X') →
      if Region.wanted o (yielded ops (put ops (nd M i) f (List.range m) a).tmps) = true then Oper.wp P o (put ops (nd M i) f (List.range m) a) X K Q else K ((put ops (nd M i) f (List.range m) a).put o.dst undef) X) :
    Step P ops Q E m M AL R a w i := fun f X hX hR K hK => wpOp_step ho fun K' hK' => h f X hX hR K' fun a' v X' ha hE hA hR' => hK' _ _ (hK a' v X' (by rw [ha, dst, ho]; rfl) hE hA hR')

/-- What has been done and stands. -/
structure Inv (ops : Array Oper) (E : World → World → Prop) (m : Nat) (M : Nat → Nat) (AL : Nat → Bool) (R : Nat → (Nat → Value) → World → Prop) (a : Act) (w : World) (D : Nat → Bool) (f : Nat → Value) (a' : Act) (X : World) : Prop where
  act : a' = put ops D f (List.range m) a
  ext : E w X
  said : ∀ j, j < m → D j = true → R j (mask M j f) X
  at_ : ∀ j, j < m → D j = true → AL j = true → ∃ b, f j = .pointer (some ⟨b, 0, none⟩) ∧ b < X.heap.size
  apart : ∀ j k, j < m → k < m → D j = true → D k = true → AL j = true → AL k = true → j ≠ k → f j ≠ f k

theorem fin {E : World → World → Prop} {m : Nat} {M : Nat → Nat} {AL : Nat → Bool} {R : Nat → (Nat → Value) → World → Prop} {a : Act} {w : World} (hF : Form ops M m)
    (hfin : ∀ f X, E w X → (∀ j, j < m → R j (mask M j f) X) → (∀ j, j < m → AL j = true → ∃ b, f j = .pointer (some ⟨b, 0, none⟩) ∧ b < X.heap.size) → (∀ j k, j < m → k < m → AL j = true → AL k = true → j ≠ k → f j ≠ f k) →
      wpAny P .any ops Q (ops.size - m) (((List.range ops.size).map fun j => decide (j < m)).toArray) (put ops (fun _ => true) f (List.range m) a) X)
    {fuel : Nat} {listed : Array Bool} {f : Nat → Value} {a' : Act} {X : World} (hsz : listed.size = ops.size) (hall : ∀ j, j < m → listed.getD j false = true) (hlt : ∀ j, listed.getD j false = true → j < m)
    (hI : Inv ops E m M AL R a w (fun j => listed.getD j false) f a' X) (hfuel : fuel + m = ops.size) : wpAny P .any ops Q fuel listed a' X := by
  have e1 : listed = ((List.range ops.size).map fun j => decide (j < m)).toArray := by
    apply Array.ext
    · simp [hsz]
    · intro k h1 h2
      simp only [List.getElem_toArray, List.getElem_map, List.getElem_range]
      by_cases hk : k < m
      · have := hall k hk
        simpa [h1, hk] using this
      · cases hd : listed[k]
        · simp [hk]
        · exact absurd (hlt k (by simp [h1, hd])) hk
  have e2 : a' = put ops (fun _ => true) f (List.range m) a := by
    rw [hI.act]
    exact put_congr (fun j hj => ⟨hall j (List.mem_range.1 hj), rfl⟩) _
  have e3 : fuel = ops.size - m := by omega
  rw [e1, e2, e3]
  exact hfin f X hI.ext (fun j hj => hI.said j hj (hall j hj)) (fun j hj h => hI.at_ j hj (hall j hj) h) (fun j k hj hk h1 h2 => hI.apart j k hj hk (hall j hj) (hall k hk) h1 h2)

theorem par {E : World → World → Prop} (hE0 : ∀ w, E w w) (hE1 : ∀ a b c, E a b → E b c → E a c) (hE2 : ∀ a b, E a b → a.heap.size ≤ b.heap.size)
    {m : Nat} {M : Nat → Nat} {AL : Nat → Bool} {R : Nat → (Nat → Value) → World → Prop} {a : Act} {w : World} (hF : Form ops M m)
    (hR : ∀ j, j < m → ∀ f X, R j (mask M j f) X → ∀ Y, E X Y → R j (mask M j f) Y)
    (hstep : ∀ i, i < m → Step P ops Q E m M AL (fun j f X => R j (mask M j f) X) a w i)
    (hfin : ∀ f X, E w X → (∀ j, j < m → R j (mask M j f) X) → (∀ j, j < m → AL j = true → ∃ b, f j = .pointer (some ⟨b, 0, none⟩) ∧ b < X.heap.size) → (∀ j k, j < m → k < m → AL j = true → AL k = true → j ≠ k → f j ≠ f k) →
      wpAny P .any ops Q (ops.size - m) (((List.range ops.size).map fun j => decide (j < m)).toArray) (put ops (fun _ => true) f (List.range m) a) X) :
    ∀ (fuel : Nat) (listed : Array Bool) (f : Nat → Value) (a' : Act) (X : World), listed.size = ops.size →
      (∀ j o, ops[j]? = some o → listed.getD j false = true → ∀ e ∈ o.after, binds e = true → listed.getD e.on false = true) →
      (∀ j, listed.getD j false = true → j < m) → fuel + cnt (fun j => listed.getD j false) m = ops.size →
      Inv ops E m M AL R a w (fun j => listed.getD j false) f a' X → wpAny P .any ops Q fuel listed a' X := by
  intro fuel
  induction fuel with
  | zero =>
    intro listed f a' X hsz hcl hlt hc hI
    have hcm : cnt (fun j => listed.getD j false) m ≤ m := cnt_le _ _
    have hmm : m = ops.size := by have := hF.le; omega
    have hall : ∀ j, j < m → listed.getD j false = true := fun j hj => by
      cases h : listed.getD j false
      · have := cnt_lt (D := fun j => listed.getD j false) (i := j) h hj; omega
      · rfl
    exact fin hF hfin hsz hall hlt hI (by omega)
  | succ fuel ih =>
    intro listed f a' X hsz hcl hlt hc hI
    by_cases hall : ∀ j, j < m → listed.getD j false = true
    · have hcm := cnt_full (D := fun j => listed.getD j false) hall
      exact fin hF hfin hsz hall hlt hI (by omega)
    · refine ⟨fun h => ?_, fun i hi => ?_⟩
      · exfalso
        -- the first that is not done may come up
        have : ∀ n, n ≤ m → (∀ j, j < n → listed.getD j false = true) := by
          intro n
          induction n with
          | zero => intro _ j hj; omega
          | succ n ihn =>
            intro hn j hj
            by_cases hjn : j < n
            · exact ihn (by omega) j hjn
            · obtain rfl : j = n := by omega
              cases hd : listed.getD j false
              · exfalso
                have hjs : j < ops.size := by have := hF.le; omega
                have hmem : j ∈ Region.ready .any ops listed := by
                  rw [mem_ready]
                  have hjl : j < listed.size := by omega
                  refine ⟨by simpa [hjl] using hd, _, Array.getElem?_eq_getElem hjs, fun e he hb => ihn (by omega) _ (hF.up j _ (Array.getElem?_eq_getElem hjs) e he hb)⟩
                rw [h] at hmem
                cases hmem
              · rfl
        exact hall (this m (Nat.le_refl _))
      · obtain ⟨hi0, o, ho, hdep⟩ := mem_ready.1 hi
        have his : i < ops.size := (Array.getElem?_eq_some_iff.1 ho).1
        have hil : i < listed.size := by omega
        have hid : listed.getD i false = false := by simpa [hil] using hi0
        have anc := fun i o hio hd k hk hb => anc hF hcl i i o (Nat.le_refl _) hio hd k (Nat.lt_of_lt_of_le hk hF.le) hb
        have him : i < m := by
          rcases Nat.lt_or_ge i m with h | h
          · exact h
          · exact absurd (fun k hk => anc i o ho hdep k hk (hF.late i h his k (by omega))) hall
        -- what waits for it is not
        have hnd : ∀ j, j < m → listed.getD j false = true → nd M i j = true := fun j hj hd => by
          have h1 : j ≠ i := fun e => by rw [e, hid] at hd; cases hd
          have hjs : j < ops.size := by have := hF.le; omega
          have h2 : (M j).testBit i = false := by
            cases hb : (M j).testBit i
            · rfl
            · have := anc j _ (Array.getElem?_eq_getElem hjs) (hcl j _ (Array.getElem?_eq_getElem hjs) hd) i him hb
              rw [hid] at this; cases this
          simp [nd, h1, h2]
        -- the slots as the step sees them
        obtain ⟨g, hg⟩ : ∃ g : Nat → Value, g = fun j => if listed.getD j false = true then f j else ((dst ops j).map fun t => a.tmps.getD t undef).getD undef := ⟨_, rfl⟩
        have hgf : ∀ j, listed.getD j false = true → g j = f j := fun j hj => by rw [hg]; simp only [hj, if_true]
        have hact : a' = put ops (nd M i) g (List.range m) a := by
          rw [hI.act]
          refine put_wide a List.nodup_range (fun p hp q hq => hF.own p q (List.mem_range.1 hp) (List.mem_range.1 hq)) (fun j hj hd => ⟨hnd j (List.mem_range.1 hj) hd, hgf j hd⟩) a (fun j _ hd t ht => ?_)
          rw [hg]
          simp only [hd, Bool.false_eq_true, if_false, ht, Option.map_some, Option.getD_some]
        have hmask : ∀ j, j < m → listed.getD j false = true → mask M j g = mask M j f := fun j hj hd => by
          funext k
          unfold mask
          split
          · rename_i hk
            rw [Bool.or_eq_true, beq_iff_eq] at hk
            rcases hk with rfl | hk
            · exact hgf _ hd
            · have hjs : j < ops.size := by have := hF.le; omega
              have hkj := hF.bit j hjs k hk
              exact hgf k (anc j _ (Array.getElem?_eq_getElem hjs) (hcl j _ (Array.getElem?_eq_getElem hjs) hd) k (by omega) hk)
          · rfl
        rw [hact]
        refine hstep i him g X hI.ext (fun j hb => ?_) _ (fun a'' v X' ha hE hA hR' => ?_)
        · have hj : j < m := by have := hF.bit i his j hb; omega
          have hd := anc i o ho hdep j hj hb
          show R j (mask M j g) X
          rw [hmask j hj hd]
          exact hI.said j hj hd
        · have hnew : ∀ j, (listed.setIfInBounds i true).getD j false = (listed.getD j false || j == i) := fun j => by
            by_cases hji : j = i
            · subst hji; simp [hil]
            · rw [getD_set_ne false (fun e => hji e.symm)]; simp [hji]
          have hnin : ∀ j, j < m → listed.getD j false = true → j ≠ i := fun j _ hd e => by rw [e, hid] at hd; cases hd
          have hupd : ∀ j, listed.getD j false = true → upd g i v j = f j := fun j hd => by
            have hne : j ≠ i := fun e => by rw [e, hid] at hd; cases hd
            simp only [upd, hne, if_false]; exact hgf j hd
          have hupi : upd g i v i = v := by simp [upd]
          have hmk : ∀ j, j < m → listed.getD j false = true → mask M j (upd g i v) = mask M j f := fun j hj hd => by
            rw [← hmask j hj hd]
            funext k
            unfold mask
            split
            · rename_i hk
              rw [Bool.or_eq_true, beq_iff_eq] at hk
              have hne : k ≠ i := by
                rintro rfl
                rcases hk with rfl | hk
                · exact hnin _ hj hd rfl
                · have := hnd j hj hd
                  simp [nd, hk] at this
              simp [upd, hne]
            · rfl
          refine ih _ (upd g i v) a'' X' (by simpa using hsz) (fun j oj hoj hd e he hb => ?_) (fun j hd => ?_) ?_ ⟨?_, hE1 _ _ _ hI.ext hE, fun j hj hd => ?_, fun j hj hd hal => ?_, fun j k hj hk hd hd' hal hal' hne => ?_⟩
          · rw [hnew] at hd ⊢
            rw [Bool.or_eq_true, beq_iff_eq] at hd ⊢
            rcases hd with hd | rfl
            · exact .inl (hcl j oj hoj hd e he hb)
            · rw [ho] at hoj; cases hoj; exact .inl (hdep e he hb)
          · rw [hnew, Bool.or_eq_true, beq_iff_eq] at hd
            rcases hd with hd | rfl
            · exact hlt j hd
            · exact him
          · rw [cnt_more (D := fun j => listed.getD j false) (D' := fun j => (listed.setIfInBounds i true).getD j false) hid (by rw [hnew]; simp) (fun j hj => by show (listed.setIfInBounds i true).getD j false = listed.getD j false; rw [hnew]; simp [hj]) him]
            omega
          · rw [ha, put_more (List.mem_range.2 him) List.nodup_range (fun j hj hne => hF.own i j him (List.mem_range.1 hj) (Ne.symm hne)) (by simp [nd])]
            refine (put_wide a List.nodup_range (fun p hp q hq => hF.own p q (List.mem_range.1 hp) (List.mem_range.1 hq)) (fun j hj hd => ⟨?_, rfl⟩) a (fun j hj hd t ht => ?_)).symm
            · rw [hnew, Bool.or_eq_true, beq_iff_eq] at hd
              rw [Bool.or_eq_true, beq_iff_eq]
              exact hd.imp (hnd j (List.mem_range.1 hj)) id
            · rw [hnew, Bool.or_eq_false_iff] at hd
              have hne : j ≠ i := by simpa using hd.2
              simp only [upd, hne, if_false]
              rw [hg]
              simp only [hd.1, Bool.false_eq_true, if_false, ht, Option.map_some, Option.getD_some]
          · rw [hnew, Bool.or_eq_true, beq_iff_eq] at hd
            by_cases hold : listed.getD j false = true
            · rw [hmk j hj hold]
              have := hI.said j hj hold
              exact hR j hj f X this X' hE
            · obtain rfl : j = i := hd.resolve_left hold
              exact hR' X' (hE0 _)
          · rw [hnew, Bool.or_eq_true, beq_iff_eq] at hd
            by_cases hold : listed.getD j false = true
            · obtain ⟨b, h1, h2⟩ := hI.at_ j hj hold hal
              exact ⟨b, (hupd j hold).trans h1, Nat.lt_of_lt_of_le h2 (hE2 _ _ hE)⟩
            · obtain rfl : j = i := hd.resolve_left hold
              rw [if_pos hal] at hA
              exact ⟨X.heap.size, hupi.trans hA.1, hA.2⟩
          · rw [hnew, Bool.or_eq_true, beq_iff_eq] at hd hd'
            have key : ∀ j k, j < m → listed.getD j false = true → AL j = true → AL k = true → k = i → upd g i v j ≠ upd g i v k := fun j k hj hold hal hal' hki heq => by
              subst hki
              rw [if_pos hal'] at hA
              obtain ⟨b, h1, h2⟩ := hI.at_ j hj hold hal
              rw [hupd j hold, hupi, h1, hA.1] at heq
              injection heq with heq
              injection heq with heq
              injection heq with heq
              omega
            by_cases hold : listed.getD j false = true
            · by_cases hold' : listed.getD k false = true
              · rw [hupd j hold, hupd k hold']
                exact hI.apart j k hj hk hold hold' hal hal' hne
              · exact key j k hj hold hal hal' (hd'.resolve_left hold')
            · have hji := hd.resolve_left hold
              by_cases hold' : listed.getD k false = true
              · exact fun e => key k j hk hold' hal' hal hji e.symm
              · exact absurd (hji.trans (hd'.resolve_left hold').symm) hne
/-- A premise that no tactic looks into till it is opened. -/
structure Way (p : Prop) : Prop where
  out : p

/-- The last operations, each of which waits for all before it. -/
def Chain (P : Program) (ol : List Oper) (Q : Exit → Act → World → Prop) : List Oper → Act → World → Prop
  | [], a, w => Q .normal a w
  | o :: l, a, w => ∀ K : Act → World → Prop, (∀ a w, Chain P ol Q l a w → K a w) → if Region.wanted o (yielded ol.toArray a.tmps) = true then Oper.wp P o a w K Q else K (a.put o.dst undef) w
def upto (n m : Nat) : Array Bool := ((List.range n).map fun j => decide (j < m)).toArray
theorem upto_getD {n m j : Nat} (h : j < n) : (upto n m).getD j false = decide (j < m) := by
  simp [upto, h]
theorem upto_set {n m : Nat} (h : m < n) : (upto n m).setIfInBounds m true = upto n (m + 1) := by
  apply Array.ext
  · simp [upto]
  · intro k h1 h2
    have hk : k < n := by simpa [upto] using h2
    by_cases hkm : k = m
    · subst hkm; simp [upto, hk]
    · rw [Array.getElem_setIfInBounds_ne (by simpa [upto] using hk) (fun e => hkm e.symm)]
      simp only [upto, List.getElem_toArray, List.getElem_map, List.getElem_range, decide_eq_decide]
      omega
theorem Chain.sound {ol : List Oper} {M : Nat → Nat} {m : Nat} (hF : Form ol.toArray M m) : ∀ (n m' : Nat) (a : Act) (X : World), m ≤ m' → m' + n = ol.toArray.size → Chain P ol Q (ol.drop m') a X → wpAny P .any ol.toArray Q n (upto ol.toArray.size m') a X := by
  intro n
  induction n with
  | zero =>
    intro m' a X hm hn h
    have hnil : ol.drop m' = [] := List.drop_eq_nil_of_le (by simp at hn; omega)
    rw [hnil] at h
    refine ⟨?_, h⟩
    cases hr : Region.ready .any ol.toArray (upto ol.toArray.size m') with
    | nil => rfl
    | cons i l =>
      have hi : i ∈ Region.ready .any ol.toArray (upto ol.toArray.size m') := by rw [hr]; simp
      obtain ⟨h0, o, ho, _⟩ := mem_ready.1 hi
      have his := (Array.getElem?_eq_some_iff.1 ho).1
      have h1 : (upto ol.toArray.size m').getD i true = decide (i < m') := by
        have : i < ol.length := by simpa using his
        simp [upto, this]
      rw [h1, decide_eq_false_iff_not] at h0
      omega
  | succ n ih =>
    intro m' a X hm hn h
    have hms : m' < ol.length := by simp at hn; omega
    have hms' : m' < ol.toArray.size := by simpa using hms
    have hcl : ∀ j o, ol.toArray[j]? = some o → (upto ol.toArray.size m').getD j false = true → ∀ e ∈ o.after, binds e = true → (upto ol.toArray.size m').getD e.on false = true := fun j o ho hj e he hb => by
      have hjs := (Array.getElem?_eq_some_iff.1 ho).1
      have hlt := hF.up j o ho e he hb
      rw [upto_getD hjs] at hj
      rw [upto_getD (by omega)]
      simp at hj ⊢; omega
    have hmem : m' ∈ Region.ready .any ol.toArray (upto ol.toArray.size m') := by
      rw [mem_ready]
      refine ⟨?_, _, Array.getElem?_eq_getElem hms', fun e he hb => ?_⟩
      · simp [upto, hms]
      · have hlt := hF.up m' _ (Array.getElem?_eq_getElem hms') e he hb
        rw [upto_getD (by omega)]; simpa using hlt
    refine ⟨fun h0 => (by rw [h0] at hmem; cases hmem), fun i hi => ?_⟩
    obtain ⟨h0, o, ho, hdep⟩ := mem_ready.1 hi
    have his := (Array.getElem?_eq_some_iff.1 ho).1
    have him : i = m' := by
      have h1 : (upto ol.toArray.size m').getD i true = decide (i < m') := by
        have : i < ol.length := by simpa using his
        simp [upto, this]
      rw [h1, decide_eq_false_iff_not] at h0
      rcases Nat.lt_or_ge m' i with hlt | hge
      · have := anc hF hcl i i o (Nat.le_refl _) ho hdep m' hms' (hF.late i (by omega) his m' hlt)
        rw [upto_getD hms'] at this
        simp at this
      · omega
    subst him
    rw [List.drop_eq_getElem_cons hms] at h
    have hoe : o = ol[i] := by
      have : ol[i]? = some o := by simpa using ho
      rw [List.getElem?_eq_getElem hms] at this
      injection this with this
      exact this.symm
    rw [upto_set hms']
    refine wpOp_step ho fun K' hK' => ?_
    rw [hoe]
    exact h K' fun a w hc => hK' a w (ih (i + 1) a w (by omega) (by omega) hc)
theorem Chain.next {ol : List Oper} {o : Oper} {l : List Oper} {a : Act} {w : World} (h : ∀ K : Act → World → Prop, Way (∀ a w, Way (Chain P ol Q l a w) → K a w) → Way (if Region.wanted o (yielded ol.toArray a.tmps) = true then Oper.wp P o a w K Q else K (a.put o.dst undef) w)) : Way (Chain P ol Q (o :: l) a w) :=
  ⟨fun K hK => (h K ⟨fun a w hc => hK a w hc.out⟩).out⟩
theorem Chain.done {ol : List Oper} {a : Act} {w : World} (h : Q .normal a w) : Way (Chain P ol Q [] a w) := ⟨h⟩

/-- The slots that the operations before i (those of sel) have filled. -/
def sel (ops : Array Oper) (s : Nat → Bool) (l : List Nat) : List (Nat × Nat) := l.filterMap fun j => if s j then (dst ops j).map fun d => (d, j) else none
def putL (f : Nat → Value) : List (Nat × Nat) → Act → Act
  | [], a => a
  | p :: l, a => putL f l (a.put (some p.1) (f p.2))
theorem put_sel (s : Nat → Bool) (f : Nat → Value) (l : List Nat) (a : Act) : put ops s f l a = putL f (sel ops s l) a := by
  induction l generalizing a with
  | nil => rfl
  | cons j l ih =>
    simp only [put, sel, List.filterMap_cons]
    rw [ih]
    cases s j
    · rfl
    · simp only [if_true]
      cases h : dst ops j with
      | none => rfl
      | some d => rfl

/-- One after the other. -/
def AllFrom (S : Nat → Prop) : Nat → Nat → Prop
  | _, 0 => True
  | k, n + 1 => S k ∧ AllFrom S (k + 1) n
theorem AllFrom.nil {S : Nat → Prop} {k : Nat} : AllFrom S k 0 := trivial
theorem AllFrom.cons {S : Nat → Prop} {k n : Nat} (k' n' : Nat) (hk : k + 1 = k') (hn : n' + 1 = n) (h : S k) (hs : AllFrom S k' n') : AllFrom S k n := by
  subst hk hn; exact ⟨h, hs⟩
theorem AllFrom.out {S : Nat → Prop} : ∀ {n k : Nat}, AllFrom S k n → ∀ i, k ≤ i → i < k + n → S i
  | 0, k, _, i, h1, h2 => by omega
  | n + 1, k, h, i, h1, h2 => by
    by_cases hi : i = k
    · subst hi; exact h.1
    · exact h.2.out i (by omega) (by omega)

/-- What each operation's walk has to show. -/
def StepU (P : Program) (ops : Array Oper) (Q : Exit → Act → World → Prop) (E : World → World → Prop) (m : Nat) (L : List Nat) (AL : List Nat) (R : Nat → (Nat → Value) → World → Prop) (a : Act) (w : World) (i : Nat) : Prop :=
  Step P ops Q E m (fun i => L.getD i 0) (fun i => AL.contains i) (fun j f X => R j (mask (fun i => L.getD i 0) j f) X) a w i
theorem StepU.intro {E : World → World → Prop} {m : Nat} {L AL : List Nat} {R : Nat → (Nat → Value) → World → Prop} {a : Act} {w : World} {i : Nat} {o : Oper} (pl : List (Nat × Nat)) (ho : ops[i]? = some o) (hpl : sel ops (nd (fun i => L.getD i 0) i) (List.range m) = pl)
    (h : ∀ f X, E w X → Way (∀ j, (L.getD i 0).testBit j = true → R j (mask (fun i => L.getD i 0) j f) X) → ∀ K : Act → World → Prop,
      Way (∀ a' v X', a' = (putL f pl a).put o.dst v → E X X' → (if AL.contains i = true then v = .pointer (some ⟨X.heap.size, 0, none⟩) ∧ X.heap.size < X'.heap.size else True) → (∀ Y, E X' Y → R i (mask (fun i => L.getD i 0) i (upd f i v)) Y) → K a' X') →
      Way (if Region.wanted o (yielded ops (putL f pl a).tmps) = true then Oper.wp P o (putL f pl a) X K Q else K ((putL f pl a).put o.dst undef) X)) :
    StepU P ops Q E m L AL R a w i := Step.intro ho fun f X hX hR K hK => by
  have h1 := h f X hX ⟨hR⟩ K
  rw [← hpl, ← put_sel] at h1
  exact (h1 ⟨hK⟩).out

/-- The same, of the operation that is number i. -/
structure StepO (P : Program) (ol : List Oper) (Q : Exit → Act → World → Prop) (E : World → World → Prop) (m : Nat) (L : List Nat) (AL : List Nat) (R : Nat → (Nat → Value) → World → Prop) (a : Act) (w : World) (i : Nat) (o : Oper) : Prop where
  out : ol[i]? = some o → StepU P ol.toArray Q E m L AL R a w i
theorem StepO.intro {ol : List Oper} {E : World → World → Prop} {m : Nat} {L AL : List Nat} {R : Nat → (Nat → Value) → World → Prop} {a : Act} {w : World} {i : Nat} {o : Oper} (pl : List (Nat × Nat)) (hpl : sel ol.toArray (nd (fun i => L.getD i 0) i) (List.range m) = pl)
    (h : ∀ f X, E w X → Way (∀ j, (L.getD i 0).testBit j = true → R j (mask (fun i => L.getD i 0) j f) X) → ∀ K : Act → World → Prop,
      Way (∀ a' v X', a' = (putL f pl a).put o.dst v → E X X' → (if AL.contains i = true then v = .pointer (some ⟨X.heap.size, 0, none⟩) ∧ X.heap.size < X'.heap.size else True) → (∀ Y, E X' Y → R i (mask (fun i => L.getD i 0) i (upd f i v)) Y) → K a' X') →
      Way (if Region.wanted o (yielded ol.toArray (putL f pl a).tmps) = true then Oper.wp P o (putL f pl a) X K Q else K ((putL f pl a).put o.dst undef) X)) :
    StepO P ol Q E m L AL R a w i o := ⟨fun ho => StepU.intro pl (by simpa using ho) hpl h⟩
/-- One operation after the other, and what is left to the end. -/
inductive AllOps (S : Nat → Oper → Prop) (F : List Oper → Prop) : Nat → Nat → List Oper → Prop
  | fin {k : Nat} {l : List Oper} (h : F l) : AllOps S F k 0 l
  | step {k n : Nat} {o : Oper} {l : List Oper} (h : S k o) (hs : AllOps S F (k + 1) n l) : AllOps S F k (n + 1) (o :: l)
theorem AllOps.cons {S : Nat → Oper → Prop} {F : List Oper → Prop} {k n : Nat} {o : Oper} {l : List Oper} (k' n' : Nat) (hk : k + 1 = k') (hn : n' + 1 = n) (h : S k o) (hs : AllOps S F k' n' l) : AllOps S F k n (o :: l) := by
  subst hk hn; exact .step h hs
theorem AllOps.out {S : Nat → Oper → Prop} {F : List Oper → Prop} {n k : Nat} {l : List Oper} (h : AllOps S F k n l) : ∀ i, i < n → ∃ o, l[i]? = some o ∧ S (k + i) o := by
  induction h with
  | fin _ => intro i hi; omega
  | step h hs ih =>
    rename_i k n o l
    intro i hi
    match i with
    | 0 => exact ⟨o, rfl, h⟩
    | i + 1 =>
      obtain ⟨o', h1, h2⟩ := ih i (by omega)
      exact ⟨o', by simpa using h1, by rw [show k + (i + 1) = k + 1 + i by omega]; exact h2⟩
theorem AllOps.end_ {S : Nat → Oper → Prop} {F : List Oper → Prop} {n k : Nat} {l : List Oper} (h : AllOps S F k n l) : F (l.drop n) := by
  induction h with
  | fin h => exact h
  | step _ _ ih => exact ih

theorem want {b : Bool} {p q : Prop} (h : b = true) (hp : p) : if b = true then p else q := by rw [if_pos h]; exact hp
theorem unwant {b : Bool} {p q : Prop} (h : b = false) (hq : q) : if b = true then p else q := by rw [if_neg (by rw [h]; decide)]; exact hq
theorem none_ {n j : Nat} : (Array.replicate n false).getD j false = false := by
  rw [Array.getD_eq_getD_getElem?, Array.getElem?_replicate]
  split <;> rfl
theorem any_of {E : World → World → Prop} (hE0 : ∀ w, E w w) (hE1 : ∀ a b c, E a b → E b c → E a c) (hE2 : ∀ a b, E a b → a.heap.size ≤ b.heap.size)
    {a : Act} {w X0 : World} (hX0 : E w X0) (m : Nat) (L AL : List Nat) (R : Nat → (Nat → Value) → World → Prop) (hok : ok ops (fun i => L.getD i 0) m = true)
    (hstep : AllFrom (StepU P ops Q E m L AL R a w) 0 m) (pl : List (Nat × Nat)) (hpl : sel ops (fun _ => true) (List.range m) = pl)
    (hfin : ∀ f X, E w X → (∀ j, j < m → R j (mask (fun i => L.getD i 0) j f) X) → (∀ j, j < m → AL.contains j = true → ∃ b, f j = .pointer (some ⟨b, 0, none⟩) ∧ b < X.heap.size) → (∀ j k, j < m → k < m → AL.contains j = true → AL.contains k = true → j ≠ k → f j ≠ f k) →
      wpAny P .any ops Q (ops.size - m) (((List.range ops.size).map fun j => decide (j < m)).toArray) (putL f pl a) X) : wpAny P .any ops Q ops.size (Array.replicate ops.size false) a X0 := by
  have hF := ok.form hok
  refine par hE0 hE1 hE2 (R := fun j f X => ∀ Y, E X Y → R j f Y) (M := fun i => L.getD i 0) (AL := fun i => AL.contains i) (m := m) (a := a) (w := w) hF (fun j _ f X h Y hY Z hZ => h Z (hE1 _ _ _ hY hZ))
    (fun i hi f X hX hR K hK => ?_) (fun f X hX hR h1 h2 => ?_) ops.size _ (fun _ => undef) a X0 (by simp) (fun j o _ h => (by rw [none_] at h; cases h)) (fun j h => (by rw [none_] at h; cases h)) ?_ ⟨?_, hX0, fun j _ h => (by rw [none_] at h; cases h), fun j _ h => (by rw [none_] at h; cases h), fun j k _ _ h => (by rw [none_] at h; cases h)⟩
  · refine hstep.out i (Nat.zero_le _) (by omega) f X hX (fun j hj => hR j hj X (hE0 _)) K (fun a' v X' ha hE hA hR' => hK a' v X' ha hE hA (fun Y hY Z hZ => hR' Z (hE1 _ _ _ hY hZ)))
  · have := hfin f X hX (fun j hj => hR j hj X (hE0 _)) h1 h2
    rw [← hpl, ← put_sel] at this
    exact this
  · have : ∀ n, cnt (fun j => (Array.replicate ops.size false).getD j false) n = 0 := fun n => by
      induction n with
      | zero => rfl
      | succ n ih => rw [cnt, ih, none_]; rfl
    rw [this]; rfl
  · have : ∀ (l : List Nat) (a : Act), put ops (fun j => (Array.replicate ops.size false).getD j false) (fun _ => undef) l a = a := fun l => by
      induction l with
      | nil => intro a; rfl
      | cons j l ih => intro a; rw [put, none_]; exact ih _
    exact (this _ _).symm
/-- What is behind the first m operations. -/
structure Fin (P : Program) (ol : List Oper) (Q : Exit → Act → World → Prop) (E : World → World → Prop) (m : Nat) (L AL : List Nat) (R : Nat → (Nat → Value) → World → Prop) (pl : List (Nat × Nat)) (a : Act) (w : World) (l : List Oper) : Prop where
  out : ∀ f X, E w X → (∀ j, j < m → R j (mask (fun i => L.getD i 0) j f) X) → (∀ j, j < m → AL.contains j = true → ∃ b, f j = .pointer (some ⟨b, 0, none⟩) ∧ b < X.heap.size) → (∀ j k, j < m → k < m → AL.contains j = true → AL.contains k = true → j ≠ k → f j ≠ f k) → Way (Chain P ol Q l (putL f pl a) X)
theorem any_all {E : World → World → Prop} (hE0 : ∀ w, E w w) (hE1 : ∀ a b c, E a b → E b c → E a c) (hE2 : ∀ a b, E a b → a.heap.size ≤ b.heap.size)
    {ol : List Oper} {a : Act} {w X0 : World} (hX0 : E w X0) (m : Nat) (L AL : List Nat) (R : Nat → (Nat → Value) → World → Prop) (hok : ok ol.toArray (fun i => L.getD i 0) m = true) (pl : List (Nat × Nat)) (hpl : sel ol.toArray (fun _ => true) (List.range m) = pl)
    (hstep : AllOps (StepO P ol Q E m L AL R a w) (Fin P ol Q E m L AL R pl a w) 0 m ol) : wpAny P .any ol.toArray Q ol.toArray.size (Array.replicate ol.toArray.size false) a X0 := by
  refine any_of hE0 hE1 hE2 hX0 m L AL R hok ?_ pl hpl (fun f X hX hR h1 h2 => ?_)
  · have key : ∀ i, i < m → StepU P ol.toArray Q E m L AL R a w i := fun i hi => by
      obtain ⟨o, h1, h2⟩ := hstep.out i hi
      rw [Nat.zero_add] at h2
      exact h2.out h1
    have : ∀ n k, k + n = m → AllFrom (StepU P ol.toArray Q E m L AL R a w) k n := fun n => by
      induction n with
      | zero => intro k _; trivial
      | succ n ih => intro k hk; exact ⟨key k (by omega), ih (k + 1) (by omega)⟩
    exact this m 0 (by omega)
  · have hF := ok.form hok
    have h3 := (hstep.end_.out f X hX hR h1 h2).out
    exact Chain.sound hF (ol.toArray.size - m) m _ X (Nat.le_refl _) (by have := hF.le; omega) h3
/-- The order of the text is one of them. -/
theorem any_text {ol : List Oper} {M : Nat → Nat} {m : Nat} (hF : Form ol.toArray M m) : ∀ (n m' : Nat) (a : Act) (X : World), m' + n = ol.toArray.size → wpAny P .any ol.toArray Q n (upto ol.toArray.size m') a X → wpOps P ol.toArray Q (List.range' m' n) a X := by
  intro n
  induction n with
  | zero => intro m' a X _ h; exact h.2
  | succ n ih =>
    intro m' a X hn h
    have hms' : m' < ol.toArray.size := by omega
    have hmem : m' ∈ Region.ready .any ol.toArray (upto ol.toArray.size m') := by
      rw [mem_ready]
      refine ⟨?_, _, Array.getElem?_eq_getElem hms', fun e he hb => ?_⟩
      · have : m' < ol.length := by simpa using hms'
        simp [upto, this]
      · have hlt := hF.up m' _ (Array.getElem?_eq_getElem hms') e he hb
        rw [upto_getD (by omega)]; simpa using hlt
    rw [List.range'_succ, wpOps_cons]
    refine wpOp_mono (fun a w hw => ?_) (h.2 m' hmem)
    rw [upto_set hms'] at hw
    exact ih (m' + 1) a w (by omega) hw
theorem upto_zero (n : Nat) : Array.replicate n false = upto n 0 := by
  apply Array.ext
  · simp [upto]
  · intro k h1 h2
    simp [upto]
/-- Where memory is made, and nothing else: a region that draws its order. -/
theorem region_ext {ol : List Oper} {id : Nat} {a : Act} {w : World} (hm : P.follows .mixedOrders = true) (m : Nat) (L AL : List Nat) (R : Nat → (Nat → Value) → World → Prop) (hok : ok ol.toArray (fun i => L.getD i 0) m = true) (pl : List (Nat × Nat)) (hpl : sel ol.toArray (fun _ => true) (List.range m) = pl)
    (hstep : AllOps (StepO P ol Q Ext m L AL R a w) (Fin P ol Q Ext m L AL R pl a w) 0 m ol) : (Code.region id ol.toArray true).wp P Q a w :=
  wp_region_any hm (any_all Ext.refl (fun _ _ _ => Ext.trans) (fun _ _ => Ext.bsize) (Ext.drew w) m L AL R hok pl hpl hstep)
/-- And one that does not. -/
theorem region_txt {ol : List Oper} {id : Nat} {a : Act} {w : World} (m : Nat) (L AL : List Nat) (R : Nat → (Nat → Value) → World → Prop) (hok : ok ol.toArray (fun i => L.getD i 0) m = true) (pl : List (Nat × Nat)) (hpl : sel ol.toArray (fun _ => true) (List.range m) = pl)
    (hstep : AllOps (StepO P ol Q Ext m L AL R a w) (Fin P ol Q Ext m L AL R pl a w) 0 m ol) : (Code.region id ol.toArray false).wp P Q a w := by
  refine wp_region ?_
  have h := any_all Ext.refl (fun _ _ _ => Ext.trans) (fun _ _ => Ext.bsize) (Ext.refl w) m L AL R hok pl hpl hstep
  rw [upto_zero] at h
  rw [List.range_eq_range']
  exact any_text (ok.form hok) _ 0 a w (by omega) h
end
/-- One operation of the walk. -/
theorem S {P : Program} {Q : Exit → Act → World → Prop} {ol : List Oper} {E : World → World → Prop} {m : Nat} {L AL : List Nat} {R : Nat → (Nat → Value) → World → Prop} {a : Act} {w : World} {F : List Oper → Prop} {k n : Nat} {o : Oper} {l : List Oper} (k' n' : Nat) (pl : List (Nat × Nat))
    (h : ∀ f X, E w X → Way (∀ j, (L.getD k 0).testBit j = true → R j (mask (fun i => L.getD i 0) j f) X) → ∀ K : Act → World → Prop,
      Way (∀ a' v X', a' = (putL f pl a).put o.dst v → E X X' → (if AL.contains k = true then v = .pointer (some ⟨X.heap.size, 0, none⟩) ∧ X.heap.size < X'.heap.size else True) → (∀ Y, E X' Y → R k (mask (fun i => L.getD i 0) k (upd f k v)) Y) → K a' X') →
      Way (if Region.wanted o (yielded ol.toArray (putL f pl a).tmps) = true then Oper.wp P o (putL f pl a) X K Q else K ((putL f pl a).put o.dst undef) X))
    (hs : AllOps (StepO P ol Q E m L AL R a w) F k' n' l) (hk : k + 1 = k' := by rfl) (hn : n' + 1 = n := by rfl) (hpl : sel ol.toArray (nd (fun i => L.getD i 0) k) (List.range m) = pl := by kernel_rfl) :
    AllOps (StepO P ol Q E m L AL R a w) F k n (o :: l) := AllOps.cons k' n' hk hn (StepO.intro pl hpl h) hs
/-- The operation yields a value, and leaves the world. -/
theorem k {A : Value → Act} {b : Act} {X : World} {H : Value → World → Prop} {G : Value → World → Prop} {K : Act → World → Prop} {v : Value}
    (hK : Way (∀ a' v X', a' = A v → Ext X X' → H v X' → (∀ Y, Ext X' Y → G v Y) → K a' X'))
    (hr : ∀ Y, Ext X Y → G v Y := by exact fun _ _ => rfl) (s : b = A v) (ha : H v X := by exact trivial) : K b X :=
  hK.out b v X s (Ext.refl X) ha hr
end Par
/- What lays the slots' values out. -/
theorem yA (f : Nat → Value) (i j : Nat) (l : List (Nat × Nat)) (L : List Value) (d : List Deferred) : Par.putL f ((i, j) :: l) ⟨L.toArray, d⟩ = Par.putL f l ⟨(L.set i (f j)).toArray, d⟩ := by
  simp only [Par.putL, Act.put, List.setIfInBounds_toArray]
theorem yB (f : Nat → Value) (a : Act) : Par.putL f [] a = a := rfl
theorem yC (L : List Value) (d : List Deferred) (i : Nat) (v : Value) : Act.put ⟨L.toArray, d⟩ (some i) v = ⟨(L.set i v).toArray, d⟩ := by
  simp only [Act.put, List.setIfInBounds_toArray]
theorem yD (x : Value) (l : List Value) (n : Nat) (v : Value) : (x :: l).set (n + 1) v = x :: l.set n v := rfl
theorem yE (x : Value) (l : List Value) (v : Value) : (x :: l).set 0 v = v :: l := rfl
end Go.Proofs.Ytldhmjfjbalakaa
