/- A rule for a region that draws its order: each of its first m operations is walked once, in whatever world that came of the first one by steps of a relation E (memory is made, and what stood stands), with what the operations before it gave; the order that is drawn makes no difference. Nothing here speaks of the program. Words for memory, used by all other texts of this seat: a slice that reads as a list; bytes; a list of attributes; append. Nothing here speaks of the program. Plain arithmetic of digits, the lowest first, to a base: nothing of the program. Plain arithmetic of the rounds of sums, differences and products: nothing of the program. The library contracts of math/bits at this program, as the shelf lays them. Words for memory that holds limbs: a slice that reads as limbs; a block that is known whole; a slice of one's own. -/
import Derived.RegionTactic
import Derived.WalkKit
import Derived.Below
import Derived.WalkSpells
import Derived.WalkLawsBesides
import Derived.Deep.Draws
import Derived.Deep.AppendLies
import Derived.Maps.AppendAt
import Derived.Lib.Hide
import Derived.Shelf.Small.Bits
import Derived.Shelf.Strconv.Itoa0
import Derived.Shelf.Bits.Mul64
import Derived.Test.YtaemogcomplhiaaGreatDoorProg
import Derived.Shelf.Spec.BitsCarry
import Derived.Test.YtaemogcomplhiaaGreatDoorRows
import Derived.Deep.OwnRows
import Derived.Deep.DeepCutAuto
namespace Go.Proofs.YtaemogcomplhiaaGreatDoor
open Go.RowKit

def Ext (w w' : World) : Prop := Below w.heap.size w w'
theorem Ext.refl (w : World) : Ext w w := Below.refl _ w
theorem Ext.trans {a b c : World} (h : Ext a b) (k : Ext b c) : Ext a c := Below.trans h (Below.mono k h.size)
theorem Ext.drew (w : World) : Ext w w.drew := (Below.refl _ w).drew
theorem Ext.alloc (w : World) (o : Obj) : Ext w (w.alloc o) := (Below.refl _ w).alloc (Nat.le_refl _) o
theorem Ext.bsize {w w' : World} (h : Ext w w') : w.heap.size ≤ w'.heap.size := Below.size h
theorem Ext.at_ {w w' : World} (h : Ext w w') {k : Nat} {o : Obj} (hk : w.heap[k]? = some o) : w'.heap[k]? = some o := by
 have hlt : k < w.heap.size := by
  rcases Nat.lt_or_ge k w.heap.size with h | h
  · exact h
  · rw [Array.getElem?_eq_none h] at hk; cases hk
 exact (Below.block h k hlt).trans hk
theorem Ext.cell {w w' : World} (h : Ext w w') {a : Addr} {v : Value} (hk : w.cell? a = some v) : w'.cell? a = some v :=
 (World.cell?_of_block (Below.block h _ (World.block_lt_of_cell? w a hk))).trans hk

namespace Par

def dst (ops : Array Oper) (j : Nat) : Option Nat := (ops[j]?).bind (·.dst)
def binds (e : Edge) : Bool := Region.binds .any e
def put (ops : Array Oper) (sel : Nat → Bool) (f : Nat → Value) : List Nat → Act → Act
 | [], a => a
 | j :: l, a => put ops sel f l (if sel j then a.put (dst ops j) (f j) else a)
def upd (f : Nat → Value) (i : Nat) (v : Value) : Nat → Value := fun j => if j = i then v else f j
def mask (M : Nat → Nat) (j : Nat) (f : Nat → Value) : Nat → Value := fun k => if (k == j || (M j).testBit k) = true then f k else undef
def nd (M : Nat → Nat) (i : Nat) : Nat → Bool := fun j => j != i && !(M j).testBit i

theorem put_congr {ops : Array Oper} {sel sel' : Nat → Bool} {f f' : Nat → Value} {l : List Nat} (h : ∀ j ∈ l, sel j = sel' j ∧ f j = f' j) (a : Act) : put ops sel f l a = put ops sel' f' l a := by
  induction l generalizing a with
  | nil => rfl
  | cons j l ih =>
    obtain ⟨h1, h2⟩ := h j (by simp)
    simp only [put, h1, h2]
    exact ih (fun k hk => h k (by simp [hk])) _
def clash (ops : Array Oper) (i j : Nat) : Prop := ∃ d, dst ops i = some d ∧ dst ops j = some d
theorem put_put {ops : Array Oper} {sel : Nat → Bool} {f : Nat → Value} {l : List Nat} {i : Nat} {v : Value} (h : ∀ j ∈ l, ¬ clash ops i j) (a : Act) : (put ops sel f l a).put (dst ops i) v = put ops sel f l (a.put (dst ops i) v) := by
  induction l generalizing a with
  | nil => rfl
  | cons j l ih =>
    simp only [put]
    rw [ih (fun k hk => h k (by simp [hk]))]
    cases sel j
    · rfl
    · simp only [if_true]
      rw [Act.put_comm a _ _ (fun d h1 h2 => h j (by simp) ⟨d, h2, h1⟩)]
theorem put_more {ops : Array Oper} {sel : Nat → Bool} {f : Nat → Value} {i : Nat} {v : Value} : ∀ {l : List Nat} (_ : i ∈ l) (_ : l.Nodup) (_ : ∀ j ∈ l, j ≠ i → ¬ clash ops i j) (_ : sel i = false) (a : Act), (put ops sel f l a).put (dst ops i) v = put ops (fun j => sel j || j == i) (upd f i v) l a
  | [], hi, _, _, _, _ => by cases hi
  | j :: l, hi, hn, hc, hs, a => by
    rw [List.nodup_cons] at hn
    by_cases hji : j = i
    · subst hji
      simp only [put, hs, Bool.false_eq_true, if_false, beq_self_eq_true, Bool.or_true, if_true, upd]
      rw [put_put (fun k hk => hc k (by simp [hk]) (fun e => hn.1 (e ▸ hk)))]
      refine put_congr (fun k hk => ?_) _
      have hne : k ≠ j := fun e => hn.1 (e ▸ hk)
      simp [hne, upd]
    · have hmem : i ∈ l := by
        rcases List.mem_cons.1 hi with h | h
        · exact absurd h.symm hji
        · exact h
      simp only [put]
      rw [put_more hmem hn.2 (fun k hk => hc k (by simp [hk])) hs]
      have e1 : (sel j || j == i) = sel j := by simp [hji]
      have e2 : upd f i v j = f j := by simp [upd, hji]
      simp only [e1, e2]
theorem put_own (a : Act) (d : Option Nat) (v : Value) (h : ∀ t, d = some t → v = a.tmps.getD t undef) : a.put d v = a := by
  cases d with
  | none => rfl
  | some t =>
    have hv := h t rfl
    subst hv
    show ({ a with tmps := a.tmps.setIfInBounds t (a.tmps.getD t undef) } : Act) = a
    congr 1
    apply Array.ext_getElem?
    intro k
    rw [Array.getElem?_setIfInBounds]
    split
    · rename_i htk
      subst htk
      split
      · rename_i hlt
        simp [hlt]
      · rename_i hlt
        simp [Array.getElem?_eq_none (Nat.le_of_not_lt hlt)]
    · rfl
theorem put_getD {a : Act} {d : Option Nat} {v : Value} {t : Nat} (h : d ≠ some t) : (a.put d v).tmps.getD t undef = a.tmps.getD t undef := by
  cases d with
  | none => rfl
  | some s =>
    have hne : s ≠ t := fun e => h (by rw [e])
    show (a.tmps.setIfInBounds s v).getD t undef = _
    simp [Array.getD_eq_getD_getElem?, Array.getElem?_setIfInBounds_ne hne]
theorem put_wide {ops : Array Oper} {D sel : Nat → Bool} {f g : Nat → Value} (b : Act) : ∀ {l : List Nat} (_ : l.Nodup) (_ : ∀ i ∈ l, ∀ j ∈ l, i ≠ j → ¬ clash ops i j) (_ : ∀ j ∈ l, D j = true → sel j = true ∧ g j = f j) (a : Act) (_ : ∀ j ∈ l, D j = false → ∀ t, dst ops j = some t → g j = a.tmps.getD t undef), put ops D f l a = put ops sel g l a
  | [], _, _, _, _, _ => rfl
  | j :: l, hn, hc, hD, a, hg => by
    rw [List.nodup_cons] at hn
    simp only [put]
    have key : ∀ a' : Act, (∀ k ∈ l, ∀ t, dst ops k = some t → a'.tmps.getD t undef = a.tmps.getD t undef) → put ops D f l a' = put ops sel g l a' := fun a' h' =>
      put_wide b hn.2 (fun i hi k hk => hc i (by simp [hi]) k (by simp [hk])) (fun k hk => hD k (by simp [hk])) a' (fun k hk h1 t ht => by rw [h' k hk t ht]; exact hg k (by simp [hk]) h1 t ht)
    have far : ∀ v, ∀ k ∈ l, ∀ t, dst ops k = some t → (a.put (dst ops j) v).tmps.getD t undef = a.tmps.getD t undef := fun v k hk t ht => put_getD (fun e => hc j (by simp) k (by simp [hk]) (fun e => hn.1 (e ▸ hk)) ⟨t, e, ht⟩)
    cases hj : D j
    · have e : (if sel j = true then a.put (dst ops j) (g j) else a) = a := by
        split
        · exact put_own _ _ _ (fun t ht => hg j (by simp) hj t ht)
        · rfl
      rw [e]
      exact key a (fun _ _ _ _ => rfl)
    · obtain ⟨h1, h2⟩ := hD j (by simp) hj
      rw [h1, h2]
      exact key _ (far _)

def cnt (D : Nat → Bool) : Nat → Nat
 | 0 => 0
 | k + 1 => cnt D k + (if D k then 1 else 0)
theorem cnt_le (D : Nat → Bool) : ∀ m, cnt D m ≤ m
 | 0 => Nat.le_refl _
 | k + 1 => by have := cnt_le D k; simp only [cnt]; split <;> omega
theorem cnt_congr {D D' : Nat → Bool} : ∀ {m : Nat}, (∀ j, j < m → D j = D' j) → cnt D m = cnt D' m
 | 0, _ => rfl
 | k + 1, h => by simp only [cnt]; rw [cnt_congr (fun j hj => h j (by omega)), h k (by omega)]
theorem cnt_more {D D' : Nat → Bool} {i : Nat} (hD : D i = false) (hD' : D' i = true) (h : ∀ j, j ≠ i → D' j = D j) : ∀ {m : Nat}, i < m → cnt D' m = cnt D m + 1
  | 0, hi => by omega
  | k + 1, hi => by
    simp only [cnt]
    by_cases hk : k = i
    · subst hk
      rw [hD, hD', cnt_congr (fun j hj => h j (by omega))]
      simp
    · rw [cnt_more hD hD' h (m := k) (by omega), h k hk]
      omega
theorem cnt_full {D : Nat → Bool} : ∀ {m : Nat}, (∀ j, j < m → D j = true) → cnt D m = m
 | 0, _ => rfl
 | k + 1, h => by simp only [cnt]; rw [cnt_full (fun j hj => h j (by omega)), h k (by omega)]; simp
theorem cnt_lt {D : Nat → Bool} {i : Nat} (hD : D i = false) : ∀ {m : Nat}, i < m → cnt D m < m
  | 0, hi => by omega
  | k + 1, hi => by
    simp only [cnt]
    by_cases hk : k = i
    · subst hk; have := cnt_le D k; rw [hD]; simp; omega
    · have := cnt_lt hD (m := k) (by omega); split <;> omega

def ok (ops : Array Oper) (M : Nat → Nat) (m : Nat) : Bool :=
  decide (m ≤ ops.size) &&
  ((List.range ops.size).all fun i => match ops[i]? with
    | none => false
    | some o => (o.after.all fun e => !binds e || decide (e.on < i)) &&
      ((List.range ops.size).all fun k => !(M i).testBit k || o.after.any fun e => binds e && (e.on == k || (M e.on).testBit k)) &&
      (decide (i < m) || (List.range i).all fun k => (M i).testBit k) && decide (M i < 2 ^ i)) &&
  ((List.range m).all fun i => (List.range m).all fun j => i == j || (match dst ops i, dst ops j with | some d, some e => d != e | _, _ => true))

structure Form (ops : Array Oper) (M : Nat → Nat) (m : Nat) : Prop where
 le : m ≤ ops.size
 up : ∀ i o, ops[i]? = some o → ∀ e ∈ o.after, binds e = true → e.on < i
 by_ : ∀ i o k, ops[i]? = some o → k < ops.size → (M i).testBit k = true → ∃ e ∈ o.after, binds e = true ∧ (e.on = k ∨ (M e.on).testBit k = true)
 low : ∀ i, i < ops.size → M i < 2 ^ i
 late : ∀ i, m ≤ i → i < ops.size → ∀ k, k < i → (M i).testBit k = true
 own : ∀ i j, i < m → j < m → i ≠ j → ¬ clash ops i j
theorem ok.form {ops : Array Oper} {M : Nat → Nat} {m : Nat} (h : ok ops M m = true) : Form ops M m := by
 unfold ok at h
 rw [Bool.and_eq_true, Bool.and_eq_true, decide_eq_true_eq, List.all_eq_true, List.all_eq_true] at h
 obtain ⟨⟨hle, h1⟩, h2⟩ := h
 have key : ∀ i o, ops[i]? = some o → (∀ e ∈ o.after, binds e = true → e.on < i) ∧ (∀ k, k < ops.size → (M i).testBit k = true → ∃ e ∈ o.after, binds e = true ∧ (e.on = k ∨ (M e.on).testBit k = true)) ∧ (m ≤ i → ∀ k, k < i → (M i).testBit k = true) ∧ M i < 2 ^ i := by
  intro i o ho
  have hi : i < ops.size := (Array.getElem?_eq_some_iff.1 ho).1
  have := h1 i (List.mem_range.2 hi)
  rw [ho] at this
  simp only [Bool.and_eq_true, Array.all_eq_true_iff_forall_mem, Bool.or_eq_true, Bool.not_eq_true', decide_eq_true_eq, List.all_eq_true, List.mem_range, Array.any_eq_true', beq_iff_eq] at this
  obtain ⟨⟨⟨a1, a2⟩, a3⟩, a4⟩ := this
  refine ⟨fun e he hb => (a1 e he).resolve_left (by simp [hb]), fun k hk hb => ?_, fun hm k hk => (a3.resolve_left (by omega)) k hk, a4⟩
  obtain ⟨e, he, h3, h4⟩ := (a2 k hk).resolve_left (by simp [hb])
  exact ⟨e, he, h3, h4⟩
 refine ⟨hle, fun i o ho => (key i o ho).1, fun i o k ho => (key i o ho).2.1 k, fun i hi => (key i _ (Array.getElem?_eq_getElem hi)).2.2.2, fun i hm hi k hk => ?_, fun i j hi hj hne => ?_⟩
 · exact (key i _ (Array.getElem?_eq_getElem hi)).2.2.1 hm k hk
 · have h3 := h2 i (List.mem_range.2 hi)
   rw [List.all_eq_true] at h3
   have h4 := h3 j (List.mem_range.2 hj)
   rintro ⟨d, e1, e2⟩
   rw [e1, e2] at h4
   simp [hne] at h4

theorem Form.bit {ops : Array Oper} {M : Nat → Nat} {m : Nat} (h : Form ops M m) (i : Nat) (hi : i < ops.size) (k : Nat) (hk : (M i).testBit k = true) : k < i := by
 rcases Nat.lt_or_ge k i with hlt | hge
 · exact hlt
 · have h1 := h.low i hi
   rw [Nat.testBit_lt_two_pow (Nat.lt_of_lt_of_le h1 (Nat.pow_le_pow_right (by omega) hge))] at hk
   cases hk

theorem anc {ops : Array Oper} {M : Nat → Nat} {m : Nat} (hF : Form ops M m) {listed : Array Bool} (hcl : ∀ j o, ops[j]? = some o → listed.getD j false = true → ∀ e ∈ o.after, binds e = true → listed.getD e.on false = true) :
    ∀ n i o, i ≤ n → ops[i]? = some o → (∀ e ∈ o.after, binds e = true → listed.getD e.on false = true) → ∀ k, k < ops.size → (M i).testBit k = true → listed.getD k false = true := by
  intro n
  induction n with
  | zero =>
    intro i o hin ho hd k hk hb
    obtain ⟨e, he, hb', _⟩ := hF.by_ i o k ho hk hb
    have := hF.up i o ho e he hb'
    omega
  | succ n ihn =>
    intro i o hin ho hd k hk hb
    obtain ⟨e, he, hb', h1⟩ := hF.by_ i o k ho hk hb
    rcases h1 with rfl | h1
    · exact hd e he hb'
    · have hlt' := hF.up i o ho e he hb'
      have hes : e.on < ops.size := by have := (Array.getElem?_eq_some_iff.1 ho).1; omega
      exact ihn e.on _ (by omega) (Array.getElem?_eq_getElem hes) (hcl e.on _ (Array.getElem?_eq_getElem hes) (hd e he hb')) k hk h1

section
variable {P : Program} {ops : Array Oper} {Q : Exit → Act → World → Prop}

def Step (P : Program) (ops : Array Oper) (Q : Exit → Act → World → Prop) (E : World → World → Prop) (m : Nat) (M : Nat → Nat) (AL : Nat → Bool) (R : Nat → (Nat → Value) → World → Prop) (a : Act) (w : World) (i : Nat) : Prop :=
  ∀ f X, E w X → (∀ j, (M i).testBit j = true → R j f X) → ∀ K : Act → World → Prop,
    (∀ a' v X', a' = (put ops (nd M i) f (List.range m) a).put (dst ops i) v → E X X' → (if AL i = true then v = .pointer (some ⟨X.heap.size, 0, none⟩) ∧ X.heap.size < X'.heap.size else True) → (∀ Y, E X' Y → R i (upd f i v) Y) → K a' X') →
    wpOp P ops Q i K (put ops (nd M i) f (List.range m) a) X

theorem Step.intro {E : World → World → Prop} {m : Nat} {M : Nat → Nat} {AL : Nat → Bool} {R : Nat → (Nat → Value) → World → Prop} {a : Act} {w : World} {i : Nat} {o : Oper} (ho : ops[i]? = some o)
 (h : ∀ f X, E w X → (∀ j, (M i).testBit j = true → R j f X) → ∀ K : Act → World → Prop,
  (∀ a' v X', a' = (put ops (nd M i) f (List.range m) a).put o.dst v → E X X' → (if AL i = true then v = .pointer (some ⟨X.heap.size, 0, none⟩) ∧ X.heap.size < X'.heap.size else True) → (∀ Y, E X' Y → R i (upd f i v) Y) → K a' X') →
  if Region.wanted o (yielded ops (put ops (nd M i) f (List.range m) a).tmps) = true then Oper.wp P o (put ops (nd M i) f (List.range m) a) X K Q else K ((put ops (nd M i) f (List.range m) a).put o.dst undef) X) :
 Step P ops Q E m M AL R a w i := fun f X hX hR K hK => wpOp_step ho fun K' hK' => h f X hX hR K' fun a' v X' ha hE hA hR' => hK' _ _ (hK a' v X' (by rw [ha, dst, ho]; rfl) hE hA hR')

structure Inv (ops : Array Oper) (E : World → World → Prop) (m : Nat) (M : Nat → Nat) (AL : Nat → Bool) (R : Nat → (Nat → Value) → World → Prop) (a : Act) (w : World) (D : Nat → Bool) (f : Nat → Value) (a' : Act) (X : World) : Prop where
 act : a' = put ops D f (List.range m) a
 ext : E w X
 said : ∀ j, j < m → D j = true → R j (mask M j f) X
 at_ : ∀ j, j < m → D j = true → AL j = true → ∃ b, f j = .pointer (some ⟨b, 0, none⟩) ∧ b < X.heap.size
 apart : ∀ j k, j < m → k < m → D j = true → D k = true → AL j = true → AL k = true → j ≠ k → f j ≠ f k

theorem fin {E : World → World → Prop} {m : Nat} {M : Nat → Nat} {AL : Nat → Bool} {R : Nat → (Nat → Value) → World → Prop} {a : Act} {w : World} (_hF : Form ops M m)
 (hfin : ∀ f X, E w X → (∀ j, j < m → R j (mask M j f) X) → (∀ j, j < m → AL j = true → ∃ b, f j = .pointer (some ⟨b, 0, none⟩) ∧ b < X.heap.size) → (∀ j k, j < m → k < m → AL j = true → AL k = true → j ≠ k → f j ≠ f k) →
  wpAny P .any ops Q (ops.size - m) (((List.range ops.size).map fun j => decide (j < m)).toArray) (put ops (fun _ => true) f (List.range m) a) X)
 {fuel : Nat} {listed : Array Bool} {f : Nat → Value} {a' : Act} {X : World} (hsz : listed.size = ops.size) (hall : ∀ j, j < m → listed.getD j false = true) (hlt : ∀ j, listed.getD j false = true → j < m)
 (hI : Inv ops E m M AL R a w (fun j => listed.getD j false) f a' X) (hfuel : fuel + m = ops.size) : wpAny P .any ops Q fuel listed a' X := by
 have e1 : listed = ((List.range ops.size).map fun j => decide (j < m)).toArray := by
  apply Array.ext
  · simp [hsz]
  · intro k h1 h2
    simp only [List.getElem_toArray, List.getElem_map, List.getElem_range]
    by_cases hk : k < m
    · have := hall k hk
      simpa [h1, hk] using this
    · cases hd : listed[k]
      · simp [hk]
      · exact absurd (hlt k (by simp [h1, hd])) hk
 have e2 : a' = put ops (fun _ => true) f (List.range m) a := by
  rw [hI.act]
  exact put_congr (fun j hj => ⟨hall j (List.mem_range.1 hj), rfl⟩) _
 have e3 : fuel = ops.size - m := by omega
 rw [e1, e2, e3]
 exact hfin f X hI.ext (fun j hj => hI.said j hj (hall j hj)) (fun j hj h => hI.at_ j hj (hall j hj) h) (fun j k hj hk h1 h2 => hI.apart j k hj hk (hall j hj) (hall k hk) h1 h2)

theorem par {E : World → World → Prop} (hE0 : ∀ w, E w w) (hE1 : ∀ a b c, E a b → E b c → E a c) (hE2 : ∀ a b, E a b → a.heap.size ≤ b.heap.size)
    {m : Nat} {M : Nat → Nat} {AL : Nat → Bool} {R : Nat → (Nat → Value) → World → Prop} {a : Act} {w : World} (hF : Form ops M m)
    (hR : ∀ j, j < m → ∀ f X, R j (mask M j f) X → ∀ Y, E X Y → R j (mask M j f) Y)
    (hstep : ∀ i, i < m → Step P ops Q E m M AL (fun j f X => R j (mask M j f) X) a w i)
    (hfin : ∀ f X, E w X → (∀ j, j < m → R j (mask M j f) X) → (∀ j, j < m → AL j = true → ∃ b, f j = .pointer (some ⟨b, 0, none⟩) ∧ b < X.heap.size) → (∀ j k, j < m → k < m → AL j = true → AL k = true → j ≠ k → f j ≠ f k) →
      wpAny P .any ops Q (ops.size - m) (((List.range ops.size).map fun j => decide (j < m)).toArray) (put ops (fun _ => true) f (List.range m) a) X) :
    ∀ (fuel : Nat) (listed : Array Bool) (f : Nat → Value) (a' : Act) (X : World), listed.size = ops.size →
      (∀ j o, ops[j]? = some o → listed.getD j false = true → ∀ e ∈ o.after, binds e = true → listed.getD e.on false = true) →
      (∀ j, listed.getD j false = true → j < m) → fuel + cnt (fun j => listed.getD j false) m = ops.size →
      Inv ops E m M AL R a w (fun j => listed.getD j false) f a' X → wpAny P .any ops Q fuel listed a' X := by
  intro fuel
  induction fuel with
  | zero =>
    intro listed f a' X hsz hcl hlt hc hI
    have hcm : cnt (fun j => listed.getD j false) m ≤ m := cnt_le _ _
    have hmm : m = ops.size := by have := hF.le; omega
    have hall : ∀ j, j < m → listed.getD j false = true := fun j hj => by
      cases h : listed.getD j false
      · have := cnt_lt (D := fun j => listed.getD j false) (i := j) h hj; omega
      · rfl
    exact fin hF hfin hsz hall hlt hI (by omega)
  | succ fuel ih =>
    intro listed f a' X hsz hcl hlt hc hI
    by_cases hall : ∀ j, j < m → listed.getD j false = true
    · have hcm := cnt_full (D := fun j => listed.getD j false) hall
      exact fin hF hfin hsz hall hlt hI (by omega)
    · refine ⟨fun h => ?_, fun i hi => ?_⟩
      · exfalso
        -- the first that is not done may come up
        have : ∀ n, n ≤ m → (∀ j, j < n → listed.getD j false = true) := by
          intro n
          induction n with
          | zero => intro _ j hj; omega
          | succ n ihn =>
            intro hn j hj
            by_cases hjn : j < n
            · exact ihn (by omega) j hjn
            · obtain rfl : j = n := by omega
              cases hd : listed.getD j false
              · exfalso
                have hjs : j < ops.size := by have := hF.le; omega
                have hmem : j ∈ Region.ready .any ops listed := by
                  rw [mem_ready]
                  have hjl : j < listed.size := by omega
                  refine ⟨by simpa [hjl] using hd, _, Array.getElem?_eq_getElem hjs, fun e he hb => ihn (by omega) _ (hF.up j _ (Array.getElem?_eq_getElem hjs) e he hb)⟩
                rw [h] at hmem
                cases hmem
              · rfl
        exact hall (this m (Nat.le_refl _))
      · obtain ⟨hi0, o, ho, hdep⟩ := mem_ready.1 hi
        have his : i < ops.size := (Array.getElem?_eq_some_iff.1 ho).1
        have hil : i < listed.size := by omega
        have hid : listed.getD i false = false := by simpa [hil] using hi0
        have anc := fun i o hio hd k hk hb => anc hF hcl i i o (Nat.le_refl _) hio hd k (Nat.lt_of_lt_of_le hk hF.le) hb
        have him : i < m := by
          rcases Nat.lt_or_ge i m with h | h
          · exact h
          · exact absurd (fun k hk => anc i o ho hdep k hk (hF.late i h his k (by omega))) hall
        -- what waits for it is not
        have hnd : ∀ j, j < m → listed.getD j false = true → nd M i j = true := fun j hj hd => by
          have h1 : j ≠ i := fun e => by rw [e, hid] at hd; cases hd
          have hjs : j < ops.size := by have := hF.le; omega
          have h2 : (M j).testBit i = false := by
            cases hb : (M j).testBit i
            · rfl
            · have := anc j _ (Array.getElem?_eq_getElem hjs) (hcl j _ (Array.getElem?_eq_getElem hjs) hd) i him hb
              rw [hid] at this; cases this
          simp [nd, h1, h2]
        -- the slots as the step sees them
        obtain ⟨g, hg⟩ : ∃ g : Nat → Value, g = fun j => if listed.getD j false = true then f j else ((dst ops j).map fun t => a.tmps.getD t undef).getD undef := ⟨_, rfl⟩
        have hgf : ∀ j, listed.getD j false = true → g j = f j := fun j hj => by rw [hg]; simp only [hj, if_true]
        have hact : a' = put ops (nd M i) g (List.range m) a := by
          rw [hI.act]
          refine put_wide a List.nodup_range (fun p hp q hq => hF.own p q (List.mem_range.1 hp) (List.mem_range.1 hq)) (fun j hj hd => ⟨hnd j (List.mem_range.1 hj) hd, hgf j hd⟩) a (fun j _ hd t ht => ?_)
          rw [hg]
          simp only [hd, Bool.false_eq_true, if_false, ht, Option.map_some, Option.getD_some]
        have hmask : ∀ j, j < m → listed.getD j false = true → mask M j g = mask M j f := fun j hj hd => by
          funext k
          unfold mask
          split
          · rename_i hk
            rw [Bool.or_eq_true, beq_iff_eq] at hk
            rcases hk with rfl | hk
            · exact hgf _ hd
            · have hjs : j < ops.size := by have := hF.le; omega
              have hkj := hF.bit j hjs k hk
              exact hgf k (anc j _ (Array.getElem?_eq_getElem hjs) (hcl j _ (Array.getElem?_eq_getElem hjs) hd) k (by omega) hk)
          · rfl
        rw [hact]
        refine hstep i him g X hI.ext (fun j hb => ?_) _ (fun a'' v X' ha hE hA hR' => ?_)
        · have hj : j < m := by have := hF.bit i his j hb; omega
          have hd := anc i o ho hdep j hj hb
          show R j (mask M j g) X
          rw [hmask j hj hd]
          exact hI.said j hj hd
        · have hnew : ∀ j, (listed.setIfInBounds i true).getD j false = (listed.getD j false || j == i) := fun j => by
            by_cases hji : j = i
            · subst hji; simp [hil]
            · rw [Go.getD_set_ne false (fun e => hji e.symm)]; simp [hji]
          have hnin : ∀ j, j < m → listed.getD j false = true → j ≠ i := fun j _ hd e => by rw [e, hid] at hd; cases hd
          have hupd : ∀ j, listed.getD j false = true → upd g i v j = f j := fun j hd => by
            have hne : j ≠ i := fun e => by rw [e, hid] at hd; cases hd
            simp only [upd, hne, if_false]; exact hgf j hd
          have hupi : upd g i v i = v := by simp [upd]
          have hmk : ∀ j, j < m → listed.getD j false = true → mask M j (upd g i v) = mask M j f := fun j hj hd => by
            rw [← hmask j hj hd]
            funext k
            unfold mask
            split
            · rename_i hk
              rw [Bool.or_eq_true, beq_iff_eq] at hk
              have hne : k ≠ i := by
                rintro rfl
                rcases hk with rfl | hk
                · exact hnin _ hj hd rfl
                · have := hnd j hj hd
                  simp [nd, hk] at this
              simp [upd, hne]
            · rfl
          refine ih _ (upd g i v) a'' X' (by simpa using hsz) (fun j oj hoj hd e he hb => ?_) (fun j hd => ?_) ?_ ⟨?_, hE1 _ _ _ hI.ext hE, fun j hj hd => ?_, fun j hj hd hal => ?_, fun j k hj hk hd hd' hal hal' hne => ?_⟩
          · rw [hnew] at hd ⊢
            rw [Bool.or_eq_true, beq_iff_eq] at hd ⊢
            rcases hd with hd | rfl
            · exact .inl (hcl j oj hoj hd e he hb)
            · rw [ho] at hoj; cases hoj; exact .inl (hdep e he hb)
          · rw [hnew, Bool.or_eq_true, beq_iff_eq] at hd
            rcases hd with hd | rfl
            · exact hlt j hd
            · exact him
          · rw [cnt_more (D := fun j => listed.getD j false) (D' := fun j => (listed.setIfInBounds i true).getD j false) hid (by rw [hnew]; simp) (fun j hj => by show (listed.setIfInBounds i true).getD j false = listed.getD j false; rw [hnew]; simp [hj]) him]
            omega
          · rw [ha, put_more (List.mem_range.2 him) List.nodup_range (fun j hj hne => hF.own i j him (List.mem_range.1 hj) (Ne.symm hne)) (by simp [nd])]
            refine (put_wide a List.nodup_range (fun p hp q hq => hF.own p q (List.mem_range.1 hp) (List.mem_range.1 hq)) (fun j hj hd => ⟨?_, rfl⟩) a (fun j hj hd t ht => ?_)).symm
            · rw [hnew, Bool.or_eq_true, beq_iff_eq] at hd
              rw [Bool.or_eq_true, beq_iff_eq]
              exact hd.imp (hnd j (List.mem_range.1 hj)) id
            · rw [hnew, Bool.or_eq_false_iff] at hd
              have hne : j ≠ i := by simpa using hd.2
              simp only [upd, hne, if_false]
              rw [hg]
              simp only [hd.1, Bool.false_eq_true, if_false, ht, Option.map_some, Option.getD_some]
          · rw [hnew, Bool.or_eq_true, beq_iff_eq] at hd
            by_cases hold : listed.getD j false = true
            · rw [hmk j hj hold]
              have := hI.said j hj hold
              exact hR j hj f X this X' hE
            · obtain rfl : j = i := hd.resolve_left hold
              exact hR' X' (hE0 _)
          · rw [hnew, Bool.or_eq_true, beq_iff_eq] at hd
            by_cases hold : listed.getD j false = true
            · obtain ⟨b, h1, h2⟩ := hI.at_ j hj hold hal
              exact ⟨b, (hupd j hold).trans h1, Nat.lt_of_lt_of_le h2 (hE2 _ _ hE)⟩
            · obtain rfl : j = i := hd.resolve_left hold
              rw [if_pos hal] at hA
              exact ⟨X.heap.size, hupi.trans hA.1, hA.2⟩
          · rw [hnew, Bool.or_eq_true, beq_iff_eq] at hd hd'
            have key : ∀ j k, j < m → listed.getD j false = true → AL j = true → AL k = true → k = i → upd g i v j ≠ upd g i v k := fun j k hj hold hal hal' hki heq => by
              subst hki
              rw [if_pos hal'] at hA
              obtain ⟨b, h1, h2⟩ := hI.at_ j hj hold hal
              rw [hupd j hold, hupi, h1, hA.1] at heq
              injection heq with heq
              injection heq with heq
              injection heq with heq
              omega
            by_cases hold : listed.getD j false = true
            · by_cases hold' : listed.getD k false = true
              · rw [hupd j hold, hupd k hold']
                exact hI.apart j k hj hk hold hold' hal hal' hne
              · exact key j k hj hold hal hal' (hd'.resolve_left hold')
            · have hji := hd.resolve_left hold
              by_cases hold' : listed.getD k false = true
              · exact fun e => key k j hk hold' hal' hal hji e.symm
              · exact absurd (hji.trans (hd'.resolve_left hold').symm) hne
structure Way (p : Prop) : Prop where
 out : p

def Chain (P : Program) (ol : List Oper) (Q : Exit → Act → World → Prop) : List Oper → Act → World → Prop
 | [], a, w => Q .normal a w
 | o :: l, a, w => ∀ K : Act → World → Prop, (∀ a w, Chain P ol Q l a w → K a w) → if Region.wanted o (yielded ol.toArray a.tmps) = true then Oper.wp P o a w K Q else K (a.put o.dst undef) w
def upto (n m : Nat) : Array Bool := ((List.range n).map fun j => decide (j < m)).toArray
theorem upto_getD {n m j : Nat} (h : j < n) : (upto n m).getD j false = decide (j < m) := by
 simp [upto, h]
theorem upto_set {n m : Nat} (h : m < n) : (upto n m).setIfInBounds m true = upto n (m + 1) := by
 apply Array.ext
 · simp [upto]
 · intro k h1 h2
   have hk : k < n := by simpa [upto] using h2
   by_cases hkm : k = m
   · subst hkm; simp [upto]
   · rw [Array.getElem_setIfInBounds_ne (by simpa [upto] using hk) (fun e => hkm e.symm)]
     simp only [upto, List.getElem_toArray, List.getElem_map, List.getElem_range, decide_eq_decide]
     omega
theorem Chain.sound {ol : List Oper} {M : Nat → Nat} {m : Nat} (hF : Form ol.toArray M m) : ∀ (n m' : Nat) (a : Act) (X : World), m ≤ m' → m' + n = ol.toArray.size → Chain P ol Q (ol.drop m') a X → wpAny P .any ol.toArray Q n (upto ol.toArray.size m') a X := by
  intro n
  induction n with
  | zero =>
    intro m' a X hm hn h
    have hnil : ol.drop m' = [] := List.drop_eq_nil_of_le (by simp at hn; omega)
    rw [hnil] at h
    refine ⟨?_, h⟩
    cases hr : Region.ready .any ol.toArray (upto ol.toArray.size m') with
    | nil => rfl
    | cons i l =>
      have hi : i ∈ Region.ready .any ol.toArray (upto ol.toArray.size m') := by rw [hr]; simp
      obtain ⟨h0, o, ho, _⟩ := mem_ready.1 hi
      have his := (Array.getElem?_eq_some_iff.1 ho).1
      have h1 : (upto ol.toArray.size m').getD i true = decide (i < m') := by
        have : i < ol.length := by simpa using his
        simp [upto, this]
      rw [h1, decide_eq_false_iff_not] at h0
      omega
  | succ n ih =>
    intro m' a X hm hn h
    have hms : m' < ol.length := by simp at hn; omega
    have hms' : m' < ol.toArray.size := by simpa using hms
    have hcl : ∀ j o, ol.toArray[j]? = some o → (upto ol.toArray.size m').getD j false = true → ∀ e ∈ o.after, binds e = true → (upto ol.toArray.size m').getD e.on false = true := fun j o ho hj e he hb => by
      have hjs := (Array.getElem?_eq_some_iff.1 ho).1
      have hlt := hF.up j o ho e he hb
      rw [upto_getD hjs] at hj
      rw [upto_getD (by omega)]
      simp at hj ⊢; omega
    have hmem : m' ∈ Region.ready .any ol.toArray (upto ol.toArray.size m') := by
      rw [mem_ready]
      refine ⟨?_, _, Array.getElem?_eq_getElem hms', fun e he hb => ?_⟩
      · simp [upto, hms]
      · have hlt := hF.up m' _ (Array.getElem?_eq_getElem hms') e he hb
        rw [upto_getD (by omega)]; simpa using hlt
    refine ⟨fun h0 => (by rw [h0] at hmem; cases hmem), fun i hi => ?_⟩
    obtain ⟨h0, o, ho, hdep⟩ := mem_ready.1 hi
    have his := (Array.getElem?_eq_some_iff.1 ho).1
    have him : i = m' := by
      have h1 : (upto ol.toArray.size m').getD i true = decide (i < m') := by
        have : i < ol.length := by simpa using his
        simp [upto, this]
      rw [h1, decide_eq_false_iff_not] at h0
      rcases Nat.lt_or_ge m' i with hlt | hge
      · have := anc hF hcl i i o (Nat.le_refl _) ho hdep m' hms' (hF.late i (by omega) his m' hlt)
        rw [upto_getD hms'] at this
        simp at this
      · omega
    subst him
    rw [List.drop_eq_getElem_cons hms] at h
    have hoe : o = ol[i] := by
      have : ol[i]? = some o := by simpa using ho
      rw [List.getElem?_eq_getElem hms] at this
      injection this with this
      exact this.symm
    rw [upto_set hms']
    refine wpOp_step ho fun K' hK' => ?_
    rw [hoe]
    exact h K' fun a w hc => hK' a w (ih (i + 1) a w (by omega) (by omega) hc)
theorem Chain.next {ol : List Oper} {o : Oper} {l : List Oper} {a : Act} {w : World} (h : ∀ K : Act → World → Prop, Way (∀ a w, Way (Chain P ol Q l a w) → K a w) → Way (if Region.wanted o (yielded ol.toArray a.tmps) = true then Oper.wp P o a w K Q else K (a.put o.dst undef) w)) : Way (Chain P ol Q (o :: l) a w) :=
 ⟨fun K hK => (h K ⟨fun a w hc => hK a w hc.out⟩).out⟩
theorem Chain.done {ol : List Oper} {a : Act} {w : World} (h : Q .normal a w) : Way (Chain P ol Q [] a w) := ⟨h⟩

def sel (ops : Array Oper) (s : Nat → Bool) (l : List Nat) : List (Nat × Nat) := l.filterMap fun j => if s j then (dst ops j).map fun d => (d, j) else none
def putL (f : Nat → Value) : List (Nat × Nat) → Act → Act
 | [], a => a
 | p :: l, a => putL f l (a.put (some p.1) (f p.2))
theorem put_sel (s : Nat → Bool) (f : Nat → Value) (l : List Nat) (a : Act) : put ops s f l a = putL f (sel ops s l) a := by
  induction l generalizing a with
  | nil => rfl
  | cons j l ih =>
    simp only [put, sel, List.filterMap_cons]
    rw [ih]
    cases s j
    · rfl
    · simp only [if_true]
      cases h : dst ops j with
      | none => rfl
      | some d => rfl

def AllFrom (S : Nat → Prop) : Nat → Nat → Prop
 | _, 0 => True
 | k, n + 1 => S k ∧ AllFrom S (k + 1) n
theorem AllFrom.nil {S : Nat → Prop} {k : Nat} : AllFrom S k 0 := trivial
theorem AllFrom.cons {S : Nat → Prop} {k n : Nat} (k' n' : Nat) (hk : k + 1 = k') (hn : n' + 1 = n) (h : S k) (hs : AllFrom S k' n') : AllFrom S k n := by
 subst hk hn; exact ⟨h, hs⟩
theorem AllFrom.out {S : Nat → Prop} : ∀ {n k : Nat}, AllFrom S k n → ∀ i, k ≤ i → i < k + n → S i
  | 0, k, _, i, h1, h2 => by omega
  | n + 1, k, h, i, h1, h2 => by
    by_cases hi : i = k
    · subst hi; exact h.1
    · exact h.2.out i (by omega) (by omega)

def StepU (P : Program) (ops : Array Oper) (Q : Exit → Act → World → Prop) (E : World → World → Prop) (m : Nat) (L : List Nat) (AL : List Nat) (R : Nat → (Nat → Value) → World → Prop) (a : Act) (w : World) (i : Nat) : Prop :=
 Step P ops Q E m (fun i => L.getD i 0) (fun i => AL.contains i) (fun j f X => R j (mask (fun i => L.getD i 0) j f) X) a w i
theorem StepU.intro {E : World → World → Prop} {m : Nat} {L AL : List Nat} {R : Nat → (Nat → Value) → World → Prop} {a : Act} {w : World} {i : Nat} {o : Oper} (pl : List (Nat × Nat)) (ho : ops[i]? = some o) (hpl : sel ops (nd (fun i => L.getD i 0) i) (List.range m) = pl)
 (h : ∀ f X, E w X → Way (∀ j, (L.getD i 0).testBit j = true → R j (mask (fun i => L.getD i 0) j f) X) → ∀ K : Act → World → Prop,
  Way (∀ a' v X', a' = (putL f pl a).put o.dst v → E X X' → (if AL.contains i = true then v = .pointer (some ⟨X.heap.size, 0, none⟩) ∧ X.heap.size < X'.heap.size else True) → (∀ Y, E X' Y → R i (mask (fun i => L.getD i 0) i (upd f i v)) Y) → K a' X') →
  Way (if Region.wanted o (yielded ops (putL f pl a).tmps) = true then Oper.wp P o (putL f pl a) X K Q else K ((putL f pl a).put o.dst undef) X)) :
 StepU P ops Q E m L AL R a w i := Step.intro ho fun f X hX hR K hK => by
 have h1 := h f X hX ⟨hR⟩ K
 rw [← hpl, ← put_sel] at h1
 exact (h1 ⟨hK⟩).out

structure StepO (P : Program) (ol : List Oper) (Q : Exit → Act → World → Prop) (E : World → World → Prop) (m : Nat) (L : List Nat) (AL : List Nat) (R : Nat → (Nat → Value) → World → Prop) (a : Act) (w : World) (i : Nat) (o : Oper) : Prop where
 out : ol[i]? = some o → StepU P ol.toArray Q E m L AL R a w i
theorem StepO.intro {ol : List Oper} {E : World → World → Prop} {m : Nat} {L AL : List Nat} {R : Nat → (Nat → Value) → World → Prop} {a : Act} {w : World} {i : Nat} {o : Oper} (pl : List (Nat × Nat)) (hpl : sel ol.toArray (nd (fun i => L.getD i 0) i) (List.range m) = pl)
 (h : ∀ f X, E w X → Way (∀ j, (L.getD i 0).testBit j = true → R j (mask (fun i => L.getD i 0) j f) X) → ∀ K : Act → World → Prop,
  Way (∀ a' v X', a' = (putL f pl a).put o.dst v → E X X' → (if AL.contains i = true then v = .pointer (some ⟨X.heap.size, 0, none⟩) ∧ X.heap.size < X'.heap.size else True) → (∀ Y, E X' Y → R i (mask (fun i => L.getD i 0) i (upd f i v)) Y) → K a' X') →
  Way (if Region.wanted o (yielded ol.toArray (putL f pl a).tmps) = true then Oper.wp P o (putL f pl a) X K Q else K ((putL f pl a).put o.dst undef) X)) :
 StepO P ol Q E m L AL R a w i o := ⟨fun ho => StepU.intro pl (by simpa using ho) hpl h⟩
inductive AllOps (S : Nat → Oper → Prop) (F : List Oper → Prop) : Nat → Nat → List Oper → Prop
 | fin {k : Nat} {l : List Oper} (h : F l) : AllOps S F k 0 l
 | step {k n : Nat} {o : Oper} {l : List Oper} (h : S k o) (hs : AllOps S F (k + 1) n l) : AllOps S F k (n + 1) (o :: l)
theorem AllOps.cons {S : Nat → Oper → Prop} {F : List Oper → Prop} {k n : Nat} {o : Oper} {l : List Oper} (k' n' : Nat) (hk : k + 1 = k') (hn : n' + 1 = n) (h : S k o) (hs : AllOps S F k' n' l) : AllOps S F k n (o :: l) := by
 subst hk hn; exact .step h hs
theorem AllOps.out {S : Nat → Oper → Prop} {F : List Oper → Prop} {n k : Nat} {l : List Oper} (h : AllOps S F k n l) : ∀ i, i < n → ∃ o, l[i]? = some o ∧ S (k + i) o := by
  induction h with
  | fin _ => intro i hi; omega
  | step h hs ih =>
    rename_i k n o l
    intro i hi
    match i with
    | 0 => exact ⟨o, rfl, h⟩
    | i + 1 =>
      obtain ⟨o', h1, h2⟩ := ih i (by omega)
      exact ⟨o', by simpa using h1, by rw [show k + (i + 1) = k + 1 + i by omega]; exact h2⟩
theorem AllOps.end_ {S : Nat → Oper → Prop} {F : List Oper → Prop} {n k : Nat} {l : List Oper} (h : AllOps S F k n l) : F (l.drop n) := by
 induction h with
 | fin h => exact h
 | step _ _ ih => exact ih

theorem want {b : Bool} {p q : Prop} (h : b = true) (hp : p) : if b = true then p else q := by rw [if_pos h]; exact hp
theorem none_ {n j : Nat} : (Array.replicate n false).getD j false = false := by
 rw [Array.getD_eq_getD_getElem?, Array.getElem?_replicate]
 split <;> rfl
theorem any_of {E : World → World → Prop} (hE0 : ∀ w, E w w) (hE1 : ∀ a b c, E a b → E b c → E a c) (hE2 : ∀ a b, E a b → a.heap.size ≤ b.heap.size)
 {a : Act} {w X0 : World} (hX0 : E w X0) (m : Nat) (L AL : List Nat) (R : Nat → (Nat → Value) → World → Prop) (hok : ok ops (fun i => L.getD i 0) m = true)
 (hstep : AllFrom (StepU P ops Q E m L AL R a w) 0 m) (pl : List (Nat × Nat)) (hpl : sel ops (fun _ => true) (List.range m) = pl)
 (hfin : ∀ f X, E w X → (∀ j, j < m → R j (mask (fun i => L.getD i 0) j f) X) → (∀ j, j < m → AL.contains j = true → ∃ b, f j = .pointer (some ⟨b, 0, none⟩) ∧ b < X.heap.size) → (∀ j k, j < m → k < m → AL.contains j = true → AL.contains k = true → j ≠ k → f j ≠ f k) →
  wpAny P .any ops Q (ops.size - m) (((List.range ops.size).map fun j => decide (j < m)).toArray) (putL f pl a) X) : wpAny P .any ops Q ops.size (Array.replicate ops.size false) a X0 := by
 have hF := ok.form hok
 refine par hE0 hE1 hE2 (R := fun j f X => ∀ Y, E X Y → R j f Y) (M := fun i => L.getD i 0) (AL := fun i => AL.contains i) (m := m) (a := a) (w := w) hF (fun j _ f X h Y hY Z hZ => h Z (hE1 _ _ _ hY hZ))
  (fun i hi f X hX hR K hK => ?_) (fun f X hX hR h1 h2 => ?_) ops.size _ (fun _ => undef) a X0 (by simp) (fun j o _ h => (by rw [none_] at h; cases h)) (fun j h => (by rw [none_] at h; cases h)) ?_ ⟨?_, hX0, fun j _ h => (by rw [none_] at h; cases h), fun j _ h => (by rw [none_] at h; cases h), fun j k _ _ h => (by rw [none_] at h; cases h)⟩
 · refine hstep.out i (Nat.zero_le _) (by omega) f X hX (fun j hj => hR j hj X (hE0 _)) K (fun a' v X' ha hE hA hR' => hK a' v X' ha hE hA (fun Y hY Z hZ => hR' Z (hE1 _ _ _ hY hZ)))
 · have := hfin f X hX (fun j hj => hR j hj X (hE0 _)) h1 h2
   rw [← hpl, ← put_sel] at this
   exact this
 · have : ∀ n, cnt (fun j => (Array.replicate ops.size false).getD j false) n = 0 := fun n => by
    induction n with
    | zero => rfl
    | succ n ih => rw [cnt, ih, none_]; rfl
   rw [this]; rfl
 · have : ∀ (l : List Nat) (a : Act), put ops (fun j => (Array.replicate ops.size false).getD j false) (fun _ => undef) l a = a := fun l => by
    induction l with
    | nil => intro a; rfl
    | cons j l ih => intro a; rw [put, none_]; exact ih _
   exact (this _ _).symm
structure Fin (P : Program) (ol : List Oper) (Q : Exit → Act → World → Prop) (E : World → World → Prop) (m : Nat) (L AL : List Nat) (R : Nat → (Nat → Value) → World → Prop) (pl : List (Nat × Nat)) (a : Act) (w : World) (l : List Oper) : Prop where
 out : ∀ f X, E w X → (∀ j, j < m → R j (mask (fun i => L.getD i 0) j f) X) → (∀ j, j < m → AL.contains j = true → ∃ b, f j = .pointer (some ⟨b, 0, none⟩) ∧ b < X.heap.size) → (∀ j k, j < m → k < m → AL.contains j = true → AL.contains k = true → j ≠ k → f j ≠ f k) → Way (Chain P ol Q l (putL f pl a) X)
theorem any_all {E : World → World → Prop} (hE0 : ∀ w, E w w) (hE1 : ∀ a b c, E a b → E b c → E a c) (hE2 : ∀ a b, E a b → a.heap.size ≤ b.heap.size)
 {ol : List Oper} {a : Act} {w X0 : World} (hX0 : E w X0) (m : Nat) (L AL : List Nat) (R : Nat → (Nat → Value) → World → Prop) (hok : ok ol.toArray (fun i => L.getD i 0) m = true) (pl : List (Nat × Nat)) (hpl : sel ol.toArray (fun _ => true) (List.range m) = pl)
 (hstep : AllOps (StepO P ol Q E m L AL R a w) (Fin P ol Q E m L AL R pl a w) 0 m ol) : wpAny P .any ol.toArray Q ol.toArray.size (Array.replicate ol.toArray.size false) a X0 := by
 refine any_of hE0 hE1 hE2 hX0 m L AL R hok ?_ pl hpl (fun f X hX hR h1 h2 => ?_)
 · have key : ∀ i, i < m → StepU P ol.toArray Q E m L AL R a w i := fun i hi => by
    obtain ⟨o, h1, h2⟩ := hstep.out i hi
    rw [Nat.zero_add] at h2
    exact h2.out h1
   have : ∀ n k, k + n = m → AllFrom (StepU P ol.toArray Q E m L AL R a w) k n := fun n => by
    induction n with
    | zero => intro k _; trivial
    | succ n ih => intro k hk; exact ⟨key k (by omega), ih (k + 1) (by omega)⟩
   exact this m 0 (by omega)
 · have hF := ok.form hok
   have h3 := (hstep.end_.out f X hX hR h1 h2).out
   exact Chain.sound hF (ol.toArray.size - m) m _ X (Nat.le_refl _) (by have := hF.le; omega) h3
theorem any_text {ol : List Oper} {M : Nat → Nat} {m : Nat} (hF : Form ol.toArray M m) : ∀ (n m' : Nat) (a : Act) (X : World), m' + n = ol.toArray.size → wpAny P .any ol.toArray Q n (upto ol.toArray.size m') a X → wpOps P ol.toArray Q (List.range' m' n) a X := by
  intro n
  induction n with
  | zero => intro m' a X _ h; exact h.2
  | succ n ih =>
    intro m' a X hn h
    have hms' : m' < ol.toArray.size := by omega
    have hmem : m' ∈ Region.ready .any ol.toArray (upto ol.toArray.size m') := by
      rw [mem_ready]
      refine ⟨?_, _, Array.getElem?_eq_getElem hms', fun e he hb => ?_⟩
      · have : m' < ol.length := by simpa using hms'
        simp [upto, this]
      · have hlt := hF.up m' _ (Array.getElem?_eq_getElem hms') e he hb
        rw [upto_getD (by omega)]; simpa using hlt
    rw [List.range'_succ, wpOps_cons]
    refine wpOp_mono (fun a w hw => ?_) (h.2 m' hmem)
    rw [upto_set hms'] at hw
    exact ih (m' + 1) a w (by omega) hw
theorem upto_zero (n : Nat) : Array.replicate n false = upto n 0 := by
 apply Array.ext
 · simp [upto]
 · intro k h1 h2
   simp [upto]
theorem region_ext {ol : List Oper} {id : Nat} {a : Act} {w : World} (hm : P.follows .mixedOrders = true) (m : Nat) (L AL : List Nat) (R : Nat → (Nat → Value) → World → Prop) (hok : ok ol.toArray (fun i => L.getD i 0) m = true) (pl : List (Nat × Nat)) (hpl : sel ol.toArray (fun _ => true) (List.range m) = pl)
 (hstep : AllOps (StepO P ol Q Ext m L AL R a w) (Fin P ol Q Ext m L AL R pl a w) 0 m ol) : (Code.region id ol.toArray true).wp P Q a w :=
 wp_region_any hm (any_all Ext.refl (fun _ _ _ => Ext.trans) (fun _ _ => Ext.bsize) (Ext.drew w) m L AL R hok pl hpl hstep)
theorem region_txt {ol : List Oper} {id : Nat} {a : Act} {w : World} (m : Nat) (L AL : List Nat) (R : Nat → (Nat → Value) → World → Prop) (hok : ok ol.toArray (fun i => L.getD i 0) m = true) (pl : List (Nat × Nat)) (hpl : sel ol.toArray (fun _ => true) (List.range m) = pl)
 (hstep : AllOps (StepO P ol Q Ext m L AL R a w) (Fin P ol Q Ext m L AL R pl a w) 0 m ol) : (Code.region id ol.toArray false).wp P Q a w := by
 refine wp_region ?_
 have h := any_all Ext.refl (fun _ _ _ => Ext.trans) (fun _ _ => Ext.bsize) (Ext.refl w) m L AL R hok pl hpl hstep
 rw [upto_zero] at h
 rw [List.range_eq_range']
 exact any_text (ok.form hok) _ 0 a w (by omega) h
end
theorem S {P : Program} {Q : Exit → Act → World → Prop} {ol : List Oper} {E : World → World → Prop} {m : Nat} {L AL : List Nat} {R : Nat → (Nat → Value) → World → Prop} {a : Act} {w : World} {F : List Oper → Prop} {k n : Nat} {o : Oper} {l : List Oper} (k' n' : Nat) (pl : List (Nat × Nat))
 (h : ∀ f X, E w X → Way (∀ j, (L.getD k 0).testBit j = true → R j (mask (fun i => L.getD i 0) j f) X) → ∀ K : Act → World → Prop,
  Way (∀ a' v X', a' = (putL f pl a).put o.dst v → E X X' → (if AL.contains k = true then v = .pointer (some ⟨X.heap.size, 0, none⟩) ∧ X.heap.size < X'.heap.size else True) → (∀ Y, E X' Y → R k (mask (fun i => L.getD i 0) k (upd f k v)) Y) → K a' X') →
  Way (if Region.wanted o (yielded ol.toArray (putL f pl a).tmps) = true then Oper.wp P o (putL f pl a) X K Q else K ((putL f pl a).put o.dst undef) X))
 (hs : AllOps (StepO P ol Q E m L AL R a w) F k' n' l) (hk : k + 1 = k' := by rfl) (hn : n' + 1 = n := by rfl) (hpl : sel ol.toArray (nd (fun i => L.getD i 0) k) (List.range m) = pl := by kernel_rfl) :
 AllOps (StepO P ol Q E m L AL R a w) F k n (o :: l) := AllOps.cons k' n' hk hn (StepO.intro pl hpl h) hs
theorem upd_self {f : Nat → Value} {j : Nat} {u : Value} (h : f j = u) : f = upd f j u := by
 funext i
 unfold upd
 split
 · rename_i e; rw [e]; exact h
 · rfl
theorem vx {P : Program} {Q : Exit → Act → World → Prop} {ol : List Oper} {m : Nat} {L AL : List Nat} {R : Nat → (Nat → Value) → World → Prop} {a : Act} {w : World} {F : List Oper → Prop} {k n : Nat} {o : Oper} {l : List Oper} {k' n' : Nat} {v : Value} (g : (Nat → Value) → Nat → Value)
 (hs : AllOps (StepO P ol Q Ext m L AL R a w) F k' n' l) (hg : ∀ f X, (∀ j, (L.getD k 0).testBit j = true → R j (mask (fun i => L.getD i 0) j f) X) → f = g f)
 (hR : ∀ f X, f k = v → R k (mask (fun i => L.getD i 0) k f) X) (hk : k + 1 = k') (hn : n' + 1 = n) (ha : AL.contains k = false)
 (hw : ∀ f, Region.wanted o (yielded ol.toArray (put ol.toArray (nd (fun i => L.getD i 0) k) (g f) (List.range m) a).tmps) = true)
 (hrun : ∀ f X, Ext w X → (execOp (put ol.toArray (nd (fun i => L.getD i 0) k) (g f) (List.range m) a).eval o).run P X = .ok (.value v) X) : AllOps (StepO P ol Q Ext m L AL R a w) F k n (o :: l) := by
 refine AllOps.cons k' n' hk hn ⟨fun ho => ?_⟩ hs
 intro f X hX hR' K hK
 have hf := hg f X hR'
 have ho' : ol.toArray[k]? = some o := by simpa using ho
 refine wpOp_step ho' fun K' hK' => ?_
 have hA : put ol.toArray (nd (fun i => L.getD i 0) k) f (List.range m) a = put ol.toArray (nd (fun i => L.getD i 0) k) (g f) (List.range m) a := congrArg (fun f => put ol.toArray (nd (fun i => L.getD i 0) k) f (List.range m) a) hf
 rw [if_pos (by rw [hA]; exact hw f)]
 unfold Oper.wp
 rw [show execOp (put ol.toArray (nd (fun i => L.getD i 0) k) f (List.range m) a).eval o = execOp (put ol.toArray (nd (fun i => L.getD i 0) k) (g f) (List.range m) a).eval o by rw [hA], hrun f X hX]
 show K' ((put ol.toArray (nd (fun i => L.getD i 0) k) f (List.range m) a).put o.dst v) X
 refine hK' _ _ (hK _ v X ?_ (Ext.refl _) (by show (if AL.contains k = true then _ else True); rw [if_neg (by rw [ha]; decide)]; trivial) (fun Y _ => hR _ _ (by simp [upd])))
 have : o.dst = dst ol.toArray k := by rw [dst, ho']; rfl
 rw [this]
section
variable {P : Program} {Q : Exit → Act → World → Prop} {ol : List Oper} {m : Nat} {L AL : List Nat} {R : Nat → (Nat → Value) → World → Prop} {a : Act} {w : World} {F : List Oper → Prop} {k n : Nat} {o : Oper} {l : List Oper} {v u u' : Value}
theorem v0 (k' n' : Nat) (hs : AllOps (StepO P ol Q Ext m L AL R a w) F k' n' l) (hR : ∀ f X, f k = v → R k (mask (fun i => L.getD i 0) k f) X := by exact fun _ _ h => h) (hk : k + 1 = k' := by rfl) (hn : n' + 1 = n := by rfl) (ha : AL.contains k = false := by kernel_rfl)
 (hw : ∀ f, Region.wanted o (yielded ol.toArray (put ol.toArray (nd (fun i => L.getD i 0) k) f (List.range m) a).tmps) = true := by intro _; kernel_rfl)
 (hrun : ∀ f X, (execOp (put ol.toArray (nd (fun i => L.getD i 0) k) f (List.range m) a).eval o).run P X = .ok (.value v) X := by intro _ _; kernel_rfl) : AllOps (StepO P ol Q Ext m L AL R a w) F k n (o :: l) :=
 vx (fun f => f) hs (fun _ _ _ => rfl) hR hk hn ha hw (fun f X _ => hrun f X)
theorem v1 (k' n' j : Nat) (hs : AllOps (StepO P ol Q Ext m L AL R a w) F k' n' l) (hr : ∀ f X, R j (mask (fun i => L.getD i 0) j f) X → f j = u := by exact fun _ _ h => h) (hR : ∀ f X, f k = v → R k (mask (fun i => L.getD i 0) k f) X := by exact fun _ _ h => h) (hk : k + 1 = k' := by rfl) (hn : n' + 1 = n := by rfl) (ha : AL.contains k = false := by kernel_rfl)
 (hj : (L.getD k 0).testBit j = true := by kernel_rfl)
 (hw : ∀ f, Region.wanted o (yielded ol.toArray (put ol.toArray (nd (fun i => L.getD i 0) k) (upd f j u) (List.range m) a).tmps) = true := by intro _; kernel_rfl)
 (hrun : ∀ f X, (execOp (put ol.toArray (nd (fun i => L.getD i 0) k) (upd f j u) (List.range m) a).eval o).run P X = .ok (.value v) X := by intro _ _; kernel_rfl) : AllOps (StepO P ol Q Ext m L AL R a w) F k n (o :: l) :=
 vx (fun f => upd f j u) hs (fun f X h => upd_self (hr f X (h j hj))) hR hk hn ha hw (fun f X _ => hrun f X)
theorem v2 (k' n' j i : Nat) (hs : AllOps (StepO P ol Q Ext m L AL R a w) F k' n' l) (hr : ∀ f X, R j (mask (fun i => L.getD i 0) j f) X → f j = u := by exact fun _ _ h => h) (hr' : ∀ f X, R i (mask (fun i => L.getD i 0) i f) X → f i = u' := by exact fun _ _ h => h) (hR : ∀ f X, f k = v → R k (mask (fun i => L.getD i 0) k f) X := by exact fun _ _ h => h) (hk : k + 1 = k' := by rfl) (hn : n' + 1 = n := by rfl) (ha : AL.contains k = false := by kernel_rfl)
 (hj : (L.getD k 0).testBit j = true := by kernel_rfl) (hi : (L.getD k 0).testBit i = true := by kernel_rfl)
 (hw : ∀ f, Region.wanted o (yielded ol.toArray (put ol.toArray (nd (fun i => L.getD i 0) k) (upd (upd f j u) i u') (List.range m) a).tmps) = true := by intro _; kernel_rfl)
 (hrun : ∀ f X, (execOp (put ol.toArray (nd (fun i => L.getD i 0) k) (upd (upd f j u) i u') (List.range m) a).eval o).run P X = .ok (.value v) X := by intro _ _; kernel_rfl) : AllOps (StepO P ol Q Ext m L AL R a w) F k n (o :: l) :=
 vx (fun f => upd (upd f j u) i u') hs (fun f X h => by
  have h1 := upd_self (hr f X (h j hj))
  have h2 := upd_self (hr' f X (h i hi))
  rw [← h1, ← h2]) hR hk hn ha hw (fun f X _ => hrun f X)
theorem sk (k' n' j : Nat) (hs : AllOps (StepO P ol Q Ext m L AL R a w) F k' n' l) (hr : ∀ f X, R j (mask (fun i => L.getD i 0) j f) X → f j = u := by exact fun _ _ h => h) (hR : ∀ f X, f k = undef → R k (mask (fun i => L.getD i 0) k f) X := by exact fun _ _ h => h) (hk : k + 1 = k' := by rfl) (hn : n' + 1 = n := by rfl) (ha : AL.contains k = false := by kernel_rfl)
 (hj : (L.getD k 0).testBit j = true := by kernel_rfl)
 (hw : ∀ f, Region.wanted o (yielded ol.toArray (put ol.toArray (nd (fun i => L.getD i 0) k) (upd f j u) (List.range m) a).tmps) = false := by intro _; kernel_rfl) : AllOps (StepO P ol Q Ext m L AL R a w) F k n (o :: l) := by
 refine AllOps.cons k' n' hk hn ⟨fun ho => ?_⟩ hs
 intro f X hX hR' K hK
 have hf := upd_self (hr f X (hR' j hj))
 have ho' : ol.toArray[k]? = some o := by simpa using ho
 refine wpOp_step ho' fun K' hK' => ?_
 have hA : put ol.toArray (nd (fun i => L.getD i 0) k) f (List.range m) a = put ol.toArray (nd (fun i => L.getD i 0) k) (upd f j u) (List.range m) a := congrArg (fun f => put ol.toArray (nd (fun i => L.getD i 0) k) f (List.range m) a) hf
 rw [if_neg (by rw [hA, hw f]; decide)]
 refine hK' _ _ (hK _ undef X ?_ (Ext.refl _) (by show (if AL.contains k = true then _ else True); rw [if_neg (by rw [ha]; decide)]; trivial) (fun Y _ => hR _ _ (by simp [upd])))
 have : o.dst = dst ol.toArray k := by rw [dst, ho']; rfl
 rw [this]
theorem al (k' n' : Nat) {ob : Obj} (hs : AllOps (StepO P ol Q Ext m L AL R a w) F k' n' l) (hR : ∀ f X, (∃ b, f k = .pointer (some ⟨b, 0, none⟩) ∧ w.heap.size ≤ b ∧ X.heap[b]? = some ob) → R k (mask (fun i => L.getD i 0) k f) X := by exact fun _ _ h => h) (hk : k + 1 = k' := by rfl) (hn : n' + 1 = n := by rfl)
 (hw : ∀ f, Region.wanted o (yielded ol.toArray (put ol.toArray (nd (fun i => L.getD i 0) k) f (List.range m) a).tmps) = true := by intro _; kernel_rfl)
 (hrun : ∀ f X, (execOp (put ol.toArray (nd (fun i => L.getD i 0) k) f (List.range m) a).eval o).run P X = .ok (.value (.pointer (some ⟨X.heap.size, 0, none⟩))) (X.alloc ob) := by intro _ _; kernel_rfl) : AllOps (StepO P ol Q Ext m L AL R a w) F k n (o :: l) := by
 refine AllOps.cons k' n' hk hn ⟨fun ho => ?_⟩ hs
 intro f X hX hR' K hK
 have ho' : ol.toArray[k]? = some o := by simpa using ho
 refine wpOp_step ho' fun K' hK' => ?_
 rw [if_pos (hw f)]
 unfold Oper.wp
 rw [hrun f X]
 show K' ((put ol.toArray (nd (fun i => L.getD i 0) k) f (List.range m) a).put o.dst _) (X.alloc ob)
 refine hK' _ _ (hK _ (.pointer (some ⟨X.heap.size, 0, none⟩)) (X.alloc ob) ?_ (Ext.alloc _ _) (by show (if AL.contains k = true then _ else True); split; exact ⟨rfl, by simp⟩; trivial) (fun Y hY => hR _ _ ⟨X.heap.size, by simp [upd], hX.bsize, hY.at_ (heap_alloc_new _ _)⟩))
 have : o.dst = dst ol.toArray k := by rw [dst, ho']; rfl
 rw [this]
theorem vy {k' n' : Nat} (hs : AllOps (StepO P ol Q Ext m L AL R a w) F k' n' l) (hk : k + 1 = k') (hn : n' + 1 = n) (ha : AL.contains k = false)
 (hw : ∀ f, Region.wanted o (yielded ol.toArray (put ol.toArray (nd (fun i => L.getD i 0) k) f (List.range m) a).tmps) = true)
 (hrun : ∀ f X, Ext w X → ∃ v, (execOp (put ol.toArray (nd (fun i => L.getD i 0) k) f (List.range m) a).eval o).run P X = .ok (.value v) X ∧ ∀ Y, Ext X Y → R k (mask (fun i => L.getD i 0) k (upd f k v)) Y) : AllOps (StepO P ol Q Ext m L AL R a w) F k n (o :: l) := by
 refine AllOps.cons k' n' hk hn ⟨fun ho => ?_⟩ hs
 intro f X hX hR' K hK
 have ho' : ol.toArray[k]? = some o := by simpa using ho
 refine wpOp_step ho' fun K' hK' => ?_
 rw [if_pos (hw f)]
 unfold Oper.wp
 obtain ⟨v, h1, h2⟩ := hrun f X hX
 rw [h1]
 show K' ((put ol.toArray (nd (fun i => L.getD i 0) k) f (List.range m) a).put o.dst v) X
 refine hK' _ _ (hK _ v X ?_ (Ext.refl _) (by show (if AL.contains k = true then _ else True); rw [if_neg (by rw [ha]; decide)]; trivial) h2)
 have : o.dst = dst ol.toArray k := by rw [dst, ho']; rfl
 rw [this]
theorem cx {F' : FuncId} {args : (Nat → Value) → Array Value} {k' n' : Nat} (hs : AllOps (StepO P ol Q Ext m L AL R a w) F k' n' l) (hk : k + 1 = k') (hn : n' + 1 = n) (ha : AL.contains k = false)
 (hw : ∀ f X, (∀ j, (L.getD k 0).testBit j = true → R j (mask (fun i => L.getD i 0) j f) X) → Region.wanted o (yielded ol.toArray (put ol.toArray (nd (fun i => L.getD i 0) k) f (List.range m) a).tmps) = true)
 (hrun : ∀ f X, (execOp (put ol.toArray (nd (fun i => L.getD i 0) k) f (List.range m) a).eval o).run P X = .ok (.enter F' (args f)) X)
 (hc : ∀ f X, Ext w X → Way (∀ j, (L.getD k 0).testBit j = true → R j (mask (fun i => L.getD i 0) j f) X) → Calls P F' (args f) X fun e w' => ∃ v, e = .returned v ∧ Ext X w' ∧ ∀ Y, Ext w' Y → R k (mask (fun i => L.getD i 0) k (upd f k v)) Y) : AllOps (StepO P ol Q Ext m L AL R a w) F k n (o :: l) := by
 refine AllOps.cons k' n' hk hn ⟨fun ho => ?_⟩ hs
 intro f X hX hR' K hK
 have ho' : ol.toArray[k]? = some o := by simpa using ho
 refine wpOp_step ho' fun K' hK' => ?_
 rw [if_pos (hw f X hR')]
 unfold Oper.wp
 rw [hrun f X, Oper.upon_enter]
 refine (hc f X hX ⟨hR'⟩).mono ?_
 rintro e w' ⟨v, rfl, hE, hY⟩
 refine hK' _ _ (hK _ v w' ?_ hE (by show (if AL.contains k = true then _ else True); rw [if_neg (by rw [ha]; decide)]; trivial) hY)
 have : o.dst = dst ol.toArray k := by rw [dst, ho']; rfl
 rw [this]
theorem c0 (k' n' : Nat) (args : (Nat → Value) → Array Value) {F' : FuncId} (hc : ∀ f X, Ext w X → Way (∀ j, (L.getD k 0).testBit j = true → R j (mask (fun i => L.getD i 0) j f) X) → Calls P F' (args f) X fun e w' => ∃ v, e = .returned v ∧ Ext X w' ∧ ∀ Y, Ext w' Y → R k (mask (fun i => L.getD i 0) k (upd f k v)) Y) (hs : AllOps (StepO P ol Q Ext m L AL R a w) F k' n' l)
 (hk : k + 1 = k' := by rfl) (hn : n' + 1 = n := by rfl) (ha : AL.contains k = false := by kernel_rfl)
 (hw : ∀ f, Region.wanted o (yielded ol.toArray (put ol.toArray (nd (fun i => L.getD i 0) k) f (List.range m) a).tmps) = true := by intro _; kernel_rfl)
 (hrun : ∀ f X, (execOp (put ol.toArray (nd (fun i => L.getD i 0) k) f (List.range m) a).eval o).run P X = .ok (.enter F' (args f)) X := by intro _ _; kernel_rfl) : AllOps (StepO P ol Q Ext m L AL R a w) F k n (o :: l) :=
 cx hs hk hn ha (fun f _ _ => hw f) hrun hc
theorem c1 (k' n' j : Nat) (args : (Nat → Value) → Array Value) {F' : FuncId} (hc : ∀ f X, Ext w X → Way (∀ j, (L.getD k 0).testBit j = true → R j (mask (fun i => L.getD i 0) j f) X) → Calls P F' (args f) X fun e w' => ∃ v, e = .returned v ∧ Ext X w' ∧ ∀ Y, Ext w' Y → R k (mask (fun i => L.getD i 0) k (upd f k v)) Y) (hs : AllOps (StepO P ol Q Ext m L AL R a w) F k' n' l)
 (hr : ∀ f X, R j (mask (fun i => L.getD i 0) j f) X → f j = u := by exact fun _ _ h => h) (hk : k + 1 = k' := by rfl) (hn : n' + 1 = n := by rfl) (ha : AL.contains k = false := by kernel_rfl) (hj : (L.getD k 0).testBit j = true := by kernel_rfl)
 (hw : ∀ f, Region.wanted o (yielded ol.toArray (put ol.toArray (nd (fun i => L.getD i 0) k) (upd f j u) (List.range m) a).tmps) = true := by intro _; kernel_rfl)
 (hrun : ∀ f X, (execOp (put ol.toArray (nd (fun i => L.getD i 0) k) f (List.range m) a).eval o).run P X = .ok (.enter F' (args f)) X := by intro _ _; kernel_rfl) : AllOps (StepO P ol Q Ext m L AL R a w) F k n (o :: l) :=
 cx hs hk hn ha (fun f X h => by rw [upd_self (hr f X (h j hj))]; exact hw f) hrun hc
theorem run_loadAt1 {t : TypeId} {p : Addr} {X : World} (hc : X.cell? p = some v) (ht : (isAgg t).run P X = .ok false X) : (Instr.loadAt t (.pointer (some p))).run P X = .ok v X := by
 unfold Instr.loadAt loadVar
 simp only [Sem.run_bind]
 rw [show (Instr.sureAddr (.pointer (some p))).run P X = .ok p X from rfl, Result.andThen_ok, ht, Result.andThen_ok, if_neg (by decide)]
 unfold load
 simp only [Sem.run, hc]
theorem ld0 (k' n' : Nat) {p : Addr} {t : TypeId} {x : Operand} (hc : w.cell? p = some v) (hs : AllOps (StepO P ol Q Ext m L AL R a w) F k' n' l) (hR : ∀ f X, f k = v → R k (mask (fun i => L.getD i 0) k f) X := by exact fun _ _ h => h) (hk : k + 1 = k' := by rfl) (hn : n' + 1 = n := by rfl) (ha : AL.contains k = false := by kernel_rfl)
 (hw : ∀ f, Region.wanted o (yielded ol.toArray (put ol.toArray (nd (fun i => L.getD i 0) k) f (List.range m) a).tmps) = true := by intro _; kernel_rfl)
 (ho : o.op = .load t x := by rfl) (hx : ∀ f, (put ol.toArray (nd (fun i => L.getD i 0) k) f (List.range m) a).eval x = .pointer (some p) := by intro _; kernel_rfl) (ht : ∀ X, (isAgg t).run P X = .ok false X := by intro _; kernel_rfl) : AllOps (StepO P ol Q Ext m L AL R a w) F k n (o :: l) :=
 vx (fun f => f) hs (fun _ _ _ => rfl) hR hk hn ha hw (fun f X hX => by
  unfold execOp
  simp only [ho, Sem.run_bind, hx, run_loadAt1 (hX.cell hc) (ht X), Result.andThen_ok]
  rfl)
theorem ld1 (k' n' j : Nat) {p : Addr} {t : TypeId} {x : Operand} (hc : w.cell? p = some v) (hs : AllOps (StepO P ol Q Ext m L AL R a w) F k' n' l) (hr : ∀ f X, R j (mask (fun i => L.getD i 0) j f) X → f j = u := by exact fun _ _ h => h) (hR : ∀ f X, f k = v → R k (mask (fun i => L.getD i 0) k f) X := by exact fun _ _ h => h) (hk : k + 1 = k' := by rfl) (hn : n' + 1 = n := by rfl) (ha : AL.contains k = false := by kernel_rfl)
 (hj : (L.getD k 0).testBit j = true := by kernel_rfl)
 (hw : ∀ f, Region.wanted o (yielded ol.toArray (put ol.toArray (nd (fun i => L.getD i 0) k) (upd f j u) (List.range m) a).tmps) = true := by intro _; kernel_rfl)
 (ho : o.op = .load t x := by rfl) (hx : ∀ f, (put ol.toArray (nd (fun i => L.getD i 0) k) (upd f j u) (List.range m) a).eval x = .pointer (some p) := by intro _; kernel_rfl) (ht : ∀ X, (isAgg t).run P X = .ok false X := by intro _; kernel_rfl) : AllOps (StepO P ol Q Ext m L AL R a w) F k n (o :: l) :=
 vx (fun f => upd f j u) hs (fun f X h => upd_self (hr f X (h j hj))) hR hk hn ha hw (fun f X hX => by
  unfold execOp
  simp only [ho, Sem.run_bind, hx, run_loadAt1 (hX.cell hc) (ht X), Result.andThen_ok]
  rfl)
end
theorem k {A : Value → Act} {b : Act} {X : World} {H : Value → World → Prop} {G : Value → World → Prop} {K : Act → World → Prop} {v : Value}
 (hK : Way (∀ a' v X', a' = A v → Ext X X' → H v X' → (∀ Y, Ext X' Y → G v Y) → K a' X'))
 (hr : ∀ Y, Ext X Y → G v Y := by exact fun _ _ => rfl) (s : b = A v) (ha : H v X := by exact trivial) : K b X :=
 hK.out b v X s (Ext.refl X) ha hr
end Par
/- What lays the slots' values out. -/
theorem yA (f : Nat → Value) (i j : Nat) (l : List (Nat × Nat)) (L : List Value) (d : List Deferred) : Par.putL f ((i, j) :: l) ⟨L.toArray, d⟩ = Par.putL f l ⟨(L.set i (f j)).toArray, d⟩ := by
 simp only [Par.putL, Act.put, List.setIfInBounds_toArray]
theorem yB (f : Nat → Value) (a : Act) : Par.putL f [] a = a := rfl
theorem yC (L : List Value) (d : List Deferred) (i : Nat) (v : Value) : Act.put ⟨L.toArray, d⟩ (some i) v = ⟨(L.set i v).toArray, d⟩ := by
 simp only [Act.put, List.setIfInBounds_toArray]
theorem yD (x : Value) (l : List Value) (n : Nat) (v : Value) : (x :: l).set (n + 1) v = x :: l.set n v := rfl
theorem yE (x : Value) (l : List Value) (v : Value) : (x :: l).set 0 v = v :: l := rfl
end Go.Proofs.YtaemogcomplhiaaGreatDoor

namespace Go.Proofs.YtaemogcomplhiaaGreatDoor
open Go.RowKit

theorem ret_int {k : IntKind} {a b : Int} (h : a = b) : Ending.returned (.int k a) = .returned (.int k b) := by rw [h]
theorem block_of_add (a : Addr) (n : Nat) : (a.add n).block = a.block := by unfold Addr.add; split <;> rfl
theorem add_of_add (a : Addr) (i j : Nat) : (a.add i).add j = a.add (i + j) := by
 unfold Addr.add
 by_cases hi : i = 0 <;> by_cases hj : j = 0 <;> simp [hi, hj, Nat.add_assoc]

def In (lo hi b : Nat) : Prop := lo ≤ b ∧ b < hi

def RS (w : World) (P : Nat → Prop) (size : Nat) (A : Option Addr) (n c : Nat) (cs : List Value) : Prop :=
  n ≤ c ∧ c ≤ maxLen ∧ cs.length = n * size ∧
    (0 < n → ∃ ad, A = some ad ∧ P ad.block ∧ ∀ j u, cs[j]? = some u → w.cell? (ad.add j) = some u)

section
variable {w w' : World} {P P' : Nat → Prop} {size n c : Nat} {A : Option Addr} {cs : List Value}

theorem RS.keep (h : RS w P size A n c cs) (hk : ∀ p : Addr, P p.block → w'.cell? p = w.cell? p) : RS w' P size A n c cs := by
 obtain ⟨h1, h2, h3, h4⟩ := h
 refine ⟨h1, h2, h3, fun hn => ?_⟩
 obtain ⟨ad, e, hb, hc⟩ := h4 hn
 exact ⟨ad, e, hb, fun j u hu => (hk _ (by rw [block_of_add]; exact hb)).trans (hc j u hu)⟩
theorem RS.mono (h : RS w P size A n c cs) (hp : ∀ b, P b → P' b) : RS w P' size A n c cs := by
 obtain ⟨h1, h2, h3, h4⟩ := h
 refine ⟨h1, h2, h3, fun hn => ?_⟩
 obtain ⟨ad, e, hb, hc⟩ := h4 hn
 exact ⟨ad, e, hp _ hb, hc⟩
theorem RS.below {B : Nat} (h : RS w P size A n c cs) (hb : Below B w w') (hB : ∀ b, P b → b < B) : RS w' P size A n c cs := h.keep fun _ hp => hb.cell (hB _ hp)
theorem RS.nil_ (w : World) (P : Nat → Prop) (size : Nat) : RS w P size none 0 0 [] := ⟨by omega, by unfold maxLen; omega, by simp, fun h => absurd h (by omega)⟩
theorem RS.of_own {base : Nat} {e : TypeId} (h : w.ownsRow base e size (.slice A n c) n cs) : RS w (In base w.heap.size) size A n c cs := by
 have hlt := h.lt
 have hcell := fun g => h.cells (g := g)
 obtain ⟨h0, ⟨e1, rfl⟩ | ⟨g, cap, cur, e1, hg, hh, h5, h6, h7, h8⟩⟩ := h
 · injection e1 with e1 e2 e3
   subst e1 e3
   exact ⟨by omega, by unfold maxLen; omega, h0, fun h => absurd h (by omega)⟩
 · injection e1 with e1 e2 e3
   subst e1 e3
   have := hlt g rfl
   exact ⟨h5, h6, h0, fun _ => ⟨_, rfl, ⟨hg, this.2⟩, hcell g rfl⟩⟩
theorem own_shape {base : Nat} {e : TypeId} {v : Value} (h : w.ownsRow base e size v n cs) : ∃ A c, v = .slice A n c := by
 obtain ⟨h0, ⟨rfl, rfl⟩ | ⟨g, cap, cur, rfl, hg, hh, h5, h6, h7, h8⟩⟩ := h
 · exact ⟨_, _, rfl⟩
 · exact ⟨_, _, rfl⟩
theorem own_kept {w w' : World} {base : Nat} {e : TypeId} {v : Value} (h : w.ownsRow base e size v n cs) (hg : w.grownBy w' none) : w'.ownsRow base e size v n cs :=
 h.kept hg (by cases v.ownBlock <;> simp)
theorem below_drewN {B : Nat} {a w : World} (h : Below B a w) (n : Nat) : Below B a (w.drewN n) := ⟨h.os, h.tape, h.output, h.size, h.block⟩
theorem blk_cell {w : World} {B : Nat} {cs : Array Value} {t : TypeId} (h : w.heap[B]? = some (.cells cs t (0, 0))) (i : Nat) : w.cell? ⟨B, i, none⟩ = cs[i]? := cell_of_row w B i cs t (0, 0) h
theorem blk_free {w : World} {B : Nat} {cs : Array Value} {t : TypeId} (h : w.heap[B]? = some (.cells cs t (0, 0))) (i : Nat) : w.frozen? ⟨B, i, none⟩ = false := by simp [World.frozen?, h]
theorem blk_lt {w : World} {B : Nat} {o : Obj} (h : w.heap[B]? = some o) : B < w.heap.size := (Array.getElem?_eq_some_iff.1 h).1
theorem RS.fresh {w : World} {P : Nat → Prop} (cs : Array Value) (t : TypeId) (size n : Nat) (h : cs.size = n * size) (hn : n ≤ maxLen) (hP : P w.heap.size) : RS (w.alloc (.cells cs t)) P size (some ⟨w.heap.size, 0, none⟩) n n cs.toList :=
 ⟨Nat.le_refl _, hn, by simpa using h, fun _ => ⟨_, rfl, hP, World.news_of_block (heap_alloc_new w _)⟩⟩
theorem RS.sub {c' k m : Nat} (h : RS w P size A n c cs) (hkm : k ≤ m) (hm : m ≤ n) (hc : m - k ≤ c') (hc' : c' ≤ maxLen) {A' : Option Addr} (hA : k < m → A' = A.map (·.add (k * size))) :
 RS w P size A' (m - k) c' ((cs.drop (k * size)).take ((m - k) * size)) := by
 obtain ⟨h1, h2, h3, h4⟩ := h
 refine ⟨hc, hc', ?_, fun hn => ?_⟩
 · rw [List.length_take, List.length_drop, h3, ← Nat.sub_mul]
   exact Nat.min_eq_left (Nat.mul_le_mul_right _ (by omega))
 · obtain ⟨ad, rfl, hb, hc⟩ := h4 (by omega)
   rw [hA (by omega)]
   refine ⟨ad.add (k * size), rfl, by rw [block_of_add]; exact hb, fun j u hu => ?_⟩
   rw [add_of_add]
   apply hc
   rw [List.getElem?_take] at hu
   split at hu
   · rw [← hu, List.getElem?_drop]
   · cases hu
theorem RS.pre {m : Nat} (h : RS w P size A n c cs) (hm : m ≤ n) : RS w P size A m c (cs.take (m * size)) := by
 have := h.1
 have := h.2.1
 have := h.sub (k := 0) (m := m) (c' := c) (A' := A) (by omega) hm (by omega) (by omega) (fun _ => by cases A <;> simp [Addr.add])
 simpa using this
end

def bys (bs : List Nat) : List Value := bs.map fun b : Nat => .int .u8 (b : Int)
def RB (w : World) (P : Nat → Prop) (A : Option Addr) (c : Nat) (bs : List Nat) : Prop := RS w P 1 A bs.length c (bys bs) ∧ (∀ b ∈ bs, b < 256) ∧ bs.length ≤ 140737488355328

def RA (w : World) (P : Nat → Prop) (A : Option Addr) (c : Nat) (l : List (Int × List Nat)) : Prop :=
 ∃ cs, RS w P 2 A l.length c cs ∧ ∀ j x, l[j]? = some x → cs[j * 2]? = some (.int .i64 x.1) ∧ ∃ A' c', cs[j * 2 + 1]? = some (.slice A' x.2.length c') ∧ RB w P A' c' x.2

section
variable {w w' : World} {P P' : Nat → Prop} {A : Option Addr} {c : Nat} {bs : List Nat} {l : List (Int × List Nat)}
theorem RB.keep (h : RB w P A c bs) (hk : ∀ p : Addr, P p.block → w'.cell? p = w.cell? p) : RB w' P A c bs := ⟨h.1.keep hk, h.2⟩
theorem RB.mono (h : RB w P A c bs) (hp : ∀ b, P b → P' b) : RB w P' A c bs := ⟨h.1.mono hp, h.2⟩
theorem RB.below {B : Nat} (h : RB w P A c bs) (hb : Below B w w') (hB : ∀ b, P b → b < B) : RB w' P A c bs := ⟨h.1.below hb hB, h.2⟩
theorem RB.cap (h : RB w P A c bs) : bs.length ≤ c ∧ c ≤ 9223372036854775807 ∧ bs.length ≤ 140737488355328 := ⟨h.1.1, h.1.2.1, h.2.2⟩
theorem RB.nil_ (w : World) (P : Nat → Prop) : RB w P none 0 [] := ⟨RS.nil_ _ _ _, by simp, by simp⟩
theorem RA.keep (h : RA w P A c l) (hk : ∀ p : Addr, P p.block → w'.cell? p = w.cell? p) : RA w' P A c l := by
 obtain ⟨cs, h1, h2⟩ := h
 exact ⟨cs, h1.keep hk, fun j x hx => by obtain ⟨h3, A', c', h4, h5⟩ := h2 j x hx; exact ⟨h3, A', c', h4, h5.keep hk⟩⟩
theorem RA.mono (h : RA w P A c l) (hp : ∀ b, P b → P' b) : RA w P' A c l := by
 obtain ⟨cs, h1, h2⟩ := h
 exact ⟨cs, h1.mono hp, fun j x hx => by obtain ⟨h3, A', c', h4, h5⟩ := h2 j x hx; exact ⟨h3, A', c', h4, h5.mono hp⟩⟩
theorem RA.below {B : Nat} (h : RA w P A c l) (hb : Below B w w') (hB : ∀ b, P b → b < B) : RA w' P A c l := h.keep fun _ hp => hb.cell (hB _ hp)
theorem RA.cap (h : RA w P A c l) : l.length ≤ c ∧ c ≤ 9223372036854775807 := by obtain ⟨cs, h1, h2⟩ := h; exact ⟨h1.1, h1.2.1⟩
theorem RA.nil_ (w : World) (P : Nat → Prop) : RA w P none 0 [] := ⟨[], RS.nil_ _ _ _, by simp⟩
theorem RA.at_ (h : RA w P A c l) {i : Nat} (hi' : i < l.length) :
 ∃ ad A' c', A = some ad ∧ P ad.block ∧ w.cell? (ad.add (i * 2)) = some (.int .i64 (l[i]).1) ∧ w.cell? ⟨(ad.add (i * 2)).block, (ad.add (i * 2)).off + 1, none⟩ = some (.slice A' (l[i]).2.length c') ∧ RB w P A' c' (l[i]).2 := by
 obtain ⟨cs, ⟨h1, h2, h3, h4⟩, h5⟩ := h
 obtain ⟨ad, rfl, hb, hc⟩ := h4 (by omega)
 obtain ⟨h6, A', c', h7, h8⟩ := h5 i _ (List.getElem?_eq_getElem hi')
 exact ⟨ad, A', c', rfl, hb, hc _ _ h6, by have := hc _ _ h7; rwa [← add_of_add] at this, h8⟩
theorem RB.at_ (h : RB w P A c bs) {i : Nat} (hi' : i < bs.length) : ∃ ad, A = some ad ∧ P ad.block ∧ w.cell? (ad.add i) = some (.int .u8 (bs[i] : Int)) ∧ (bs[i] : Int) < 256 := by
 obtain ⟨⟨h1, h2, h3, h4⟩, h5, _⟩ := h
 obtain ⟨ad, rfl, hb, hc⟩ := h4 (by omega)
 exact ⟨ad, rfl, hb, hc _ _ (by simp [bys, List.getElem?_eq_getElem hi']), by have := h5 _ (List.getElem_mem hi'); omega⟩
end

section
variable {P : Program} (w : World)
theorem run_append_of_nil (base : Nat) (t ty e : TypeId) (i : TypeInfo) (size : Nat) (ht : P.underlying t = some (.slice e)) (hi : P.info? e = some i)
 (v : Value) (n : Nat) (xs : List Value) (hown : w.ownsRow base e size v n xs) (c : Nat) : (Builtin.append_ #[t, t] ty #[v, .slice none 0 c]).run P w = .ok v w := by
 rcases hown.2 with ⟨rfl, rfl⟩ | ⟨g, cap, cur, rfl, _, _, hnc, _⟩
 · simp [Builtin.append_, run_underlying ht, sizeOf, typeInfo, hi, Builtin.lenOf, Builtin.firstCells]
 · simp [Builtin.append_, run_underlying ht, sizeOf, typeInfo, hi, Builtin.lenOf, Builtin.firstCells, hnc, storeCells]

theorem run_append_rs (base : Nat) (t ty e : TypeId) (i : TypeInfo) (z : Value) (size bytes : Nat) (ht : P.underlying t = some (.slice e)) (hi : P.info? e = some i) (hz : i.zero = some z)
    (hsize : i.size = size) (hby : i.bytes = bytes) (hzs : z.cells.size = size) (hsz : 0 < size)
    (v : Value) (n : Nat) (xs : List Value) (hown : w.ownsRow base e size v n xs)
    (Q : Nat → Prop) (A : Option Addr) (m c : Nat) (news : List Value) (hr : RS w Q size A m c news) (h1 : ∀ u ∈ news, u.oneCell' = true)
    (h63 : n + m ≤ maxLen) (hbytes : (n + m) * bytes ≤ 140737488355328) (hbase : base ≤ w.heap.size) :
    ∃ A' c' w', (Builtin.append_ #[t, t] ty #[v, .slice A m c]).run P w = .ok (.slice A' (n + m) c') w' ∧ w'.ownsRow base e size (.slice A' (n + m) c') (n + m) (xs ++ news) ∧ w.grownBy w' v.ownBlock ∧
      ((Value.slice A' (n + m) c').ownBlock = v.ownBlock ∨ (Value.slice A' (n + m) c').ownBlock = some w.heap.size) := by
  rcases A with _ | ad
  · have hm : m = 0 := by
      rcases Nat.eq_zero_or_pos m with h0 | h0
      · exact h0
      · obtain ⟨ad, h, _⟩ := hr.2.2.2 h0
        cases h
    subst hm
    have hn : news = [] := List.eq_nil_of_length_eq_zero (by simpa using hr.2.2.1)
    subst hn
    obtain ⟨A', c', rfl⟩ := own_shape hown
    exact ⟨A', c', w, run_append_of_nil w base t ty e i size ht hi _ n xs hown c, by simpa using hown, World.grownBy.refl w _, .inl rfl⟩
  · have hcells : ∀ j u, news[j]? = some u → w.cell? (ad.add j) = some u := by
      intro j u hu
      rcases Nat.eq_zero_or_pos m with h0 | h0
      · subst h0
        have hn : news = [] := List.eq_nil_of_length_eq_zero (by simpa using hr.2.2.1)
        subst hn
        simp at hu
      · obtain ⟨ad', h, _, hc⟩ := hr.2.2.2 h0
        injection h with h
        subst h
        exact hc j u hu
    obtain ⟨v', w', hrun, h2, h3, _, h5⟩ := run_append_own_at (P := P) w base t ty e i z size bytes ht hi hz hsize hby hzs hsz v n xs hown ad m c news hr.2.2.1 hcells h1 h63 hbytes hbase
    obtain ⟨A', c', rfl⟩ := own_shape h2
    exact ⟨A', c', w', hrun, h2, h3, h5⟩

theorem wp_append_rs {o : Oper} {a : Act} {K : Act → World → Prop} {Q : Exit → Act → World → Prop} (s x : Operand) (t : TypeId)
 (ho : o.op = .call { callee := .builtin .append, args := #[s, x], argTypes := #[t, t] })
 (base : Nat) (e : TypeId) (i : TypeInfo) (z : Value) (size bytes : Nat) (ht : P.underlying t = some (.slice e)) (hi : P.info? e = some i) (hz : i.zero = some z)
 (hsize : i.size = size) (hby : i.bytes = bytes) (hzs : z.cells.size = size) (hsz : 0 < size)
 (v : Value) (n : Nat) (xs : List Value) (hs : a.eval s = v) (hown : w.ownsRow base e size v n xs)
 (B : Nat → Prop) (A : Option Addr) (m c : Nat) (news : List Value) (hx : a.eval x = .slice A m c) (hr : RS w B size A m c news) (h1 : ∀ u ∈ news, u.oneCell' = true)
 (k : Nat) (hk : n + m = k) (h63 : n + m ≤ maxLen) (hbytes : (n + m) * bytes ≤ 140737488355328) (hbase : base ≤ w.heap.size)
 (h : ∀ A' c' w', w'.ownsRow base e size (.slice A' k c') k (xs ++ news) → w.grownBy w' v.ownBlock → ((Value.slice A' k c').ownBlock = v.ownBlock ∨ (Value.slice A' k c').ownBlock = some w.heap.size) → K (a.put o.dst (.slice A' k c')) w') : o.wp P a w K Q := by
 subst hk
 obtain ⟨A', c', w', hrun, h2, h3, h4⟩ := run_append_rs (P := P) w base t o.type e i z size bytes ht hi hz hsize hby hzs hsz v n xs hown B A m c news hr h1 h63 hbytes hbase
 unfold Oper.wp execOp
 simp only [ho, resolve, invoke, builtin, Sem.run_bind, Sem.run_pure, Result.andThen_ok, List.map_toArray, List.map_cons, List.map_nil, hs, hx, hrun]
 exact h A' c' w' h2 h3 h4

theorem wpList_append_rs {ops : Array Oper} {rest : List Oper} {o : Oper} {a : Act} {Q : Exit → Act → World → Prop} (hgd : o.guard = none) (s x : Operand) (t : TypeId)
 (ho : o.op = .call { callee := .builtin .append, args := #[s, x], argTypes := #[t, t] })
 (base : Nat) (e : TypeId) (i : TypeInfo) (z : Value) (size bytes : Nat) (ht : P.underlying t = some (.slice e)) (hi : P.info? e = some i) (hz : i.zero = some z)
 (hsize : i.size = size) (hby : i.bytes = bytes) (hzs : z.cells.size = size) (hsz : 0 < size)
 (v : Value) (n : Nat) (xs : List Value) (hs : a.eval s = v) (hown : w.ownsRow base e size v n xs)
 (B : Nat → Prop) (A : Option Addr) (m c : Nat) (news : List Value) (hx : a.eval x = .slice A m c) (hr : RS w B size A m c news) (h1 : ∀ u ∈ news, u.oneCell' = true)
 (k : Nat) (hk : n + m = k) (h63 : n + m ≤ maxLen) (hbytes : (n + m) * bytes ≤ 140737488355328) (hbase : base ≤ w.heap.size)
 (h : ∀ A' c' w', w'.ownsRow base e size (.slice A' k c') k (xs ++ news) → w.grownBy w' v.ownBlock → ((Value.slice A' k c').ownBlock = v.ownBlock ∨ (Value.slice A' k c').ownBlock = some w.heap.size) → wpList P ops Q rest (a.put o.dst (.slice A' k c')) w') : wpList P ops Q (o :: rest) a w :=
 wpList_plain hgd fun _ hK => wp_append_rs w s x t ho base e i z size bytes ht hi hz hsize hby hzs hsz v n xs hs hown B A m c news hx hr h1 k hk h63 hbytes hbase fun A' c' w' h2 h3 h4 => hK _ _ (h A' c' w' h2 h3 h4)

end
end Go.Proofs.YtaemogcomplhiaaGreatDoor

namespace Go.Proofs.YtaemogcomplhiaaGreatDoor

def val (B : Nat) : List Nat → Nat
 | [] => 0
 | x :: l => x + B * val B l
def digs (B : Nat) (n : Nat) : List Nat := if _h : 2 ≤ B ∧ 0 < n then n % B :: digs B (n / B) else []
termination_by n
decreasing_by exact Nat.div_lt_self _h.2 _h.1

@[simp] theorem val_nil (B : Nat) : val B [] = 0 := rfl
@[simp] theorem val_cons (B x : Nat) (l : List Nat) : val B (x :: l) = x + B * val B l := rfl
theorem digs_zero (B : Nat) : digs B 0 = [] := by rw [digs]; simp
theorem digs_pos {B n : Nat} (hB : 2 ≤ B) (hn : 0 < n) : digs B n = n % B :: digs B (n / B) := by rw [digs]; simp [hB, hn]
theorem val_digs {B : Nat} (hB : 2 ≤ B) (n : Nat) : val B (digs B n) = n := by
  induction n using Nat.strongRecOn with
  | ind n ih =>
    rcases Nat.eq_zero_or_pos n with h | h
    · subst h; rw [digs_zero]; rfl
    · rw [digs_pos hB h, val_cons, ih _ (Nat.div_lt_self h hB)]
      exact Nat.mod_add_div n B
theorem digs_lt {B : Nat} (hB : 2 ≤ B) (n : Nat) : ∀ x ∈ digs B n, x < B := by
  induction n using Nat.strongRecOn with
  | ind n ih =>
    rcases Nat.eq_zero_or_pos n with h | h
    · subst h; rw [digs_zero]; simp
    · rw [digs_pos hB h]
      intro x hx
      rcases List.mem_cons.1 hx with rfl | hx
      · exact Nat.mod_lt _ (by omega)
      · exact ih _ (Nat.div_lt_self h hB) x hx
theorem val_append (B : Nat) (l m : List Nat) : val B (l ++ m) = val B l + B ^ l.length * val B m := by
 induction l with
 | nil => simp
 | cons x l ih => simp [ih, Nat.pow_succ, Nat.mul_add, Nat.mul_assoc, Nat.mul_comm, Nat.add_assoc]
theorem val_lt {B : Nat} {l : List Nat} (h : ∀ x ∈ l, x < B) : val B l < B ^ l.length := by
  induction l with
  | nil => simp
  | cons x l ih =>
    have h1 := h x (by simp)
    have h2 := ih fun y hy => h y (by simp [hy])
    simp only [val_cons, List.length_cons, Nat.pow_succ]
    have : B * (val B l + 1) ≤ B * B ^ l.length := Nat.mul_le_mul_left _ h2
    rw [Nat.mul_add] at this
    rw [Nat.mul_comm (B ^ l.length)]
    omega
theorem val_zeros {B : Nat} {l : List Nat} (h : ∀ x ∈ l, x = 0) : val B l = 0 := by
 induction l with
 | nil => rfl
 | cons x l ih => rw [val_cons, h x (by simp), ih fun y hy => h y (by simp [hy])]; simp
theorem val_replicate (B n : Nat) : val B (List.replicate n 0) = 0 := val_zeros (by simp)
theorem val_take_drop (B : Nat) (l : List Nat) {n : Nat} (hn : n ≤ l.length) : val B l = val B (l.take n) + B ^ n * val B (l.drop n) := by
 have := val_append B (l.take n) (l.drop n)
 rwa [List.take_append_drop, List.length_take, Nat.min_eq_left hn] at this
theorem val_take_succ (B : Nat) {l : List Nat} {n : Nat} (hn : n < l.length) : val B (l.take (n + 1)) = val B (l.take n) + B ^ n * l[n] := by
 rw [List.take_succ_eq_append_getElem hn, val_append, List.length_take, Nat.min_eq_left (by omega)]
 simp
theorem val_set (B : Nat) {l : List Nat} {n : Nat} (hn : n < l.length) (x : Nat) : val B (l.set n x) + B ^ n * l[n] = val B l + B ^ n * x := by
 have h1 := val_take_drop B l (Nat.le_of_lt hn)
 have h2 := val_take_drop B (l.set n x) (n := n) (by simp; omega)
 have h3 : l.drop n = l[n] :: l.drop (n + 1) := List.drop_eq_getElem_cons hn
 have h4 : (l.set n x).drop n = x :: l.drop (n + 1) := by
  rw [List.drop_set, if_neg (Nat.lt_irrefl _), h3, Nat.sub_self, List.set_cons_zero]
 have h5 : (l.set n x).take n = l.take n := by rw [List.take_set]; apply List.set_eq_of_length_le; simp; omega
 rw [h4, h5, val_cons] at h2
 rw [h3, val_cons] at h1
 rw [h1, h2]
 simp only [Nat.mul_add]
 omega
theorem digs_val {B : Nat} (hB : 2 ≤ B) : ∀ {l : List Nat}, (∀ x ∈ l, x < B) → (∀ h : l ≠ [], l.getLast h ≠ 0) → digs B (val B l) = l
  | [], _, _ => digs_zero B
  | x :: l, h, hl => by
    have hx := h x (by simp)
    have hpos : 0 < val B (x :: l) := by
      rcases Nat.eq_zero_or_pos (val B (x :: l)) with h0 | h0
      · exfalso
        have hz : ∀ (m : List Nat) (hm : m ≠ []), val B m = 0 → m.getLast hm = 0 := by
          intro m
          induction m with
          | nil => intro hm; exact absurd rfl hm
          | cons y m ih =>
            intro hm hv
            rw [val_cons] at hv
            have hy : y = 0 := by omega
            have hB0 : B * val B m = 0 := by omega
            rcases Nat.mul_eq_zero.1 hB0 with h' | h'
            · omega
            · rcases m with _ | ⟨z, m⟩
              · simpa using hy
              · rw [List.getLast_cons (by simp)]; exact ih (by simp) h'
        exact hl (by simp) (hz _ _ h0)
      · exact h0
    rw [digs_pos hB hpos]
    have e1 : val B (x :: l) % B = x := by rw [val_cons, Nat.add_mul_mod_self_left, Nat.mod_eq_of_lt hx]
    have e2 : val B (x :: l) / B = val B l := by rw [val_cons, Nat.add_mul_div_left _ _ (by omega), Nat.div_eq_of_lt hx]; omega
    rw [e1, e2, digs_val hB (fun y hy => h y (by simp [hy])) fun hne => by
      have := hl (by simp)
      rwa [List.getLast_cons hne] at this]
theorem digs_last {B : Nat} (hB : 2 ≤ B) (n : Nat) (h : digs B n ≠ []) : (digs B n).getLast h ≠ 0 := by
  induction n using Nat.strongRecOn with
  | ind n ih =>
    rcases Nat.eq_zero_or_pos n with h0 | h0
    · subst h0; exact absurd (digs_zero B) h
    · rcases Nat.eq_zero_or_pos (n / B) with h1 | h1
      · have e : digs B n = [n % B] := by rw [digs_pos hB h0, h1, digs_zero]
        have hlt : n < B := by rcases Nat.lt_or_ge n B with h | h; exact h; have := Nat.div_pos h (by omega); omega
        simp only [e, List.getLast_singleton]
        rw [Nat.mod_eq_of_lt hlt]; omega
      · have e := digs_pos hB h0
        have hne : digs B (n / B) ≠ [] := by rw [digs_pos hB h1]; simp
        simp only [e, List.getLast_cons hne]
        exact ih _ (Nat.div_lt_self h0 hB) hne
theorem take_digs {B : Nat} (hB : 2 ≤ B) {l : List Nat} (hl : ∀ x ∈ l, x < B) {n : Nat} (hn : n ≤ l.length) (hz : ∀ x ∈ l.drop n, x = 0) (h0 : 0 < n → l.getD (n - 1) 0 ≠ 0) : l.take n = digs B (val B l) := by
 have e : val B l = val B (l.take n) := by rw [val_take_drop B l hn, val_zeros hz]; simp
 rw [e]
 refine (digs_val hB (fun x hx => hl x (List.mem_of_mem_take hx)) fun hne => ?_).symm
 have hn0 : 0 < n := by
  rcases Nat.eq_zero_or_pos n with h | h
  · subst h; simp at hne
  · exact h
 have := h0 hn0
 rw [List.getLast_eq_getElem, List.getElem_take]
 simp only [List.length_take, Nat.min_eq_left hn]
 rwa [List.getD_eq_getElem?_getD, List.getElem?_eq_getElem (by omega), Option.getD_some] at this
theorem digs_length_le {B : Nat} (hB : 2 ≤ B) {l : List Nat} (hl : ∀ x ∈ l, x < B) : (digs B (val B l)).length ≤ l.length := by
  rcases Nat.lt_or_ge l.length (digs B (val B l)).length with h | h
  · exfalso
    have h1 := val_lt hl
    have hne : digs B (val B l) ≠ [] := by intro e; rw [e] at h; simp at h
    have h2 : B ^ ((digs B (val B l)).length - 1) ≤ val B l := by
      generalize val B l = v at hne ⊢
      have := digs_last hB v hne
      have h3 := val_digs hB v
      obtain ⟨m, x, hm⟩ : ∃ m x, digs B v = m ++ [x] := ⟨_, _, (List.dropLast_concat_getLast hne).symm⟩
      have hx : x ≠ 0 := by have h4 : (digs B v).getLast hne = x := by simp [hm]
                            rw [h4] at this; exact this
      rw [hm, val_append] at h3
      rw [hm]
      simp at h3 ⊢
      rw [← h3]
      have : B ^ m.length * 1 ≤ B ^ m.length * x := Nat.mul_le_mul_left _ (by omega)
      omega
    have h3 : B ^ l.length ≤ B ^ ((digs B (val B l)).length - 1) := Nat.pow_le_pow_right (by omega) (by omega)
    omega
  · exact h
theorem pow_digs_le {B : Nat} (hB : 2 ≤ B) {v : Nat} (hv : 0 < v) : B ^ ((digs B v).length - 1) ≤ v := by
 have hne : digs B v ≠ [] := by rw [digs_pos hB hv]; simp
 have := digs_last hB v hne
 have h3 := val_digs hB v
 obtain ⟨m, x, hm⟩ : ∃ m x, digs B v = m ++ [x] := ⟨_, _, (List.dropLast_concat_getLast hne).symm⟩
 have hx : x ≠ 0 := by
  have h4 : (digs B v).getLast hne = x := by simp [hm]
  rw [h4] at this; exact this
 rw [hm, val_append] at h3
 rw [hm]
 simp at h3 ⊢
 rw [← h3]
 have : B ^ m.length * 1 ≤ B ^ m.length * x := Nat.mul_le_mul_left _ (by omega)
 omega
theorem lt_pow_digs {B : Nat} (hB : 2 ≤ B) (v : Nat) : v < B ^ (digs B v).length := by
 have := val_lt (digs_lt hB v)
 rwa [val_digs hB] at this
theorem digs_length_of_lt {B : Nat} (hB : 2 ≤ B) {v n : Nat} (h : v < B ^ n) : (digs B v).length ≤ n := by
 rcases Nat.eq_zero_or_pos v with h0 | h0
 · subst h0; rw [digs_zero]; simp
 · have h1 := pow_digs_le hB h0
   rcases Nat.lt_or_ge n (digs B v).length with h2 | h2
   · have : B ^ n ≤ B ^ ((digs B v).length - 1) := Nat.pow_le_pow_right (by omega) (by omega)
     omega
   · exact h2
theorem digs_length_mono {B : Nat} (hB : 2 ≤ B) {m n : Nat} (h : m ≤ n) : (digs B m).length ≤ (digs B n).length :=
 digs_length_of_lt hB (Nat.lt_of_le_of_lt h (lt_pow_digs hB n))
theorem lt_of_digs_length {B : Nat} (hB : 2 ≤ B) {m n : Nat} (h : (digs B m).length < (digs B n).length) : m < n := by
 rcases Nat.lt_or_ge m n with h1 | h1
 · exact h1
 · have := digs_length_mono hB h1; omega
theorem val_lt_of {B : Nat} {l m : List Nat} (hl : ∀ x ∈ l, x < B) (hlen : l.length = m.length) {i : Nat} (hi : i < l.length) (hd : l.drop (i + 1) = m.drop (i + 1)) (h : l[i] < m[i]'(by omega)) : val B l < val B m := by
 have h1 := val_take_drop B l (n := i + 1) (by omega)
 have h2 := val_take_drop B m (n := i + 1) (by omega)
 rw [val_take_succ B hi] at h1
 rw [val_take_succ B (by omega)] at h2
 have h3 : val B (l.take i) < B ^ i := by
  have := val_lt (B := B) (l := l.take i) fun x hx => hl x (List.mem_of_mem_take hx)
  rwa [List.length_take, Nat.min_eq_left (by omega)] at this
 have h4 : B ^ i * (l[i] + 1) ≤ B ^ i * m[i]'(by omega) := Nat.mul_le_mul_left _ h
 rw [Nat.mul_add] at h4
 rw [hd] at h1
 omega
end Go.Proofs.YtaemogcomplhiaaGreatDoor

namespace Go.Proofs.YtaemogcomplhiaaGreatDoor

def dg (l : List Nat) (i : Nat) : Nat := l.getD i 0

theorem getD_eq' {l : List Nat} {i : Nat} (h : i < l.length) : l.getD i 0 = l[i] := by
 rw [List.getD_eq_getElem?_getD, List.getElem?_eq_getElem h, Option.getD_some]
theorem val_take_getD (B : Nat) (l : List Nat) (k : Nat) : val B (l.take (k + 1)) = val B (l.take k) + B ^ k * dg l k := by
 rcases Nat.lt_or_ge k l.length with h | h
 · rw [val_take_succ B h, dg, List.getD_eq_getElem?_getD, List.getElem?_eq_getElem h, Option.getD_some]
 · rw [List.take_of_length_le (by omega), List.take_of_length_le h, dg, List.getD_eq_getElem?_getD, List.getElem?_eq_none h]
   simp
theorem val_take_set (B : Nat) {o : List Nat} {k : Nat} (h : k < o.length) (s : Nat) : val B ((o.set k s).take (k + 1)) = val B (o.take k) + B ^ k * s := by
 rw [val_take_getD, List.take_set, List.set_eq_of_length_le (by simp; omega), dg, List.getD_eq_getElem?_getD, List.getElem?_set_self h, Option.getD_some]
def AddAt (B : Nat) (a b o : List Nat) (k c : Nat) : Prop := val B (o.take k) + B ^ k * c = val B (a.take k) + val B (b.take k)
theorem AddAt.zero (B : Nat) (a b o : List Nat) : AddAt B a b o 0 0 := by simp [AddAt]
theorem AddAt.step {B : Nat} {a b o : List Nat} {k c s c' : Nat} (h : AddAt B a b o k c) (hk : k < o.length) (he : s + B * c' = dg a k + dg b k + c) : AddAt B a b (o.set k s) (k + 1) c' := by
 unfold AddAt at *
 rw [val_take_set B hk, val_take_getD, val_take_getD, Nat.pow_succ]
 have : B ^ k * (s + B * c') = B ^ k * (dg a k + dg b k + c) := by rw [he]
 simp only [Nat.mul_add, ← Nat.mul_assoc] at this
 omega
theorem AddAt.fin {B : Nat} {a b o : List Nat} {k c : Nat} (h : AddAt B a b o k c) (hk : o.length = k + 1) (ha : a.length ≤ k) (hb : b.length ≤ k) : val B (o.set k c) = val B a + val B b := by
 unfold AddAt at h
 rw [List.take_of_length_le ha, List.take_of_length_le hb] at h
 have := val_take_set B (o := o) (k := k) (by omega) c
 rw [List.take_of_length_le (by simp; omega)] at this
 rw [this, h]
def SubAt (B : Nat) (a b o : List Nat) (k c : Nat) : Prop := val B (o.take k) + val B (b.take k) = val B (a.take k) + B ^ k * c
theorem SubAt.zero (B : Nat) (a b o : List Nat) : SubAt B a b o 0 0 := by simp [SubAt]
theorem SubAt.step {B : Nat} {a b o : List Nat} {k c s c' : Nat} (h : SubAt B a b o k c) (hk : k < o.length) (he : s + dg b k + c = dg a k + B * c') : SubAt B a b (o.set k s) (k + 1) c' := by
 unfold SubAt at *
 rw [val_take_set B hk, val_take_getD, val_take_getD, Nat.pow_succ]
 have : B ^ k * (s + dg b k + c) = B ^ k * (dg a k + B * c') := by rw [he]
 simp only [Nat.mul_add, ← Nat.mul_assoc] at this
 omega
theorem SubAt.fin {B : Nat} {a b o : List Nat} {k c : Nat} (h : SubAt B a b o k c) (hk : o.length = k) (ho : ∀ x ∈ o, x < B) (ha : a.length = k) (hb : b.length ≤ k) (hle : val B b ≤ val B a) : val B o = val B a - val B b := by
 unfold SubAt at h
 rw [List.take_of_length_le (by omega), List.take_of_length_le hb, List.take_of_length_le (by omega)] at h
 have h1 := val_lt ho
 rw [hk] at h1
 rcases Nat.eq_zero_or_pos c with h0 | h0
 · subst h0; omega
 · have : B ^ k * 1 ≤ B ^ k * c := Nat.mul_le_mul_left _ h0
   omega
def MulAt (B : Nat) (o0 b : List Nat) (x i : Nat) (o : List Nat) (j c : Nat) : Prop :=
 o.length = o0.length ∧ val B o + B ^ (i + j) * c = val B o0 + B ^ i * (x * val B (b.take j)) ∧ (∀ n, i + j ≤ n → dg o n = dg o0 n)
theorem MulAt.zero (B : Nat) (o0 b : List Nat) (x i : Nat) : MulAt B o0 b x i o0 0 0 := by simp [MulAt]
theorem getD_set_ne {l : List Nat} {i j x : Nat} (h : i ≠ j) : dg (l.set i x) j = dg l j := by
 simp [dg, List.getD_eq_getElem?_getD, List.getElem?_set_ne h]
theorem getD_set_eq {l : List Nat} {i x : Nat} (h : i < l.length) : dg (l.set i x) i = x := by
 simp [dg, List.getD_eq_getElem?_getD, List.getElem?_set_self h]
theorem getD_eq {l : List Nat} {i : Nat} (h : i < l.length) : dg l i = l[i] := by
 rw [dg, List.getD_eq_getElem?_getD, List.getElem?_eq_getElem h, Option.getD_some]
theorem val_set' (B : Nat) {l : List Nat} {n : Nat} (hn : n < l.length) (x : Nat) : val B (l.set n x) + B ^ n * dg l n = val B l + B ^ n * x := by
 rw [getD_eq hn]; exact val_set B hn x
theorem MulAt.step {B : Nat} {o0 b o : List Nat} {x i j c s c' : Nat} (h : MulAt B o0 b x i o j c) (hk : i + j < o.length) (he : s + B * c' = x * dg b j + dg o (i + j) + c) :
 MulAt B o0 b x i (o.set (i + j) s) (j + 1) c' := by
 obtain ⟨h1, h2, h3⟩ := h
 refine ⟨by simpa using h1, ?_, fun n hn => by rw [getD_set_ne (by omega), h3 n (by omega)]⟩
 have hs := val_set' B hk s
 rw [val_take_getD, ← Nat.add_assoc, Nat.pow_succ]
 have e1 : B ^ (i + j) * (s + B * c') = B ^ (i + j) * (x * dg b j + dg o (i + j) + c) := by rw [he]
 simp only [Nat.mul_add, ← Nat.mul_assoc] at e1 ⊢
 have e2 : B ^ i * x * B ^ j * dg b j = B ^ (i + j) * x * dg b j := by
  rw [Nat.pow_add]; simp only [Nat.mul_comm, Nat.mul_assoc]
 simp only [← Nat.mul_assoc] at h2
 omega
theorem MulAt.fin {B : Nat} {o0 b o : List Nat} {x i n c : Nat} (h : MulAt B o0 b x i o n c) (hn : b.length = n) (hk : i + n < o.length) (h0 : dg o0 (i + n) = 0) : val B (o.set (i + n) c) = val B o0 + B ^ i * (x * val B b) := by
 obtain ⟨h1, h2, h3⟩ := h
 have hs := val_set' B hk c
 rw [h3 _ (Nat.le_refl _), h0] at hs
 rw [List.take_of_length_le (by omega)] at h2
 omega
def RowAt (B : Nat) (a b o : List Nat) (i : Nat) : Prop := o.length = a.length + b.length ∧ val B o = val B (a.take i) * val B b ∧ ∀ n, i + b.length ≤ n → dg o n = 0
theorem RowAt.zero (B : Nat) (a b : List Nat) : RowAt B a b (List.replicate (a.length + b.length) 0) 0 := by
 refine ⟨by simp, by simp [val_replicate], fun n _ => ?_⟩
 rw [dg, List.getD_eq_getElem?_getD, List.getElem?_replicate]
 split <;> rfl
theorem RowAt.step {B : Nat} {a b o0 o : List Nat} {i c : Nat} (h : RowAt B a b o0 i) (hi : i < a.length) (hm : MulAt B o0 b (dg a i) i o b.length c) : RowAt B a b (o.set (i + b.length) c) (i + 1) := by
 obtain ⟨h1, h2, h3⟩ := h
 have hl := hm.1
 refine ⟨by simpa [hl] using h1, ?_, fun n hn => ?_⟩
 · rw [hm.fin rfl (by omega) (h3 _ (Nat.le_refl _)), h2, val_take_getD, Nat.add_mul, Nat.mul_assoc]
 · rw [getD_set_ne (by omega), hm.2.2 n (by omega), h3 n (by omega)]
theorem RowAt.fin {B : Nat} {a b o : List Nat} (h : RowAt B a b o a.length) : val B o = val B a * val B b := by
 have := h.2.1
 rwa [List.take_length] at this
theorem set_lt {B : Nat} {o : List Nat} (h : ∀ x ∈ o, x < B) {k s : Nat} (hs : s < B) : ∀ x ∈ o.set k s, x < B := by
 intro x hx
 rcases List.mem_or_eq_of_mem_set hx with hx | rfl
 · exact h x hx
 · exact hs
theorem mul_bound {B x y u c : Nat} (hx : x < B) (hy : y < B) (hu : u < B) (hc : c < B) : x * y + u + c < B * B := by
 obtain ⟨n, rfl⟩ : ∃ n, B = n + 1 := ⟨B - 1, by omega⟩
 have : x * y ≤ n * n := Nat.mul_le_mul (by omega) (by omega)
 simp only [Nat.add_mul, Nat.mul_add, Nat.mul_one, Nat.one_mul]
 omega
theorem getD_lt {B : Nat} (hB : 0 < B) {l : List Nat} (h : ∀ x ∈ l, x < B) (i : Nat) : dg l i < B := by
 rcases Nat.lt_or_ge i l.length with hi | hi
 · rw [getD_eq hi]; exact h _ (List.getElem_mem hi)
 · rw [dg, List.getD_eq_getElem?_getD, List.getElem?_eq_none hi]; exact hB
end Go.Proofs.YtaemogcomplhiaaGreatDoor

namespace Go.Proofs
open Go.Shelf
def Tryz.lays134_ren : Go.Shelf.Ren := ⟨fun | 134 => 121 | 129 => 89 | n => n, fun | 53 => 65 | 3 => 3 | 4 => 4 | 46 => 81 | 5 => 5 | 9 => 9 | n => n, fun | n => n⟩
theorem Tryz.lays134 : Go.Proofs.Lays.n134 Tryz.prog Tryz.lays134_ren := {
 mixed := by kernel_rfl
 f129 := Tryz.func89.trans (congrArg some (by kernel_rfl))
 f134 := Tryz.func121.trans (congrArg some (by kernel_rfl))
 t3 := Tryz.underlying3
 a3 := Tryz.isAgg3
 z3 := Tryz.sizeOf3
 v3 := Tryz.zeroValue3
 t4 := Tryz.underlying4
 a4 := Tryz.isAgg4
 z4 := Tryz.sizeOf4
 v4 := Tryz.zeroValue4
 t5 := Tryz.underlying5
 a5 := Tryz.isAgg5
 z5 := Tryz.sizeOf5
 v5 := Tryz.zeroValue5
 t9 := Tryz.underlying9
 a9 := Tryz.isAgg9
 z9 := Tryz.sizeOf9
 v9 := Tryz.zeroValue9
 t46 := Tryz.underlying81
 a46 := Tryz.isAgg81
 z46 := Tryz.sizeOf81
 v46 := Tryz.zeroValue81
 t53 := Tryz.underlying65
 a53 := Tryz.isAgg65
 z53 := Tryz.sizeOf65
 v53 := Tryz.zeroValue65 }
theorem Tryz.bits_LeadingZeros64 (x : Int) (w : World) (h0 : 0 ≤ x) (h1 : x ≤ 18446744073709551615) :
 Calls Tryz.prog 121 #[.int .u64 x] w fun e w' => e = .returned (.int .i64 (64 - (Lib.bitLen x.toNat : Int))) ∧ w' = w := Any.bits_LeadingZeros64 Tryz.lays134 x w h0 h1
def Tryz.lays129_ren : Go.Shelf.Ren := ⟨fun | 129 => 89 | n => n, fun | 53 => 65 | 3 => 3 | 4 => 4 | 46 => 81 | 5 => 5 | 9 => 9 | n => n, fun | n => n⟩
theorem Tryz.lays129 : Go.Proofs.Lays.n129 Tryz.prog Tryz.lays129_ren := {
 mixed := by kernel_rfl
 f129 := Tryz.func89.trans (congrArg some (by kernel_rfl))
 t3 := Tryz.underlying3
 a3 := Tryz.isAgg3
 z3 := Tryz.sizeOf3
 v3 := Tryz.zeroValue3
 t4 := Tryz.underlying4
 a4 := Tryz.isAgg4
 z4 := Tryz.sizeOf4
 v4 := Tryz.zeroValue4
 t5 := Tryz.underlying5
 a5 := Tryz.isAgg5
 z5 := Tryz.sizeOf5
 v5 := Tryz.zeroValue5
 t9 := Tryz.underlying9
 a9 := Tryz.isAgg9
 z9 := Tryz.sizeOf9
 v9 := Tryz.zeroValue9
 t46 := Tryz.underlying81
 a46 := Tryz.isAgg81
 z46 := Tryz.sizeOf81
 v46 := Tryz.zeroValue81
 t53 := Tryz.underlying65
 a53 := Tryz.isAgg65
 z53 := Tryz.sizeOf65
 v53 := Tryz.zeroValue65 }
theorem Tryz.bits_Len64 (x : Int) (w : World) (h0 : 0 ≤ x) (h1 : x ≤ 18446744073709551615) :
 Calls Tryz.prog 89 #[.int .u64 x] w fun e w' => e = .returned (.int .i64 (Lib.bitLen x.toNat)) ∧ w' = w := Any.bits_Len64 Tryz.lays129 x w h0 h1
def Tryz.lays264_ren : Go.Shelf.Ren := ⟨fun | 264 => 98 | n => n, fun | 53 => 65 | 46 => 81 | n => n, fun | n => n⟩
theorem Tryz.lays264 : Go.Proofs.Lays.n264 Tryz.prog Tryz.lays264_ren := {
 mixed := by kernel_rfl
 f264 := Tryz.func98.trans (congrArg some (by kernel_rfl))
 t46 := Tryz.underlying81
 a46 := Tryz.isAgg81
 z46 := Tryz.sizeOf81
 v46 := Tryz.zeroValue81
 t53 := Tryz.underlying65
 a53 := Tryz.isAgg65
 z53 := Tryz.sizeOf65
 v53 := Tryz.zeroValue65 }
open Go.RowKit Go.Lib in
theorem Tryz.bits_Mul64 (x y : Nat) (hx : x < 18446744073709551616) (hy : y < 18446744073709551616) (w : World) :
 Calls Tryz.prog 98 #[.int .u64 x, .int .u64 y] w fun e w' => e = .returned (.tuple #[.int .u64 ((x * y / 18446744073709551616 : Nat) : Int), .int .u64 ((x * y % 18446744073709551616 : Nat) : Int)]) ∧ w' = w := Any.bits_Mul64 Tryz.lays264 x y hx hy w

theorem Tryz.add64_run (x y c : Nat) (hc : c ≤ 1) (w : World) :
 (callFunc 90 #[.int .u64 x, .int .u64 y, .int .u64 c]).run Tryz.prog w =
  .ok (.value (.tuple #[.int .u64 (((x + y + c) % 18446744073709551616 : Nat) : Int), .int .u64 (((x + y + c) / 18446744073709551616 : Nat) : Int)])) w := by
 rw [run_callFunc_extern Tryz.func90 (by kernel_rfl) (by kernel_rfl) (by kernel_rfl) (e := add64Entry) (by kernel_rfl), run_add64 x y c (by omega) (by omega) (by omega) (by omega)]
 simp only [Result.andThen]
 congr 5 <;> omega
theorem Tryz.sub64_run (x y b : Nat) (hb : b ≤ 1) (w : World) :
 (callFunc 93 #[.int .u64 x, .int .u64 y, .int .u64 b]).run Tryz.prog w =
  .ok (.value (.tuple #[.int .u64 (((x + 18446744073709551616 - y - b) % 18446744073709551616 : Nat) : Int), .int .u64 ((if x < y + b then 1 else 0 : Nat) : Int)])) w := by
 rw [run_callFunc_extern Tryz.func93 (by kernel_rfl) (by kernel_rfl) (by kernel_rfl) (e := sub64Entry) (by kernel_rfl), run_sub64 x y b hb]
 rfl
end Go.Proofs

namespace Go.Proofs.YtaemogcomplhiaaGreatDoor
open Go.RowKit

theorem eqB {a b : Int} (h : a ≠ b) : (a == b) = false := by simpa using h
theorem neB {a b : Int} (h : a ≠ b) : (a != b) = true := by simpa using h
theorem drewN_add (w : World) (n m : Nat) : (w.drewN n).drewN m = w.drewN (n + m) := by simp [World.drewN, Nat.add_assoc]
theorem drewN_3 (w : World) (n m k : Nat) : ((w.drewN n).drewN m).drewN k = w.drewN (n + m + k) := by simp [World.drewN, Nat.add_assoc]
theorem add_succ (a : Addr) (n : Nat) : a.add (n + 1) = ⟨a.block, a.off + (n + 1), none⟩ := by simp [Addr.add]
theorem dr1 (w : World) (n : Nat) : ∃ k, w.drewN n = w.drewN k := ⟨n, rfl⟩
theorem dr2 (w : World) (n m : Nat) : ∃ k, (w.drewN n).drewN m = w.drewN k := ⟨_, drewN_add _ _ _⟩
theorem dr3 (w : World) (n m k : Nat) : ∃ d, ((w.drewN n).drewN m).drewN k = w.drewN d := ⟨_, drewN_3 _ _ _ _⟩
theorem add_blk (g j : Nat) : (⟨g, 0, none⟩ : Addr).add j = ⟨g, j, none⟩ := by
 rcases Nat.eq_zero_or_pos j with h | h
 · subst h; rfl
 · simp [Addr.add, Nat.pos_iff_ne_zero.1 h]
def nts (l : List Nat) : List Value := l.map fun x : Nat => .int .u64 (x : Int)
theorem nts_length (l : List Nat) : (nts l).length = l.length := by simp [nts]
theorem nts_get {l : List Nat} {i : Nat} (h : i < l.length) : (nts l)[i]? = some (.int .u64 (dg l i : Int)) := by
 rw [getD_eq h]; simp [nts, List.getElem?_eq_getElem h]
theorem nts_take (l : List Nat) (n : Nat) : (nts l).take n = nts (l.take n) := by simp [nts]
theorem oneCell_nts (l : List Nat) : ∀ u ∈ nts l, u.oneCell' = true := by
 intro u hu
 obtain ⟨x, _, rfl⟩ := List.mem_map.1 hu
 rfl

def Lim (l : List Nat) : Prop := (∀ x ∈ l, x < 18446744073709551616) ∧ l.length ≤ 1000000
def RN (w : World) (P : Nat → Prop) (A : Option Addr) (c : Nat) (l : List Nat) : Prop := RS w P 1 A l.length c (nts l) ∧ Lim l
def Blk (w : World) (g : Nat) (l : List Nat) : Prop := w.heap[g]? = some (.cells (nts l).toArray 65 (0, 0))
def OB (w : World) (base : Nat) (A : Option Addr) (c : Nat) (l : List Nat) : Prop :=
 Lim l ∧ l.length ≤ c ∧ c ≤ maxLen ∧ (0 < l.length → ∃ g cur, A = some ⟨g, 0, none⟩ ∧ base ≤ g ∧ w.heap[g]? = some (.cells cur 65 (0, 0)) ∧ ∀ (j : Nat) u, (nts l)[j]? = some u → cur[j]? = some u)

section
variable {w w' : World} {P P' : Nat → Prop} {A : Option Addr} {c g base : Nat} {l : List Nat}
theorem Lim.nil_ : Lim [] := ⟨by simp, by simp⟩
theorem Lim.take (h : Lim l) (n : Nat) : Lim (l.take n) := ⟨fun x hx => h.1 x (List.mem_of_mem_take hx), by rw [List.length_take]; have := h.2; omega⟩
theorem Lim.set (h : Lim l) (i x : Nat) (hx : x < 18446744073709551616) : Lim (l.set i x) := ⟨set_lt h.1 hx, by simpa using h.2⟩
theorem Lim.dgLt (h : Lim l) (i : Nat) : dg l i < 18446744073709551616 := getD_lt (by omega) h.1 i
theorem Lim.digs {B v : Nat} (hB : 2 ≤ B) (hB' : B ≤ 18446744073709551616) (hl : v < B ^ 1000000) : Lim (digs B v) := ⟨fun x hx => Nat.lt_of_lt_of_le (digs_lt hB v x hx) hB', digs_length_of_lt hB hl⟩
theorem Lim.trim (h : Lim l) : ∃ n, n ≤ l.length ∧ Go.Proofs.YtaemogcomplhiaaGreatDoor.digs 18446744073709551616 (val 18446744073709551616 l) = l.take n := by
  refine ⟨(Go.Proofs.YtaemogcomplhiaaGreatDoor.digs 18446744073709551616 (val 18446744073709551616 l)).length, digs_length_le (by omega) h.1, ?_⟩
  obtain ⟨n, hn, hz, h0⟩ : ∃ n, n ≤ l.length ∧ (∀ x ∈ l.drop n, x = 0) ∧ (0 < n → dg l (n - 1) ≠ 0) := by
    have : ∀ k, k ≤ l.length → (∀ x ∈ l.drop k, x = 0) → ∃ n, n ≤ l.length ∧ (∀ x ∈ l.drop n, x = 0) ∧ (0 < n → dg l (n - 1) ≠ 0) := by
      intro k
      induction k with
      | zero => intro _ hz; exact ⟨0, by omega, hz, by omega⟩
      | succ k ih =>
        intro hk hz
        by_cases h : dg l k = 0
        · refine ih (by omega) fun x hx => ?_
          rw [List.drop_eq_getElem_cons (by omega : k < l.length)] at hx
          rcases List.mem_cons.1 hx with rfl | hx
          · rwa [getD_eq (by omega)] at h
          · exact hz x hx
        · exact ⟨k + 1, hk, hz, fun _ => by simpa using h⟩
    exact this l.length (Nat.le_refl _) (by simp)
  have h1 := take_digs (B := 18446744073709551616) (by omega) h.1 hn hz h0
  rw [← h1, List.length_take, Nat.min_eq_left hn]
theorem RN.keep (h : RN w P A c l) (hk : ∀ p : Addr, P p.block → w'.cell? p = w.cell? p) : RN w' P A c l := ⟨h.1.keep hk, h.2⟩
theorem RN.mono (h : RN w P A c l) (hp : ∀ b, P b → P' b) : RN w P' A c l := ⟨h.1.mono hp, h.2⟩
theorem RN.below {B : Nat} (h : RN w P A c l) (hb : Below B w w') (hB : ∀ b, P b → b < B) : RN w' P A c l := ⟨h.1.below hb hB, h.2⟩
theorem RN.drewN (h : RN w P A c l) (n : Nat) : RN (w.drewN n) P A c l := h
theorem RN.cap (h : RN w P A c l) : l.length ≤ c ∧ c ≤ 9223372036854775807 ∧ l.length ≤ 1000000 := ⟨h.1.1, h.1.2.1, h.2.2⟩
theorem RN.nil_ (w : World) (P : Nat → Prop) : RN w P none 0 [] := ⟨RS.nil_ _ _ _, Lim.nil_⟩
theorem RN.take (h : RN w P A c l) (n : Nat) : RN w P A c (l.take n) := by
 by_cases hn : n ≤ l.length
 · refine ⟨?_, h.2.take n⟩
   have := h.1.pre hn
   rw [Nat.mul_one, nts_take] at this
   rwa [List.length_take, Nat.min_eq_left hn]
 · rw [List.take_of_length_le (by omega)]; exact h
theorem RN.at_ (h : RN w P A c l) {i : Nat} (hi' : i < l.length) : ∃ ad, A = some ad ∧ P ad.block ∧ w.cell? (ad.add i) = some (.int .u64 (dg l i : Int)) := by
 obtain ⟨⟨h1, h2, h3, h4⟩, h5⟩ := h
 obtain ⟨ad, rfl, hb, hc⟩ := h4 (by omega)
 exact ⟨ad, rfl, hb, hc _ _ (nts_get hi')⟩
theorem RN.cells {ad : Addr} (h : RN w P (some ad) c l) : ∀ i, i < l.length → w.cell? (ad.add i) = some (.int .u64 (dg l i : Int)) := by
 intro i hi
 obtain ⟨ad', e, _, hc⟩ := h.at_ hi
 cases e
 exact hc
theorem RN.lt (h : RN w P A c l) (i : Nat) : (dg l i : Int) < 18446744073709551616 := by have := h.2.dgLt i; omega
theorem Blk.cell (h : Blk w g l) {i : Nat} (hi : i < l.length) : w.cell? ⟨g, i, none⟩ = some (.int .u64 (dg l i : Int)) := by
 rw [blk_cell h i, List.getElem?_toArray, nts_get hi]
theorem Blk.free (h : Blk w g l) (i : Nat) : w.frozen? ⟨g, i, none⟩ = false := blk_free h i
theorem Blk.lt (h : Blk w g l) : g < w.heap.size := blk_lt h
theorem Blk.set (h : Blk w g l) (i : Nat) (x : Nat) : Blk (w.setCell ⟨g, i, none⟩ (.int .u64 (x : Int))) g (l.set i x) := by
 unfold Blk at *
 simp [World.setCell, Array.getElem?_modify, h, nts]
theorem Blk.below {B : Nat} (h : Blk w g l) (hb : Below B w w') (hg : g < B) : Blk w' g l := (hb.block g hg).trans h
theorem Blk.drewN (h : Blk w g l) (n : Nat) : Blk (w.drewN n) g l := h
theorem Blk.other (h : Blk w g l) {p : Addr} (hp : g ≠ p.block) (v : Value) : Blk (w.setCell p v) g l := (Below.heap_setCell w p v g hp).trans h
theorem Blk.alloc (h : Blk w g l) (o : Obj) : Blk (w.alloc o) g l := (Below.heap_alloc w o g (blk_lt h)).trans h
theorem Blk.made (w : World) (n : Nat) : Blk (w.alloc (.cells (madeCells #[.int .u64 0] n) 65)) w.heap.size (List.replicate n 0) := by
 unfold Blk
 rw [heap_alloc_new]
 congr 1
 congr 1
 apply Array.ext_getElem?
 intro i
 by_cases hi : i < n
 · have hs : i < (madeCells #[Value.int .u64 0] n).size := by rw [size_madeCells]; simpa using hi
   rw [Array.getElem?_eq_getElem hs]
   simp [madeCells, nts, hi, Nat.mod_one]
 · rw [Array.getElem?_eq_none (by rw [size_madeCells]; omega), Array.getElem?_eq_none (by simp [nts]; omega)]
theorem OB.rn (h : OB w base A c l) : RN w (In base w.heap.size) A c l := by
 obtain ⟨h1, h2, h3, h4⟩ := h
 refine ⟨⟨h2, h3, by simp [nts], fun hn => ?_⟩, h1⟩
 obtain ⟨g, cur, rfl, hg, hh, hc⟩ := h4 hn
 refine ⟨_, rfl, ⟨hg, blk_lt hh⟩, fun j u hu => ?_⟩
 have := blk_cell hh j
 rw [hc j u hu] at this
 rw [add_blk]
 exact this
theorem OB.nil_ (w : World) (base : Nat) : OB w base none 0 [] := ⟨Lim.nil_, Nat.le_refl _, by unfold maxLen; omega, fun h => absurd h (by simp)⟩
theorem OB.below {B : Nat} (h : OB w base A c l) (hb : Below B w w') (hB : w.heap.size ≤ B) : OB w' base A c l := by
 obtain ⟨h1, h2, h3, h4⟩ := h
 refine ⟨h1, h2, h3, fun hn => ?_⟩
 obtain ⟨g, cur, rfl, hg, hh, hc⟩ := h4 hn
 exact ⟨g, cur, rfl, hg, (hb.block g (Nat.lt_of_lt_of_le (blk_lt hh) hB)).trans hh, hc⟩
theorem OB.drewN (h : OB w base A c l) (n : Nat) : OB (w.drewN n) base A c l := h
theorem OB.mono {base' : Nat} (h : OB w base A c l) (hb : base' ≤ base) : OB w base' A c l := by
 obtain ⟨h1, h2, h3, h4⟩ := h
 refine ⟨h1, h2, h3, fun hn => ?_⟩
 obtain ⟨g, cur, e, hg, hh, hc⟩ := h4 hn
 exact ⟨g, cur, e, by omega, hh, hc⟩
theorem OB.cap (h : OB w base A c l) : l.length ≤ c ∧ c ≤ 9223372036854775807 ∧ l.length ≤ 1000000 := ⟨h.2.1, h.2.2.1, h.1.2⟩
theorem OB.take (h : OB w base A c l) (n : Nat) : OB w base A c (l.take n) := by
 obtain ⟨h1, h2, h3, h4⟩ := h
 refine ⟨h1.take n, by rw [List.length_take]; omega, h3, fun hn => ?_⟩
 obtain ⟨g, cur, e, hg, hh, hc⟩ := h4 (by rw [List.length_take] at hn; omega)
 refine ⟨g, cur, e, hg, hh, fun j u hu => hc j u ?_⟩
 rw [← nts_take, List.getElem?_take] at hu
 split at hu
 · exact hu
 · cases hu
theorem OB.of_blk (h : Blk w g l) (hg : base ≤ g) (hl : Lim l) {c : Nat} (hc : l.length ≤ c) (hc' : c ≤ maxLen) : OB w base (some ⟨g, 0, none⟩) c l :=
 ⟨hl, hc, hc', fun _ => ⟨g, _, rfl, hg, h, fun j u hu => by rw [List.getElem?_toArray]; exact hu⟩⟩
theorem OB.of_own (h : w.ownsRow base 65 1 (.slice A l.length c) l.length (nts l)) (hl : Lim l) : OB w base A c l := by
 obtain ⟨h0, ⟨e1, e2⟩ | ⟨g, cap, cur, e1, hg, hh, h5, h6, h7, h8⟩⟩ := h
 · injection e1 with e1 e3 e4
   have : l = [] := List.eq_nil_of_length_eq_zero e2
   subst e1 e4 this
   exact OB.nil_ w base
 · injection e1 with e1 e2 e3
   subst e1 e3
   refine ⟨hl, h5, h6, fun _ => ⟨g, cur, rfl, hg, hh, fun j u hu => ?_⟩⟩
   rw [← h8, List.getElem?_take] at hu
   split at hu
   · rwa [Array.getElem?_toList] at hu
   · cases hu
end

theorem info64 : (Tryz.prog.info? 65).map (fun i => (i.zero, i.size, i.bytes)) = some (some (.int .u64 0), 1, 8) := by kernel_rfl
end Go.Proofs.YtaemogcomplhiaaGreatDoor
