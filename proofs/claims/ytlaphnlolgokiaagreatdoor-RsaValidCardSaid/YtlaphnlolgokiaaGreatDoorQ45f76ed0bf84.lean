/- Plain arithmetic of numbers that are read from bytes: nothing of the program. What limb.FromBytes, the reference's FromBytes, Bits and Bytes compute. A rule for a region that draws its order: each of its first m operations is walked once, in whatever world that came of the first one by steps of a relation E (memory is made, and what stood stands), with what the operations before it gave; the order that is drawn makes no difference. Nothing here speaks of the program. A rule for a region that draws its order and lays a value into a block that it has made, where one operation (an answer's second part) may come before the store or behind it. Nothing here speaks of the program. What the reference's Sub and Mul compute. Plain arithmetic of bits.Div64: one step of a division of three halves by two; nothing of the program. What bits.Div64 computes. -/
import Derived.Test.YtlaphnlolgokiaaGreatDoorQ6d6a230eb927
import Derived.RegionTactic
import Derived.ChangeAlike
import Derived.WalkKit
import Derived.Below
import Derived.Lib.BitFns
import Derived.Lib.ItoaNum
import Derived.Deep.CutBlock
import Derived.IntWalk
import Derived.Laws.Bits64b
namespace Go.Proofs.YtlaphnlolgokiaaGreatDoor

def numOf (bs : List Nat) : Nat := val 256 bs.reverse
theorem numOf_snoc (bs : List Nat) (c : Nat) : numOf (bs ++ [c]) = c + 256 * numOf bs := by
 simp [numOf]
theorem pow256 (k : Nat) : 256 ^ k = 2 ^ (8 * k) := by rw [Nat.pow_mul]
theorem from_step {m j q k c : Nat} {o : List Nat} {V : Nat} (ho : ∀ x ∈ o, x < 2 ^ m) (hq : q < o.length) (hk : m * q + j = 8 * k) (hj : j + 8 ≤ m) (hc : c < 256) (hv : val (2 ^ m) o = 256 ^ (k + 1) * V) :
 c * 2 ^ j < 2 ^ m ∧ dg o q + c * 2 ^ j < 2 ^ m ∧ (dg o q ||| c * 2 ^ j) = dg o q + c * 2 ^ j ∧ val (2 ^ m) (o.set q (dg o q + c * 2 ^ j)) = 256 ^ k * (c + 256 * V) := by
 obtain ⟨r, hr⟩ := val_shift o ho q 0 (by omega)
 have hlt : dg o q < 2 ^ m := getD_lt (Nat.pow_pos (by omega)) ho q
 rw [Nat.add_zero, Nat.pow_zero, Nat.div_one, Nat.sub_zero, hv, pow256, show 8 * (k + 1) = m * q + (j + 8) by omega, Nat.pow_add, Nat.mul_assoc, Nat.mul_div_cancel_left _ (Nat.pow_pos (by omega))] at hr
 have hcj : c * 2 ^ j < 2 ^ (j + 8) := by
  rw [Nat.pow_add, Nat.mul_comm]
  exact Nat.mul_lt_mul_of_pos_left hc (Nat.pow_pos (by omega))
 have em : 2 ^ m = 2 ^ (j + 8) * 2 ^ (m - (j + 8)) := by rw [← Nat.pow_add, show j + 8 + (m - (j + 8)) = m by omega]
 obtain ⟨t, ht⟩ : ∃ t, dg o q = t * 2 ^ (j + 8) := by
  refine ⟨V - 2 ^ (m - (j + 8)) * r, ?_⟩
  rw [em, Nat.mul_assoc] at hr
  rw [Nat.mul_comm, Nat.mul_sub, hr]
  omega
 have htlt : t < 2 ^ (m - (j + 8)) := by
  rw [ht, em, Nat.mul_comm] at hlt
  exact Nat.lt_of_mul_lt_mul_left hlt
 have hsum : dg o q + c * 2 ^ j < 2 ^ m := by
  have h1 : (t + 1) * 2 ^ (j + 8) ≤ 2 ^ (m - (j + 8)) * 2 ^ (j + 8) := Nat.mul_le_mul_right _ htlt
  rw [Nat.mul_comm (2 ^ (m - (j + 8))), ← em, Nat.add_mul, ← ht] at h1
  omega
 refine ⟨by omega, hsum, ?_, ?_⟩
 · rw [ht, Nat.mul_comm t, Nat.two_pow_add_eq_or_of_lt hcj]
 · have h2 := val_set' (2 ^ m) hq (dg o q + c * 2 ^ j)
   have h3 : (2 ^ m) ^ q * (c * 2 ^ j) = 256 ^ k * c := by
    rw [pow256, ← hk, Nat.pow_add, Nat.pow_mul, Nat.mul_assoc, Nat.mul_comm c]
   rw [Nat.mul_add, h3, hv] at h2
   rw [Nat.mul_add, ← Nat.mul_assoc, ← Nat.pow_succ]
   generalize 256 ^ (k + 1) * V = E at *
   generalize 256 ^ k * c = F at *
   generalize (2 ^ m) ^ q * dg o q = G at *
   generalize val (2 ^ m) (o.set q (dg o q + c * 2 ^ j)) = H at *
   clear hr hlt hcj em ht htlt hsum hv h3
   omega
end Go.Proofs.YtlaphnlolgokiaaGreatDoor

namespace Go.Proofs.YtlaphnlolgokiaaGreatDoor
open Go.RowKit

theorem RB.cells {w : World} {P : Nat → Prop} {ad : Addr} {c : Nat} {bs : List Nat} (h : RB w P (some ad) c bs) : ∀ i, i < bs.length → w.cell? (ad.add i) = some (.int .u8 (dg bs i : Int)) := by
 intro i hi
 obtain ⟨ad', e, _, hc, _⟩ := h.at_ hi
 cases e
 rw [dg, getD_eq' hi]
 exact hc
theorem RB.dg {w : World} {P : Nat → Prop} {A : Option Addr} {c : Nat} {bs : List Nat} (h : RB w P A c bs) {i : Nat} (hi : i < bs.length) : ∃ ad, A = some ad ∧ w.cell? (ad.add i) = some (.int .u8 (Go.Proofs.YtlaphnlolgokiaaGreatDoor.dg bs i : Int)) ∧ Go.Proofs.YtlaphnlolgokiaaGreatDoor.dg bs i < 256 := by
 obtain ⟨ad, rfl, _, hc, hb⟩ := h.at_ hi
 refine ⟨ad, rfl, h.cells i hi, ?_⟩
 rw [Go.Proofs.YtlaphnlolgokiaaGreatDoor.dg, getD_eq' hi]
 omega

set_option maxRecDepth 100000 in
set_option maxHeartbeats 2000000 in
theorem fromBytes_any (P : Nat → Prop) (A : Option Addr) (c : Nat) (bs : List Nat) (w : World) (h : RB w P A c bs) (hP : ∀ b, P b → b < w.heap.size) (hl : bs.length ≤ 100000) :
 Calls Tryz.prog 37 #[.slice A bs.length c] w fun e w' => ∃ A1 c1, e = .returned (.slice A1 (digs 18446744073709551616 (numOf bs)).length c1) ∧
  OB w' w.heap.size A1 c1 (digs 18446744073709551616 (numOf bs)) ∧ Below w.heap.size w w' := by
 obtain ⟨h1, h2, h3⟩ := h.cap
 obtain ⟨n, hn⟩ : ∃ n, bs.length = n := ⟨_, rfl⟩
 rw [hn] at h1 h3 hl ⊢
 obtain ⟨N, hN, hN1, hN2⟩ : ∃ N : Nat, ((n : Int) + 7) / 8 = (N : Int) ∧ N ≤ 100000 ∧ n ≤ 8 * N := ⟨(n + 7) / 8, by omega, by omega, by omega⟩
 have hmk := run_make_row' (P := Tryz.prog) 23 34 (.int .u64 0) 8 Tryz.underlying23 info64 rfl .i64 .i64 N (by omega) (by omega)
 have Hn := Lib.hid hn
 clear hn
 go_enter Tryz.func37, Tryz.ntmps37
 go_wp2
 go_loopw [14] (fun iv wr => ∃ (i : Nat) (o : List Nat), iv = .int .i64 (i : Int) ∧ i ≤ n ∧ Hid (o.length = N) ∧ Lim o ∧ val 18446744073709551616 o = 256 ^ (n - i) * numOf (bs.take i) ∧ Blk wr w.heap.size o ∧ Below w.heap.size w wr) (fun iv _ => n - (intOf iv).toNat)
 case atStart => exact ⟨0, List.replicate N 0, rfl, by omega, Lib.hid (by simp), ⟨by simp, by simp; omega⟩, by rw [val_replicate]; simp [numOf], Blk.made w _, (Below.refl _ w).alloc (Nat.le_refl _) _⟩
 case round =>
  obtain ⟨i, o, rfl, hi, Ho, hLo, hv, hblk, hB⟩ := hrel
  by_cases hlt : i < n
  · obtain ⟨ad, rfl, q1, hc⟩ := (h.below hB hP).dg (i := i) (by rw [Hn.out]; exact hlt)
    obtain ⟨k, q, r, hk, hr, hkq⟩ : ∃ k q r, k = n - 1 - i ∧ r < 8 ∧ k = 8 * q + r := ⟨n - 1 - i, (n - 1 - i) / 8, (n - 1 - i) % 8, rfl, by omega, by omega⟩
    have hqo : q < o.length := by have := Ho.out; omega
    obtain ⟨s1, s2, s3, s4⟩ := from_step (m := 64) (j := r * 8) (q := q) (k := k) hLo.1 hqo (by omega) (by omega) hc (by rw [show n - i = k + 1 by omega] at hv; exact hv)
    rw [← numOf_snoc, ← take_succ_dg (by rw [Hn.out]; exact hlt), show k = n - (i + 1) by omega] at s4
    obtain ⟨z, hz⟩ : ∃ z, dg bs i * 2 ^ (r * 8) = z := ⟨_, rfl⟩
    rw [hz] at s1 s2 s3 s4
    obtain ⟨y, hy⟩ : ∃ y, dg o q + z = y := ⟨_, rfl⟩
    rw [hy] at s2 s3 s4
    have e1 : (n : Int) - 1 - (i : Int) = (k : Int) := by omega
    have e2 : (k : Int) / 8 = (q : Int) := by omega
    have e3 : (k : Int) % 8 = (r : Int) := by omega
    have e4 : IntKind.u64.wrap ((dg bs i : Int) * 2 ^ (r * 8)) = (z : Int) := by
     rw [show (dg bs i : Int) * 2 ^ (r * 8) = (z : Int) by rw [← hz]; simp]
     exact IntWalk.u64_in _ (by omega)
    have e5 : bits .or .u64 (dg o q : Int) (z : Int) = (y : Int) := by
     rw [bits_or_u64_nat _ _ (hLo.dgLt q) s1, s3]
    have q3 := hblk.cell hqo
    have q4 := hblk.free q
    have hblk' := hblk.set q y
    have hLo' := hLo.set q y s2
    have hB' := hB.setCell (p := ⟨w.heap.size, q, none⟩) (Nat.le_refl _) (.int .u64 (y : Int))
    have Ho' : Hid ((o.set q y).length = N) := Lib.hid (by rw [List.length_set]; exact Ho.out)
    have k1 : (q : Int) < (N : Int) := by have := Ho.out; omega
    have k2 : (r : Int) < 8 := by omega
    have k3 : (dg bs i : Int) < 256 := by omega
    have S4 := Lib.hid s4
    clear s4 s3 s2 s1 hz hy hk hkq hqo hblk hLo hB hv hc
    go_wp2_with fail
    go_region
    go_wp2
    go_roundw
    case rel => exact ⟨i + 1, o.set q y, by go_num, by omega, Ho', hLo', S4.out, hblk', below_drewN hB' 1⟩
    case measure => simp [intOf]; omega
  · obtain rfl : i = n := by omega
    rw [Nat.sub_self, Nat.pow_zero, Nat.one_mul, List.take_of_length_le (by rw [Hn.out]; omega)] at hv
    have hOB : OB wr w.heap.size (some ⟨w.heap.size, 0, none⟩) N o := OB.of_blk hblk (Nat.le_refl _) hLo (by have := Ho.out; omega) (by unfold maxLen; omega)
    have ht := trim_any _ _ _ _ _ hOB.rn
    have hOB' := hOB.trim
    rw [hv, Ho.out] at ht
    rw [hv] at hOB'
    have Ht := Lib.hid ht
    clear hblk hLo ht hv hOB
    go_wp2_with fail
    refine Ht.out.mono ?_
    rintro e w1 ⟨rfl, rfl⟩
    go_wp2
    go_ret
    exact ⟨_, _, rfl, hOB', hB⟩

end Go.Proofs.YtlaphnlolgokiaaGreatDoor

namespace Go.Proofs.YtlaphnlolgokiaaGreatDoor
open Go.RowKit

def Ext (w w' : World) : Prop := Below w.heap.size w w'
theorem Ext.refl (w : World) : Ext w w := Below.refl _ w
theorem Ext.trans {a b c : World} (h : Ext a b) (k : Ext b c) : Ext a c := Below.trans h (Below.mono k h.size)
theorem Ext.drew (w : World) : Ext w w.drew := (Below.refl _ w).drew
theorem Ext.alloc (w : World) (o : Obj) : Ext w (w.alloc o) := (Below.refl _ w).alloc (Nat.le_refl _) o
theorem Ext.bsize {w w' : World} (h : Ext w w') : w.heap.size ≤ w'.heap.size := Below.size h
theorem Ext.at_ {w w' : World} (h : Ext w w') {k : Nat} {o : Obj} (hk : w.heap[k]? = some o) : w'.heap[k]? = some o := by
 have hlt : k < w.heap.size := by
  rcases Nat.lt_or_ge k w.heap.size with h | h
  · exact h
  · rw [Array.getElem?_eq_none h] at hk; cases hk
 exact (Below.block h k hlt).trans hk
theorem Ext.cell {w w' : World} (h : Ext w w') {a : Addr} {v : Value} (hk : w.cell? a = some v) : w'.cell? a = some v :=
 (World.cell?_of_block (Below.block h _ (World.block_lt_of_cell? w a hk))).trans hk

namespace Par

def dst (ops : Array Oper) (j : Nat) : Option Nat := (ops[j]?).bind (·.dst)
def binds (e : Edge) : Bool := Region.binds .any e
def put (ops : Array Oper) (sel : Nat → Bool) (f : Nat → Value) : List Nat → Act → Act
 | [], a => a
 | j :: l, a => put ops sel f l (if sel j then a.put (dst ops j) (f j) else a)
def upd (f : Nat → Value) (i : Nat) (v : Value) : Nat → Value := fun j => if j = i then v else f j
def mask (M : Nat → Nat) (j : Nat) (f : Nat → Value) : Nat → Value := fun k => if (k == j || (M j).testBit k) = true then f k else undef
def nd (M : Nat → Nat) (i : Nat) : Nat → Bool := fun j => j != i && !(M j).testBit i

theorem put_congr {ops : Array Oper} {sel sel' : Nat → Bool} {f f' : Nat → Value} {l : List Nat} (h : ∀ j ∈ l, sel j = sel' j ∧ f j = f' j) (a : Act) : put ops sel f l a = put ops sel' f' l a := by
  induction l generalizing a with
  | nil => rfl
  | cons j l ih =>
    obtain ⟨h1, h2⟩ := h j (by simp)
    simp only [put, h1, h2]
    exact ih (fun k hk => h k (by simp [hk])) _
def clash (ops : Array Oper) (i j : Nat) : Prop := ∃ d, dst ops i = some d ∧ dst ops j = some d
theorem put_put {ops : Array Oper} {sel : Nat → Bool} {f : Nat → Value} {l : List Nat} {i : Nat} {v : Value} (h : ∀ j ∈ l, ¬ clash ops i j) (a : Act) : (put ops sel f l a).put (dst ops i) v = put ops sel f l (a.put (dst ops i) v) := by
  induction l generalizing a with
  | nil => rfl
  | cons j l ih =>
    simp only [put]
    rw [ih (fun k hk => h k (by simp [hk]))]
    cases sel j
    · rfl
    · simp only [if_true]
      rw [Act.put_comm a _ _ (fun d h1 h2 => h j (by simp) ⟨d, h2, h1⟩)]
theorem put_more {ops : Array Oper} {sel : Nat → Bool} {f : Nat → Value} {i : Nat} {v : Value} : ∀ {l : List Nat} (_ : i ∈ l) (_ : l.Nodup) (_ : ∀ j ∈ l, j ≠ i → ¬ clash ops i j) (_ : sel i = false) (a : Act), (put ops sel f l a).put (dst ops i) v = put ops (fun j => sel j || j == i) (upd f i v) l a
  | [], hi, _, _, _, _ => by cases hi
  | j :: l, hi, hn, hc, hs, a => by
    rw [List.nodup_cons] at hn
    by_cases hji : j = i
    · subst hji
      simp only [put, hs, Bool.false_eq_true, if_false, beq_self_eq_true, Bool.or_true, if_true, upd]
      rw [put_put (fun k hk => hc k (by simp [hk]) (fun e => hn.1 (e ▸ hk)))]
      refine put_congr (fun k hk => ?_) _
      have hne : k ≠ j := fun e => hn.1 (e ▸ hk)
      simp [hne, upd]
    · have hmem : i ∈ l := by
        rcases List.mem_cons.1 hi with h | h
        · exact absurd h.symm hji
        · exact h
      simp only [put]
      rw [put_more hmem hn.2 (fun k hk => hc k (by simp [hk])) hs]
      have e1 : (sel j || j == i) = sel j := by simp [hji]
      have e2 : upd f i v j = f j := by simp [upd, hji]
      simp only [e1, e2]
theorem put_own (a : Act) (d : Option Nat) (v : Value) (h : ∀ t, d = some t → v = a.tmps.getD t undef) : a.put d v = a := by
  cases d with
  | none => rfl
  | some t =>
    have hv := h t rfl
    subst hv
    show ({ a with tmps := a.tmps.setIfInBounds t (a.tmps.getD t undef) } : Act) = a
    congr 1
    apply Array.ext_getElem?
    intro k
    rw [Array.getElem?_setIfInBounds]
    split
    · rename_i htk
      subst htk
      split
      · rename_i hlt
        simp [hlt]
      · rename_i hlt
        simp [Array.getElem?_eq_none (Nat.le_of_not_lt hlt)]
    · rfl
theorem put_getD {a : Act} {d : Option Nat} {v : Value} {t : Nat} (h : d ≠ some t) : (a.put d v).tmps.getD t undef = a.tmps.getD t undef := by
  cases d with
  | none => rfl
  | some s =>
    have hne : s ≠ t := fun e => h (by rw [e])
    show (a.tmps.setIfInBounds s v).getD t undef = _
    simp [Array.getD_eq_getD_getElem?, Array.getElem?_setIfInBounds_ne hne]
theorem put_wide {ops : Array Oper} {D sel : Nat → Bool} {f g : Nat → Value} (b : Act) : ∀ {l : List Nat} (_ : l.Nodup) (_ : ∀ i ∈ l, ∀ j ∈ l, i ≠ j → ¬ clash ops i j) (_ : ∀ j ∈ l, D j = true → sel j = true ∧ g j = f j) (a : Act) (_ : ∀ j ∈ l, D j = false → ∀ t, dst ops j = some t → g j = a.tmps.getD t undef), put ops D f l a = put ops sel g l a
  | [], _, _, _, _, _ => rfl
  | j :: l, hn, hc, hD, a, hg => by
    rw [List.nodup_cons] at hn
    simp only [put]
    have key : ∀ a' : Act, (∀ k ∈ l, ∀ t, dst ops k = some t → a'.tmps.getD t undef = a.tmps.getD t undef) → put ops D f l a' = put ops sel g l a' := fun a' h' =>
      put_wide b hn.2 (fun i hi k hk => hc i (by simp [hi]) k (by simp [hk])) (fun k hk => hD k (by simp [hk])) a' (fun k hk h1 t ht => by rw [h' k hk t ht]; exact hg k (by simp [hk]) h1 t ht)
    have far : ∀ v, ∀ k ∈ l, ∀ t, dst ops k = some t → (a.put (dst ops j) v).tmps.getD t undef = a.tmps.getD t undef := fun v k hk t ht => put_getD (fun e => hc j (by simp) k (by simp [hk]) (fun e => hn.1 (e ▸ hk)) ⟨t, e, ht⟩)
    cases hj : D j
    · have e : (if sel j = true then a.put (dst ops j) (g j) else a) = a := by
        split
        · exact put_own _ _ _ (fun t ht => hg j (by simp) hj t ht)
        · rfl
      rw [e]
      exact key a (fun _ _ _ _ => rfl)
    · obtain ⟨h1, h2⟩ := hD j (by simp) hj
      rw [h1, h2]
      exact key _ (far _)

def cnt (D : Nat → Bool) : Nat → Nat
 | 0 => 0
 | k + 1 => cnt D k + (if D k then 1 else 0)
theorem cnt_le (D : Nat → Bool) : ∀ m, cnt D m ≤ m
 | 0 => Nat.le_refl _
 | k + 1 => by have := cnt_le D k; simp only [cnt]; split <;> omega
theorem cnt_congr {D D' : Nat → Bool} : ∀ {m : Nat}, (∀ j, j < m → D j = D' j) → cnt D m = cnt D' m
 | 0, _ => rfl
 | k + 1, h => by simp only [cnt]; rw [cnt_congr (fun j hj => h j (by omega)), h k (by omega)]
theorem cnt_more {D D' : Nat → Bool} {i : Nat} (hD : D i = false) (hD' : D' i = true) (h : ∀ j, j ≠ i → D' j = D j) : ∀ {m : Nat}, i < m → cnt D' m = cnt D m + 1
  | 0, hi => by omega
  | k + 1, hi => by
    simp only [cnt]
    by_cases hk : k = i
    · subst hk
      rw [hD, hD', cnt_congr (fun j hj => h j (by omega))]
      simp
    · rw [cnt_more hD hD' h (m := k) (by omega), h k hk]
      omega
theorem cnt_full {D : Nat → Bool} : ∀ {m : Nat}, (∀ j, j < m → D j = true) → cnt D m = m
 | 0, _ => rfl
 | k + 1, h => by simp only [cnt]; rw [cnt_full (fun j hj => h j (by omega)), h k (by omega)]; simp
theorem cnt_lt {D : Nat → Bool} {i : Nat} (hD : D i = false) : ∀ {m : Nat}, i < m → cnt D m < m
  | 0, hi => by omega
  | k + 1, hi => by
    simp only [cnt]
    by_cases hk : k = i
    · subst hk; have := cnt_le D k; rw [hD]; simp; omega
    · have := cnt_lt hD (m := k) (by omega); split <;> omega

def ok (ops : Array Oper) (M : Nat → Nat) (m : Nat) : Bool :=
  decide (m ≤ ops.size) &&
  ((List.range ops.size).all fun i => match ops[i]? with
    | none => false
    | some o => (o.after.all fun e => !binds e || decide (e.on < i)) &&
      ((List.range ops.size).all fun k => !(M i).testBit k || o.after.any fun e => binds e && (e.on == k || (M e.on).testBit k)) &&
      (decide (i < m) || (List.range i).all fun k => (M i).testBit k) && decide (M i < 2 ^ i)) &&
  ((List.range m).all fun i => (List.range m).all fun j => i == j || (match dst ops i, dst ops j with | some d, some e => d != e | _, _ => true))

structure Form (ops : Array Oper) (M : Nat → Nat) (m : Nat) : Prop where
 le : m ≤ ops.size
 up : ∀ i o, ops[i]? = some o → ∀ e ∈ o.after, binds e = true → e.on < i
 by_ : ∀ i o k, ops[i]? = some o → k < ops.size → (M i).testBit k = true → ∃ e ∈ o.after, binds e = true ∧ (e.on = k ∨ (M e.on).testBit k = true)
 low : ∀ i, i < ops.size → M i < 2 ^ i
 late : ∀ i, m ≤ i → i < ops.size → ∀ k, k < i → (M i).testBit k = true
 own : ∀ i j, i < m → j < m → i ≠ j → ¬ clash ops i j
theorem ok.form {ops : Array Oper} {M : Nat → Nat} {m : Nat} (h : ok ops M m = true) : Form ops M m := by
 unfold ok at h
 rw [Bool.and_eq_true, Bool.and_eq_true, decide_eq_true_eq, List.all_eq_true, List.all_eq_true] at h
 obtain ⟨⟨hle, h1⟩, h2⟩ := h
 have key : ∀ i o, ops[i]? = some o → (∀ e ∈ o.after, binds e = true → e.on < i) ∧ (∀ k, k < ops.size → (M i).testBit k = true → ∃ e ∈ o.after, binds e = true ∧ (e.on = k ∨ (M e.on).testBit k = true)) ∧ (m ≤ i → ∀ k, k < i → (M i).testBit k = true) ∧ M i < 2 ^ i := by
  intro i o ho
  have hi : i < ops.size := (Array.getElem?_eq_some_iff.1 ho).1
  have := h1 i (List.mem_range.2 hi)
  rw [ho] at this
  simp only [Bool.and_eq_true, Array.all_eq_true_iff_forall_mem, Bool.or_eq_true, Bool.not_eq_true', decide_eq_true_eq, List.all_eq_true, List.mem_range, Array.any_eq_true', beq_iff_eq] at this
  obtain ⟨⟨⟨a1, a2⟩, a3⟩, a4⟩ := this
  refine ⟨fun e he hb => (a1 e he).resolve_left (by simp [hb]), fun k hk hb => ?_, fun hm k hk => (a3.resolve_left (by omega)) k hk, a4⟩
  obtain ⟨e, he, h3, h4⟩ := (a2 k hk).resolve_left (by simp [hb])
  exact ⟨e, he, h3, h4⟩
 refine ⟨hle, fun i o ho => (key i o ho).1, fun i o k ho => (key i o ho).2.1 k, fun i hi => (key i _ (Array.getElem?_eq_getElem hi)).2.2.2, fun i hm hi k hk => ?_, fun i j hi hj hne => ?_⟩
 · exact (key i _ (Array.getElem?_eq_getElem hi)).2.2.1 hm k hk
 · have h3 := h2 i (List.mem_range.2 hi)
   rw [List.all_eq_true] at h3
   have h4 := h3 j (List.mem_range.2 hj)
   rintro ⟨d, e1, e2⟩
   rw [e1, e2] at h4
   simp [hne] at h4

theorem Form.bit {ops : Array Oper} {M : Nat → Nat} {m : Nat} (h : Form ops M m) (i : Nat) (hi : i < ops.size) (k : Nat) (hk : (M i).testBit k = true) : k < i := by
 rcases Nat.lt_or_ge k i with hlt | hge
 · exact hlt
 · have h1 := h.low i hi
   rw [Nat.testBit_lt_two_pow (Nat.lt_of_lt_of_le h1 (Nat.pow_le_pow_right (by omega) hge))] at hk
   cases hk

theorem anc {ops : Array Oper} {M : Nat → Nat} {m : Nat} (hF : Form ops M m) {listed : Array Bool} (hcl : ∀ j o, ops[j]? = some o → listed.getD j false = true → ∀ e ∈ o.after, binds e = true → listed.getD e.on false = true) :
    ∀ n i o, i ≤ n → ops[i]? = some o → (∀ e ∈ o.after, binds e = true → listed.getD e.on false = true) → ∀ k, k < ops.size → (M i).testBit k = true → listed.getD k false = true := by
  intro n
  induction n with
  | zero =>
    intro i o hin ho hd k hk hb
    obtain ⟨e, he, hb', _⟩ := hF.by_ i o k ho hk hb
    have := hF.up i o ho e he hb'
    omega
  | succ n ihn =>
    intro i o hin ho hd k hk hb
    obtain ⟨e, he, hb', h1⟩ := hF.by_ i o k ho hk hb
    rcases h1 with rfl | h1
    · exact hd e he hb'
    · have hlt' := hF.up i o ho e he hb'
      have hes : e.on < ops.size := by have := (Array.getElem?_eq_some_iff.1 ho).1; omega
      exact ihn e.on _ (by omega) (Array.getElem?_eq_getElem hes) (hcl e.on _ (Array.getElem?_eq_getElem hes) (hd e he hb')) k hk h1

section
variable {P : Program} {ops : Array Oper} {Q : Exit → Act → World → Prop}

def Step (P : Program) (ops : Array Oper) (Q : Exit → Act → World → Prop) (E : World → World → Prop) (m : Nat) (M : Nat → Nat) (AL : Nat → Bool) (R : Nat → (Nat → Value) → World → Prop) (a : Act) (w : World) (i : Nat) : Prop :=
  ∀ f X, E w X → (∀ j, (M i).testBit j = true → R j f X) → ∀ K : Act → World → Prop,
    (∀ a' v X', a' = (put ops (nd M i) f (List.range m) a).put (dst ops i) v → E X X' → (if AL i = true then v = .pointer (some ⟨X.heap.size, 0, none⟩) ∧ X.heap.size < X'.heap.size else True) → (∀ Y, E X' Y → R i (upd f i v) Y) → K a' X') →
    wpOp P ops Q i K (put ops (nd M i) f (List.range m) a) X

theorem Step.intro {E : World → World → Prop} {m : Nat} {M : Nat → Nat} {AL : Nat → Bool} {R : Nat → (Nat → Value) → World → Prop} {a : Act} {w : World} {i : Nat} {o : Oper} (ho : ops[i]? = some o)
 (h : ∀ f X, E w X → (∀ j, (M i).testBit j = true → R j f X) → ∀ K : Act → World → Prop,
  (∀ a' v X', a' = (put ops (nd M i) f (List.range m) a).put o.dst v → E X X' → (if AL i = true then v = .pointer (some ⟨X.heap.size, 0, none⟩) ∧ X.heap.size < X'.heap.size else True) → (∀ Y, E X' Y → R i (upd f i v) Y) → K a' X') →
  if Region.wanted o (yielded ops (put ops (nd M i) f (List.range m) a).tmps) = true then Oper.wp P o (put ops (nd M i) f (List.range m) a) X K Q else K ((put ops (nd M i) f (List.range m) a).put o.dst undef) X) :
 Step P ops Q E m M AL R a w i := fun f X hX hR K hK => wpOp_step ho fun K' hK' => h f X hX hR K' fun a' v X' ha hE hA hR' => hK' _ _ (hK a' v X' (by rw [ha, dst, ho]; rfl) hE hA hR')

structure Inv (ops : Array Oper) (E : World → World → Prop) (m : Nat) (M : Nat → Nat) (AL : Nat → Bool) (R : Nat → (Nat → Value) → World → Prop) (a : Act) (w : World) (D : Nat → Bool) (f : Nat → Value) (a' : Act) (X : World) : Prop where
 act : a' = put ops D f (List.range m) a
 ext : E w X
 said : ∀ j, j < m → D j = true → R j (mask M j f) X
 at_ : ∀ j, j < m → D j = true → AL j = true → ∃ b, f j = .pointer (some ⟨b, 0, none⟩) ∧ b < X.heap.size
 apart : ∀ j k, j < m → k < m → D j = true → D k = true → AL j = true → AL k = true → j ≠ k → f j ≠ f k

theorem fin {E : World → World → Prop} {m : Nat} {M : Nat → Nat} {AL : Nat → Bool} {R : Nat → (Nat → Value) → World → Prop} {a : Act} {w : World} (_hF : Form ops M m)
 (hfin : ∀ f X, E w X → (∀ j, j < m → R j (mask M j f) X) → (∀ j, j < m → AL j = true → ∃ b, f j = .pointer (some ⟨b, 0, none⟩) ∧ b < X.heap.size) → (∀ j k, j < m → k < m → AL j = true → AL k = true → j ≠ k → f j ≠ f k) →
  wpAny P .any ops Q (ops.size - m) (((List.range ops.size).map fun j => decide (j < m)).toArray) (put ops (fun _ => true) f (List.range m) a) X)
 {fuel : Nat} {listed : Array Bool} {f : Nat → Value} {a' : Act} {X : World} (hsz : listed.size = ops.size) (hall : ∀ j, j < m → listed.getD j false = true) (hlt : ∀ j, listed.getD j false = true → j < m)
 (hI : Inv ops E m M AL R a w (fun j => listed.getD j false) f a' X) (hfuel : fuel + m = ops.size) : wpAny P .any ops Q fuel listed a' X := by
 have e1 : listed = ((List.range ops.size).map fun j => decide (j < m)).toArray := by
  apply Array.ext
  · simp [hsz]
  · intro k h1 h2
    simp only [List.getElem_toArray, List.getElem_map, List.getElem_range]
    by_cases hk : k < m
    · have := hall k hk
      simpa [h1, hk] using this
    · cases hd : listed[k]
      · simp [hk]
      · exact absurd (hlt k (by simp [h1, hd])) hk
 have e2 : a' = put ops (fun _ => true) f (List.range m) a := by
  rw [hI.act]
  exact put_congr (fun j hj => ⟨hall j (List.mem_range.1 hj), rfl⟩) _
 have e3 : fuel = ops.size - m := by omega
 rw [e1, e2, e3]
 exact hfin f X hI.ext (fun j hj => hI.said j hj (hall j hj)) (fun j hj h => hI.at_ j hj (hall j hj) h) (fun j k hj hk h1 h2 => hI.apart j k hj hk (hall j hj) (hall k hk) h1 h2)

theorem par {E : World → World → Prop} (hE0 : ∀ w, E w w) (hE1 : ∀ a b c, E a b → E b c → E a c) (hE2 : ∀ a b, E a b → a.heap.size ≤ b.heap.size)
    {m : Nat} {M : Nat → Nat} {AL : Nat → Bool} {R : Nat → (Nat → Value) → World → Prop} {a : Act} {w : World} (hF : Form ops M m)
    (hR : ∀ j, j < m → ∀ f X, R j (mask M j f) X → ∀ Y, E X Y → R j (mask M j f) Y)
    (hstep : ∀ i, i < m → Step P ops Q E m M AL (fun j f X => R j (mask M j f) X) a w i)
    (hfin : ∀ f X, E w X → (∀ j, j < m → R j (mask M j f) X) → (∀ j, j < m → AL j = true → ∃ b, f j = .pointer (some ⟨b, 0, none⟩) ∧ b < X.heap.size) → (∀ j k, j < m → k < m → AL j = true → AL k = true → j ≠ k → f j ≠ f k) →
      wpAny P .any ops Q (ops.size - m) (((List.range ops.size).map fun j => decide (j < m)).toArray) (put ops (fun _ => true) f (List.range m) a) X) :
    ∀ (fuel : Nat) (listed : Array Bool) (f : Nat → Value) (a' : Act) (X : World), listed.size = ops.size →
      (∀ j o, ops[j]? = some o → listed.getD j false = true → ∀ e ∈ o.after, binds e = true → listed.getD e.on false = true) →
      (∀ j, listed.getD j false = true → j < m) → fuel + cnt (fun j => listed.getD j false) m = ops.size →
      Inv ops E m M AL R a w (fun j => listed.getD j false) f a' X → wpAny P .any ops Q fuel listed a' X := by
  intro fuel
  induction fuel with
  | zero =>
    intro listed f a' X hsz hcl hlt hc hI
    have hcm : cnt (fun j => listed.getD j false) m ≤ m := cnt_le _ _
    have hmm : m = ops.size := by have := hF.le; omega
    have hall : ∀ j, j < m → listed.getD j false = true := fun j hj => by
      cases h : listed.getD j false
      · have := cnt_lt (D := fun j => listed.getD j false) (i := j) h hj; omega
      · rfl
    exact fin hF hfin hsz hall hlt hI (by omega)
  | succ fuel ih =>
    intro listed f a' X hsz hcl hlt hc hI
    by_cases hall : ∀ j, j < m → listed.getD j false = true
    · have hcm := cnt_full (D := fun j => listed.getD j false) hall
      exact fin hF hfin hsz hall hlt hI (by omega)
    · refine ⟨fun h => ?_, fun i hi => ?_⟩
      · exfalso
        -- the first that is not done may come up
        have : ∀ n, n ≤ m → (∀ j, j < n → listed.getD j false = true) := by
          intro n
          induction n with
          | zero => intro _ j hj; omega
          | succ n ihn =>
            intro hn j hj
            by_cases hjn : j < n
            · exact ihn (by omega) j hjn
            · obtain rfl : j = n := by omega
              cases hd : listed.getD j false
              · exfalso
                have hjs : j < ops.size := by have := hF.le; omega
                have hmem : j ∈ Region.ready .any ops listed := by
                  rw [mem_ready]
                  have hjl : j < listed.size := by omega
                  refine ⟨by simpa [hjl] using hd, _, Array.getElem?_eq_getElem hjs, fun e he hb => ihn (by omega) _ (hF.up j _ (Array.getElem?_eq_getElem hjs) e he hb)⟩
                rw [h] at hmem
                cases hmem
              · rfl
        exact hall (this m (Nat.le_refl _))
      · obtain ⟨hi0, o, ho, hdep⟩ := mem_ready.1 hi
        have his : i < ops.size := (Array.getElem?_eq_some_iff.1 ho).1
        have hil : i < listed.size := by omega
        have hid : listed.getD i false = false := by simpa [hil] using hi0
        have anc := fun i o hio hd k hk hb => anc hF hcl i i o (Nat.le_refl _) hio hd k (Nat.lt_of_lt_of_le hk hF.le) hb
        have him : i < m := by
          rcases Nat.lt_or_ge i m with h | h
          · exact h
          · exact absurd (fun k hk => anc i o ho hdep k hk (hF.late i h his k (by omega))) hall
        -- what waits for it is not
        have hnd : ∀ j, j < m → listed.getD j false = true → nd M i j = true := fun j hj hd => by
          have h1 : j ≠ i := fun e => by rw [e, hid] at hd; cases hd
          have hjs : j < ops.size := by have := hF.le; omega
          have h2 : (M j).testBit i = false := by
            cases hb : (M j).testBit i
            · rfl
            · have := anc j _ (Array.getElem?_eq_getElem hjs) (hcl j _ (Array.getElem?_eq_getElem hjs) hd) i him hb
              rw [hid] at this; cases this
          simp [nd, h1, h2]
        -- the slots as the step sees them
        obtain ⟨g, hg⟩ : ∃ g : Nat → Value, g = fun j => if listed.getD j false = true then f j else ((dst ops j).map fun t => a.tmps.getD t undef).getD undef := ⟨_, rfl⟩
        have hgf : ∀ j, listed.getD j false = true → g j = f j := fun j hj => by rw [hg]; simp only [hj, if_true]
        have hact : a' = put ops (nd M i) g (List.range m) a := by
          rw [hI.act]
          refine put_wide a List.nodup_range (fun p hp q hq => hF.own p q (List.mem_range.1 hp) (List.mem_range.1 hq)) (fun j hj hd => ⟨hnd j (List.mem_range.1 hj) hd, hgf j hd⟩) a (fun j _ hd t ht => ?_)
          rw [hg]
          simp only [hd, Bool.false_eq_true, if_false, ht, Option.map_some, Option.getD_some]
        have hmask : ∀ j, j < m → listed.getD j false = true → mask M j g = mask M j f := fun j hj hd => by
          funext k
          unfold mask
          split
          · rename_i hk
            rw [Bool.or_eq_true, beq_iff_eq] at hk
            rcases hk with rfl | hk
            · exact hgf _ hd
            · have hjs : j < ops.size := by have := hF.le; omega
              have hkj := hF.bit j hjs k hk
              exact hgf k (anc j _ (Array.getElem?_eq_getElem hjs) (hcl j _ (Array.getElem?_eq_getElem hjs) hd) k (by omega) hk)
          · rfl
        rw [hact]
        refine hstep i him g X hI.ext (fun j hb => ?_) _ (fun a'' v X' ha hE hA hR' => ?_)
        · have hj : j < m := by have := hF.bit i his j hb; omega
          have hd := anc i o ho hdep j hj hb
          show R j (mask M j g) X
          rw [hmask j hj hd]
          exact hI.said j hj hd
        · have hnew : ∀ j, (listed.setIfInBounds i true).getD j false = (listed.getD j false || j == i) := fun j => by
            by_cases hji : j = i
            · subst hji; simp [hil]
            · rw [Go.getD_set_ne false (fun e => hji e.symm)]; simp [hji]
          have hnin : ∀ j, j < m → listed.getD j false = true → j ≠ i := fun j _ hd e => by rw [e, hid] at hd; cases hd
          have hupd : ∀ j, listed.getD j false = true → upd g i v j = f j := fun j hd => by
            have hne : j ≠ i := fun e => by rw [e, hid] at hd; cases hd
            simp only [upd, hne, if_false]; exact hgf j hd
          have hupi : upd g i v i = v := by simp [upd]
          have hmk : ∀ j, j < m → listed.getD j false = true → mask M j (upd g i v) = mask M j f := fun j hj hd => by
            rw [← hmask j hj hd]
            funext k
            unfold mask
            split
            · rename_i hk
              rw [Bool.or_eq_true, beq_iff_eq] at hk
              have hne : k ≠ i := by
                rintro rfl
                rcases hk with rfl | hk
                · exact hnin _ hj hd rfl
                · have := hnd j hj hd
                  simp [nd, hk] at this
              simp [upd, hne]
            · rfl
          refine ih _ (upd g i v) a'' X' (by simpa using hsz) (fun j oj hoj hd e he hb => ?_) (fun j hd => ?_) ?_ ⟨?_, hE1 _ _ _ hI.ext hE, fun j hj hd => ?_, fun j hj hd hal => ?_, fun j k hj hk hd hd' hal hal' hne => ?_⟩
          · rw [hnew] at hd ⊢
            rw [Bool.or_eq_true, beq_iff_eq] at hd ⊢
            rcases hd with hd | rfl
            · exact .inl (hcl j oj hoj hd e he hb)
            · rw [ho] at hoj; cases hoj; exact .inl (hdep e he hb)
          · rw [hnew, Bool.or_eq_true, beq_iff_eq] at hd
            rcases hd with hd | rfl
            · exact hlt j hd
            · exact him
          · rw [cnt_more (D := fun j => listed.getD j false) (D' := fun j => (listed.setIfInBounds i true).getD j false) hid (by rw [hnew]; simp) (fun j hj => by show (listed.setIfInBounds i true).getD j false = listed.getD j false; rw [hnew]; simp [hj]) him]
            omega
          · rw [ha, put_more (List.mem_range.2 him) List.nodup_range (fun j hj hne => hF.own i j him (List.mem_range.1 hj) (Ne.symm hne)) (by simp [nd])]
            refine (put_wide a List.nodup_range (fun p hp q hq => hF.own p q (List.mem_range.1 hp) (List.mem_range.1 hq)) (fun j hj hd => ⟨?_, rfl⟩) a (fun j hj hd t ht => ?_)).symm
            · rw [hnew, Bool.or_eq_true, beq_iff_eq] at hd
              rw [Bool.or_eq_true, beq_iff_eq]
              exact hd.imp (hnd j (List.mem_range.1 hj)) id
            · rw [hnew, Bool.or_eq_false_iff] at hd
              have hne : j ≠ i := by simpa using hd.2
              simp only [upd, hne, if_false]
              rw [hg]
              simp only [hd.1, Bool.false_eq_true, if_false, ht, Option.map_some, Option.getD_some]
          · rw [hnew, Bool.or_eq_true, beq_iff_eq] at hd
            by_cases hold : listed.getD j false = true
            · rw [hmk j hj hold]
              have := hI.said j hj hold
              exact hR j hj f X this X' hE
            · obtain rfl : j = i := hd.resolve_left hold
              exact hR' X' (hE0 _)
          · rw [hnew, Bool.or_eq_true, beq_iff_eq] at hd
            by_cases hold : listed.getD j false = true
            · obtain ⟨b, h1, h2⟩ := hI.at_ j hj hold hal
              exact ⟨b, (hupd j hold).trans h1, Nat.lt_of_lt_of_le h2 (hE2 _ _ hE)⟩
            · obtain rfl : j = i := hd.resolve_left hold
              rw [if_pos hal] at hA
              exact ⟨X.heap.size, hupi.trans hA.1, hA.2⟩
          · rw [hnew, Bool.or_eq_true, beq_iff_eq] at hd hd'
            have key : ∀ j k, j < m → listed.getD j false = true → AL j = true → AL k = true → k = i → upd g i v j ≠ upd g i v k := fun j k hj hold hal hal' hki heq => by
              subst hki
              rw [if_pos hal'] at hA
              obtain ⟨b, h1, h2⟩ := hI.at_ j hj hold hal
              rw [hupd j hold, hupi, h1, hA.1] at heq
              injection heq with heq
              injection heq with heq
              injection heq with heq
              omega
            by_cases hold : listed.getD j false = true
            · by_cases hold' : listed.getD k false = true
              · rw [hupd j hold, hupd k hold']
                exact hI.apart j k hj hk hold hold' hal hal' hne
              · exact key j k hj hold hal hal' (hd'.resolve_left hold')
            · have hji := hd.resolve_left hold
              by_cases hold' : listed.getD k false = true
              · exact fun e => key k j hk hold' hal' hal hji e.symm
              · exact absurd (hji.trans (hd'.resolve_left hold').symm) hne
structure Way (p : Prop) : Prop where
 out : p

def Chain (P : Program) (ol : List Oper) (Q : Exit → Act → World → Prop) : List Oper → Act → World → Prop
 | [], a, w => Q .normal a w
 | o :: l, a, w => ∀ K : Act → World → Prop, (∀ a w, Chain P ol Q l a w → K a w) → if Region.wanted o (yielded ol.toArray a.tmps) = true then Oper.wp P o a w K Q else K (a.put o.dst undef) w
def upto (n m : Nat) : Array Bool := ((List.range n).map fun j => decide (j < m)).toArray
theorem upto_getD {n m j : Nat} (h : j < n) : (upto n m).getD j false = decide (j < m) := by
 simp [upto, h]
theorem upto_set {n m : Nat} (h : m < n) : (upto n m).setIfInBounds m true = upto n (m + 1) := by
 apply Array.ext
 · simp [upto]
 · intro k h1 h2
   have hk : k < n := by simpa [upto] using h2
   by_cases hkm : k = m
   · subst hkm; simp [upto]
   · rw [Array.getElem_setIfInBounds_ne (by simpa [upto] using hk) (fun e => hkm e.symm)]
     simp only [upto, List.getElem_toArray, List.getElem_map, List.getElem_range, decide_eq_decide]
     omega
theorem Chain.sound {ol : List Oper} {M : Nat → Nat} {m : Nat} (hF : Form ol.toArray M m) : ∀ (n m' : Nat) (a : Act) (X : World), m ≤ m' → m' + n = ol.toArray.size → Chain P ol Q (ol.drop m') a X → wpAny P .any ol.toArray Q n (upto ol.toArray.size m') a X := by
  intro n
  induction n with
  | zero =>
    intro m' a X hm hn h
    have hnil : ol.drop m' = [] := List.drop_eq_nil_of_le (by simp at hn; omega)
    rw [hnil] at h
    refine ⟨?_, h⟩
    cases hr : Region.ready .any ol.toArray (upto ol.toArray.size m') with
    | nil => rfl
    | cons i l =>
      have hi : i ∈ Region.ready .any ol.toArray (upto ol.toArray.size m') := by rw [hr]; simp
      obtain ⟨h0, o, ho, _⟩ := mem_ready.1 hi
      have his := (Array.getElem?_eq_some_iff.1 ho).1
      have h1 : (upto ol.toArray.size m').getD i true = decide (i < m') := by
        have : i < ol.length := by simpa using his
        simp [upto, this]
      rw [h1, decide_eq_false_iff_not] at h0
      omega
  | succ n ih =>
    intro m' a X hm hn h
    have hms : m' < ol.length := by simp at hn; omega
    have hms' : m' < ol.toArray.size := by simpa using hms
    have hcl : ∀ j o, ol.toArray[j]? = some o → (upto ol.toArray.size m').getD j false = true → ∀ e ∈ o.after, binds e = true → (upto ol.toArray.size m').getD e.on false = true := fun j o ho hj e he hb => by
      have hjs := (Array.getElem?_eq_some_iff.1 ho).1
      have hlt := hF.up j o ho e he hb
      rw [upto_getD hjs] at hj
      rw [upto_getD (by omega)]
      simp at hj ⊢; omega
    have hmem : m' ∈ Region.ready .any ol.toArray (upto ol.toArray.size m') := by
      rw [mem_ready]
      refine ⟨?_, _, Array.getElem?_eq_getElem hms', fun e he hb => ?_⟩
      · simp [upto, hms]
      · have hlt := hF.up m' _ (Array.getElem?_eq_getElem hms') e he hb
        rw [upto_getD (by omega)]; simpa using hlt
    refine ⟨fun h0 => (by rw [h0] at hmem; cases hmem), fun i hi => ?_⟩
    obtain ⟨h0, o, ho, hdep⟩ := mem_ready.1 hi
    have his := (Array.getElem?_eq_some_iff.1 ho).1
    have him : i = m' := by
      have h1 : (upto ol.toArray.size m').getD i true = decide (i < m') := by
        have : i < ol.length := by simpa using his
        simp [upto, this]
      rw [h1, decide_eq_false_iff_not] at h0
      rcases Nat.lt_or_ge m' i with hlt | hge
      · have := anc hF hcl i i o (Nat.le_refl _) ho hdep m' hms' (hF.late i (by omega) his m' hlt)
        rw [upto_getD hms'] at this
        simp at this
      · omega
    subst him
    rw [List.drop_eq_getElem_cons hms] at h
    have hoe : o = ol[i] := by
      have : ol[i]? = some o := by simpa using ho
      rw [List.getElem?_eq_getElem hms] at this
      injection this with this
      exact this.symm
    rw [upto_set hms']
    refine wpOp_step ho fun K' hK' => ?_
    rw [hoe]
    exact h K' fun a w hc => hK' a w (ih (i + 1) a w (by omega) (by omega) hc)
theorem Chain.next {ol : List Oper} {o : Oper} {l : List Oper} {a : Act} {w : World} (h : ∀ K : Act → World → Prop, Way (∀ a w, Way (Chain P ol Q l a w) → K a w) → Way (if Region.wanted o (yielded ol.toArray a.tmps) = true then Oper.wp P o a w K Q else K (a.put o.dst undef) w)) : Way (Chain P ol Q (o :: l) a w) :=
 ⟨fun K hK => (h K ⟨fun a w hc => hK a w hc.out⟩).out⟩
theorem Chain.done {ol : List Oper} {a : Act} {w : World} (h : Q .normal a w) : Way (Chain P ol Q [] a w) := ⟨h⟩

def sel (ops : Array Oper) (s : Nat → Bool) (l : List Nat) : List (Nat × Nat) := l.filterMap fun j => if s j then (dst ops j).map fun d => (d, j) else none
def putL (f : Nat → Value) : List (Nat × Nat) → Act → Act
 | [], a => a
 | p :: l, a => putL f l (a.put (some p.1) (f p.2))
theorem put_sel (s : Nat → Bool) (f : Nat → Value) (l : List Nat) (a : Act) : put ops s f l a = putL f (sel ops s l) a := by
  induction l generalizing a with
  | nil => rfl
  | cons j l ih =>
    simp only [put, sel, List.filterMap_cons]
    rw [ih]
    cases s j
    · rfl
    · simp only [if_true]
      cases h : dst ops j with
      | none => rfl
      | some d => rfl

def AllFrom (S : Nat → Prop) : Nat → Nat → Prop
 | _, 0 => True
 | k, n + 1 => S k ∧ AllFrom S (k + 1) n
theorem AllFrom.nil {S : Nat → Prop} {k : Nat} : AllFrom S k 0 := trivial
theorem AllFrom.cons {S : Nat → Prop} {k n : Nat} (k' n' : Nat) (hk : k + 1 = k') (hn : n' + 1 = n) (h : S k) (hs : AllFrom S k' n') : AllFrom S k n := by
 subst hk hn; exact ⟨h, hs⟩
theorem AllFrom.out {S : Nat → Prop} : ∀ {n k : Nat}, AllFrom S k n → ∀ i, k ≤ i → i < k + n → S i
  | 0, k, _, i, h1, h2 => by omega
  | n + 1, k, h, i, h1, h2 => by
    by_cases hi : i = k
    · subst hi; exact h.1
    · exact h.2.out i (by omega) (by omega)

def StepU (P : Program) (ops : Array Oper) (Q : Exit → Act → World → Prop) (E : World → World → Prop) (m : Nat) (L : List Nat) (AL : List Nat) (R : Nat → (Nat → Value) → World → Prop) (a : Act) (w : World) (i : Nat) : Prop :=
 Step P ops Q E m (fun i => L.getD i 0) (fun i => AL.contains i) (fun j f X => R j (mask (fun i => L.getD i 0) j f) X) a w i
theorem StepU.intro {E : World → World → Prop} {m : Nat} {L AL : List Nat} {R : Nat → (Nat → Value) → World → Prop} {a : Act} {w : World} {i : Nat} {o : Oper} (pl : List (Nat × Nat)) (ho : ops[i]? = some o) (hpl : sel ops (nd (fun i => L.getD i 0) i) (List.range m) = pl)
 (h : ∀ f X, E w X → Way (∀ j, (L.getD i 0).testBit j = true → R j (mask (fun i => L.getD i 0) j f) X) → ∀ K : Act → World → Prop,
  Way (∀ a' v X', a' = (putL f pl a).put o.dst v → E X X' → (if AL.contains i = true then v = .pointer (some ⟨X.heap.size, 0, none⟩) ∧ X.heap.size < X'.heap.size else True) → (∀ Y, E X' Y → R i (mask (fun i => L.getD i 0) i (upd f i v)) Y) → K a' X') →
  Way (if Region.wanted o (yielded ops (putL f pl a).tmps) = true then Oper.wp P o (putL f pl a) X K Q else K ((putL f pl a).put o.dst undef) X)) :
 StepU P ops Q E m L AL R a w i := Step.intro ho fun f X hX hR K hK => by
 have h1 := h f X hX ⟨hR⟩ K
 rw [← hpl, ← put_sel] at h1
 exact (h1 ⟨hK⟩).out

structure StepO (P : Program) (ol : List Oper) (Q : Exit → Act → World → Prop) (E : World → World → Prop) (m : Nat) (L : List Nat) (AL : List Nat) (R : Nat → (Nat → Value) → World → Prop) (a : Act) (w : World) (i : Nat) (o : Oper) : Prop where
 out : ol[i]? = some o → StepU P ol.toArray Q E m L AL R a w i
theorem StepO.intro {ol : List Oper} {E : World → World → Prop} {m : Nat} {L AL : List Nat} {R : Nat → (Nat → Value) → World → Prop} {a : Act} {w : World} {i : Nat} {o : Oper} (pl : List (Nat × Nat)) (hpl : sel ol.toArray (nd (fun i => L.getD i 0) i) (List.range m) = pl)
 (h : ∀ f X, E w X → Way (∀ j, (L.getD i 0).testBit j = true → R j (mask (fun i => L.getD i 0) j f) X) → ∀ K : Act → World → Prop,
  Way (∀ a' v X', a' = (putL f pl a).put o.dst v → E X X' → (if AL.contains i = true then v = .pointer (some ⟨X.heap.size, 0, none⟩) ∧ X.heap.size < X'.heap.size else True) → (∀ Y, E X' Y → R i (mask (fun i => L.getD i 0) i (upd f i v)) Y) → K a' X') →
  Way (if Region.wanted o (yielded ol.toArray (putL f pl a).tmps) = true then Oper.wp P o (putL f pl a) X K Q else K ((putL f pl a).put o.dst undef) X)) :
 StepO P ol Q E m L AL R a w i o := ⟨fun ho => StepU.intro pl (by simpa using ho) hpl h⟩
inductive AllOps (S : Nat → Oper → Prop) (F : List Oper → Prop) : Nat → Nat → List Oper → Prop
 | fin {k : Nat} {l : List Oper} (h : F l) : AllOps S F k 0 l
 | step {k n : Nat} {o : Oper} {l : List Oper} (h : S k o) (hs : AllOps S F (k + 1) n l) : AllOps S F k (n + 1) (o :: l)
theorem AllOps.cons {S : Nat → Oper → Prop} {F : List Oper → Prop} {k n : Nat} {o : Oper} {l : List Oper} (k' n' : Nat) (hk : k + 1 = k') (hn : n' + 1 = n) (h : S k o) (hs : AllOps S F k' n' l) : AllOps S F k n (o :: l) := by
 subst hk hn; exact .step h hs
theorem AllOps.out {S : Nat → Oper → Prop} {F : List Oper → Prop} {n k : Nat} {l : List Oper} (h : AllOps S F k n l) : ∀ i, i < n → ∃ o, l[i]? = some o ∧ S (k + i) o := by
  induction h with
  | fin _ => intro i hi; omega
  | step h hs ih =>
    rename_i k n o l
    intro i hi
    match i with
    | 0 => exact ⟨o, rfl, h⟩
    | i + 1 =>
      obtain ⟨o', h1, h2⟩ := ih i (by omega)
      exact ⟨o', by simpa using h1, by rw [show k + (i + 1) = k + 1 + i by omega]; exact h2⟩
theorem AllOps.end_ {S : Nat → Oper → Prop} {F : List Oper → Prop} {n k : Nat} {l : List Oper} (h : AllOps S F k n l) : F (l.drop n) := by
 induction h with
 | fin h => exact h
 | step _ _ ih => exact ih

theorem want {b : Bool} {p q : Prop} (h : b = true) (hp : p) : if b = true then p else q := by rw [if_pos h]; exact hp
theorem none_ {n j : Nat} : (Array.replicate n false).getD j false = false := by
 rw [Array.getD_eq_getD_getElem?, Array.getElem?_replicate]
 split <;> rfl
theorem any_of {E : World → World → Prop} (hE0 : ∀ w, E w w) (hE1 : ∀ a b c, E a b → E b c → E a c) (hE2 : ∀ a b, E a b → a.heap.size ≤ b.heap.size)
 {a : Act} {w X0 : World} (hX0 : E w X0) (m : Nat) (L AL : List Nat) (R : Nat → (Nat → Value) → World → Prop) (hok : ok ops (fun i => L.getD i 0) m = true)
 (hstep : AllFrom (StepU P ops Q E m L AL R a w) 0 m) (pl : List (Nat × Nat)) (hpl : sel ops (fun _ => true) (List.range m) = pl)
 (hfin : ∀ f X, E w X → (∀ j, j < m → R j (mask (fun i => L.getD i 0) j f) X) → (∀ j, j < m → AL.contains j = true → ∃ b, f j = .pointer (some ⟨b, 0, none⟩) ∧ b < X.heap.size) → (∀ j k, j < m → k < m → AL.contains j = true → AL.contains k = true → j ≠ k → f j ≠ f k) →
  wpAny P .any ops Q (ops.size - m) (((List.range ops.size).map fun j => decide (j < m)).toArray) (putL f pl a) X) : wpAny P .any ops Q ops.size (Array.replicate ops.size false) a X0 := by
 have hF := ok.form hok
 refine par hE0 hE1 hE2 (R := fun j f X => ∀ Y, E X Y → R j f Y) (M := fun i => L.getD i 0) (AL := fun i => AL.contains i) (m := m) (a := a) (w := w) hF (fun j _ f X h Y hY Z hZ => h Z (hE1 _ _ _ hY hZ))
  (fun i hi f X hX hR K hK => ?_) (fun f X hX hR h1 h2 => ?_) ops.size _ (fun _ => undef) a X0 (by simp) (fun j o _ h => (by rw [none_] at h; cases h)) (fun j h => (by rw [none_] at h; cases h)) ?_ ⟨?_, hX0, fun j _ h => (by rw [none_] at h; cases h), fun j _ h => (by rw [none_] at h; cases h), fun j k _ _ h => (by rw [none_] at h; cases h)⟩
 · refine hstep.out i (Nat.zero_le _) (by omega) f X hX (fun j hj => hR j hj X (hE0 _)) K (fun a' v X' ha hE hA hR' => hK a' v X' ha hE hA (fun Y hY Z hZ => hR' Z (hE1 _ _ _ hY hZ)))
 · have := hfin f X hX (fun j hj => hR j hj X (hE0 _)) h1 h2
   rw [← hpl, ← put_sel] at this
   exact this
 · have : ∀ n, cnt (fun j => (Array.replicate ops.size false).getD j false) n = 0 := fun n => by
    induction n with
    | zero => rfl
    | succ n ih => rw [cnt, ih, none_]; rfl
   rw [this]; rfl
 · have : ∀ (l : List Nat) (a : Act), put ops (fun j => (Array.replicate ops.size false).getD j false) (fun _ => undef) l a = a := fun l => by
    induction l with
    | nil => intro a; rfl
    | cons j l ih => intro a; rw [put, none_]; exact ih _
   exact (this _ _).symm
structure Fin (P : Program) (ol : List Oper) (Q : Exit → Act → World → Prop) (E : World → World → Prop) (m : Nat) (L AL : List Nat) (R : Nat → (Nat → Value) → World → Prop) (pl : List (Nat × Nat)) (a : Act) (w : World) (l : List Oper) : Prop where
 out : ∀ f X, E w X → (∀ j, j < m → R j (mask (fun i => L.getD i 0) j f) X) → (∀ j, j < m → AL.contains j = true → ∃ b, f j = .pointer (some ⟨b, 0, none⟩) ∧ b < X.heap.size) → (∀ j k, j < m → k < m → AL.contains j = true → AL.contains k = true → j ≠ k → f j ≠ f k) → Way (Chain P ol Q l (putL f pl a) X)
theorem any_all {E : World → World → Prop} (hE0 : ∀ w, E w w) (hE1 : ∀ a b c, E a b → E b c → E a c) (hE2 : ∀ a b, E a b → a.heap.size ≤ b.heap.size)
 {ol : List Oper} {a : Act} {w X0 : World} (hX0 : E w X0) (m : Nat) (L AL : List Nat) (R : Nat → (Nat → Value) → World → Prop) (hok : ok ol.toArray (fun i => L.getD i 0) m = true) (pl : List (Nat × Nat)) (hpl : sel ol.toArray (fun _ => true) (List.range m) = pl)
 (hstep : AllOps (StepO P ol Q E m L AL R a w) (Fin P ol Q E m L AL R pl a w) 0 m ol) : wpAny P .any ol.toArray Q ol.toArray.size (Array.replicate ol.toArray.size false) a X0 := by
 refine any_of hE0 hE1 hE2 hX0 m L AL R hok ?_ pl hpl (fun f X hX hR h1 h2 => ?_)
 · have key : ∀ i, i < m → StepU P ol.toArray Q E m L AL R a w i := fun i hi => by
    obtain ⟨o, h1, h2⟩ := hstep.out i hi
    rw [Nat.zero_add] at h2
    exact h2.out h1
   have : ∀ n k, k + n = m → AllFrom (StepU P ol.toArray Q E m L AL R a w) k n := fun n => by
    induction n with
    | zero => intro k _; trivial
    | succ n ih => intro k hk; exact ⟨key k (by omega), ih (k + 1) (by omega)⟩
   exact this m 0 (by omega)
 · have hF := ok.form hok
   have h3 := (hstep.end_.out f X hX hR h1 h2).out
   exact Chain.sound hF (ol.toArray.size - m) m _ X (Nat.le_refl _) (by have := hF.le; omega) h3
theorem any_text {ol : List Oper} {M : Nat → Nat} {m : Nat} (hF : Form ol.toArray M m) : ∀ (n m' : Nat) (a : Act) (X : World), m' + n = ol.toArray.size → wpAny P .any ol.toArray Q n (upto ol.toArray.size m') a X → wpOps P ol.toArray Q (List.range' m' n) a X := by
  intro n
  induction n with
  | zero => intro m' a X _ h; exact h.2
  | succ n ih =>
    intro m' a X hn h
    have hms' : m' < ol.toArray.size := by omega
    have hmem : m' ∈ Region.ready .any ol.toArray (upto ol.toArray.size m') := by
      rw [mem_ready]
      refine ⟨?_, _, Array.getElem?_eq_getElem hms', fun e he hb => ?_⟩
      · have : m' < ol.length := by simpa using hms'
        simp [upto, this]
      · have hlt := hF.up m' _ (Array.getElem?_eq_getElem hms') e he hb
        rw [upto_getD (by omega)]; simpa using hlt
    rw [List.range'_succ, wpOps_cons]
    refine wpOp_mono (fun a w hw => ?_) (h.2 m' hmem)
    rw [upto_set hms'] at hw
    exact ih (m' + 1) a w (by omega) hw
theorem upto_zero (n : Nat) : Array.replicate n false = upto n 0 := by
 apply Array.ext
 · simp [upto]
 · intro k h1 h2
   simp [upto]
theorem region_ext {ol : List Oper} {id : Nat} {a : Act} {w : World} (hm : P.follows .mixedOrders = true) (m : Nat) (L AL : List Nat) (R : Nat → (Nat → Value) → World → Prop) (hok : ok ol.toArray (fun i => L.getD i 0) m = true) (pl : List (Nat × Nat)) (hpl : sel ol.toArray (fun _ => true) (List.range m) = pl)
 (hstep : AllOps (StepO P ol Q Ext m L AL R a w) (Fin P ol Q Ext m L AL R pl a w) 0 m ol) : (Code.region id ol.toArray true).wp P Q a w :=
 wp_region_any hm (any_all Ext.refl (fun _ _ _ => Ext.trans) (fun _ _ => Ext.bsize) (Ext.drew w) m L AL R hok pl hpl hstep)
theorem region_txt {ol : List Oper} {id : Nat} {a : Act} {w : World} (m : Nat) (L AL : List Nat) (R : Nat → (Nat → Value) → World → Prop) (hok : ok ol.toArray (fun i => L.getD i 0) m = true) (pl : List (Nat × Nat)) (hpl : sel ol.toArray (fun _ => true) (List.range m) = pl)
 (hstep : AllOps (StepO P ol Q Ext m L AL R a w) (Fin P ol Q Ext m L AL R pl a w) 0 m ol) : (Code.region id ol.toArray false).wp P Q a w := by
 refine wp_region ?_
 have h := any_all Ext.refl (fun _ _ _ => Ext.trans) (fun _ _ => Ext.bsize) (Ext.refl w) m L AL R hok pl hpl hstep
 rw [upto_zero] at h
 rw [List.range_eq_range']
 exact any_text (ok.form hok) _ 0 a w (by omega) h
end
theorem S {P : Program} {Q : Exit → Act → World → Prop} {ol : List Oper} {E : World → World → Prop} {m : Nat} {L AL : List Nat} {R : Nat → (Nat → Value) → World → Prop} {a : Act} {w : World} {F : List Oper → Prop} {k n : Nat} {o : Oper} {l : List Oper} (k' n' : Nat) (pl : List (Nat × Nat))
 (h : ∀ f X, E w X → Way (∀ j, (L.getD k 0).testBit j = true → R j (mask (fun i => L.getD i 0) j f) X) → ∀ K : Act → World → Prop,
  Way (∀ a' v X', a' = (putL f pl a).put o.dst v → E X X' → (if AL.contains k = true then v = .pointer (some ⟨X.heap.size, 0, none⟩) ∧ X.heap.size < X'.heap.size else True) → (∀ Y, E X' Y → R k (mask (fun i => L.getD i 0) k (upd f k v)) Y) → K a' X') →
  Way (if Region.wanted o (yielded ol.toArray (putL f pl a).tmps) = true then Oper.wp P o (putL f pl a) X K Q else K ((putL f pl a).put o.dst undef) X))
 (hs : AllOps (StepO P ol Q E m L AL R a w) F k' n' l) (hk : k + 1 = k' := by rfl) (hn : n' + 1 = n := by rfl) (hpl : sel ol.toArray (nd (fun i => L.getD i 0) k) (List.range m) = pl := by kernel_rfl) :
 AllOps (StepO P ol Q E m L AL R a w) F k n (o :: l) := AllOps.cons k' n' hk hn (StepO.intro pl hpl h) hs
theorem upd_self {f : Nat → Value} {j : Nat} {u : Value} (h : f j = u) : f = upd f j u := by
 funext i
 unfold upd
 split
 · rename_i e; rw [e]; exact h
 · rfl
theorem vx {P : Program} {Q : Exit → Act → World → Prop} {ol : List Oper} {m : Nat} {L AL : List Nat} {R : Nat → (Nat → Value) → World → Prop} {a : Act} {w : World} {F : List Oper → Prop} {k n : Nat} {o : Oper} {l : List Oper} {k' n' : Nat} {v : Value} (g : (Nat → Value) → Nat → Value)
 (hs : AllOps (StepO P ol Q Ext m L AL R a w) F k' n' l) (hg : ∀ f X, (∀ j, (L.getD k 0).testBit j = true → R j (mask (fun i => L.getD i 0) j f) X) → f = g f)
 (hR : ∀ f X, f k = v → R k (mask (fun i => L.getD i 0) k f) X) (hk : k + 1 = k') (hn : n' + 1 = n) (ha : AL.contains k = false)
 (hw : ∀ f, Region.wanted o (yielded ol.toArray (put ol.toArray (nd (fun i => L.getD i 0) k) (g f) (List.range m) a).tmps) = true)
 (hrun : ∀ f X, Ext w X → (execOp (put ol.toArray (nd (fun i => L.getD i 0) k) (g f) (List.range m) a).eval o).run P X = .ok (.value v) X) : AllOps (StepO P ol Q Ext m L AL R a w) F k n (o :: l) := by
 refine AllOps.cons k' n' hk hn ⟨fun ho => ?_⟩ hs
 intro f X hX hR' K hK
 have hf := hg f X hR'
 have ho' : ol.toArray[k]? = some o := by simpa using ho
 refine wpOp_step ho' fun K' hK' => ?_
 have hA : put ol.toArray (nd (fun i => L.getD i 0) k) f (List.range m) a = put ol.toArray (nd (fun i => L.getD i 0) k) (g f) (List.range m) a := congrArg (fun f => put ol.toArray (nd (fun i => L.getD i 0) k) f (List.range m) a) hf
 rw [if_pos (by rw [hA]; exact hw f)]
 unfold Oper.wp
 rw [show execOp (put ol.toArray (nd (fun i => L.getD i 0) k) f (List.range m) a).eval o = execOp (put ol.toArray (nd (fun i => L.getD i 0) k) (g f) (List.range m) a).eval o by rw [hA], hrun f X hX]
 show K' ((put ol.toArray (nd (fun i => L.getD i 0) k) f (List.range m) a).put o.dst v) X
 refine hK' _ _ (hK _ v X ?_ (Ext.refl _) (by show (if AL.contains k = true then _ else True); rw [if_neg (by rw [ha]; decide)]; trivial) (fun Y _ => hR _ _ (by simp [upd])))
 have : o.dst = dst ol.toArray k := by rw [dst, ho']; rfl
 rw [this]
section
variable {P : Program} {Q : Exit → Act → World → Prop} {ol : List Oper} {m : Nat} {L AL : List Nat} {R : Nat → (Nat → Value) → World → Prop} {a : Act} {w : World} {F : List Oper → Prop} {k n : Nat} {o : Oper} {l : List Oper} {v u u' : Value}
theorem v0 (k' n' : Nat) (hs : AllOps (StepO P ol Q Ext m L AL R a w) F k' n' l) (hR : ∀ f X, f k = v → R k (mask (fun i => L.getD i 0) k f) X := by exact fun _ _ h => h) (hk : k + 1 = k' := by rfl) (hn : n' + 1 = n := by rfl) (ha : AL.contains k = false := by kernel_rfl)
 (hw : ∀ f, Region.wanted o (yielded ol.toArray (put ol.toArray (nd (fun i => L.getD i 0) k) f (List.range m) a).tmps) = true := by intro _; kernel_rfl)
 (hrun : ∀ f X, (execOp (put ol.toArray (nd (fun i => L.getD i 0) k) f (List.range m) a).eval o).run P X = .ok (.value v) X := by intro _ _; kernel_rfl) : AllOps (StepO P ol Q Ext m L AL R a w) F k n (o :: l) :=
 vx (fun f => f) hs (fun _ _ _ => rfl) hR hk hn ha hw (fun f X _ => hrun f X)
theorem v1 (k' n' j : Nat) (hs : AllOps (StepO P ol Q Ext m L AL R a w) F k' n' l) (hr : ∀ f X, R j (mask (fun i => L.getD i 0) j f) X → f j = u := by exact fun _ _ h => h) (hR : ∀ f X, f k = v → R k (mask (fun i => L.getD i 0) k f) X := by exact fun _ _ h => h) (hk : k + 1 = k' := by rfl) (hn : n' + 1 = n := by rfl) (ha : AL.contains k = false := by kernel_rfl)
 (hj : (L.getD k 0).testBit j = true := by kernel_rfl)
 (hw : ∀ f, Region.wanted o (yielded ol.toArray (put ol.toArray (nd (fun i => L.getD i 0) k) (upd f j u) (List.range m) a).tmps) = true := by intro _; kernel_rfl)
 (hrun : ∀ f X, (execOp (put ol.toArray (nd (fun i => L.getD i 0) k) (upd f j u) (List.range m) a).eval o).run P X = .ok (.value v) X := by intro _ _; kernel_rfl) : AllOps (StepO P ol Q Ext m L AL R a w) F k n (o :: l) :=
 vx (fun f => upd f j u) hs (fun f X h => upd_self (hr f X (h j hj))) hR hk hn ha hw (fun f X _ => hrun f X)
theorem v2 (k' n' j i : Nat) (hs : AllOps (StepO P ol Q Ext m L AL R a w) F k' n' l) (hr : ∀ f X, R j (mask (fun i => L.getD i 0) j f) X → f j = u := by exact fun _ _ h => h) (hr' : ∀ f X, R i (mask (fun i => L.getD i 0) i f) X → f i = u' := by exact fun _ _ h => h) (hR : ∀ f X, f k = v → R k (mask (fun i => L.getD i 0) k f) X := by exact fun _ _ h => h) (hk : k + 1 = k' := by rfl) (hn : n' + 1 = n := by rfl) (ha : AL.contains k = false := by kernel_rfl)
 (hj : (L.getD k 0).testBit j = true := by kernel_rfl) (hi : (L.getD k 0).testBit i = true := by kernel_rfl)
 (hw : ∀ f, Region.wanted o (yielded ol.toArray (put ol.toArray (nd (fun i => L.getD i 0) k) (upd (upd f j u) i u') (List.range m) a).tmps) = true := by intro _; kernel_rfl)
 (hrun : ∀ f X, (execOp (put ol.toArray (nd (fun i => L.getD i 0) k) (upd (upd f j u) i u') (List.range m) a).eval o).run P X = .ok (.value v) X := by intro _ _; kernel_rfl) : AllOps (StepO P ol Q Ext m L AL R a w) F k n (o :: l) :=
 vx (fun f => upd (upd f j u) i u') hs (fun f X h => by
  have h1 := upd_self (hr f X (h j hj))
  have h2 := upd_self (hr' f X (h i hi))
  rw [← h1, ← h2]) hR hk hn ha hw (fun f X _ => hrun f X)
theorem sk (k' n' j : Nat) (hs : AllOps (StepO P ol Q Ext m L AL R a w) F k' n' l) (hr : ∀ f X, R j (mask (fun i => L.getD i 0) j f) X → f j = u := by exact fun _ _ h => h) (hR : ∀ f X, f k = undef → R k (mask (fun i => L.getD i 0) k f) X := by exact fun _ _ h => h) (hk : k + 1 = k' := by rfl) (hn : n' + 1 = n := by rfl) (ha : AL.contains k = false := by kernel_rfl)
 (hj : (L.getD k 0).testBit j = true := by kernel_rfl)
 (hw : ∀ f, Region.wanted o (yielded ol.toArray (put ol.toArray (nd (fun i => L.getD i 0) k) (upd f j u) (List.range m) a).tmps) = false := by intro _; kernel_rfl) : AllOps (StepO P ol Q Ext m L AL R a w) F k n (o :: l) := by
 refine AllOps.cons k' n' hk hn ⟨fun ho => ?_⟩ hs
 intro f X hX hR' K hK
 have hf := upd_self (hr f X (hR' j hj))
 have ho' : ol.toArray[k]? = some o := by simpa using ho
 refine wpOp_step ho' fun K' hK' => ?_
 have hA : put ol.toArray (nd (fun i => L.getD i 0) k) f (List.range m) a = put ol.toArray (nd (fun i => L.getD i 0) k) (upd f j u) (List.range m) a := congrArg (fun f => put ol.toArray (nd (fun i => L.getD i 0) k) f (List.range m) a) hf
 rw [if_neg (by rw [hA, hw f]; decide)]
 refine hK' _ _ (hK _ undef X ?_ (Ext.refl _) (by show (if AL.contains k = true then _ else True); rw [if_neg (by rw [ha]; decide)]; trivial) (fun Y _ => hR _ _ (by simp [upd])))
 have : o.dst = dst ol.toArray k := by rw [dst, ho']; rfl
 rw [this]
theorem al (k' n' : Nat) {ob : Obj} (hs : AllOps (StepO P ol Q Ext m L AL R a w) F k' n' l) (hR : ∀ f X, (∃ b, f k = .pointer (some ⟨b, 0, none⟩) ∧ w.heap.size ≤ b ∧ X.heap[b]? = some ob) → R k (mask (fun i => L.getD i 0) k f) X := by exact fun _ _ h => h) (hk : k + 1 = k' := by rfl) (hn : n' + 1 = n := by rfl)
 (hw : ∀ f, Region.wanted o (yielded ol.toArray (put ol.toArray (nd (fun i => L.getD i 0) k) f (List.range m) a).tmps) = true := by intro _; kernel_rfl)
 (hrun : ∀ f X, (execOp (put ol.toArray (nd (fun i => L.getD i 0) k) f (List.range m) a).eval o).run P X = .ok (.value (.pointer (some ⟨X.heap.size, 0, none⟩))) (X.alloc ob) := by intro _ _; kernel_rfl) : AllOps (StepO P ol Q Ext m L AL R a w) F k n (o :: l) := by
 refine AllOps.cons k' n' hk hn ⟨fun ho => ?_⟩ hs
 intro f X hX hR' K hK
 have ho' : ol.toArray[k]? = some o := by simpa using ho
 refine wpOp_step ho' fun K' hK' => ?_
 rw [if_pos (hw f)]
 unfold Oper.wp
 rw [hrun f X]
 show K' ((put ol.toArray (nd (fun i => L.getD i 0) k) f (List.range m) a).put o.dst _) (X.alloc ob)
 refine hK' _ _ (hK _ (.pointer (some ⟨X.heap.size, 0, none⟩)) (X.alloc ob) ?_ (Ext.alloc _ _) (by show (if AL.contains k = true then _ else True); split; exact ⟨rfl, by simp⟩; trivial) (fun Y hY => hR _ _ ⟨X.heap.size, by simp [upd], hX.bsize, hY.at_ (heap_alloc_new _ _)⟩))
 have : o.dst = dst ol.toArray k := by rw [dst, ho']; rfl
 rw [this]
theorem cx {F' : FuncId} {args : (Nat → Value) → Array Value} {k' n' : Nat} (hs : AllOps (StepO P ol Q Ext m L AL R a w) F k' n' l) (hk : k + 1 = k') (hn : n' + 1 = n) (ha : AL.contains k = false)
 (hw : ∀ f X, (∀ j, (L.getD k 0).testBit j = true → R j (mask (fun i => L.getD i 0) j f) X) → Region.wanted o (yielded ol.toArray (put ol.toArray (nd (fun i => L.getD i 0) k) f (List.range m) a).tmps) = true)
 (hrun : ∀ f X, (execOp (put ol.toArray (nd (fun i => L.getD i 0) k) f (List.range m) a).eval o).run P X = .ok (.enter F' (args f)) X)
 (hc : ∀ f X, Ext w X → Way (∀ j, (L.getD k 0).testBit j = true → R j (mask (fun i => L.getD i 0) j f) X) → Calls P F' (args f) X fun e w' => ∃ v, e = .returned v ∧ Ext X w' ∧ ∀ Y, Ext w' Y → R k (mask (fun i => L.getD i 0) k (upd f k v)) Y) : AllOps (StepO P ol Q Ext m L AL R a w) F k n (o :: l) := by
 refine AllOps.cons k' n' hk hn ⟨fun ho => ?_⟩ hs
 intro f X hX hR' K hK
 have ho' : ol.toArray[k]? = some o := by simpa using ho
 refine wpOp_step ho' fun K' hK' => ?_
 rw [if_pos (hw f X hR')]
 unfold Oper.wp
 rw [hrun f X, Oper.upon_enter]
 refine (hc f X hX ⟨hR'⟩).mono ?_
 rintro e w' ⟨v, rfl, hE, hY⟩
 refine hK' _ _ (hK _ v w' ?_ hE (by show (if AL.contains k = true then _ else True); rw [if_neg (by rw [ha]; decide)]; trivial) hY)
 have : o.dst = dst ol.toArray k := by rw [dst, ho']; rfl
 rw [this]
theorem c0 (k' n' : Nat) (args : (Nat → Value) → Array Value) {F' : FuncId} (hc : ∀ f X, Ext w X → Way (∀ j, (L.getD k 0).testBit j = true → R j (mask (fun i => L.getD i 0) j f) X) → Calls P F' (args f) X fun e w' => ∃ v, e = .returned v ∧ Ext X w' ∧ ∀ Y, Ext w' Y → R k (mask (fun i => L.getD i 0) k (upd f k v)) Y) (hs : AllOps (StepO P ol Q Ext m L AL R a w) F k' n' l)
 (hk : k + 1 = k' := by rfl) (hn : n' + 1 = n := by rfl) (ha : AL.contains k = false := by kernel_rfl)
 (hw : ∀ f, Region.wanted o (yielded ol.toArray (put ol.toArray (nd (fun i => L.getD i 0) k) f (List.range m) a).tmps) = true := by intro _; kernel_rfl)
 (hrun : ∀ f X, (execOp (put ol.toArray (nd (fun i => L.getD i 0) k) f (List.range m) a).eval o).run P X = .ok (.enter F' (args f)) X := by intro _ _; kernel_rfl) : AllOps (StepO P ol Q Ext m L AL R a w) F k n (o :: l) :=
 cx hs hk hn ha (fun f _ _ => hw f) hrun hc
theorem c1 (k' n' j : Nat) (args : (Nat → Value) → Array Value) {F' : FuncId} (hc : ∀ f X, Ext w X → Way (∀ j, (L.getD k 0).testBit j = true → R j (mask (fun i => L.getD i 0) j f) X) → Calls P F' (args f) X fun e w' => ∃ v, e = .returned v ∧ Ext X w' ∧ ∀ Y, Ext w' Y → R k (mask (fun i => L.getD i 0) k (upd f k v)) Y) (hs : AllOps (StepO P ol Q Ext m L AL R a w) F k' n' l)
 (hr : ∀ f X, R j (mask (fun i => L.getD i 0) j f) X → f j = u := by exact fun _ _ h => h) (hk : k + 1 = k' := by rfl) (hn : n' + 1 = n := by rfl) (ha : AL.contains k = false := by kernel_rfl) (hj : (L.getD k 0).testBit j = true := by kernel_rfl)
 (hw : ∀ f, Region.wanted o (yielded ol.toArray (put ol.toArray (nd (fun i => L.getD i 0) k) (upd f j u) (List.range m) a).tmps) = true := by intro _; kernel_rfl)
 (hrun : ∀ f X, (execOp (put ol.toArray (nd (fun i => L.getD i 0) k) f (List.range m) a).eval o).run P X = .ok (.enter F' (args f)) X := by intro _ _; kernel_rfl) : AllOps (StepO P ol Q Ext m L AL R a w) F k n (o :: l) :=
 cx hs hk hn ha (fun f X h => by rw [upd_self (hr f X (h j hj))]; exact hw f) hrun hc
theorem run_loadAt1 {t : TypeId} {p : Addr} {X : World} (hc : X.cell? p = some v) (ht : (isAgg t).run P X = .ok false X) : (Instr.loadAt t (.pointer (some p))).run P X = .ok v X := by
 unfold Instr.loadAt loadVar
 simp only [Sem.run_bind]
 rw [show (Instr.sureAddr (.pointer (some p))).run P X = .ok p X from rfl, Result.andThen_ok, ht, Result.andThen_ok, if_neg (by decide)]
 unfold load
 simp only [Sem.run, hc]
theorem ld1 (k' n' j : Nat) {p : Addr} {t : TypeId} {x : Operand} (hc : w.cell? p = some v) (hs : AllOps (StepO P ol Q Ext m L AL R a w) F k' n' l) (hr : ∀ f X, R j (mask (fun i => L.getD i 0) j f) X → f j = u := by exact fun _ _ h => h) (hR : ∀ f X, f k = v → R k (mask (fun i => L.getD i 0) k f) X := by exact fun _ _ h => h) (hk : k + 1 = k' := by rfl) (hn : n' + 1 = n := by rfl) (ha : AL.contains k = false := by kernel_rfl)
 (hj : (L.getD k 0).testBit j = true := by kernel_rfl)
 (hw : ∀ f, Region.wanted o (yielded ol.toArray (put ol.toArray (nd (fun i => L.getD i 0) k) (upd f j u) (List.range m) a).tmps) = true := by intro _; kernel_rfl)
 (ho : o.op = .load t x := by rfl) (hx : ∀ f, (put ol.toArray (nd (fun i => L.getD i 0) k) (upd f j u) (List.range m) a).eval x = .pointer (some p) := by intro _; kernel_rfl) (ht : ∀ X, (isAgg t).run P X = .ok false X := by intro _; kernel_rfl) : AllOps (StepO P ol Q Ext m L AL R a w) F k n (o :: l) :=
 vx (fun f => upd f j u) hs (fun f X h => upd_self (hr f X (h j hj))) hR hk hn ha hw (fun f X hX => by
  unfold execOp
  simp only [ho, Sem.run_bind, hx, run_loadAt1 (hX.cell hc) (ht X), Result.andThen_ok]
  rfl)
end
theorem k {A : Value → Act} {b : Act} {X : World} {H : Value → World → Prop} {G : Value → World → Prop} {K : Act → World → Prop} {v : Value}
 (hK : Way (∀ a' v X', a' = A v → Ext X X' → H v X' → (∀ Y, Ext X' Y → G v Y) → K a' X'))
 (hr : ∀ Y, Ext X Y → G v Y := by exact fun _ _ => rfl) (s : b = A v) (ha : H v X := by exact trivial) : K b X :=
 hK.out b v X s (Ext.refl X) ha hr
end Par
/- What lays the slots' values out. -/
theorem yA (f : Nat → Value) (i j : Nat) (l : List (Nat × Nat)) (L : List Value) (d : List Deferred) : Par.putL f ((i, j) :: l) ⟨L.toArray, d⟩ = Par.putL f l ⟨(L.set i (f j)).toArray, d⟩ := by
 simp only [Par.putL, Act.put, List.setIfInBounds_toArray]
theorem yB (f : Nat → Value) (a : Act) : Par.putL f [] a = a := rfl
theorem yC (L : List Value) (d : List Deferred) (i : Nat) (v : Value) : Act.put ⟨L.toArray, d⟩ (some i) v = ⟨(L.set i v).toArray, d⟩ := by
 simp only [Act.put, List.setIfInBounds_toArray]
theorem yD (x : Value) (l : List Value) (n : Nat) (v : Value) : (x :: l).set (n + 1) v = x :: l.set n v := rfl
theorem yE (x : Value) (l : List Value) (v : Value) : (x :: l).set 0 v = v :: l := rfl
end Go.Proofs.YtlaphnlolgokiaaGreatDoor

namespace Go.Proofs.YtlaphnlolgokiaaGreatDoor
open Go.RowKit
namespace Par
section
variable {P : Program} {ops : Array Oper} {Q : Exit → Act → World → Prop}

end
section
variable {P : Program} {Q : Exit → Act → World → Prop}
structure PuO (P : Program) (ol : List Oper) (Q : Exit → Act → World → Prop) (E : World → World → Prop) (n : Nat) (L : List Nat) (R : Nat → (Nat → Value) → World → Prop) (a : Act) (w : World) (u : Nat) (cv : Value) (o : Oper) : Prop where
 out : ol[u]? = some o → ∀ f X0 X, E w X0 → (∀ j, (L.getD u 0).testBit j = true → R j (mask (fun i => L.getD i 0) j f) X0) → ∀ K : Act → World → Prop, K ((put ol.toArray (nd (fun i => L.getD i 0) u) f (List.range n) a).put (dst ol.toArray u) cv) X → wpOp P ol.toArray Q u K (put ol.toArray (nd (fun i => L.getD i 0) u) f (List.range n) a) X
theorem PuO.intro {ol : List Oper} {E : World → World → Prop} {n : Nat} {L : List Nat} {R : Nat → (Nat → Value) → World → Prop} {a : Act} {w : World} {u : Nat} {cv : Value} {o : Oper} (pl : List (Nat × Nat)) (hpl : sel ol.toArray (nd (fun i => L.getD i 0) u) (List.range n) = pl)
 (h : ∀ f X0 X, E w X0 → Way (∀ j, (L.getD u 0).testBit j = true → R j (mask (fun i => L.getD i 0) j f) X0) → ∀ K : Act → World → Prop, Way (K ((putL f pl a).put o.dst cv) X) →
  Way (if Region.wanted o (yielded ol.toArray (putL f pl a).tmps) = true then Oper.wp P o (putL f pl a) X K Q else K ((putL f pl a).put o.dst undef) X)) : PuO P ol Q E n L R a w u cv o := by
 refine ⟨fun ho f X0 X hX hR K hK => ?_⟩
 have ho' : ol.toArray[u]? = some o := by simpa using ho
 refine wpOp_step ho' fun K' hK' => ?_
 have h1 := h f X0 X hX ⟨hR⟩ K'
 rw [← hpl, ← put_sel] at h1
 refine (h1 ⟨hK' _ _ ?_⟩).out
 have : o.dst = dst ol.toArray u := by rw [dst, ho']; rfl
 rw [this]
 exact hK
inductive StepX (P : Program) (ol : List Oper) (Q : Exit → Act → World → Prop) (E : World → World → Prop) (n : Nat) (L AL : List Nat) (R : Nat → (Nat → Value) → World → Prop) (a : Act) (w : World) (u : Nat) (cv : Value) : Nat → Oper → Prop
 | step {i : Nat} {o : Oper} (hne : (i == u) = false) (h : StepO P ol Q E n L AL R a w i o) : StepX P ol Q E n L AL R a w u cv i o
 | pure {o : Oper} (h : PuO P ol Q E n L R a w u cv o) : StepX P ol Q E n L AL R a w u cv u o
inductive FinS (P : Program) (ol : List Oper) (Q : Exit → Act → World → Prop) (E : World → World → Prop) (s u : Nat) (cv : Value) (L AL : List Nat) (R : Nat → (Nat → Value) → World → Prop) (S : (Nat → Value) → World → Prop) (pl : List (Nat × Nat)) (a : Act) (w : World) : List Oper → Prop
  | intro {o : Oper} {l : List Oper}
    (hst : ∀ f X, E w X → Way (∀ j, (L.getD s 0).testBit j = true → R j (mask (fun i => L.getD i 0) j f) X) → Way (∀ j, (L.getD s 0).testBit j = true → AL.contains j = true → ∃ b, f j = .pointer (some ⟨b, 0, none⟩) ∧ b < X.heap.size) → ∀ K : Act → World → Prop, Way (∀ Y, S (mask (fun i => L.getD i 0) s f) Y → K (putL f pl a) Y) →
      Way (if Region.wanted o (yielded ol.toArray (putL f pl a).tmps) = true then Oper.wp P o (putL f pl a) X K Q else K ((putL f pl a).put o.dst undef) X))
    (htail : ∀ f Y, f u = cv → S (mask (fun i => L.getD i 0) s f) Y → Way (Chain P ol Q l (putL f pl a) Y)) : FinS P ol Q E s u cv L AL R S pl a w (o :: l)
end
end Par
end Go.Proofs.YtlaphnlolgokiaaGreatDoor

namespace Go.Proofs.YtlaphnlolgokiaaGreatDoor
open Go.RowKit

set_option maxRecDepth 100000 in
set_option maxHeartbeats 2000000 in
theorem refSub_any (P P' : Nat → Prop) (A A' : Option Addr) (c c' : Nat) (x y : Nat) (w : World) (h : RN w P A c (digs 4294967296 x)) (h' : RN w P' A' c' (digs 4294967296 y)) (hP : ∀ b, P b → b < w.heap.size) (hP' : ∀ b, P' b → b < w.heap.size)
 (hl : (digs 4294967296 x).length < 100000) (hle : y ≤ x) :
 Calls Tryz.prog 30 #[.slice A (digs 4294967296 x).length c, .slice A' (digs 4294967296 y).length c'] w fun e w' => ∃ A1 c1, e = .returned (.slice A1 (digs 4294967296 (x - y)).length c1) ∧
  OB w' w.heap.size A1 c1 (digs 4294967296 (x - y)) ∧ Below w.heap.size w w' := by
 have hx := val_digs (B := 4294967296) (by omega) x
 have hy := val_digs (B := 4294967296) (by omega) y
 have hml := digs_length_mono (B := 4294967296) (by omega) hle
 have dx := Dig.digs x
 have dy := Dig.digs y
 generalize digs 4294967296 x = l at *
 generalize digs 4294967296 y = m at *
 have Hx := Lib.hid hx
 have Hy := Lib.hid hy
 clear hx hy
 obtain ⟨h1, h2, h3⟩ := h.cap
 obtain ⟨g1, g2, g3⟩ := h'.cap
 have hmk := run_make_row' (P := Tryz.prog) 30 34 (.int .u64 0) 8 Tryz.underlying30 info64 rfl .i64 .i64 l.length (by omega) (by omega)
 go_enter Tryz.func30, Tryz.ntmps30
 go_wp2
 go_loopw [6, 7] (fun cv iv wr => ∃ (k cr : Nat) (o : List Nat), iv = .int .i64 (k : Int) ∧ cv = .int .u64 (cr : Int) ∧ k ≤ l.length ∧ cr ≤ 1 ∧ SubAt 4294967296 l m o k cr ∧ Hid (o.length = l.length) ∧ Dig o ∧ Blk wr w.heap.size o ∧ Below w.heap.size w wr) (fun _ iv _ => l.length - (intOf iv).toNat)
 case atStart => exact ⟨0, 0, List.replicate l.length 0, rfl, rfl, by omega, by omega, SubAt.zero _ _ _ _, Lib.hid (by simp), by intro x hx; simp at hx; omega, Blk.made w _, (Below.refl _ w).alloc (Nat.le_refl _) _⟩
 case round =>
  obtain ⟨k, cr, o, rfl, rfl, hk, hcr, hA, Ho, hD, hblk, hB⟩ := hrel
  by_cases hlt : k < l.length
  · have hok : k < o.length := by have := Ho.out; omega
    have q3 := hblk.cell hok
    have q4 := hblk.free k
    have b1 := dx.dgLt k
    have b2 := dy.dgLt k
    obtain ⟨ad, rfl, had, q1⟩ := (h.below hB hP).at_ hlt
    by_cases hm2 : k < m.length
    · obtain ⟨ae, rfl, hae, q2⟩ := (h'.below hB hP').at_ hm2
      by_cases hb : dg l k < cr + dg m k
      · obtain ⟨s, hs, e1⟩ : ∃ s : Nat, s < 4294967296 ∧ (dg l k : Int) + 4294967296 - ((cr : Int) + (dg m k : Int)) = (s : Int) := ⟨dg l k + 4294967296 - (cr + dg m k), by omega, by omega⟩
        have hA' := hA.step (s := s) (c' := 1) hok (by omega)
        have hblk' := hblk.set k s
        have hD' := hD.set k s hs
        have hB' := hB.setCell (p := ⟨w.heap.size, k, none⟩) (Nat.le_refl _) (.int .u64 (s : Int))
        have Ho' : Hid ((o.set k s).length = l.length) := Lib.hid (by rw [List.length_set]; exact Ho.out)
        have t1 : (dg l k : Int) < (cr : Int) + (dg m k : Int) := by omega
        clear hA hblk hD hB hok hb
        go_wp2
        go_roundw
        case rel => exact ⟨k + 1, 1, o.set k s, by go_num, by go_num, by omega, by omega, hA', Ho', hD', hblk', hB'⟩
        case measure => simp [intOf]; omega
      · obtain ⟨s, hs, e1⟩ : ∃ s : Nat, s < 4294967296 ∧ (dg l k : Int) - ((cr : Int) + (dg m k : Int)) = (s : Int) := ⟨dg l k - (cr + dg m k), by omega, by omega⟩
        have hA' := hA.step (s := s) (c' := 0) hok (by omega)
        have hblk' := hblk.set k s
        have hD' := hD.set k s hs
        have hB' := hB.setCell (p := ⟨w.heap.size, k, none⟩) (Nat.le_refl _) (.int .u64 (s : Int))
        have Ho' : Hid ((o.set k s).length = l.length) := Lib.hid (by rw [List.length_set]; exact Ho.out)
        have t1 : ¬ (dg l k : Int) < (cr : Int) + (dg m k : Int) := by omega
        clear hA hblk hD hB hok hb
        go_wp2
        go_roundw
        case rel => exact ⟨k + 1, 0, o.set k s, by go_num, by go_num, by omega, by omega, hA', Ho', hD', hblk', hB'⟩
        case measure => simp [intOf]; omega
    · have e0 : dg m k = 0 := dg_none (by omega)
      by_cases hb : dg l k < cr
      · obtain ⟨s, hs, e1⟩ : ∃ s : Nat, s < 4294967296 ∧ (dg l k : Int) + 4294967296 - (cr : Int) = (s : Int) := ⟨dg l k + 4294967296 - cr, by omega, by omega⟩
        have hA' := hA.step (s := s) (c' := 1) hok (by omega)
        have hblk' := hblk.set k s
        have hD' := hD.set k s hs
        have hB' := hB.setCell (p := ⟨w.heap.size, k, none⟩) (Nat.le_refl _) (.int .u64 (s : Int))
        have Ho' : Hid ((o.set k s).length = l.length) := Lib.hid (by rw [List.length_set]; exact Ho.out)
        clear hA hblk hD hB hok e0
        go_wp2
        go_roundw
        case rel => exact ⟨k + 1, 1, o.set k s, by go_num, by go_num, by omega, by omega, hA', Ho', hD', hblk', hB'⟩
        case measure => simp [intOf]; omega
      · obtain ⟨s, hs, e1⟩ : ∃ s : Nat, s < 4294967296 ∧ (dg l k : Int) - (cr : Int) = (s : Int) := ⟨dg l k - cr, by omega, by omega⟩
        have hA' := hA.step (s := s) (c' := 0) hok (by omega)
        have hblk' := hblk.set k s
        have hD' := hD.set k s hs
        have hB' := hB.setCell (p := ⟨w.heap.size, k, none⟩) (Nat.le_refl _) (.int .u64 (s : Int))
        have Ho' : Hid ((o.set k s).length = l.length) := Lib.hid (by rw [List.length_set]; exact Ho.out)
        clear hA hblk hD hB hok e0
        go_wp2
        go_roundw
        case rel => exact ⟨k + 1, 0, o.set k s, by go_num, by go_num, by omega, by omega, hA', Ho', hD', hblk', hB'⟩
        case measure => simp [intOf]; omega
  · obtain rfl : k = l.length := by omega
    have hfin := hA.fin Ho.out hD rfl hml (by rw [Hx.out, Hy.out]; exact hle)
    rw [Hx.out, Hy.out] at hfin
    have hLo : Lim o := ⟨fun z hz => by have := hD z hz; omega, by rw [Ho.out]; omega⟩
    have hOB : OB wr w.heap.size (some ⟨w.heap.size, 0, none⟩) l.length o := OB.of_blk hblk (Nat.le_refl _) hLo (by have := Ho.out; omega) (by unfold maxLen; omega)
    have ht := refTrim_any _ _ _ _ _ hOB.rn hD
    have hOB' := hOB.trim32 hD
    rw [hfin, Ho.out] at ht
    rw [hfin] at hOB'
    have Ht := Lib.hid ht
    clear hblk hLo ht hfin hOB hA
    go_wp2_with fail
    refine Ht.out.mono ?_
    rintro e w1 ⟨rfl, rfl⟩
    go_wp2
    go_ret
    exact ⟨_, _, rfl, hOB', hB⟩

set_option maxRecDepth 100000 in
set_option maxHeartbeats 2000000 in
theorem refMul_any (P P' : Nat → Prop) (A A' : Option Addr) (c c' : Nat) (x y : Nat) (w : World) (h : RN w P A c (digs 4294967296 x)) (h' : RN w P' A' c' (digs 4294967296 y)) (hP : ∀ b, P b → b < w.heap.size) (hP' : ∀ b, P' b → b < w.heap.size)
 (hl : (digs 4294967296 x).length < 100000) (hl' : (digs 4294967296 y).length < 100000) :
 Calls Tryz.prog 26 #[.slice A (digs 4294967296 x).length c, .slice A' (digs 4294967296 y).length c'] w fun e w' => ∃ A1 c1, e = .returned (.slice A1 (digs 4294967296 (x * y)).length c1) ∧
  OB w' w.heap.size A1 c1 (digs 4294967296 (x * y)) ∧ Below w.heap.size w w' := by
 have hx := val_digs (B := 4294967296) (by omega) x
 have hy := val_digs (B := 4294967296) (by omega) y
 have dx := Dig.digs x
 have dy := Dig.digs y
 generalize digs 4294967296 x = l at *
 generalize digs 4294967296 y = m at *
 have Hx := Lib.hid hx
 have Hy := Lib.hid hy
 clear hx hy
 obtain ⟨h1, h2, h3⟩ := h.cap
 obtain ⟨g1, g2, g3⟩ := h'.cap
 have hmk := run_make_row' (P := Tryz.prog) 30 34 (.int .u64 0) 8 Tryz.underlying30 info64 rfl .i64 .i64 (l.length + m.length) (by omega) (by omega)
 simp only [Int.natCast_add] at hmk
 go_enter Tryz.func26, Tryz.ntmps26
 go_wp2
 go_loopw [6] (fun iv wr => ∃ (i : Nat) (o : List Nat), iv = .int .i64 (i : Int) ∧ i ≤ l.length ∧ RowAt 4294967296 l m o i ∧ Dig o ∧ Blk wr w.heap.size o ∧ Below w.heap.size w wr) (fun iv _ => l.length - (intOf iv).toNat)
 case atStart => exact ⟨0, List.replicate (l.length + m.length) 0, rfl, by omega, RowAt.zero _ _ _, by intro x hx; simp at hx; omega, Blk.made w _, (Below.refl _ w).alloc (Nat.le_refl _) _⟩
 case round =>
  obtain ⟨i, o0, rfl, hi, hR, hD, hblk, hB⟩ := hrel
  obtain ⟨wo, rfl⟩ : ∃ wo, wo = wr := ⟨_, rfl⟩
  by_cases hlt : i < l.length
  · obtain ⟨ad, rfl, had, q1⟩ := (h.below hB hP).at_ hlt
    have hxi := dx.dgLt i
    go_wp2
    go_loopw [7, 9] (fun cv jv wr => ∃ (j cr : Nat) (o : List Nat), jv = .int .i64 (j : Int) ∧ cv = .int .u64 (cr : Int) ∧ j ≤ m.length ∧ cr < 4294967296 ∧ MulAt 4294967296 o0 m (dg l i) i o j cr ∧ Dig o ∧ Blk wr w.heap.size o ∧ Below w.heap.size w wr) (fun _ jv _ => m.length - (intOf jv).toNat)
    case atStart => exact ⟨0, 0, o0, rfl, rfl, by omega, by omega, MulAt.zero _ _ _ _ _, hD, hblk, hB⟩
    case round =>
     clear q1 hB hblk hD
     obtain ⟨j, cr, o, rfl, rfl, hj, hcr, hM, hD, hblk, hB⟩ := hrel
     have hol : o.length = l.length + m.length := hM.1.trans hR.1
     by_cases hjt : j < m.length
     · obtain ⟨ae, rfl, hae, q2⟩ := (h'.below hB hP').at_ hjt
       have hok : i + j < o.length := by omega
       have q3 := hblk.cell hok
       have q4 := hblk.free (i + j)
       have b2 := dy.dgLt j
       have b3 := hD.dgLt (i + j)
       have hb := mul_bound hxi b2 b3 hcr
       obtain ⟨pr, hpr⟩ : ∃ pr, dg l i * dg m j = pr := ⟨_, rfl⟩
       have Hpr := Lib.hid (show (dg l i : Int) * (dg m j : Int) = (pr : Int) by rw [← hpr, Int.natCast_mul])
       rw [hpr] at hb
       obtain ⟨s, cr', hs, hcr', he⟩ : ∃ s c' : Nat, s < 4294967296 ∧ c' < 4294967296 ∧ s + 4294967296 * c' = pr + dg o (i + j) + cr :=
        ⟨(pr + dg o (i + j) + cr) % 4294967296, (pr + dg o (i + j) + cr) / 4294967296, by omega, by omega, by omega⟩
       have e1 : ((cr : Int) + ((dg o (i + j) : Int) + (pr : Int))) % 4294967296 = (s : Int) := by omega
       have e2 : ((cr : Int) + ((dg o (i + j) : Int) + (pr : Int))) / 4294967296 = (cr' : Int) := by omega
       have hM' := hM.step hok (by rw [hpr]; exact he)
       have hblk' := hblk.set (i + j) s
       have hD' := hD.set (i + j) s hs
       have hB' := hB.setCell (p := ⟨w.heap.size, i + j, none⟩) (Nat.le_refl _) (.int .u64 (s : Int))
       have k1 : (i : Int) + (j : Int) < (l.length : Int) + (m.length : Int) := by omega
       have k3 : (pr : Int) < 18446744073709551616 := by omega
       have k4 : (cr : Int) + ((dg o (i + j) : Int) + (pr : Int)) < 18446744073709551616 := by omega
       clear he hM hblk hD hB hok hol hb hpr
       have hpr := Hpr.out
       go_wp2
       go_quiet (fail)
       go_wp2
       go_roundw
       case rel => exact ⟨j + 1, cr', o.set (i + j) s, by go_num, (by first | rfl | exact congrArg (Value.int .u64) e2), by omega, hcr', hM', hD', hblk', below_drewN hB' _⟩
       case measure => simp [intOf]; omega
     · obtain rfl : j = m.length := by omega
       have hR' := hR.step hlt hM
       have q3 := hblk.cell (i := i + m.length) (by omega)
       have q4 := hblk.free (i + m.length)
       have hblk' := hblk.set (i + m.length) cr
       have hD' := hD.set (i + m.length) cr hcr
       have hB' := hB.setCell (p := ⟨w.heap.size, i + m.length, none⟩) (Nat.le_refl _) (.int .u64 (cr : Int))
       have k1 : (i : Int) + (m.length : Int) < (l.length : Int) + (m.length : Int) := by omega
       clear hM hblk hD hB hol
       go_wp2
       go_roundw
       case rel => exact ⟨i + 1, o.set (i + m.length) cr, by go_num, by omega, hR', hD', hblk', hB'⟩
       case measure => simp [intOf]; omega
  · obtain rfl : i = l.length := by omega
    have hfin := hR.fin
    rw [Hx.out, Hy.out] at hfin
    have hol := hR.1
    have hLo : Lim o0 := ⟨fun z hz => by have := hD z hz; omega, by omega⟩
    have hOB : OB wo w.heap.size (some ⟨w.heap.size, 0, none⟩) (l.length + m.length) o0 := OB.of_blk hblk (Nat.le_refl _) hLo (by omega) (by unfold maxLen; omega)
    have ht := refTrim_any _ _ _ _ _ hOB.rn hD
    have hOB' := hOB.trim32 hD
    rw [hfin, hol] at ht
    rw [hfin] at hOB'
    have Ht := Lib.hid ht
    clear hblk hLo ht hfin hOB hR hol
    go_wp2_with fail
    refine Ht.out.mono ?_
    rintro e w1 ⟨rfl, rfl⟩
    go_wp2
    go_ret
    exact ⟨_, _, rfl, hOB', hB⟩
end Go.Proofs.YtlaphnlolgokiaaGreatDoor

namespace Go.Proofs.YtlaphnlolgokiaaGreatDoor

def GuessAt (b u u1 y1 y0 q r : Nat) : Prop := q * y1 + r = u ∧ (u * b + u1) / (y1 * b + y0) ≤ q ∧ q ≤ b + 1
structure GuessOk (b u u1 y1 y0 : Nat) : Prop where
 hb : 2 ≤ b
 hy : b ≤ 2 * y1
 hy1 : y1 < b
 hy0 : y0 < b
 hu1 : u1 < b
 hu : u < y1 * b + y0
section
variable {b u u1 y1 y0 q r : Nat}
theorem GuessOk.start (h : GuessOk b u u1 y1 y0) : GuessAt b u u1 y1 y0 (u / y1) (u - u / y1 * y1) ∧ u - u / y1 * y1 < b ∧ u / y1 * y1 ≤ u := by
 obtain ⟨hb, hy, hy1, hy0, hu1, hu⟩ := h
 have h1 : u / y1 * y1 ≤ u := Nat.div_mul_le_self u y1
 have h2 : u < u / y1 * y1 + y1 := Nat.lt_div_mul_add (by omega)
 generalize hG : u / y1 = G at *
 have h3 : G ≤ b + 1 := by
  rcases Nat.lt_or_ge (b + 1) G with h | h
  · have h6 : (b + 2) * y1 ≤ G * y1 := Nat.mul_le_mul_right _ h
    rw [Nat.add_mul, Nat.mul_comm b] at h6
    omega
  · exact h
 have h4 : (u * b + u1) / (y1 * b + y0) ≤ G := by
  apply Nat.le_of_lt_succ
  apply Nat.div_lt_of_lt_mul
  have h5 : (y1 * b + y0) * (G + 1) = (G * y1 + y1) * b + y0 * (G + 1) := by
   rw [Nat.mul_add, Nat.add_mul, Nat.mul_one, Nat.mul_add, Nat.mul_one, Nat.add_mul, Nat.mul_right_comm, Nat.mul_comm y1 G]
   omega
  have h7 : (u + 1) * b ≤ (G * y1 + y1) * b := Nat.mul_le_mul_right _ h2
  rw [Nat.add_mul, Nat.one_mul] at h7
  show _ < _ * (G + 1)
  rw [h5]
  omega
 unfold GuessAt
 generalize G * y1 = p at *
 exact ⟨⟨by omega, h4, h3⟩, by omega, h1⟩
theorem GuessOk.quo_lt (h : GuessOk b u u1 y1 y0) : (u * b + u1) / (y1 * b + y0) < b := by
 obtain ⟨hb, hy, hy1, hy0, hu1, hu⟩ := h
 apply Nat.div_lt_of_lt_mul
 have h1 : (u + 1) * b ≤ (y1 * b + y0) * b := Nat.mul_le_mul_right _ hu
 rw [Nat.add_mul, Nat.one_mul] at h1
 omega
theorem GuessAt.le (h : GuessOk b u u1 y1 y0) (hg : GuessAt b u u1 y1 y0 q r) (hd : q * y0 ≤ b * r + u1) : q = (u * b + u1) / (y1 * b + y0) := by
 obtain ⟨h1, h2, h3⟩ := hg
 have hD : 0 < y1 * b + y0 := by have := Nat.mul_pos (show 0 < y1 by have := h.hy; have := h.hb; omega) (show 0 < b by have := h.hb; omega); omega
 refine Nat.le_antisymm ((Nat.le_div_iff_mul_le hD).2 ?_) h2
 have e : q * (y1 * b + y0) = q * y1 * b + q * y0 := by rw [Nat.mul_add, Nat.mul_assoc]
 have e2 : u * b = q * y1 * b + b * r := by rw [← h1, Nat.add_mul, Nat.mul_comm r]
 omega
theorem GuessAt.gt (h : GuessOk b u u1 y1 y0) (hg : GuessAt b u u1 y1 y0 q r) (hd : b ≤ q ∨ b * r + u1 < q * y0) : (u * b + u1) / (y1 * b + y0) < q := by
 obtain ⟨h1, h2, h3⟩ := hg
 rcases hd with hd | hd
 · have := h.quo_lt; omega
 · apply Nat.div_lt_of_lt_mul
   have e : (y1 * b + y0) * q = q * y1 * b + q * y0 := by rw [Nat.mul_comm, Nat.mul_add, Nat.mul_assoc]
   have e2 : u * b = q * y1 * b + b * r := by rw [← h1, Nat.add_mul, Nat.mul_comm r]
   omega
theorem GuessAt.step (h : GuessOk b u u1 y1 y0) (hg : GuessAt b u u1 y1 y0 q r) (hd : b ≤ q ∨ b * r + u1 < q * y0) : GuessAt b u u1 y1 y0 (q - 1) (r + y1) ∧ 1 ≤ q := by
 have h4 := hg.gt h hd
 obtain ⟨h1, h2, h3⟩ := hg
 obtain ⟨n, rfl⟩ : ∃ n, q = n + 1 := ⟨q - 1, by have := Nat.zero_le ((u * b + u1) / (y1 * b + y0)); omega⟩
 refine ⟨⟨?_, by rw [Nat.add_sub_cancel]; exact Nat.le_of_lt_succ h4, by omega⟩, by omega⟩
 rw [Nat.add_mul] at h1
 rw [Nat.add_sub_cancel]
 omega
theorem GuessAt.out (h : GuessOk b u u1 y1 y0) (hg : GuessAt b u u1 y1 y0 q r) (hq : q ≤ b) (hr : b ≤ r) : q = (u * b + u1) / (y1 * b + y0) := by
 refine hg.le h ?_
 have h1 : q * y0 ≤ b * b := Nat.mul_le_mul hq (by have := h.hy0; omega)
 have h2 : b * b ≤ b * r := Nat.mul_le_mul_left _ hr
 omega
theorem GuessAt.mul_le (hg : GuessAt b u u1 y1 y0 q r) (hy0 : y0 < b) : q * y0 < b * b := by
 obtain ⟨_, _, h3⟩ := hg
 obtain ⟨n, rfl⟩ : ∃ n, b = n + 1 := ⟨b - 1, by omega⟩
 have h1 : q * y0 ≤ (n + 2) * n := Nat.mul_le_mul (by omega) (by omega)
 have h2 : (n + 2) * n = n * n + 2 * n := by rw [Nat.add_mul]
 have h3 : (n + 1) * (n + 1) = n * n + 2 * n + 1 := by simp only [Nat.add_mul, Nat.mul_add]; omega
 omega
end
theorem rest_of {N D : Nat} (hD : 0 < D) : N / D * D ≤ N ∧ N - N / D * D < D := by
 have h1 := Nat.div_mul_le_self N D
 have h2 := Nat.lt_div_mul_add (a := N) hD
 omega
theorem two_steps {b N D u1 u0 : Nat} (hD : 0 < D) (r q0 : Nat) (hr : r = N * b + u1 - (N * b + u1) / D * D) (hq : q0 = (r * b + u0) / D) :
 (N * b + u1) / D * b + q0 = ((N * b + u1) * b + u0) / D ∧ r * b + u0 - q0 * D = ((N * b + u1) * b + u0) % D := by
 have h1 := rest_of (N := N * b + u1) hD
 generalize N * b + u1 = M at *
 have e : M = M / D * D + r := by omega
 have e2 : M * b + u0 = (M / D * b) * D + (r * b + u0) := by
  have : M * b = (M / D * D + r) * b := by rw [← e]
  rw [this, Nat.add_mul, Nat.mul_right_comm, Nat.add_assoc]
 have hd : (M * b + u0) / D = M / D * b + (r * b + u0) / D := by
  rw [e2, Nat.add_comm, Nat.add_mul_div_right _ _ hD, Nat.add_comm]
 have hm : (M * b + u0) % D = (r * b + u0) % D := by
  rw [e2, Nat.add_comm, Nat.add_mul_mod_self_right]
 rw [hd, hm, hq]
 refine ⟨rfl, ?_⟩
 have h5 := Nat.div_add_mod (r * b + u0) D
 have h6 : (r * b + u0) / D * D = D * ((r * b + u0) / D) := Nat.mul_comm _ _
 omega
theorem le_of_log {y k : Nat} (hy : y ≠ 0) (h : Lib.bitLen y = k) (hlt : y < 18446744073709551616) : 1 ≤ k ∧ k ≤ 64 ∧ 2 ^ (k - 1) ≤ y ∧ y < 2 ^ k := by
 have h1 := Lib.bitLenAux_bounds 64 y hlt hy
 have h2 := Lib.bitLen_le y 64 (Nat.le_refl _) hlt
 subst h
 exact ⟨h1.1, h2, h1.2⟩
theorem shift_of {y : Nat} (hy : y ≠ 0) (hlt : y < 18446744073709551616) : ∃ s, s < 64 ∧ Lib.bitLen y = 64 - s ∧ 9223372036854775808 ≤ y * 2 ^ s ∧ y * 2 ^ s < 18446744073709551616 := by
 obtain ⟨h1, h2, h3, h4⟩ := le_of_log hy rfl hlt
 refine ⟨64 - Lib.bitLen y, by omega, by omega, ?_, ?_⟩
 · have : 2 ^ (Lib.bitLen y - 1) * 2 ^ (64 - Lib.bitLen y) ≤ y * 2 ^ (64 - Lib.bitLen y) := Nat.mul_le_mul_right _ h3
   rw [← Nat.pow_add, show Lib.bitLen y - 1 + (64 - Lib.bitLen y) = 63 by omega] at this
   simpa using this
 · have : y * 2 ^ (64 - Lib.bitLen y) < 2 ^ Lib.bitLen y * 2 ^ (64 - Lib.bitLen y) := Nat.mul_lt_mul_of_pos_right h4 (Nat.pow_pos (by omega))
   rw [← Nat.pow_add, show Lib.bitLen y + (64 - Lib.bitLen y) = 64 by omega] at this
   simpa using this
theorem moved {hi lo y s : Nat} (hs : s < 64) (hlo : lo < 18446744073709551616) (h : hi < y) (hy : y * 2 ^ s < 18446744073709551616) :
 hi * 2 ^ s + lo / 2 ^ (64 - s) < y * 2 ^ s ∧ lo / 2 ^ (64 - s) < 2 ^ s ∧ (hi * 2 ^ s + lo / 2 ^ (64 - s)) * 18446744073709551616 + lo * 2 ^ s % 18446744073709551616 = (hi * 18446744073709551616 + lo) * 2 ^ s ∧ hi * 2 ^ s < 18446744073709551616 := by
 have e64 : (18446744073709551616 : Nat) = 2 ^ s * 2 ^ (64 - s) := by rw [← Nat.pow_add, show s + (64 - s) = 64 by omega]
 have h1 : lo / 2 ^ (64 - s) < 2 ^ s := by
  apply Nat.div_lt_of_lt_mul
  rw [Nat.mul_comm, ← e64]; exact hlo
 have h2 : (hi + 1) * 2 ^ s ≤ y * 2 ^ s := Nat.mul_le_mul_right _ h
 rw [Nat.add_mul, Nat.one_mul] at h2
 refine ⟨by omega, h1, ?_, by have := Nat.pow_pos (n := s) (show 0 < 2 by omega); omega⟩
 have h3 : lo * 2 ^ s / 18446744073709551616 = lo / 2 ^ (64 - s) := by
  rw [e64, Nat.mul_comm lo, Nat.mul_div_mul_left _ _ (Nat.pow_pos (by omega))]
 have h4 := Nat.div_add_mod (lo * 2 ^ s) 18446744073709551616
 rw [h3] at h4
 rw [Nat.add_mul, Nat.add_mul, Nat.mul_right_comm hi]
 omega
end Go.Proofs.YtlaphnlolgokiaaGreatDoor

namespace Go.Proofs.YtlaphnlolgokiaaGreatDoor
open Go.RowKit

theorem or_shift (i a b : Nat) (h : b < 2 ^ i) : a * 2 ^ i ||| b = a * 2 ^ i + b := by
 rw [Nat.mul_comm, Nat.two_pow_add_eq_or_of_lt h]
theorem mask32 (x : Nat) : x &&& 4294967295 = x % 4294967296 := by
 have h := Nat.and_two_pow_sub_one_eq_mod x 32
 rwa [show 2 ^ 32 - 1 = 4294967295 by decide, show 2 ^ 32 = 4294967296 by decide] at h
theorem and_mask32 (x : Nat) (hx : x < 18446744073709551616) : bits .and .u64 (x : Int) 4294967295 = ((x % 4294967296 : Nat) : Int) := by
 have h := bits_and_u64_nat x 4294967295 hx (by omega)
 rw [mask32] at h
 exact h
theorem halves (x : Nat) (hx : x < 18446744073709551616) : ∃ a b : Nat, a < 4294967296 ∧ b < 4294967296 ∧ a * 4294967296 + b = x ∧ (x : Int) / 4294967296 = (a : Int) ∧ bits .and .u64 (x : Int) 4294967295 = (b : Int) := by
 have h := Nat.div_add_mod x 4294967296
 have h2 := Nat.mod_lt x (show 0 < 4294967296 by omega)
 have h3 := and_mask32 x hx
 have h4 : (x : Int) / 4294967296 = ((x / 4294967296 : Nat) : Int) := by omega
 generalize x / 4294967296 = a at *
 generalize x % 4294967296 = b at *
 exact ⟨a, b, by omega, h2, by omega, h4, h3⟩
theorem join4 (a b c d : Nat) (h : b * 4294967296 + c = d) : (a * 4294967296 + b) * 4294967296 + c = a * 18446744073709551616 + d := by
 rw [← h, Nat.add_mul, Nat.mul_assoc, Nat.add_assoc]
theorem wrap_diff (a b r k l : Nat) (h : b + r = a) (hr : r < 18446744073709551616) : IntKind.u64.wrap (((a - 18446744073709551616 * k : Int)) - ((b : Int) - 18446744073709551616 * l)) = (r : Int) := by
 simp [IntKind.wrap, IntKind.bits, IntKind.signed]
 omega
theorem ret_uu {a b c d : Int} (h : a = b) (h' : c = d) : Ending.returned (.tuple #[.int .u64 a, .int .u64 c]) = .returned (.tuple #[.int .u64 b, .int .u64 d]) := by rw [h, h']

set_option maxHeartbeats 400000 in
theorem div64_zero (lo y : Nat) (w : World) (hlo : lo < 18446744073709551616) (hy : 0 < y) (hy' : y < 18446744073709551616) :
 Calls Tryz.prog 91 #[.int .u64 0, .int .u64 (lo : Int), .int .u64 (y : Int)] w fun e w' => e = .returned (.tuple #[.int .u64 ((lo / y : Nat) : Int), .int .u64 ((lo % y : Nat) : Int)]) ∧ ∃ n, w' = w.drewN n := by
 have h0 : ((y : Int) == 0) = false := eqB (by omega)
 have h1 : (0 : Int) < (y : Int) := by omega
 have hq : IntKind.u64.wrap ((lo : Int) / (y : Int)) = ((lo / y : Nat) : Int) := by
  have h : lo / y ≤ lo := Nat.div_le_self lo y
  rw [← Int.natCast_ediv]
  generalize lo / y = z at *
  exact IntWalk.u64_in _ (by omega)
 go_enter Tryz.func91, Tryz.ntmps91
 go_wp2
 go_quiet (fail)
 go_wp2
 go_ret2
 exact ⟨ret_uu (by simp) (by simp), _, rfl⟩

set_option maxRecDepth 100000 in
set_option maxHeartbeats 4000000 in
theorem div64_pos (hi lo y : Nat) (w : World) (hlo : lo < 18446744073709551616) (h0 : 0 < hi) (hhi : hi < y) (hy' : y < 18446744073709551616) :
 Calls Tryz.prog 91 #[.int .u64 (hi : Int), .int .u64 (lo : Int), .int .u64 (y : Int)] w fun e w' => e = .returned (.tuple #[.int .u64 (((hi * 18446744073709551616 + lo) / y : Nat) : Int), .int .u64 (((hi * 18446744073709551616 + lo) % y : Nat) : Int)]) ∧ ∃ n, w' = w.drewN n := by
 have n0 : ((y : Int) == 0) = false := eqB (by omega)
 have n1 : ((hi : Int) == 0) = false := eqB (by omega)
 have n2 : ¬ (y : Int) ≤ (hi : Int) := by omega
 obtain ⟨s, hs, hbl, hY1, hY2⟩ := shift_of (y := y) (by omega) hy'
 have hlz := (Tryz.bits_LeadingZeros64 (y : Int) w (by omega) (by omega))
 rw [Int.toNat_natCast, hbl, show (64 - ((64 - s : Nat) : Int)) = (s : Int) by omega] at hlz
 have Hlz := Lib.hid hlz
 clear hlz hbl
 obtain ⟨m1, m2, m3, m4⟩ := moved hs hlo hhi hY2
 obtain ⟨H, hH⟩ : ∃ H, hi * 2 ^ s = H := ⟨_, rfl⟩
 obtain ⟨L1, hL1⟩ : ∃ L1, lo / 2 ^ (64 - s) = L1 := ⟨_, rfl⟩
 obtain ⟨Y, hY⟩ : ∃ Y, y * 2 ^ s = Y := ⟨_, rfl⟩
 obtain ⟨L, hL⟩ : ∃ L, lo * 2 ^ s % 18446744073709551616 = L := ⟨_, rfl⟩
 have hor : H ||| L1 = H + L1 := by rw [← hH]; exact or_shift s hi L1 (by rw [← hL1]; exact m2)
 have f1 : IntKind.u64.wrap ((y : Int) * 2 ^ s) = (Y : Int) := by
  rw [show ((y : Int) * 2 ^ s) = (Y : Int) by rw [← hY]; simp]
  exact IntWalk.u64_in _ (by omega)
 have f4 : IntKind.u64.wrap ((hi : Int) * 2 ^ s) = (H : Int) := by
  rw [show ((hi : Int) * 2 ^ s) = (H : Int) by rw [← hH]; simp]
  exact IntWalk.u64_in _ (by omega)
 have f5 : (lo : Int) / 2 ^ (64 - s) = (L1 : Int) := by rw [← hL1]; simp
 have f7 : IntKind.u64.wrap ((lo : Int) * 2 ^ s) = (L : Int) := by
  rw [← hL]
  simp [IntKind.wrap, IntKind.bits, IntKind.signed]
 have k1 : (s : Int) < 64 := by omega
 rw [hH] at m1 m3 m4
 rw [hL1] at m1 m2 m3
 rw [hY] at m1 hY1 hY2
 rw [hL] at m3
 have hLlt : L < 18446744073709551616 := by rw [← hL]; exact Nat.mod_lt _ (by omega)
 obtain ⟨U, hU⟩ : ∃ U, H + L1 = U := ⟨_, rfl⟩
 rw [hU] at m1 m3 hor
 have f6 : bits .or .u64 (H : Int) (L1 : Int) = (U : Int) := by
  rw [bits_or_u64_nat H L1 (by omega) (by omega), hor]
 obtain ⟨y1, y0, hy1, hy0, hyy, f2, f3⟩ : ∃ y1 y0 : Nat, y1 < 4294967296 ∧ y0 < 4294967296 ∧ y1 * 4294967296 + y0 = Y ∧ (Y : Int) / 4294967296 = (y1 : Int) ∧ bits .and .u64 (Y : Int) 4294967295 = (y0 : Int)  := halves Y hY2
 obtain ⟨u1, u0, hu1, hu0, huu, f8, f9⟩ : ∃ u1 u0 : Nat, u1 < 4294967296 ∧ u0 < 4294967296 ∧ u1 * 4294967296 + u0 = L ∧ (L : Int) / 4294967296 = (u1 : Int) ∧ bits .and .u64 (L : Int) 4294967295 = (u0 : Int)  := halves L hLlt
 have G : GuessOk 4294967296 U u1 y1 y0 := ⟨by omega, by omega, hy1, hy0, hu1, by omega⟩
 obtain ⟨hg, hr, hp⟩ := G.start
 obtain ⟨q, hq⟩ : ∃ q, U / y1 = q := ⟨_, rfl⟩
 rw [hq] at hg hr hp
 obtain ⟨p, hp'⟩ : ∃ p, q * y1 = p := ⟨_, rfl⟩
 rw [hp'] at hg hr hp
 obtain ⟨r, hr'⟩ : ∃ r, U - p = r := ⟨_, rfl⟩
 rw [hr'] at hg hr
 have hqU : q ≤ U := by rw [← hq]; exact Nat.div_le_self U y1
 have f10 : IntKind.u64.wrap ((U : Int) / (y1 : Int)) = (q : Int) := by rw [← Int.natCast_ediv, hq]; exact IntWalk.u64_in _ (by omega)
 have f10' : IntKind.u64.wrap ((U : Int).tdiv (y1 : Int)) = (q : Int) := by rw [Int.tdiv_eq_ediv_of_nonneg (by omega)]; exact f10
 have f11 : IntKind.u64.wrap ((q : Int) * (y1 : Int)) = (p : Int) := by rw [← Int.natCast_mul, hp']; exact IntWalk.u64_in _ (by omega)
 have f12 : (U : Int) - (p : Int) = (r : Int) := by omega
 have n3 : ((y1 : Int) == 0) = false := eqB (by omega)
 have n4 : ¬ y1 = 0 := by omega
 have HY := Lib.hid hY
 clear hH hL1 hY hL hor hU hq hp' hr' hp
 go_enter Tryz.func91, Tryz.ntmps91
 go_wp2_with fail
 refine Hlz.out.mono ?_
 rintro e w1 ⟨rfl, rfl⟩
 go_upto_block 0 with fail
 go_cut [15, 16] (fun s15 s16 wx => ∃ Q r' : Nat, s15 = .int .u64 (Q : Int) ∧ s16 = .int .u64 (r' : Int) ∧ Hid (Q = (U * 4294967296 + u1) / (y1 * 4294967296 + y0)) ∧ w1 = wx)
 case first =>
  go_wp2_with fail
  go_loop [15, 16] (fun qv rv => ∃ q r : Nat, qv = .int .u64 (q : Int) ∧ rv = .int .u64 (r : Int) ∧ GuessAt 4294967296 U u1 y1 y0 q r ∧ r < 4294967296) (fun qv _ => (intOf qv).toNat)
  case atStart => exact ⟨q, r, rfl, rfl, hg, hr⟩
  case round =>
   clear hg hr
   obtain ⟨q, r, rfl, rfl, hg, hr⟩ := hrel
   have hml := hg.mul_le hy0
   obtain ⟨z, hz⟩ : ∃ z, q * y0 = z := ⟨_, rfl⟩
   rw [hz] at hml
   have hqb := hg.2.2
   by_cases h1 : 4294967296 ≤ q ∨ 4294967296 * r + u1 < q * y0
   · obtain ⟨hg', hq1⟩ := hg.step G h1
     obtain ⟨n, rfl⟩ : ∃ n, q = n + 1 := ⟨q - 1, by omega⟩
     rw [Nat.add_sub_cancel] at hg'
     have g1 : IntKind.u64.wrap (((n : Int) + 1) * (y0 : Int)) = (z : Int) := by
      rw [show ((n : Int) + 1) * (y0 : Int) = (z : Int) by rw [← hz]; simp]
      exact IntWalk.u64_in _ (by omega)
     rw [hz] at h1
     have hout := fun h => hg'.out G (by omega) h
     have Hout := Lib.hid hout
     clear hout hg hz hml
     by_cases h3 : 4294967296 ≤ r + y1
     · have hQ := Lib.hid (Hout.out h3)
       by_cases h4 : 4294967296 ≤ n + 1
       · have i4 : (4294967296 : Int) ≤ (n : Int) + 1 := by omega
         have i3 : (4294967296 : Int) ≤ (r : Int) + (y1 : Int) := by omega
         clear h1 h3 h4
         go_wp2
         go_meet
         case rel => exact ⟨n, _, by go_num, rfl, hQ, rfl⟩
       · have i5 : (4294967296 : Int) * (r : Int) + (u1 : Int) < (z : Int) := by omega
         have i4 : ¬ (4294967296 : Int) ≤ (n : Int) + 1 := by omega
         have i3 : (4294967296 : Int) ≤ (r : Int) + (y1 : Int) := by omega
         clear h1 h3 h4
         go_wp2
         go_meet
         case rel => exact ⟨n, _, by go_num, rfl, hQ, rfl⟩
     · by_cases h4 : 4294967296 ≤ n + 1
       · have i4 : (4294967296 : Int) ≤ (n : Int) + 1 := by omega
         have i3 : ¬ (4294967296 : Int) ≤ (r : Int) + (y1 : Int) := by omega
         have H3 := Lib.hid h3
         clear h1 h3 h4
         go_wp2
         go_round
         case rel => exact ⟨n, r + y1, by go_num, by go_num, hg', by have := H3.out; omega⟩
         case measure => simp [intOf]
       · have i5 : (4294967296 : Int) * (r : Int) + (u1 : Int) < (z : Int) := by omega
         have i4 : ¬ (4294967296 : Int) ≤ (n : Int) + 1 := by omega
         have i3 : ¬ (4294967296 : Int) ≤ (r : Int) + (y1 : Int) := by omega
         have H3 := Lib.hid h3
         clear h1 h3 h4
         go_wp2
         go_round
         case rel => exact ⟨n, r + y1, by go_num, by go_num, hg', by have := H3.out; omega⟩
         case measure => simp [intOf]
   · have hQ := Lib.hid (hg.le G (by omega))
     have g1 : IntKind.u64.wrap ((q : Int) * (y0 : Int)) = (z : Int) := by
      rw [show (q : Int) * (y0 : Int) = (z : Int) by rw [← hz]; simp]
      exact IntWalk.u64_in _ (by omega)
     have i4 : ¬ (4294967296 : Int) ≤ (q : Int) := by omega
     have i5 : ¬ (4294967296 : Int) * (r : Int) + (u1 : Int) < (z : Int) := by omega
     clear h1 hg hz hml
     go_wp2
     go_meet
     case rel => exact ⟨q, _, rfl, rfl, hQ, rfl⟩
 case rest =>
  clear hg hr hqU f10 f10' f11 f12
  obtain ⟨Q, r', rfl, rfl, HQ, rfl⟩ := hcut
  have hQ := HQ.out
  rw [hyy] at hQ
  have hQb := G.quo_lt
  rw [hyy, ← hQ] at hQb
  have hYpos : 0 < Y := by omega
  have hrest := rest_of (N := U * 4294967296 + u1) hYpos
  rw [← hQ] at hrest
  obtain ⟨p3, hp3⟩ : ∃ p3, Q * Y = p3 := ⟨_, rfl⟩
  rw [hp3] at hrest
  obtain ⟨R, hR⟩ : ∃ R, U * 4294967296 + u1 - p3 = R := ⟨_, rfl⟩
  rw [hR] at hrest
  obtain ⟨hr1, hr2⟩ := hrest
  obtain ⟨a1, k1', ha1, ha1b, ha1e⟩ : ∃ a1 k1 : Nat, IntKind.u64.wrap ((U : Int) * 4294967296) = (a1 : Int) ∧ (a1 : Int) ≤ 18446744069414584320 ∧ (a1 : Int) = (U : Int) * 4294967296 - 18446744073709551616 * k1 := by
   refine ⟨U * 4294967296 % 18446744073709551616, U / 4294967296, ?_, by omega, by omega⟩
   simp [IntKind.wrap, IntKind.bits, IntKind.signed]
  obtain ⟨a3, k3, ha3, ha3e⟩ : ∃ a3 k3 : Nat, IntKind.u64.wrap ((Q : Int) * (Y : Int)) = (a3 : Int) ∧ (a3 : Int) = (p3 : Int) - 18446744073709551616 * k3 := by
   rw [show (Q : Int) * (Y : Int) = (p3 : Int) by rw [← hp3]; simp]
   exact ⟨p3 % 18446744073709551616, p3 / 18446744073709551616, by simp [IntKind.wrap, IntKind.bits, IntKind.signed], by omega⟩
  have hd : IntKind.u64.wrap ((a1 : Int) + (u1 : Int) - (a3 : Int)) = (R : Int) := by
   have := wrap_diff (U * 4294967296 + u1) p3 R k1' k3 (by omega) (by omega)
   rw [ha3e, ha1e, ← this]
   congr 1
   simp
   omega
  have G2 : GuessOk 4294967296 R u0 y1 y0 := ⟨by omega, by omega, hy1, hy0, hu0, by omega⟩
  obtain ⟨hg, hr, hp⟩ := G2.start
  obtain ⟨qq, hq⟩ : ∃ q, R / y1 = q := ⟨_, rfl⟩
  rw [hq] at hg hr hp
  obtain ⟨pp, hp'⟩ : ∃ p, qq * y1 = p := ⟨_, rfl⟩
  rw [hp'] at hg hr hp
  obtain ⟨rr, hr'⟩ : ∃ r, R - pp = r := ⟨_, rfl⟩
  rw [hr'] at hg hr
  have hqU : qq ≤ R := by rw [← hq]; exact Nat.div_le_self R y1
  have f10 : IntKind.u64.wrap ((R : Int) / (y1 : Int)) = (qq : Int) := by rw [← Int.natCast_ediv, hq]; exact IntWalk.u64_in _ (by omega)
  have f10' : IntKind.u64.wrap ((R : Int).tdiv (y1 : Int)) = (qq : Int) := by rw [Int.tdiv_eq_ediv_of_nonneg (by omega)]; exact f10
  have f11 : IntKind.u64.wrap ((qq : Int) * (y1 : Int)) = (pp : Int) := by rw [← Int.natCast_mul, hp']; exact IntWalk.u64_in _ (by omega)
  have f12 : (R : Int) - (pp : Int) = (rr : Int) := by omega
  have hts := two_steps (b := 4294967296) (N := U) (u1 := u1) (u0 := u0) hYpos R _ (by rw [← hQ, hp3]; exact hR.symm) rfl
  rw [← hQ] at hts
  have Hts := Lib.hid hts
  have Hp3 := Lib.hid hp3
  have HR := Lib.hid hR
  clear hts hQ hp3 hR ha1e ha3e hq hp' hr' hp hr1
  go_upto_block 2 with fail
  go_cut [18, 16] (fun s18 s16 wx => ∃ Q r' : Nat, s18 = .int .u64 (Q : Int) ∧ s16 = .int .u64 (r' : Int) ∧ Hid (Q = (R * 4294967296 + u0) / (y1 * 4294967296 + y0)) ∧ w1 = wx)
  case first =>
   go_wp2_with fail
   go_loop [18, 16] (fun qv rv => ∃ q r : Nat, qv = .int .u64 (q : Int) ∧ rv = .int .u64 (r : Int) ∧ GuessAt 4294967296 R u0 y1 y0 q r ∧ r < 4294967296) (fun qv _ => (intOf qv).toNat)
   case atStart => exact ⟨qq, rr, rfl, rfl, hg, hr⟩
   case round =>
    clear hg hr
    obtain ⟨q, r, rfl, rfl, hg, hr⟩ := hrel
    have hml := hg.mul_le hy0
    obtain ⟨z, hz⟩ : ∃ z, q * y0 = z := ⟨_, rfl⟩
    rw [hz] at hml
    have hqb := hg.2.2
    by_cases h1 : 4294967296 ≤ q ∨ 4294967296 * r + u0 < q * y0
    · obtain ⟨hg', hq1⟩ := hg.step G2 h1
      obtain ⟨n, rfl⟩ : ∃ n, q = n + 1 := ⟨q - 1, by omega⟩
      rw [Nat.add_sub_cancel] at hg'
      have g1 : IntKind.u64.wrap (((n : Int) + 1) * (y0 : Int)) = (z : Int) := by
       rw [show ((n : Int) + 1) * (y0 : Int) = (z : Int) by rw [← hz]; simp]
       exact IntWalk.u64_in _ (by omega)
      rw [hz] at h1
      have hout := fun h => hg'.out G2 (by omega) h
      have Hout := Lib.hid hout
      clear hout hg hz hml
      by_cases h3 : 4294967296 ≤ r + y1
      · have hQ := Lib.hid (Hout.out h3)
        by_cases h4 : 4294967296 ≤ n + 1
        · have i4 : (4294967296 : Int) ≤ (n : Int) + 1 := by omega
          have i3 : (4294967296 : Int) ≤ (r : Int) + (y1 : Int) := by omega
          clear h1 h3 h4
          go_wp2
          go_meet
          case rel => exact ⟨n, _, by go_num, rfl, hQ, rfl⟩
        · have i5 : (4294967296 : Int) * (r : Int) + (u0 : Int) < (z : Int) := by omega
          have i4 : ¬ (4294967296 : Int) ≤ (n : Int) + 1 := by omega
          have i3 : (4294967296 : Int) ≤ (r : Int) + (y1 : Int) := by omega
          clear h1 h3 h4
          go_wp2
          go_meet
          case rel => exact ⟨n, _, by go_num, rfl, hQ, rfl⟩
      · by_cases h4 : 4294967296 ≤ n + 1
        · have i4 : (4294967296 : Int) ≤ (n : Int) + 1 := by omega
          have i3 : ¬ (4294967296 : Int) ≤ (r : Int) + (y1 : Int) := by omega
          have H3 := Lib.hid h3
          clear h1 h3 h4
          go_wp2
          go_round
          case rel => exact ⟨n, r + y1, by go_num, by go_num, hg', by have := H3.out; omega⟩
          case measure => simp [intOf]
        · have i5 : (4294967296 : Int) * (r : Int) + (u0 : Int) < (z : Int) := by omega
          have i4 : ¬ (4294967296 : Int) ≤ (n : Int) + 1 := by omega
          have i3 : ¬ (4294967296 : Int) ≤ (r : Int) + (y1 : Int) := by omega
          have H3 := Lib.hid h3
          clear h1 h3 h4
          go_wp2
          go_round
          case rel => exact ⟨n, r + y1, by go_num, by go_num, hg', by have := H3.out; omega⟩
          case measure => simp [intOf]
    · have hQ := Lib.hid (hg.le G2 (by omega))
      have g1 : IntKind.u64.wrap ((q : Int) * (y0 : Int)) = (z : Int) := by
       rw [show (q : Int) * (y0 : Int) = (z : Int) by rw [← hz]; simp]
       exact IntWalk.u64_in _ (by omega)
      have i4 : ¬ (4294967296 : Int) ≤ (q : Int) := by omega
      have i5 : ¬ (4294967296 : Int) * (r : Int) + (u0 : Int) < (z : Int) := by omega
      clear h1 hg hz hml
      go_wp2
      go_meet
      case rel => exact ⟨q, _, rfl, rfl, hQ, rfl⟩
  case rest =>
   clear hg hr hqU f10 f10' f11 f12
   obtain ⟨Q0, r2, rfl, rfl, HQ0, rfl⟩ := hcut
   have hQ0 := HQ0.out
   rw [hyy] at hQ0
   have hQ0b := G2.quo_lt
   rw [hyy, ← hQ0] at hQ0b
   obtain ⟨e1, e2⟩ := Hts.out
   rw [← hQ0] at e1 e2
   have hrest2 := rest_of (N := R * 4294967296 + u0) hYpos
   rw [← hQ0] at hrest2
   have hM0 : (U * 4294967296 + u1) * 4294967296 + u0 = U * 18446744073709551616 + L := join4 U u1 u0 L huu
   have hM := hM0.trans m3
   rw [hM] at e1 e2
   have hYs := HY.out
   rw [← hYs, Nat.mul_div_mul_right _ _ (Nat.pow_pos (by omega))] at e1
   rw [← hYs, Nat.mul_mod_mul_right] at e2
   rw [hYs] at e2
   obtain ⟨p4, hp4⟩ : ∃ p4, Q0 * Y = p4 := ⟨_, rfl⟩
   rw [hp4] at hrest2 e2
   obtain ⟨T, hT⟩ : ∃ T, (hi * 18446744073709551616 + lo) % y = T := ⟨_, rfl⟩
   obtain ⟨V, hV⟩ : ∃ V, (hi * 18446744073709551616 + lo) / y = V := ⟨_, rfl⟩
   rw [hT] at e2
   rw [hV] at e1
   obtain ⟨S, hS⟩ : ∃ S, T * 2 ^ s = S := ⟨_, rfl⟩
   rw [hS] at e2
   have hS2 : (S : Int) / 2 ^ s = (T : Int) := by
    rw [← hS]
    have : T * 2 ^ s / 2 ^ s = T := Nat.mul_div_cancel _ (Nat.pow_pos (by omega))
    rw [show ((2 : Int) ^ s) = ((2 ^ s : Nat) : Int) by simp, ← Int.natCast_ediv, this]
   obtain ⟨b1, k5, hb1, hb1b, hb1e⟩ : ∃ a1 k1 : Nat, IntKind.u64.wrap ((R : Int) * 4294967296) = (a1 : Int) ∧ (a1 : Int) ≤ 18446744069414584320 ∧ (a1 : Int) = (R : Int) * 4294967296 - 18446744073709551616 * k1 := by
    refine ⟨R * 4294967296 % 18446744073709551616, R / 4294967296, ?_, by omega, by omega⟩
    simp [IntKind.wrap, IntKind.bits, IntKind.signed]
   obtain ⟨b3, k6, hb3, hb3e⟩ : ∃ a3 k3 : Nat, IntKind.u64.wrap ((Q0 : Int) * (Y : Int)) = (a3 : Int) ∧ (a3 : Int) = (p4 : Int) - 18446744073709551616 * k3 := by
    rw [show (Q0 : Int) * (Y : Int) = (p4 : Int) by rw [← hp4]; simp]
    exact ⟨p4 % 18446744073709551616, p4 / 18446744073709551616, by simp [IntKind.wrap, IntKind.bits, IntKind.signed], by omega⟩
   have hd2 : IntKind.u64.wrap ((b1 : Int) + (u0 : Int) - (b3 : Int)) = (S : Int) := by
    have := wrap_diff (R * 4294967296 + u0) p4 S k5 k6 (by omega) (by omega)
    rw [hb3e, hb1e, ← this]
    congr 1
    simp
    omega
   have He1 := Lib.hid e1
   have HT := Lib.hid hT
   have HV := Lib.hid hV
   clear e1 e2 hQ0 hp4 hS hT hV hb1e hb3e hrest2 hM hM0 hYs
   go_wp2
   go_ret2
   exact ⟨ret_uu (by rw [HV.out, ← He1.out]; simp) (by rw [HT.out]), 0, rfl⟩
end Go.Proofs.YtlaphnlolgokiaaGreatDoor
