/- What limb.Bytes computes. append of bytes onto a row of the call's own. keyfmt.read of nothing; a number in base 128. An object identifier is written: a node with its tag. The curves' names; what names no curve. Slices of one limb; slices in whatever block. Arguments opened: limbs and bytes that came in, as the walks want them. Plain arithmetic of numbers that are read from bytes: nothing of the program. What limb.FromBytes, the reference's FromBytes, Bits and Bytes compute. An attribute's number; an AES key's worth. What is reckoned is put in (an object that is created). Made: an AES key that is created. Why an attribute may not be changed. An object with other values. Set and Copy. Plain: the key that layer 18's law makes first, reckoned out. Plain: templates that pass Check and hold a value: which kinds they may be, and that nothing in them is long. -/
import Derived.Test.YtendnkpiidhogaaGreatQ7246eb454b16
import Derived.ProofKit
import Derived.OpenShut
import Derived.ShutString
import Derived.ChangeOld
import Derived.ChangeSame
import Derived.Deep.Slices
import Derived.SizedLaws
import Derived.Lib.SmallJoins
import Derived.RegionTactic
import Derived.ChangeAlike
import Derived.Sort.CutIn
import Derived.Sort.AtCallIn
import Derived.TacticsInMore
namespace Go.Proofs.YtendnkpiidhogaaGreat
open Go.RowKit

theorem info8 : (Tryz.prog.info? 5).map (fun i => (i.zero, i.size, i.bytes)) = some (some (.int .u8 0), 1, 1) := by kernel_rfl
def Blk8 (w : World) (g : Nat) (l : List Nat) : Prop := w.heap[g]? = some (.cells (bys l).toArray 5 (0, 0))
section
variable {w w' : World} {g : Nat} {l : List Nat}
theorem bys_get {l : List Nat} {i : Nat} (h : i < l.length) : (bys l)[i]? = some (.int .u8 (dg l i : Int)) := by
 rw [dg, getD_eq' h]; simp [bys, List.getElem?_eq_getElem h]
theorem Blk8.cell (h : Blk8 w g l) {i : Nat} (hi : i < l.length) : w.cell? ⟨g, i, none⟩ = some (.int .u8 (dg l i : Int)) := by
 rw [blk_cell h i, List.getElem?_toArray, bys_get hi]
theorem Blk8.free (h : Blk8 w g l) (i : Nat) : w.frozen? ⟨g, i, none⟩ = false := blk_free h i
theorem Blk8.set (h : Blk8 w g l) (i : Nat) (x : Nat) : Blk8 (w.setCell ⟨g, i, none⟩ (.int .u8 (x : Int))) g (l.set i x) := by
 unfold Blk8 at *
 simp [World.setCell, Array.getElem?_modify, h, bys]
theorem Blk8.made (w : World) (n : Nat) : Blk8 (w.alloc (.cells (madeCells #[.int .u8 0] n) 5)) w.heap.size (List.replicate n 0) := by
 unfold Blk8
 rw [heap_alloc_new]
 congr 1
 congr 1
 apply Array.ext_getElem?
 intro i
 by_cases hi : i < n
 · have hs : i < (madeCells #[Value.int .u8 0] n).size := by rw [size_madeCells]; simpa using hi
   rw [Array.getElem?_eq_getElem hs]
   simp [madeCells, bys, hi, Nat.mod_one]
 · rw [Array.getElem?_eq_none (by rw [size_madeCells]; omega), Array.getElem?_eq_none (by simp [bys]; omega)]
theorem Blk8.rb {P : Nat → Prop} (h : Blk8 w g l) (hP : P g) (hl : ∀ b ∈ l, b < 256) (hn : l.length ≤ 1000000) : RB w P (some ⟨g, 0, none⟩) l.length l := by
 refine ⟨⟨Nat.le_refl _, by unfold maxLen; omega, by simp [bys], fun _ => ⟨_, rfl, hP, fun j u hu => ?_⟩⟩, hl, by omega⟩
 rw [add_blk, blk_cell h j, List.getElem?_toArray]
 exact hu
end
def BytesAt (x n : Nat) (o : List Nat) (k : Nat) : Prop := o.length = n ∧ (∀ j, j < k → dg o j = x / 2 ^ (8 * (n - 1 - j)) % 256) ∧ (∀ j, k ≤ j → dg o j = 0) ∧ ∀ b ∈ o, b < 256
theorem BytesAt.zero (x n : Nat) : BytesAt x n (List.replicate n 0) 0 := by
 refine ⟨by simp, fun j hj => by omega, fun j _ => ?_, fun b hb => by simp at hb; omega⟩
 rw [dg, List.getD_eq_getElem?_getD, List.getElem?_replicate]
 split <;> rfl
theorem BytesAt.step {x n : Nat} {o : List Nat} {k b : Nat} (h : BytesAt x n o k) (hk : k < n) (hb : x / 2 ^ (8 * (n - 1 - k)) % 256 = b) : BytesAt x n (o.set k b) (k + 1) := by
 obtain ⟨h1, h2, h3, h4⟩ := h
 refine ⟨by simpa using h1, fun j hj => ?_, fun j hj => by rw [getD_set_ne (by omega)]; exact h3 j (by omega), set_lt h4 (by omega)⟩
 rcases Nat.lt_or_ge j k with h | h
 · rw [getD_set_ne (by omega)]; exact h2 j h
 · obtain rfl : j = k := by omega
   rw [getD_set_eq (by omega)]; exact hb.symm
theorem BytesAt.skip {x n : Nat} {o : List Nat} {k : Nat} (h : BytesAt x n o k) (hb : x / 2 ^ (8 * (n - 1 - k)) % 256 = 0) : BytesAt x n o (k + 1) := by
 obtain ⟨h1, h2, h3, h4⟩ := h
 refine ⟨h1, fun j hj => ?_, fun j hj => h3 j (by omega), h4⟩
 rcases Nat.lt_or_ge j k with h | h
 · exact h2 j h
 · obtain rfl : j = k := by omega
   rw [hb]; exact h3 j h
theorem BytesAt.fin {x n : Nat} {o : List Nat} (h : BytesAt x n o n) : o = bytesOf x n := by
 obtain ⟨h1, h2, _⟩ := h
 apply List.ext_getElem (by rw [h1, bytesOf_length])
 intro i h3 h4
 have := h2 i (by omega)
 rw [dg, getD_eq' h3] at this
 rw [this]
 simp [bytesOf]
end Go.Proofs.YtendnkpiidhogaaGreat

namespace Go.Proofs.YtendnkpiidhogaaGreat
open Go.RowKit

def OW (w : World) (base : Nat) (A : Option Addr) (c : Nat) (bs : List Nat) : Prop := w.ownsRow base 5 1 (.slice A bs.length c) bs.length (bys bs) ∧ ∀ b ∈ bs, b < 256
theorem own_base {w : World} {base n size : Nat} {e : TypeId} {v : Value} {cs : List Value} (h : w.ownsRow base e size v n cs) (k : Nat) (hk : v.ownBlock = some k) : base ≤ k := by
 rcases h.2 with ⟨rfl, rfl⟩ | ⟨g, cap, cur, rfl, hg, _⟩
 · cases hk
 · simp [Value.ownBlock] at hk
   omega
theorem OW.rb {w : World} {base : Nat} {A : Option Addr} {c : Nat} {bs : List Nat} (h : OW w base A c bs) (hl : bs.length ≤ 100000000) : RB w (In base w.heap.size) A c bs := ⟨RS.of_own h.1, h.2, by omega⟩
theorem OW.lit (w : World) (b : Nat) (hb : b < 256) : OW (w.alloc (.cells #[.int .u8 (b : Int)] 5)) w.heap.size (some ⟨w.heap.size, 0, none⟩) 1 [b] :=
 ⟨World.ownsRow_lit w #[.int .u8 (b : Int)] 1 (Nat.le_refl _) (by unfold maxLen; omega) rfl, by simp; exact hb⟩
theorem OW.ext {w X : World} {base : Nat} {A : Option Addr} {c : Nat} {bs : List Nat} (h : OW w base A c bs) (hE : w.grownBy X none) : OW X base A c bs := ⟨own_kept h.1 hE, h.2⟩
section
variable {w : World} {ops : Array Oper} {rest : List Oper} {o : Oper} {a : Act} {Q : Exit → Act → World → Prop}
theorem app8 (hgd : o.guard = none) (s x : Operand) (ho : o.op = .call { callee := .builtin .append, args := #[s, x], argTypes := #[33, 33] }) (base : Nat) {A Au : Option Addr} {c cu : Nat} {bs cs : List Nat} {B : Nat → Prop}
 (hs : a.eval s = .slice A bs.length c) (hown : OW w base A c bs) (hx : a.eval x = .slice Au cs.length cu) (hr : RB w B Au cu cs) (hl : bs.length + cs.length ≤ 100000000) (hbase : base ≤ w.heap.size)
 (h : ∀ A' c' w', OW w' base A' c' (bs ++ cs) → Below base w w' → wpList Tryz.prog ops Q rest (a.put o.dst (.slice A' (bs ++ cs).length c')) w') : wpList Tryz.prog ops Q (o :: rest) a w := by
 obtain ⟨i0, hi, hz0, hz1, hz2⟩ := info_parts info8
 refine wpList_append_rs w hgd s x 33 ho base 5 i0 (.int .u8 0) 1 1 Tryz.underlying33 hi hz0 hz1 hz2 rfl (by decide) _ bs.length (bys bs) hs hown.1 B Au cs.length cu (bys cs) hx hr.1 (by intro u hu; obtain ⟨b, _, rfl⟩ := List.mem_map.1 hu; rfl) (bs.length + cs.length) rfl (by unfold maxLen; omega) (by omega) hbase ?_
 intro A' c' w' h1 h2 h3
 have hlen : (bs ++ cs).length = bs.length + cs.length := List.length_append
 refine (hlen ▸ h A' c' w' ⟨?_, ?_⟩ ?_ : _)
 · rw [hlen, show bys (bs ++ cs) = bys bs ++ bys cs by simp [bys]]
   exact h1
 · intro b hb
   rcases List.mem_append.1 hb with hb | hb
   · exact hown.2 b hb
   · exact hr.2.1 b hb
 · exact Below.grown (Below.refl base w) h2 hbase (own_base hown.1)
end
end Go.Proofs.YtendnkpiidhogaaGreat

namespace Go.Proofs.YtendnkpiidhogaaGreat.At
open Go.RowKit Go.Shelf

attribute [local go_sem] Oper.semAt_some

theorem OW.lower {w : World} {base b' : Nat} {A : Option Addr} {c : Nat} {bs : List Nat} (h : OW w base A c bs) (hb : b' ≤ base) : OW w b' A c bs := by
 obtain ⟨⟨h1, h2⟩, h3⟩ := h
 refine ⟨⟨h1, ?_⟩, h3⟩
 rcases h2 with h2 | ⟨g, cap, cur, e, hg, r⟩
 · exact .inl h2
 · exact .inr ⟨g, cap, cur, e, by omega, r⟩
theorem byte_of (z : Int) : ∃ b : Nat, b < 256 ∧ z % 256 = (b : Int) := ⟨(z % 256).toNat, by omega, by omega⟩
set_option maxRecDepth 100000 in
set_option maxHeartbeats 4000000 in
theorem digits_any (n : Nat) (w : World) (hn : n < 268435456) :
 Calls Tryz.prog 240 #[.int .i64 n] w fun e w' => ∃ A c bs, e = .returned (.slice A (List.length bs) c) ∧ OW w' w.heap.size A c bs ∧ 0 < bs.length ∧ bs.length ≤ 10 ∧ Below w.heap.size w w' := by
 obtain ⟨b0, hb0, he0⟩ := byte_of (bits .and .i64 (n : Int) 127)
 have hO := Lib.hid (OW.lit w b0 hb0)
 go_enter Tryz.func240, Tryz.ntmps240
 go_wp2
 go_loopw [0, 3] (fun v s wr => ∃ (x : Nat) (A : Option Addr) (c : Nat) (bs : List Nat), v = .int .i64 (x : Int) ∧ s = .slice A bs.length c ∧ OW wr w.heap.size A c bs ∧ 0 < bs.length ∧ bs.length ≤ 10 ∧ x < 128 ^ (10 - bs.length) ∧ Below w.heap.size w wr) (fun v _ _ => (intOf v).toNat)
 case atStart => exact ⟨n / 128, _, 1, [b0], by simp, rfl, hO.out, by simp, by simp, by simp; omega, (Below.refl _ w).alloc (Nat.le_refl _) _⟩
 case round =>
  clear hO he0 hb0
  obtain ⟨x, A, c, bs, rfl, rfl, hO, h0, hl, hx, hB⟩ := hrel
  by_cases hx0 : 0 < x
  · obtain ⟨b, hb, hbe⟩ := byte_of (bits .or .i64 (bits .and .i64 (x : Int) 127) 128)
    have hl9 : bs.length ≤ 9 := by
     rcases Nat.lt_or_ge 9 bs.length with h | h
     · have : bs.length = 10 := by omega
       rw [this] at hx
       simp at hx
       omega
     · exact h
    have hx' : x / 128 < 128 ^ (10 - (bs.length + 1)) := by
     rw [show 10 - bs.length = 10 - (bs.length + 1) + 1 by omega, Nat.pow_succ] at hx
     exact Nat.div_lt_of_lt_mul (by rw [Nat.mul_comm]; exact hx)
    have HX := Lib.hid hx'
    have hs := hB.size
    have HO := Lib.hid (OW.lit wr b hb)
    have HR := Lib.hid ((hO.rb (by omega)).below ((Below.refl _ wr).alloc (Nat.le_refl _) (.cells #[.int .u8 (b : Int)] 5)) fun q hq => hq.2)
    have hi : (0 : Int) < (x : Int) := by omega
    clear hx hx' hO
    go_wp2_with (at_builtin; refine app8 rfl (.tmp 18) (.tmp 19) rfl wr.heap.size (bs := [b]) rfl HO.out rfl HR.out (by simp; omega) (by simp) ?_; intro A2 c2 w2 hw2 hb2)
    have HB := Lib.hid ((hB.alloc hs (.cells #[.int .u8 (b : Int)] 5)).trans (hb2.mono hs))
    go_roundw
    case rel => exact ⟨x / 128, A2, c2, b :: bs, by simp, rfl, OW.lower hw2 hs, by simp, by simp; omega, by simpa using HX.out, HB.out⟩
    case measure => simp [intOf]; omega
  · have hx0' : x = 0 := by omega
    subst hx0'
    go_wp2
    go_ret
    exact ⟨A, c, bs, rfl, hO, h0, hl, hB⟩
end Go.Proofs.YtendnkpiidhogaaGreat.At

namespace Go.Proofs.YtendnkpiidhogaaGreat.At
open Go.RowKit Go.Shelf

attribute [local go_sem] Oper.semAt_some

theorem OW.up {w X : World} {base : Nat} {A : Option Addr} {c : Nat} {bs : List Nat} (h : OW w base A c bs) (hY : Below w.heap.size w X) : OW X base A c bs :=
 OW.ext h ⟨hY.os, hY.tape, hY.output, hY.size, fun k hk _ => hY.block k hk⟩
set_option maxRecDepth 100000 in
set_option maxHeartbeats 4000000 in
theorem oid_any (P : Nat → Prop) (g c : Nat) (l : List Int) (w : World) (hv : RI w P (some ⟨g, 0, none⟩) c l) (hP : ∀ b, P b → b < w.heap.size) (hl : 3 ≤ l.length ∧ l.length ≤ 100) (h0 : l.getD 0 0 = 1) (h1 : 0 ≤ l.getD 1 0 ∧ l.getD 1 0 ≤ 39) (ha : ∀ k, 0 ≤ l.getD k 0 ∧ l.getD k 0 < 268435456) :
 Calls Tryz.prog 235 #[.slice (some ⟨g, 0, none⟩) l.length c] w fun e w' => (∃ A1 n c1, e = .returned (.tuple #[.agg #[.int .i64 6, .slice A1 n c1, .slice none 0 0], .bool true])) ∧ Below w.heap.size w w' := by
 obtain ⟨hlc, hc⟩ := hv.cap
 have hB0 := (Below.refl w.heap.size w).alloc (Nat.le_refl _) (.cells #[.int .i64 0, .slice none 0 0, .slice none 0 0] 172)
 have hb0 := heap_alloc_new w (.cells #[.int .i64 0, .slice none 0 0, .slice none 0 0] 172)
 have hz0 : (w.alloc (.cells #[.int .i64 0, .slice none 0 0, .slice none 0 0] 172)).heap.size = w.heap.size + 1 := by simp
 obtain ⟨W0, hW0⟩ : ∃ W0, w.alloc (.cells #[.int .i64 0, .slice none 0 0, .slice none 0 0] 172) = W0 := ⟨_, rfl⟩
 rw [hW0] at hB0 hb0 hz0
 have hv0 := hv.below hB0 hP
 obtain ⟨a, ea, hPg, x0⟩ := hv0.at_ (i := 0) (by omega)
 injection ea with ea
 subst ea
 obtain ⟨a', ea, _, x1⟩ := hv0.at_ (i := 1) (by omega)
 injection ea with ea
 subst ea
 rw [h0] at x0
 obtain ⟨y, hy⟩ : ∃ y, l.getD 1 0 = y := ⟨_, rfl⟩
 rw [hy] at x1 h1
 simp [Addr.add] at x0 x1
 have y0 := x0
 have y1 := x1
 rw [← hW0] at y0 y1
 have HW := Lib.hid hW0
 have HB0 := Lib.hid hB0
 have Hb0 := Lib.hid hb0
 have Hz0 := Lib.hid hz0
 have HA := Lib.hid ha
 have Hy := Lib.hid hy
 have k0 : ¬ (l.length : Int) < 2 := by omega
 have k1 : ¬ (39 : Int) < y := by omega
 clear hB0 hb0 hz0 hW0 h0 ha hy
 go_enter Tryz.func235, Tryz.ntmps235
 go_wp2
 rw [HW.out]
 clear y0 y1
 go_loopw [33] (fun i wr => ∃ k : Nat, k ≤ l.length ∧ i = .int .i64 k ∧ ∃ d, wr = W0.drewN d) (fun i _ => l.length - (intOf i).toNat)
 case atStart => exact ⟨0, by omega, rfl, 0, rfl⟩
 case round =>
  obtain ⟨k, hk, rfl, d, rfl⟩ := hrel
  by_cases hlt : k < l.length
  · obtain ⟨a, ea, _, hx⟩ := (hv0.keep (w' := W0.drewN d) fun _ _ => rfl).at_ hlt
    injection ea with ea
    subst ea
    have h1 := HA.out k
    obtain ⟨z, hz⟩ : ∃ z, l.getD k 0 = z := ⟨_, rfl⟩
    rw [hz] at hx h1
    have hx' : (W0.drewN d).cell? ⟨g, k, none⟩ = some (.int .i64 z) := by
     have e : Addr.add ⟨g, 0, none⟩ k = ⟨g, k, none⟩ := by by_cases h : k = 0 <;> simp [Addr.add, h]
     rw [← e]; exact hx
    clear hx
    have Hz := Lib.hid hz
    clear hz
    have k2 : ¬ z < 0 := by omega
    have k3 : ¬ 268435456 < z := by omega
    go_wp2
    go_roundw
    case rel => exact ⟨k + 1, by omega, by go_num, d, rfl⟩
    case measure => simp [intOf]; omega
  · obtain rfl : k = l.length := by omega
    have X0 : (W0.drewN d).cell? ⟨g, 0, none⟩ = some (.int .i64 1) := x0
    have X1 : (W0.drewN d).cell? ⟨g, 1, none⟩ = some (.int .i64 y) := x1
    obtain ⟨yn, hyn⟩ : ∃ yn : Nat, y = (yn : Int) := ⟨y.toNat, by omega⟩
    subst hyn
    have HD := fun X => digits_any (40 + yn) X (by omega)
    simp only [Int.natCast_add, Int.cast_ofNat_Int] at HD
    have HDD := Lib.hid HD
    have hwr : IntKind.i64.wrap (40 + (yn : Int)) = 40 + (yn : Int) := by rw [IntKind.wrap_i64]; omega
    clear k0 k1 hk hlt x0 x1 HD
    go_wp2_with fail
    refine Par.region_ext (by kernel_rfl) 10 [0, 1, 3, 7, 0, 16, 48, 127, 255, 511] [] (fun j f X => match j with
     | 0 => f 0 = .slice (some ⟨g, 0, none⟩) l.length c
     | 1 => f 1 = .pointer (some ⟨g, 0, none⟩)
     | 2 => f 2 = .int .i64 1
     | 3 => f 3 = .int .i64 40
     | 4 => f 4 = .slice (some ⟨g, 0, none⟩) l.length c
     | 5 => f 5 = .pointer (some ⟨g, 1, none⟩)
     | 6 => f 6 = .int .i64 (yn : Int)
     | 7 => f 7 = .int .i64 (40 + (yn : Int))
     | 8 => ∃ A8 c8 b8, f 8 = .slice A8 (List.length b8) c8 ∧ OW X W0.heap.size A8 c8 b8 ∧ b8.length ≤ 10
     | 9 => ∃ A8 c8 b8, f 9 = .slice A8 (List.length b8) c8 ∧ OW X W0.heap.size A8 c8 b8 ∧ b8.length ≤ 10
     | _ => True) (by kernel_rfl) [(45, 0), (46, 1), (47, 2), (48, 3), (49, 4), (50, 5), (51, 6), (52, 7), (53, 8), (6, 9)] (by kernel_rfl) ?_
    refine Par.v0 1 9 ?_
    refine Par.S 2 8 [(45, 0), (49, 4), (50, 5), (51, 6)] (fun f X hX hR K hK => ?_) ?_
    · have e0 : f 0 = _ := hR.out 0 rfl
      have q1 : 0 < l.length := by omega
      simp only [yA, yB, yC, yD, yE, e0]
      refine ⟨?_⟩
      go_simp
      exact Par.k hK (s := by simp only [yA, yB, yC, yD, yE, e0])
    refine Par.ld1 3 7 1 X0 ?_
    refine Par.v1 4 6 2 ?_
    refine Par.v0 5 5 ?_
    refine Par.S 6 4 [(45, 0), (46, 1), (47, 2), (48, 3), (49, 4)] (fun f X hX hR K hK => ?_) ?_
    · have e4 : f 4 = _ := hR.out 4 rfl
      have q5 : 1 < l.length := by omega
      have q6 : (1 : Int) < (l.length : Int) := by omega
      simp only [yA, yB, yC, yD, yE, e4]
      refine ⟨?_⟩
      go_simp
      exact Par.k hK (s := by simp only [yA, yB, yC, yD, yE, e4])
    refine Par.ld1 7 3 5 X1 ?_
    refine Par.v2 8 2 3 6 (hR := fun _ _ h => h.trans ((congrArg (Value.int .i64) hwr))) ?_
    refine Par.c0 9 1 (fun f => #[f 7]) (F' := 240) (fun f X hX hR => ?_) ?_
    · have e7 : f 7 = _ := hR.out 7 rfl
      simp only [e7]
      refine (HDD.out X).mono ?_
      rintro e w2 ⟨A8, c8, b8, rfl, hO8, -, hl8, hB⟩
      exact ⟨(.slice A8 b8.length c8), rfl, hB, fun Y hY => ⟨A8, c8, b8, rfl, OW.up (OW.lower hO8 hX.bsize) hY, hl8⟩⟩
    refine Par.S 10 0 [(45, 0), (46, 1), (47, 2), (48, 3), (49, 4), (50, 5), (51, 6), (52, 7), (53, 8)] (fun f X hX hR K hK => ?_) ?_
    · obtain ⟨A8, c8, b8, (e8 : f 8 = _), r8, l8⟩ := hR.out 8 rfl
      simp only [yA, yB, yC, yD, yE, e8]
      refine ⟨?_⟩
      go_simp
      exact hK.out _ (.slice A8 b8.length c8) _ (by simp only [yA, yB, yC, yD, yE, e8]) (Ext.refl _) trivial (fun Y hY => ⟨A8, c8, b8, rfl, OW.up r8 hY, l8⟩)
    refine Par.AllOps.fin ⟨fun f X hX hR hal hap => ?_⟩
    obtain ⟨A8, c8, b8, (e8 : f 8 = _), r8, l8⟩ := hR 8 (by decide)
    obtain ⟨A9, c9, b9, (e9 : f 9 = _), r9, l9⟩ := hR 9 (by decide)
    simp only [yA, yB, yD, yE, e8, e9]
    clear hR hal hap e8 e9
    refine Par.Chain.done ?_
    have hXB : Below W0.heap.size W0 X := Below.trans (below_drewN (Below.refl _ W0) d) hX
    have e9' := r9
    have HO9 := Lib.hid r9
    have HXB := Lib.hid hXB
    clear r9 e9' hXB hX X0 X1 HDD hwr
    have m0 : (0 : Int) ≤ 2 := by omega
    have m1 : (2 : Int) ≤ (l.length : Int) := by omega
    have m2 : ¬ (c : Int) = 2 := by omega
    have m3 : ¬ c = 2 := by omega
    have m4 : (2 : Int) ≤ (c : Int) := by omega
    go_wp2
    go_loopw [6, 57] (fun s i wr => ∃ (k : Nat) (A6 : Option Addr) (c6 : Nat) (bs : List Nat), k + 2 ≤ l.length ∧ i = .int .i64 k ∧ s = .slice A6 bs.length c6 ∧ OW wr W0.heap.size A6 c6 bs ∧ bs.length ≤ 10 + 10 * k ∧ Below W0.heap.size W0 wr) (fun _ i _ => l.length - (intOf i).toNat)
    case atStart => exact ⟨0, A9, c9, b9, by omega, rfl, rfl, HO9.out, by omega, HXB.out⟩
    case round =>
     clear HO9 HXB l9 l8 r8
     obtain ⟨k, A6, c6, bs, hk, rfl, rfl, hO6, hl6, hB⟩ := hrel
     have hs := hB.size
     by_cases hlt : k + 2 < l.length
     · obtain ⟨a, ea, _, hx⟩ := (hv0.below hB (fun b hb => by have := hP b hb; have := Hz0.out; omega)).at_ (i := k + 2) hlt
       injection ea with ea
       subst ea
       have h1 := HA.out (k + 2)
       obtain ⟨z, hz⟩ : ∃ z, l.getD (k + 2) 0 = z := ⟨_, rfl⟩
       rw [hz] at hx h1
       obtain ⟨zn, hzn⟩ : ∃ zn : Nat, z = (zn : Int) := ⟨z.toNat, by omega⟩
       subst hzn
       have hx' : wr.cell? ⟨g, 2 + k, none⟩ = some (.int .i64 (zn : Int)) := by
        have e : Addr.add ⟨g, 0, none⟩ (k + 2) = ⟨g, 2 + k, none⟩ := by simp [Addr.add]; omega
        rw [← e]; exact hx
       have HO6 := Lib.hid hO6
       have k1 : k < l.length - 2 := by omega
       have k1' : (k : Int) < ((l.length - 2 : Nat) : Int) := by omega
       have HD := Lib.hid (digits_any zn wr (by omega))
       clear hx hO6 hz
       go_wp2_with fail
       refine HD.out.mono ?_
       rintro e w2 ⟨A7, c7, b7, rfl, hO7, -, hl7, hB7⟩
       have HO7 := Lib.hid (hO7.rb (by omega))
       have HO8 := Lib.hid (OW.up HO6.out hB7)
       have HB7 := Lib.hid (hB.trans (hB7.mono hs))
       have hs7 := HB7.out.size
       clear hO7 hB7 HO6 HD
       go_wp2_with (at_builtin; refine app8 rfl (.tmp 61) (.tmp 63) rfl W0.heap.size (bs := bs) rfl HO8.out rfl HO7.out (by omega) hs7 ?_; intro A2 c2 w3 hw3 hb3)
       have HB8 := Lib.hid (HB7.out.trans hb3)
       have HW3 := Lib.hid hw3
       clear hw3 hb3
       go_roundw
       case rel => exact ⟨k + 1, A2, c2, bs ++ b7, by omega, by go_num, by rw [List.length_append], HW3.out, by rw [List.length_append]; omega, HB8.out⟩
       case measure => simp [intOf]; omega
     · have hk2 : k = l.length - 2 := by omega
       have k1 : ¬ k < l.length - 2 := by omega
       have k1' : ¬ (k : Int) < ((l.length - 2 : Nat) : Int) := by omega
       have hb1 := (hB.block w.heap.size (by have := Hz0.out; omega)).trans Hb0.out
       have HBB := Lib.hid (HB0.out.trans (hB.mono (by have := Hz0.out; omega)))
       obtain ⟨s, hs0⟩ : ∃ s, w.heap.size = s := ⟨_, rfl⟩
       rw [hs0] at hb1 HBB
       have q0 := blk_cell hb1 0
       have q1 := blk_cell hb1 1
       have q2 := blk_cell hb1 2
       have p0 := blk_free hb1 0
       have p1 := blk_free hb1 1
       have p2 := blk_free hb1 2
       simp only [List.getElem?_toArray, List.getElem?_cons_zero, List.getElem?_cons_succ] at q0 q1 q2
       have r := set3 hb1 (.int .i64 6) (.slice A6 bs.length c6) (.slice none 0 0)
       have r0 := blk_cell r 0
       have r1 := blk_cell r 1
       have r2 := blk_cell r 2
       simp only [List.getElem?_toArray, List.getElem?_cons_zero, List.getElem?_cons_succ] at r0 r1 r2
       have R0 := Lib.hid r0
       have R1 := Lib.hid r1
       have R2 := Lib.hid r2
       clear r r0 r1 r2 hb1 hO6 hB hk2
       go_wp2
       have r0 := R0.out
       have r1 := R1.out
       have r2 := R2.out
       refine bodyPost_ret (v := .tuple #[.agg #[.int .i64 6, .slice A6 bs.length c6, .slice none 0 0], .bool true]) (by simp [results, Tryz.results235, go_sem, r0, r1, r2]) rfl ⟨⟨A6, _, c6, rfl⟩, ?_⟩
       exact ((HBB.out.setCell (p := ⟨s, 0, none⟩) (Nat.le_refl _) _).setCell (p := ⟨s, 1, none⟩) (Nat.le_refl _) _).setCell (p := ⟨s, 2, none⟩) (Nat.le_refl _) _
end Go.Proofs.YtendnkpiidhogaaGreat.At

namespace Go.Proofs.YtendnkpiidhogaaGreat.At
open Go.RowKit Go.Shelf

attribute [local go_sem] Oper.semAt_some

set_option maxRecDepth 100000 in
set_option maxHeartbeats 4000000 in
theorem name_any (P : Nat → Prop) (g c : Nat) (l : List Int) (w : World) (hv : RI w P (some ⟨g, 0, none⟩) c l) (hP : ∀ b, P b → b < w.heap.size) (hl : 3 ≤ l.length ∧ l.length ≤ 100) (h0 : l.getD 0 0 = 1) (h1 : 0 ≤ l.getD 1 0 ∧ l.getD 1 0 ≤ 39) (ha : ∀ k, 0 ≤ l.getD k 0 ∧ l.getD k 0 < 268435456) :
 Calls Tryz.prog 219 #[.slice (some ⟨g, 0, none⟩) l.length c] w fun e w' => (∃ A1 n c1, e = .returned (.agg #[.int .i64 6, .slice A1 n c1, .slice none 0 0])) ∧ Below w.heap.size w w' := by
 have hB := (Below.refl w.heap.size w).alloc (Nat.le_refl _) (.cells #[.int .i64 0, .slice none 0 0, .slice none 0 0] 172)
 have hb := heap_alloc_new w (.cells #[.int .i64 0, .slice none 0 0, .slice none 0 0] 172)
 have hz : (w.alloc (.cells #[.int .i64 0, .slice none 0 0, .slice none 0 0] 172)).heap.size = w.heap.size + 1 := by simp
 have hO := oid_any P g c l _ (hv.below hB hP) (fun b hb => by have := hP b hb; rw [hz]; omega) hl h0 h1 ha
 have HB := Lib.hid hB
 have H0 := Lib.hid hb
 have Hz := Lib.hid hz
 have HO := Lib.hid hO
 clear hB hb hz hO hv hP hl h0 h1 ha
 go_enter Tryz.func219, Tryz.ntmps219
 go_wp2_with fail
 obtain ⟨s, hs⟩ : ∃ s, w.heap.size = s := ⟨_, rfl⟩
 rw [hs] at HB H0 Hz ⊢
 have Hs := Lib.hid hs
 clear hs
 generalize w.alloc (.cells #[.int .i64 0, .slice none 0 0, .slice none 0 0] 172) = W1 at *
 refine HO.out.mono ?_
 rintro e w2 ⟨⟨A1, n, c1, rfl⟩, hB2⟩
 have h2 := (hB2.block s (by have := Hz.out; omega)).trans H0.out
 have hlt : s < w2.heap.size := by have := Hz.out; have := hB2.size; omega
 have HB3 := Lib.hid (HB.out.trans (hB2.mono (by have := Hz.out; omega)))
 have H2 := Lib.hid h2
 have q0 := blk_cell h2 0
 have q1 := blk_cell h2 1
 have q2 := blk_cell h2 2
 have p0 := blk_free h2 0
 have p1 := blk_free h2 1
 have p2 := blk_free h2 2
 simp only [List.getElem?_toArray, List.getElem?_cons_zero, List.getElem?_cons_succ] at q0 q1 q2
 clear h2 hB2 H0
 go_wp2
 have r := set3a H2.out (.int .i64 6) (.slice A1 n c1) (.slice none 0 0) (.cells #[.int .i64 6, .slice A1 n c1, .slice none 0 0] 172)
 have r0 := blk_cell r 0
 have r1 := blk_cell r 1
 have r2 := blk_cell r 2
 simp only [List.getElem?_toArray, List.getElem?_cons_zero, List.getElem?_cons_succ] at r0 r1 r2
 refine bodyPost_ret (v := .agg #[.int .i64 6, .slice A1 n c1, .slice none 0 0]) (by simp [results, Tryz.results219, go_sem, r0, r1, r2]) rfl ⟨⟨A1, n, c1, rfl⟩, ?_⟩
 rw [Hs.out]
 exact (((HB3.out.setCell (p := ⟨s, 0, none⟩) (by simp) _).setCell (p := ⟨s, 1, none⟩) (by simp) _).setCell (p := ⟨s, 2, none⟩) (by simp) _).alloc (by simp; omega) _

theorem all_small {l : List Int} (h : ∀ x ∈ l, 0 ≤ x ∧ x < 268435456) (k : Nat) : 0 ≤ l.getD k 0 ∧ l.getD k 0 < 268435456 := by
 rcases Nat.lt_or_ge k l.length with hk | hk
 · rw [List.getD_eq_getElem?_getD, List.getElem?_eq_getElem hk]; exact h _ (List.getElem_mem hk)
 · rw [List.getD_eq_getElem?_getD, List.getElem?_eq_none hk]; simp
set_option maxRecDepth 100000 in
set_option maxHeartbeats 4000000 in
theorem params_1 (w : World) : Calls Tryz.prog 186 #[.int .i64 1] w fun e w' => (∃ A1 n c1, e = .returned (.tuple #[.agg #[.int .i64 6, .slice A1 n c1, .slice none 0 0], .bool true])) ∧ Below w.heap.size w w' := by
 have hB := ((Below.refl w.heap.size w).alloc (Nat.le_refl _) (.cells #[.int .i64 0, .slice none 0 0, .slice none 0 0] 172)).alloc (by simp) (.cells #[.int .i64 1, .int .i64 2, .int .i64 840, .int .i64 10045, .int .i64 3, .int .i64 1, .int .i64 7] 3)
 have hb := (Below.heap_alloc (w.alloc (.cells #[.int .i64 0, .slice none 0 0, .slice none 0 0] 172)) (.cells #[.int .i64 1, .int .i64 2, .int .i64 840, .int .i64 10045, .int .i64 3, .int .i64 1, .int .i64 7] 3) w.heap.size (by simp)).trans (heap_alloc_new w _)
 have hz : ((w.alloc (.cells #[.int .i64 0, .slice none 0 0, .slice none 0 0] 172)).alloc (.cells #[.int .i64 1, .int .i64 2, .int .i64 840, .int .i64 10045, .int .i64 3, .int .i64 1, .int .i64 7] 3)).heap.size = w.heap.size + 2 := by simp
 have hR := RI.fresh (P := fun b => b < w.heap.size + 2) (w.alloc (.cells #[.int .i64 0, .slice none 0 0, .slice none 0 0] 172)) #[.int .i64 1, .int .i64 2, .int .i64 840, .int .i64 10045, .int .i64 3, .int .i64 1, .int .i64 7] 3 [1, 2, 840, 10045, 3, 1, 7] 7 rfl rfl (by omega) (by simp)
 rw [World.size_alloc] at hR
 have hO := name_any (fun b => b < w.heap.size + 2) (w.heap.size + 1) 7 [1, 2, 840, 10045, 3, 1, 7] _ hR (fun b hb => by rw [hz]; exact hb) (by simp) rfl (by simp) (all_small (by simp))
 have HB := Lib.hid hB
 have H0 := Lib.hid hb
 have Hz := Lib.hid hz
 have HO := Lib.hid hO
 clear hB hb hz hO hR
 go_enter Tryz.func186, Tryz.ntmps186
 go_wp2_with fail
 obtain ⟨s, hs⟩ : ∃ s, w.heap.size = s := ⟨_, rfl⟩
 rw [hs] at HB H0 Hz HO ⊢
 have Hs := Lib.hid hs
 clear hs
 generalize (w.alloc (.cells #[.int .i64 0, .slice none 0 0, .slice none 0 0] 172)).alloc (.cells #[.int .i64 1, .int .i64 2, .int .i64 840, .int .i64 10045, .int .i64 3, .int .i64 1, .int .i64 7] 3) = W1 at *
 refine HO.out.mono ?_
 rintro e w2 ⟨⟨A1, n, c1, rfl⟩, hB2⟩
 have h2 := (hB2.block s (by have := Hz.out; omega)).trans H0.out
 have hlt : s < w2.heap.size := by have := Hz.out; have := hB2.size; omega
 have HB3 := Lib.hid (HB.out.trans (hB2.mono (by have := Hz.out; omega)))
 have H2 := Lib.hid h2
 have q0 := blk_cell h2 0
 have q1 := blk_cell h2 1
 have q2 := blk_cell h2 2
 have p0 := blk_free h2 0
 have p1 := blk_free h2 1
 have p2 := blk_free h2 2
 simp only [List.getElem?_toArray, List.getElem?_cons_zero, List.getElem?_cons_succ] at q0 q1 q2
 clear h2 hB2 H0
 go_wp2
 have r := set3 H2.out (.int .i64 6) (.slice A1 n c1) (.slice none 0 0)
 have r0 := blk_cell r 0
 have r1 := blk_cell r 1
 have r2 := blk_cell r 2
 simp only [List.getElem?_toArray, List.getElem?_cons_zero, List.getElem?_cons_succ] at r0 r1 r2
 refine bodyPost_ret (v := .tuple #[.agg #[.int .i64 6, .slice A1 n c1, .slice none 0 0], .bool true]) (by simp [results, Tryz.results186, go_sem, r0, r1, r2]) rfl ⟨⟨A1, n, c1, rfl⟩, ?_⟩
 rw [Hs.out]
 exact ((HB3.out.setCell (p := ⟨s, 0, none⟩) (by simp) _).setCell (p := ⟨s, 1, none⟩) (by simp) _).setCell (p := ⟨s, 2, none⟩) (by simp) _

set_option maxRecDepth 100000 in
set_option maxHeartbeats 4000000 in
theorem params_2 (w : World) : Calls Tryz.prog 186 #[.int .i64 2] w fun e w' => (∃ A1 n c1, e = .returned (.tuple #[.agg #[.int .i64 6, .slice A1 n c1, .slice none 0 0], .bool true])) ∧ Below w.heap.size w w' := by
 have hB := ((Below.refl w.heap.size w).alloc (Nat.le_refl _) (.cells #[.int .i64 0, .slice none 0 0, .slice none 0 0] 172)).alloc (by simp) (.cells #[.int .i64 1, .int .i64 3, .int .i64 132, .int .i64 0, .int .i64 34] 3)
 have hb := (Below.heap_alloc (w.alloc (.cells #[.int .i64 0, .slice none 0 0, .slice none 0 0] 172)) (.cells #[.int .i64 1, .int .i64 3, .int .i64 132, .int .i64 0, .int .i64 34] 3) w.heap.size (by simp)).trans (heap_alloc_new w _)
 have hz : ((w.alloc (.cells #[.int .i64 0, .slice none 0 0, .slice none 0 0] 172)).alloc (.cells #[.int .i64 1, .int .i64 3, .int .i64 132, .int .i64 0, .int .i64 34] 3)).heap.size = w.heap.size + 2 := by simp
 have hR := RI.fresh (P := fun b => b < w.heap.size + 2) (w.alloc (.cells #[.int .i64 0, .slice none 0 0, .slice none 0 0] 172)) #[.int .i64 1, .int .i64 3, .int .i64 132, .int .i64 0, .int .i64 34] 3 [1, 3, 132, 0, 34] 5 rfl rfl (by omega) (by simp)
 rw [World.size_alloc] at hR
 have hO := name_any (fun b => b < w.heap.size + 2) (w.heap.size + 1) 5 [1, 3, 132, 0, 34] _ hR (fun b hb => by rw [hz]; exact hb) (by simp) rfl (by simp) (all_small (by simp))
 have HB := Lib.hid hB
 have H0 := Lib.hid hb
 have Hz := Lib.hid hz
 have HO := Lib.hid hO
 clear hB hb hz hO hR
 go_enter Tryz.func186, Tryz.ntmps186
 go_wp2_with fail
 obtain ⟨s, hs⟩ : ∃ s, w.heap.size = s := ⟨_, rfl⟩
 rw [hs] at HB H0 Hz HO ⊢
 have Hs := Lib.hid hs
 clear hs
 generalize (w.alloc (.cells #[.int .i64 0, .slice none 0 0, .slice none 0 0] 172)).alloc (.cells #[.int .i64 1, .int .i64 3, .int .i64 132, .int .i64 0, .int .i64 34] 3) = W1 at *
 refine HO.out.mono ?_
 rintro e w2 ⟨⟨A1, n, c1, rfl⟩, hB2⟩
 have h2 := (hB2.block s (by have := Hz.out; omega)).trans H0.out
 have hlt : s < w2.heap.size := by have := Hz.out; have := hB2.size; omega
 have HB3 := Lib.hid (HB.out.trans (hB2.mono (by have := Hz.out; omega)))
 have H2 := Lib.hid h2
 have q0 := blk_cell h2 0
 have q1 := blk_cell h2 1
 have q2 := blk_cell h2 2
 have p0 := blk_free h2 0
 have p1 := blk_free h2 1
 have p2 := blk_free h2 2
 simp only [List.getElem?_toArray, List.getElem?_cons_zero, List.getElem?_cons_succ] at q0 q1 q2
 clear h2 hB2 H0
 go_wp2
 have r := set3 H2.out (.int .i64 6) (.slice A1 n c1) (.slice none 0 0)
 have r0 := blk_cell r 0
 have r1 := blk_cell r 1
 have r2 := blk_cell r 2
 simp only [List.getElem?_toArray, List.getElem?_cons_zero, List.getElem?_cons_succ] at r0 r1 r2
 refine bodyPost_ret (v := .tuple #[.agg #[.int .i64 6, .slice A1 n c1, .slice none 0 0], .bool true]) (by simp [results, Tryz.results186, go_sem, r0, r1, r2]) rfl ⟨⟨A1, n, c1, rfl⟩, ?_⟩
 rw [Hs.out]
 exact ((HB3.out.setCell (p := ⟨s, 0, none⟩) (by simp) _).setCell (p := ⟨s, 1, none⟩) (by simp) _).setCell (p := ⟨s, 2, none⟩) (by simp) _


end Go.Proofs.YtendnkpiidhogaaGreat.At

namespace Go.Proofs.YtendnkpiidhogaaGreat
open Go.RowKit

theorem RN.one (w : World) (x : Nat) (hx : x < 18446744073709551616) : RN (w.alloc (.cells #[.int .u64 (x : Int)] 139)) (In w.heap.size (w.heap.size + 1)) (some ⟨w.heap.size, 0, none⟩) 1 [x] :=
 ⟨RS.fresh #[.int .u64 (x : Int)] 139 1 1 rfl (by unfold maxLen; omega) ⟨Nat.le_refl _, by omega⟩, by simpa [Lim] using hx⟩
abbrev RU (w : World) (A : Option Addr) (c : Nat) (l : List Nat) : Prop := RN w (fun b => b < w.heap.size) A c l
theorem RN.up {w w' : World} {A : Option Addr} {c : Nat} {l : List Nat} (h : RU w A c l) (hB : Below w.heap.size w w') : RU w' A c l :=
 (h.below hB fun _ hb => hb).mono fun _ hb => Nat.lt_of_lt_of_le hb hB.size
theorem OB.ru {w : World} {base : Nat} {A : Option Addr} {c : Nat} {l : List Nat} (h : OB w base A c l) : RU w A c l := h.rn.mono fun _ hb => hb.2
end Go.Proofs.YtendnkpiidhogaaGreat

namespace Go.Proofs.YtendnkpiidhogaaGreat
open Go.ChangeShapes Go.WideShapes Go.ChangeAt Go.RowKit Go.Deep Go.Joins

section
variable {H : Type} {enc : TypeId × Value → H} {w : World}
theorem cells8 : Tryz.prog.cellsOf 5 = 1 := by kernel_rfl
theorem bytes8 : Tryz.prog.bytesOf 5 = 1 := by kernel_rfl
def Fits (t : TypeId) (d : DataW H) : Prop := ∀ k ∈ DataW.weights Tryz.prog t d, k ≤ reachBytes

theorem open_bytes {fuel : Nat} {v : Value} {x : DataW H × List MemPlace} (h : DataW.trod enc Tryz.prog w 0 (fun _ => true) true fuel 33 [v] = some x) (hw : Fits 33 x.1) :
 ∃ A c bs, v = .slice A bs.length c ∧ RB w (fun b => b < w.heap.size) A c bs := by
 rcases open_ints Tryz.underlying33 Tryz.underlying5 cells8 h with ⟨hcs, _⟩ | ⟨a, len, cap, zs, hcs, _, hl, hm, hz, hx, hcell, hwz⟩
 · simp at hcs
   exact ⟨none, 0, [], by simpa using hcs, RB.nil_ _ _⟩
 · simp at hcs hz
   have hb : zs.length ≤ reachBytes := by
    subst hx
    have := hw ((lits (H := H) .u8 (zs.take len)).length * 1 + (lits (H := H) .u8 (zs.drop len)).length * 1) (by simp [DataW.weights, Tryz.underlying33, bytes8])
    simp [lits] at this
    omega
   unfold reachBytes at hb
   have hwf : ∀ i (hi : i < zs.length), 0 ≤ zs[i] ∧ zs[i] < 256 := fun i hi => by
    have := bounds_u8 (hwz _ (List.getElem_mem hi))
    omega
   refine ⟨some a, cap, (zs.take len).map Int.toNat, ?_, ⟨by simp; omega, hm, by simp [bys], fun hn => ⟨a, rfl, ?_, fun j u hu => ?_⟩⟩, ?_, by simp; omega⟩
   · rw [hcs]; simp; omega
   · have h0 := hcell 0 (by simp at hn; omega)
     have := World.block_lt_of_cell? w _ h0
     rwa [block_of_add] at this
   · have hj : j < len := by
      have := (List.getElem?_eq_some_iff.1 hu).1
      simp [bys] at this
      omega
     have hjz : j < zs.length := by omega
     rw [hcell j hjz]
     have := hwf j hjz
     simp [bys, hj, List.getElem?_eq_getElem hjz] at hu
     rw [← hu]
     simp [List.getD, List.getElem?_eq_getElem hjz]
     omega
   · intro b hb
     obtain ⟨z, hz, rfl⟩ := List.mem_map.1 hb
     obtain ⟨i, hi, rfl⟩ := List.getElem_of_mem (List.mem_of_mem_take hz)
     have := hwf i hi
     omega

end
end Go.Proofs.YtendnkpiidhogaaGreat

namespace Go.Proofs.YtendnkpiidhogaaGreat

def numOf (bs : List Nat) : Nat := val 256 bs.reverse
theorem numOf_snoc (bs : List Nat) (c : Nat) : numOf (bs ++ [c]) = c + 256 * numOf bs := by
 simp [numOf]
theorem pow256 (k : Nat) : 256 ^ k = 2 ^ (8 * k) := by rw [Nat.pow_mul]
theorem from_step {m j q k c : Nat} {o : List Nat} {V : Nat} (ho : ∀ x ∈ o, x < 2 ^ m) (hq : q < o.length) (hk : m * q + j = 8 * k) (hj : j + 8 ≤ m) (hc : c < 256) (hv : val (2 ^ m) o = 256 ^ (k + 1) * V) :
 c * 2 ^ j < 2 ^ m ∧ dg o q + c * 2 ^ j < 2 ^ m ∧ (dg o q ||| c * 2 ^ j) = dg o q + c * 2 ^ j ∧ val (2 ^ m) (o.set q (dg o q + c * 2 ^ j)) = 256 ^ k * (c + 256 * V) := by
 obtain ⟨r, hr⟩ := val_shift o ho q 0 (by omega)
 have hlt : dg o q < 2 ^ m := getD_lt (Nat.pow_pos (by omega)) ho q
 rw [Nat.add_zero, Nat.pow_zero, Nat.div_one, Nat.sub_zero, hv, pow256, show 8 * (k + 1) = m * q + (j + 8) by omega, Nat.pow_add, Nat.mul_assoc, Nat.mul_div_cancel_left _ (Nat.pow_pos (by omega))] at hr
 have hcj : c * 2 ^ j < 2 ^ (j + 8) := by
  rw [Nat.pow_add, Nat.mul_comm]
  exact Nat.mul_lt_mul_of_pos_left hc (Nat.pow_pos (by omega))
 have em : 2 ^ m = 2 ^ (j + 8) * 2 ^ (m - (j + 8)) := by rw [← Nat.pow_add, show j + 8 + (m - (j + 8)) = m by omega]
 obtain ⟨t, ht⟩ : ∃ t, dg o q = t * 2 ^ (j + 8) := by
  refine ⟨V - 2 ^ (m - (j + 8)) * r, ?_⟩
  rw [em, Nat.mul_assoc] at hr
  rw [Nat.mul_comm, Nat.mul_sub, hr]
  omega
 have htlt : t < 2 ^ (m - (j + 8)) := by
  rw [ht, em, Nat.mul_comm] at hlt
  exact Nat.lt_of_mul_lt_mul_left hlt
 have hsum : dg o q + c * 2 ^ j < 2 ^ m := by
  have h1 : (t + 1) * 2 ^ (j + 8) ≤ 2 ^ (m - (j + 8)) * 2 ^ (j + 8) := Nat.mul_le_mul_right _ htlt
  rw [Nat.mul_comm (2 ^ (m - (j + 8))), ← em, Nat.add_mul, ← ht] at h1
  omega
 refine ⟨by omega, hsum, ?_, ?_⟩
 · rw [ht, Nat.mul_comm t, Nat.two_pow_add_eq_or_of_lt hcj]
 · have h2 := val_set' (2 ^ m) hq (dg o q + c * 2 ^ j)
   have h3 : (2 ^ m) ^ q * (c * 2 ^ j) = 256 ^ k * c := by
    rw [pow256, ← hk, Nat.pow_add, Nat.pow_mul, Nat.mul_assoc, Nat.mul_comm c]
   rw [Nat.mul_add, h3, hv] at h2
   rw [Nat.mul_add, ← Nat.mul_assoc, ← Nat.pow_succ]
   generalize 256 ^ (k + 1) * V = E at *
   generalize 256 ^ k * c = F at *
   generalize (2 ^ m) ^ q * dg o q = G at *
   generalize val (2 ^ m) (o.set q (dg o q + c * 2 ^ j)) = H at *
   clear hr hlt hcj em ht htlt hsum hv h3
   omega
end Go.Proofs.YtendnkpiidhogaaGreat

namespace Go.Proofs.YtendnkpiidhogaaGreat
open Go.RowKit

theorem RB.cells {w : World} {P : Nat → Prop} {ad : Addr} {c : Nat} {bs : List Nat} (h : RB w P (some ad) c bs) : ∀ i, i < bs.length → w.cell? (ad.add i) = some (.int .u8 (dg bs i : Int)) := by
 intro i hi
 obtain ⟨ad', e, _, hc, _⟩ := h.at_ hi
 cases e
 rw [dg, getD_eq' hi]
 exact hc
theorem RB.dg {w : World} {P : Nat → Prop} {A : Option Addr} {c : Nat} {bs : List Nat} (h : RB w P A c bs) {i : Nat} (hi : i < bs.length) : ∃ ad, A = some ad ∧ w.cell? (ad.add i) = some (.int .u8 (Go.Proofs.YtendnkpiidhogaaGreat.dg bs i : Int)) ∧ Go.Proofs.YtendnkpiidhogaaGreat.dg bs i < 256 := by
 obtain ⟨ad, rfl, _, hc, hb⟩ := h.at_ hi
 refine ⟨ad, rfl, h.cells i hi, ?_⟩
 rw [Go.Proofs.YtendnkpiidhogaaGreat.dg, getD_eq' hi]
 omega

set_option maxRecDepth 100000 in
set_option maxHeartbeats 2000000 in
theorem fromBytes_any (P : Nat → Prop) (A : Option Addr) (c : Nat) (bs : List Nat) (w : World) (h : RB w P A c bs) (hP : ∀ b, P b → b < w.heap.size) (hl : bs.length ≤ 100000) :
 Calls Tryz.prog 97 #[.slice A bs.length c] w fun e w' => ∃ A1 c1, e = .returned (.slice A1 (digs 18446744073709551616 (numOf bs)).length c1) ∧
  OB w' w.heap.size A1 c1 (digs 18446744073709551616 (numOf bs)) ∧ Below w.heap.size w w' := by
 obtain ⟨h1, h2, h3⟩ := h.cap
 obtain ⟨n, hn⟩ : ∃ n, bs.length = n := ⟨_, rfl⟩
 rw [hn] at h1 h3 hl ⊢
 obtain ⟨N, hN, hN1, hN2⟩ : ∃ N : Nat, ((n : Int) + 7) / 8 = (N : Int) ∧ N ≤ 100000 ∧ n ≤ 8 * N := ⟨(n + 7) / 8, by omega, by omega, by omega⟩
 have hmk := run_make_row' (P := Tryz.prog) 106 139 (.int .u64 0) 8 Tryz.underlying106 info64 rfl .i64 .i64 N (by omega) (by omega)
 have Hn := Lib.hid hn
 clear hn
 go_enter Tryz.func97, Tryz.ntmps97
 go_wp2
 go_loopw [14] (fun iv wr => ∃ (i : Nat) (o : List Nat), iv = .int .i64 (i : Int) ∧ i ≤ n ∧ Hid (o.length = N) ∧ Lim o ∧ val 18446744073709551616 o = 256 ^ (n - i) * numOf (bs.take i) ∧ Blk wr w.heap.size o ∧ Below w.heap.size w wr) (fun iv _ => n - (intOf iv).toNat)
 case atStart => exact ⟨0, List.replicate N 0, rfl, by omega, Lib.hid (by simp), ⟨by simp, by simp; omega⟩, by rw [val_replicate]; simp [numOf], Blk.made w _, (Below.refl _ w).alloc (Nat.le_refl _) _⟩
 case round =>
  obtain ⟨i, o, rfl, hi, Ho, hLo, hv, hblk, hB⟩ := hrel
  by_cases hlt : i < n
  · obtain ⟨ad, rfl, q1, hc⟩ := (h.below hB hP).dg (i := i) (by rw [Hn.out]; exact hlt)
    obtain ⟨k, q, r, hk, hr, hkq⟩ : ∃ k q r, k = n - 1 - i ∧ r < 8 ∧ k = 8 * q + r := ⟨n - 1 - i, (n - 1 - i) / 8, (n - 1 - i) % 8, rfl, by omega, by omega⟩
    have hqo : q < o.length := by have := Ho.out; omega
    obtain ⟨s1, s2, s3, s4⟩ := from_step (m := 64) (j := r * 8) (q := q) (k := k) hLo.1 hqo (by omega) (by omega) hc (by rw [show n - i = k + 1 by omega] at hv; exact hv)
    rw [← numOf_snoc, ← take_succ_dg (by rw [Hn.out]; exact hlt), show k = n - (i + 1) by omega] at s4
    obtain ⟨z, hz⟩ : ∃ z, dg bs i * 2 ^ (r * 8) = z := ⟨_, rfl⟩
    rw [hz] at s1 s2 s3 s4
    obtain ⟨y, hy⟩ : ∃ y, dg o q + z = y := ⟨_, rfl⟩
    rw [hy] at s2 s3 s4
    have e1 : (n : Int) - 1 - (i : Int) = (k : Int) := by omega
    have e2 : (k : Int) / 8 = (q : Int) := by omega
    have e3 : (k : Int) % 8 = (r : Int) := by omega
    have e4 : IntKind.u64.wrap ((dg bs i : Int) * 2 ^ (r * 8)) = (z : Int) := by
     rw [show (dg bs i : Int) * 2 ^ (r * 8) = (z : Int) by rw [← hz]; simp]
     exact IntWalk.u64_in _ (by omega)
    have e5 : bits .or .u64 (dg o q : Int) (z : Int) = (y : Int) := by
     rw [bits_or_u64_nat _ _ (hLo.dgLt q) s1, s3]
    have q3 := hblk.cell hqo
    have q4 := hblk.free q
    have hblk' := hblk.set q y
    have hLo' := hLo.set q y s2
    have hB' := hB.setCell (p := ⟨w.heap.size, q, none⟩) (Nat.le_refl _) (.int .u64 (y : Int))
    have Ho' : Hid ((o.set q y).length = N) := Lib.hid (by rw [List.length_set]; exact Ho.out)
    have k1 : (q : Int) < (N : Int) := by have := Ho.out; omega
    have k2 : (r : Int) < 8 := by omega
    have k3 : (dg bs i : Int) < 256 := by omega
    have S4 := Lib.hid s4
    clear s4 s3 s2 s1 hz hy hk hkq hqo hblk hLo hB hv hc
    go_wp2_with fail
    go_region
    go_wp2
    go_roundw
    case rel => exact ⟨i + 1, o.set q y, by go_num, by omega, Ho', hLo', S4.out, hblk', below_drewN hB' 1⟩
    case measure => simp [intOf]; omega
  · obtain rfl : i = n := by omega
    rw [Nat.sub_self, Nat.pow_zero, Nat.one_mul, List.take_of_length_le (by rw [Hn.out]; omega)] at hv
    have hOB : OB wr w.heap.size (some ⟨w.heap.size, 0, none⟩) N o := OB.of_blk hblk (Nat.le_refl _) hLo (by have := Ho.out; omega) (by unfold maxLen; omega)
    have ht := trim_any _ _ _ _ _ hOB.rn
    have hOB' := hOB.trim
    rw [hv, Ho.out] at ht
    rw [hv] at hOB'
    have Ht := Lib.hid ht
    clear hblk hLo ht hv hOB
    go_wp2_with fail
    refine Ht.out.mono ?_
    rintro e w1 ⟨rfl, rfl⟩
    go_wp2
    go_ret
    exact ⟨_, _, rfl, hOB', hB⟩

end Go.Proofs.YtendnkpiidhogaaGreat

namespace Go.Proofs.YtendnkpiidhogaaGreat.At
open Go.RowKit Go.Shelf

set_option maxHeartbeats 1000000 in
theorem nat_any (P : Nat → Prop) (A : Option Addr) (c : Nat) (l : Attrs) (t : Int) (v : List Nat) (w : World) (hv : RA w P A c l) (hP : ∀ b, P b → b < w.heap.size) (hs : (seek l t).getD [] = v) (hl : v.length ≤ 100000) :
 Calls Tryz.prog 100 #[.slice A l.length c, .int .i64 t] w fun e w' => ∃ A1 c1, e = .returned (.slice A1 (digs 18446744073709551616 (numOf v)).length c1) ∧ OB w' w.heap.size A1 c1 (digs 18446744073709551616 (numOf v)) ∧ Below w.heap.size w w' := by
 have hg := get_any P A c l t w hv hP
 rw [hs] at hg
 obtain ⟨b, hb⟩ : ∃ b, (seek l t).isSome = b := ⟨_, rfl⟩
 rw [hb] at hg
 have HG := Lib.hid hg
 clear hg hs hb
 go_enter Tryz.func100, Tryz.ntmps100
 go_wp2_with fail
 refine HG.out.mono ?_
 rintro e w1 ⟨A1, c1, rfl, hr, hB1⟩
 have hs1 := hB1.size
 go_wp2_with fail
 refine (fromBytes_any _ A1 c1 v w1 hr (fun b hb => hb.2) hl).mono ?_
 rintro e w2 ⟨A2, c2, rfl, hO, hB2⟩
 have HO := Lib.hid (hO.mono hs1)
 clear hO
 go_wp2
 go_ret
 exact ⟨A2, c2, rfl, HO.out, hB1.trans (hB2.mono hs1)⟩

def Five (v : Value) : Prop := ∃ (a1 a2 a3 a4 a5 : Option Addr) (n1 n2 n3 n4 n5 c1 c2 c3 c4 c5 : Nat), v = .agg #[.slice a1 n1 c1, .slice a2 n2 c2, .slice a3 n3 c3, .slice a4 n4 c4, .slice a5 n5 c5]
theorem set5 {w : World} {s : Nat} {t : TypeId} {a b c d e : Value} (h : w.heap[s]? = some (.cells #[a, b, c, d, e] t (0, 0))) (u v x y z : Value) : (((((w.setCell ⟨s, 0, none⟩ u).setCell ⟨s, 1, none⟩ v).setCell ⟨s, 2, none⟩ x).setCell ⟨s, 3, none⟩ y).setCell ⟨s, 4, none⟩ z).heap[s]? = some (.cells #[u, v, x, y, z] t (0, 0)) := by
 simpa using bset (bset (bset (bset (bset h 0 u) 1 v) 2 x) 3 y) 4 z

set_option maxRecDepth 100000 in
set_option maxHeartbeats 4000000 in
theorem rsakey_any (P : Nat → Prop) (A : Option Addr) (c : Nat) (l : Attrs) (w : World) (hv : RA w P A c l) (hP : ∀ b, P b → b < w.heap.size) (hl : ∀ t, ((seek l t).getD []).length ≤ 100000) :
 Calls Tryz.prog 90 #[.slice A l.length c] w fun e w' => (∃ v, e = .returned v ∧ Five v) ∧ Below w.heap.size w w' := by
 have hB := (Below.refl w.heap.size w).alloc (Nat.le_refl _) (.cells #[.slice none 0 0, .slice none 0 0, .slice none 0 0, .slice none 0 0, .slice none 0 0] 108)
 have hb := heap_alloc_new w (.cells #[.slice none 0 0, .slice none 0 0, .slice none 0 0, .slice none 0 0, .slice none 0 0] 108)
 have hz : (w.alloc (.cells #[.slice none 0 0, .slice none 0 0, .slice none 0 0, .slice none 0 0, .slice none 0 0] 108)).heap.size = w.heap.size + 1 := by simp
 have hv0 := hv.below hB hP
 have HN := Lib.hid (fun t (X : World) (hX : Below w.heap.size w X) => nat_any P A c l t _ X (hv.below hX hP) (fun b hb => Nat.lt_of_lt_of_le (hP b hb) hX.size) rfl (hl t))
 have HB := Lib.hid hB
 have H0 := Lib.hid hb
 have Hz := Lib.hid hz
 clear hB hb hz hv0 hv hP hl
 go_enter Tryz.func90, Tryz.ntmps90
 go_wp2_with fail
 obtain ⟨s, hs⟩ : ∃ s, w.heap.size = s := ⟨_, rfl⟩
 rw [hs] at HB H0 Hz HN ⊢
 have Hs := Lib.hid hs
 clear hs
 generalize w.alloc (.cells #[.slice none 0 0, .slice none 0 0, .slice none 0 0, .slice none 0 0, .slice none 0 0] 108) = W0 at *
 refine (HN.out 288 W0 HB.out).mono ?_
 rintro e w1 ⟨a1, c1, rfl, -, hB1⟩
 generalize (digs 18446744073709551616 (numOf _)).length = n1
 have HB1 := Lib.hid (HB.out.trans (hB1.mono (by have := Hz.out; omega)))
 have HZ1 := Lib.hid (Nat.lt_of_lt_of_le (show s < W0.heap.size by have := Hz.out; omega) hB1.size)
 have H1 := Lib.hid ((hB1.block s (by have := Hz.out; omega)).trans H0.out)
 clear hB1
 go_wp2_with fail
 refine (HN.out 290 w1 HB1.out).mono ?_
 rintro e w2 ⟨a2, c2, rfl, -, hB2⟩
 generalize (digs 18446744073709551616 (numOf _)).length = n2
 have HB2 := Lib.hid (HB1.out.trans (hB2.mono (Nat.le_of_lt HZ1.out)))
 have HZ2 := Lib.hid (Nat.lt_of_lt_of_le HZ1.out hB2.size)
 have H2 := Lib.hid ((hB2.block s HZ1.out).trans H1.out)
 clear hB2
 go_wp2_with fail
 refine (HN.out 291 w2 HB2.out).mono ?_
 rintro e w3 ⟨a3, c3, rfl, -, hB3⟩
 generalize (digs 18446744073709551616 (numOf _)).length = n3
 have HB3 := Lib.hid (HB2.out.trans (hB3.mono (Nat.le_of_lt HZ2.out)))
 have HZ3 := Lib.hid (Nat.lt_of_lt_of_le HZ2.out hB3.size)
 have H3 := Lib.hid ((hB3.block s HZ2.out).trans H2.out)
 clear hB3
 go_wp2_with fail
 refine (HN.out 292 w3 HB3.out).mono ?_
 rintro e w4 ⟨a4, c4, rfl, -, hB4⟩
 generalize (digs 18446744073709551616 (numOf _)).length = n4
 have HB4 := Lib.hid (HB3.out.trans (hB4.mono (Nat.le_of_lt HZ3.out)))
 have HZ4 := Lib.hid (Nat.lt_of_lt_of_le HZ3.out hB4.size)
 have H4 := Lib.hid ((hB4.block s HZ3.out).trans H3.out)
 clear hB4
 go_wp2_with fail
 refine (HN.out 293 w4 HB4.out).mono ?_
 rintro e w5 ⟨a5, c5, rfl, -, hB5⟩
 generalize (digs 18446744073709551616 (numOf _)).length = n5
 have HB5 := Lib.hid (HB4.out.trans (hB5.mono (Nat.le_of_lt HZ4.out)))
 have HZ5 := Lib.hid (Nat.lt_of_lt_of_le HZ4.out hB5.size)
 have H5 := Lib.hid ((hB5.block s HZ4.out).trans H4.out)
 clear hB5
 have hlt := HZ5.out
 have q0 := blk_cell H5.out 0
 have p0 := blk_free H5.out 0
 have q1 := blk_cell H5.out 1
 have p1 := blk_free H5.out 1
 have q2 := blk_cell H5.out 2
 have p2 := blk_free H5.out 2
 have q3 := blk_cell H5.out 3
 have p3 := blk_free H5.out 3
 have q4 := blk_cell H5.out 4
 have p4 := blk_free H5.out 4
 simp only [List.getElem?_toArray, List.getElem?_cons_zero, List.getElem?_cons_succ] at q0 q1 q2 q3 q4
 go_wp2
 have r := set5 H5.out (.slice a1 n1 c1) (.slice a2 n2 c2) (.slice a3 n3 c3) (.slice a4 n4 c4) (.slice a5 n5 c5)
 have r0 := blk_cell r 0
 have r1 := blk_cell r 1
 have r2 := blk_cell r 2
 have r3 := blk_cell r 3
 have r4 := blk_cell r 4
 simp only [List.getElem?_toArray, List.getElem?_cons_zero, List.getElem?_cons_succ] at r0 r1 r2 r3 r4
 refine bodyPost_ret (v := .agg #[.slice a1 n1 c1, .slice a2 n2 c2, .slice a3 n3 c3, .slice a4 n4 c4, .slice a5 n5 c5]) (by simp [results, Tryz.results90, go_sem, r0, r1, r2, r3, r4]) rfl ⟨⟨_, rfl, _, _, _, _, _, _, _, _, _, _, _, _, _, _, _, rfl⟩, ?_⟩
 rw [Hs.out]
 exact ((((HB5.out.setCell (p := ⟨s, 0, none⟩) (by simp) _).setCell (p := ⟨s, 1, none⟩) (by simp) _).setCell (p := ⟨s, 2, none⟩) (by simp) _).setCell (p := ⟨s, 3, none⟩) (by simp) _).setCell (p := ⟨s, 4, none⟩) (by simp) _
end Go.Proofs.YtendnkpiidhogaaGreat.At

namespace Go.Proofs.YtendnkpiidhogaaGreat.At
open Go.RowKit Go.Shelf

attribute [local go_sem] Oper.semAt_some

def reckList (v n : List Nat) : Attrs := [(353, num4 (v.length : Int)), (289, num4 (nbits (numOf n) : Int)), (355, [0]), (357, [0]), (356, [0])]
def reckOf (o : Attrs) : Attrs := (reckList ((seek o 17).getD []) ((seek o 288).getD [])).foldl putIf o
theorem num4_length (v : Int) : (num4 v).length = 4 := rfl

set_option maxRecDepth 100000 in
set_option maxHeartbeats 4000000 in
theorem reckoned_1 (P : Nat → Prop) (A Ab : Option Addr) (c nb cb : Nat) (l : Attrs) (w : World) (hv : RA w P A c l) (hP : ∀ b, P b → b < w.heap.size) (hl : ∀ t, ((seek l t).getD []).length ≤ 100000) (hll : l.length ≤ 1000) :
 Calls Tryz.prog 54 #[.int .i64 1, .slice A l.length c, .slice Ab nb cb] w fun e w' => ∃ A1 c1, e = .returned (.slice A1 (reckOf l).length c1) ∧ RA w' (fun b => P b ∨ In w.heap.size w'.heap.size b) A1 c1 (reckOf l) ∧ Below w.heap.size w w' := by
 obtain ⟨R, hR⟩ : ∃ R, reckOf l = R := ⟨_, rfl⟩
 rw [hR]
 unfold reckOf at hR
 have hg := get_any P A c l 17 w hv hP
 obtain ⟨b, hb⟩ : ∃ b, (seek l 17).isSome = b := ⟨_, rfl⟩
 obtain ⟨v, hvv⟩ : ∃ v, (seek l 17).getD [] = v := ⟨_, rfl⟩
 obtain ⟨n, hn⟩ : ∃ n, (seek l 288).getD [] = n := ⟨_, rfl⟩
 obtain ⟨f1, hf1⟩ : ∃ b, flagOf l 259 = b := ⟨_, rfl⟩
 obtain ⟨f2, hf2⟩ : ∃ b, flagOf l 354 = b := ⟨_, rfl⟩
 have hln := hl 288
 rw [hn] at hln
 rw [hb, hvv] at hg
 rw [hvv, hn] at hR
 have HV := Lib.hid (fun (X : World) (hX : Below w.heap.size w X) => hv.below hX hP)
 have HP := Lib.hid (fun (X : World) (hX : Below w.heap.size w X) b (hb : P b) => Nat.lt_of_lt_of_le (hP b hb) hX.size)
 have HG := Lib.hid hg
 have HR := Lib.hid hR
 have Hf1 := Lib.hid hf1
 have Hf2 := Lib.hid hf2
 have Hn := Lib.hid hn
 clear hg hR hf1 hf2 hn hb hvv hv hP hl
 go_enter Tryz.func54, Tryz.ntmps54
 go_wp2_with fail
 refine HG.out.mono ?_
 rintro e w1 ⟨A1, c1, rfl, -, hB1⟩
 have HB1 := Lib.hid hB1
 clear hB1
 go_wp2_with fail
 refine (flag_any P A c l 259 w1 (HV.out w1 HB1.out) (HP.out w1 HB1.out)).mono ?_
 rw [Hf1.out]
 rintro e w2 ⟨rfl, hB2⟩
 have HB2 := Lib.hid (HB1.out.trans (hB2.mono HB1.out.size))
 clear hB2
 go_wp2_with fail
 refine (flag_any P A c l 354 w2 (HV.out w2 HB2.out) (HP.out w2 HB2.out)).mono ?_
 rw [Hf2.out]
 rintro e w3 ⟨rfl, hB3⟩
 have HB3 := Lib.hid (HB2.out.trans (hB3.mono HB2.out.size))
 clear hB3
 go_wp2_with fail
 refine (num_any 353 (v.length : Int) w3).mono ?_
 rintro e w4 ⟨A4, c4, rfl, hr4, hB4⟩
 have HB4 := Lib.hid (HB3.out.trans (hB4.mono HB3.out.size))
 have Hr4 := Lib.hid (hr4.mono (P' := fun b => b < w4.heap.size) fun b hb => hb.2)
 clear hr4 hB4
 go_wp2_with fail
 refine (nat_any P A c l 288 n w4 (HV.out w4 HB4.out) (HP.out w4 HB4.out) Hn.out hln).mono ?_
 rintro e w5 ⟨A5, c5, rfl, hO5, hB5⟩
 have HB5 := Lib.hid (HB4.out.trans (hB5.mono HB4.out.size))
 have Hr5 := Lib.hid ((Hr4.out.below hB5 fun b hb => hb).mono (P' := fun b => b < w5.heap.size) fun b hb => Nat.lt_of_lt_of_le hb hB5.size)
 have HO5 := Lib.hid hO5.rn
 clear hO5 hB5 Hr4
 have hbits := bits_any _ A5 c5 _ w5 HO5.out
 rw [val_digs (B := 18446744073709551616) (by omega)] at hbits
 have HBi := Lib.hid hbits
 clear hbits
 go_wp2_with fail
 refine HBi.out.mono ?_
 rintro e w5' ⟨rfl, rfl⟩
 go_wp2_with fail
 refine (num_any 289 (nbits (numOf n) : Int) w5).mono ?_
 rintro e w6 ⟨A6, c6, rfl, hr6, hB6⟩
 have HB6 := Lib.hid (HB5.out.trans (hB6.mono HB5.out.size))
 have Hr6 := Lib.hid (hr6.mono (P' := fun b => b < w6.heap.size) fun b hb => hb.2)
 have Hq6 := Lib.hid ((Hr5.out.below hB6 fun b hb => hb).mono (P' := fun b => b < w6.heap.size) fun b hb => Nat.lt_of_lt_of_le hb hB6.size)
 clear hr6 hB6 Hr5
 go_wp2_with fail
 refine (bool_any 355 false w6).mono ?_
 rintro e w7 ⟨A7, c7, rfl, hr7, hB7⟩
 have HB7 := Lib.hid (HB6.out.trans (hB7.mono HB6.out.size))
 have Hz7 := Lib.hid (hr7.mono (P' := fun b => b < w7.heap.size) fun b hb => hb.2)
 have Hq6_7 := Lib.hid ((Hq6.out.below hB7 fun b hb => hb).mono (P' := fun b => b < w7.heap.size) fun b hb => Nat.lt_of_lt_of_le hb hB7.size)
 have Hr6_7 := Lib.hid ((Hr6.out.below hB7 fun b hb => hb).mono (P' := fun b => b < w7.heap.size) fun b hb => Nat.lt_of_lt_of_le hb hB7.size)
 clear hr7 hB7 Hq6 Hr6
 go_wp2_with fail
 refine (bool_any 357 false w7).mono ?_
 rintro e w8 ⟨A8, c8, rfl, hr8, hB8⟩
 have HB8 := Lib.hid (HB7.out.trans (hB8.mono HB7.out.size))
 have Hz8 := Lib.hid (hr8.mono (P' := fun b => b < w8.heap.size) fun b hb => hb.2)
 have Hq6_7_8 := Lib.hid ((Hq6_7.out.below hB8 fun b hb => hb).mono (P' := fun b => b < w8.heap.size) fun b hb => Nat.lt_of_lt_of_le hb hB8.size)
 have Hr6_7_8 := Lib.hid ((Hr6_7.out.below hB8 fun b hb => hb).mono (P' := fun b => b < w8.heap.size) fun b hb => Nat.lt_of_lt_of_le hb hB8.size)
 have Hz7_8 := Lib.hid ((Hz7.out.below hB8 fun b hb => hb).mono (P' := fun b => b < w8.heap.size) fun b hb => Nat.lt_of_lt_of_le hb hB8.size)
 clear hr8 hB8 Hq6_7 Hr6_7 Hz7
 go_wp2_with fail
 refine (bool_any 356 false w8).mono ?_
 rintro e w9 ⟨A9, c9, rfl, hr9, hB9⟩
 have HB9 := Lib.hid (HB8.out.trans (hB9.mono HB8.out.size))
 have Hz9 := Lib.hid (hr9.mono (P' := fun b => b < w9.heap.size) fun b hb => hb.2)
 have Hq6_7_8_9 := Lib.hid ((Hq6_7_8.out.below hB9 fun b hb => hb).mono (P' := fun b => b < w9.heap.size) fun b hb => Nat.lt_of_lt_of_le hb hB9.size)
 have Hr6_7_8_9 := Lib.hid ((Hr6_7_8.out.below hB9 fun b hb => hb).mono (P' := fun b => b < w9.heap.size) fun b hb => Nat.lt_of_lt_of_le hb hB9.size)
 have Hz7_8_9 := Lib.hid ((Hz7_8.out.below hB9 fun b hb => hb).mono (P' := fun b => b < w9.heap.size) fun b hb => Nat.lt_of_lt_of_le hb hB9.size)
 have Hz8_9 := Lib.hid ((Hz8.out.below hB9 fun b hb => hb).mono (P' := fun b => b < w9.heap.size) fun b hb => Nat.lt_of_lt_of_le hb hB9.size)
 clear hr9 hB9 Hq6_7_8 Hr6_7_8 Hz7_8 Hz8
 have hCA : CA w9 (fun b => b < w9.heap.size) (reckList v n) [.int .i64 353, .slice A4 4 c4, .int .i64 289, .slice A6 4 c6, .int .i64 355, .slice A7 1 c7, .int .i64 357, .slice A8 1 c8, .int .i64 356, .slice A9 1 c9] :=
  (CA.single (x := (353, num4 (v.length : Int))) Hq6_7_8_9.out).app ((CA.single (x := (289, num4 (nbits (numOf n) : Int))) Hr6_7_8_9.out).app ((CA.single (x := (355, [0])) Hz7_8_9.out).app ((CA.single (x := (357, [0])) Hz8_9.out).app (CA.single (x := (356, [0])) Hz9.out) rfl) rfl) rfl) rfl
 have hL := RA.lit (P := fun b => b < w9.heap.size + 1) (w := w9) #[.int .i64 353, .slice A4 4 c4, .int .i64 289, .slice A6 4 c6, .int .i64 355, .slice A7 1 c7, .int .i64 357, .slice A8 1 c8, .int .i64 356, .slice A9 1 c9] 37 (reckList v n) 5 w9.heap.size hCA rfl rfl (by omega) rfl (fun b hb => hb) (by simp) (fun b hb => by omega)
 have HL := Lib.hid hL
 have hs9 := HB9.out.size
 clear hCA hL Hq6_7_8_9 Hr6_7_8_9 Hz7_8_9 Hz8_9 Hz9
 have e4 := num4_length (v.length : Int)
 have e6 := num4_length (nbits (numOf n) : Int)
 go_wp2
 have hW : Below w.heap.size w (w9.alloc (.cells #[.int .i64 353, .slice A4 4 c4, .int .i64 289, .slice A6 4 c6, .int .i64 355, .slice A7 1 c7, .int .i64 357, .slice A8 1 c8, .int .i64 356, .slice A9 1 c9] 37)) := HB9.out.alloc hs9 _
 have hzW : (w9.alloc (.cells #[.int .i64 353, .slice A4 4 c4, .int .i64 289, .slice A6 4 c6, .int .i64 355, .slice A7 1 c7, .int .i64 357, .slice A8 1 c8, .int .i64 356, .slice A9 1 c9] 37)).heap.size = w9.heap.size + 1 := by simp
 generalize w9.alloc (.cells #[.int .i64 353, .slice A4 4 c4, .int .i64 289, .slice A6 4 c6, .int .i64 355, .slice A7 1 c7, .int .i64 357, .slice A8 1 c8, .int .i64 356, .slice A9 1 c9] 37) = W at *
 obtain ⟨xs, hxs⟩ : ∃ xs, reckList v n = xs := ⟨_, rfl⟩
 have hx5 : xs.length = 5 := by rw [← hxs]; rfl
 have HR2 := Lib.hid (show xs.foldl putIf l = R by rw [← hxs]; exact HR.out)
 have hL := HL.out
 rw [hxs] at hL
 have HLL := Lib.hid hL
 have HA0 := Lib.hid ((HV.out W hW).mono (P' := fun b => P b ∨ In w.heap.size W.heap.size b) fun b hb => .inl hb)
 have HWW := Lib.hid hW
 have HzW := Lib.hid hzW
 have Hx5 := Lib.hid hx5
 clear hL HL HR hxs hW hzW hx5
 go_loopw [1, 54] (fun s i wr => ∃ (k : Nat) (out : Attrs) (A1 : Option Addr) (c1 : Nat), k ≤ 5 ∧ i = .int .i64 k ∧ s = .slice A1 out.length c1 ∧ RA wr (fun b => P b ∨ In w.heap.size wr.heap.size b) A1 c1 out ∧ out.length ≤ 1000 + k ∧ (xs.drop k).foldl putIf out = R ∧ Below W.heap.size W wr) (fun _ i _ => 5 - (intOf i).toNat)
 case atStart => exact ⟨0, l, A, c, by omega, rfl, rfl, HA0.out, by omega, HR2.out, Below.refl _ _⟩
 case round =>
  clear HA0 HR2
  obtain ⟨k, out, A1, c1', hk, rfl, rfl, hRA, hlen, hF, hB⟩ := hrel
  have hs := hB.size
  by_cases hlt : k < 5
  · have hxr := (HLL.out.below (B := W.heap.size) hB (fun b hb => by have := HzW.out; omega))
    obtain ⟨ad, Au, cu, ead, hb, hc1, hc2, hu⟩ := hxr.at_ (i := k) (by rw [Hx5.out]; exact hlt)
    injection ead with ead
    subst ead
    obtain ⟨x, hx⟩ : ∃ x, xs[k]'(by rw [Hx5.out]; exact hlt) = x := ⟨_, rfl⟩
    rw [hx] at hc1 hc2 hu
    have hst : (xs.drop k).foldl putIf out = (xs.drop (k + 1)).foldl putIf (putIf out x) := by
     rw [List.drop_eq_getElem_cons (by rw [Hx5.out]; exact hlt), hx, List.foldl_cons]
    rw [hst] at hF
    have hol : out.length ≤ 100000 := by omega
    have hwr := (HWW.out.trans (hB.mono HWW.out.size)).size
    have hPr := HP.out wr (HWW.out.trans (hB.mono HWW.out.size))
    have HQ1 := Lib.hid hRA
    have HO1 := Lib.hid (hRA.mono (P' := fun b => b < wr.heap.size) fun b hb => hb.elim (hPr b) (fun h => h.2))
    have HPr := Lib.hid hPr
    have HU1 := Lib.hid (hu.mono (P' := fun b => b < wr.heap.size) fun b hb => by have := HzW.out; omega)
    have HF := Lib.hid hF
    have hW1 : Ext wr (wr.alloc (.cells #[.int .i64 x.1, .slice Au x.2.length cu] 37)) := Ext.alloc _ _
    have m0 : (wr.alloc (.cells #[.int .i64 x.1, .slice Au x.2.length cu] 37)).cell? ⟨wr.heap.size, 0, none⟩ = some (.int .i64 x.1) := by simp [go_sem]
    have m1 : (wr.alloc (.cells #[.int .i64 x.1, .slice Au x.2.length cu] 37)).cell? ⟨wr.heap.size, 1, none⟩ = some (.slice Au x.2.length cu) := by simp [go_sem]
    have hz1 : wr.heap.size < (wr.alloc (.cells #[.int .i64 x.1, .slice Au x.2.length cu] 37)).heap.size := by simp
    obtain ⟨b, hb'⟩ : ∃ b, came out x.1 = b := ⟨_, rfl⟩
    have Hb := Lib.hid hb'
    have hadd : ∀ j, Addr.add ⟨w9.heap.size, 0, none⟩ j = ⟨w9.heap.size, j, none⟩ := fun j => by by_cases h : j = 0 <;> simp [Addr.add, h]
    rw [hadd] at hc1 hc2
    clear hx hst hF hRA hu hxr hb' hadd hPr
    go_wp2_with fail
    generalize wr.alloc (.cells #[.int .i64 x.1, .slice Au x.2.length cu] 37) = W1 at *
    refine (came_any (fun b => b < W1.heap.size) A1 c1' out x.1 W1 ((HO1.out.below hW1 fun b hb => hb).mono fun b hb => Nat.lt_of_lt_of_le hb hW1.bsize) (fun b hb => hb)).mono ?_
    rw [Hb.out]
    rintro e w2 ⟨rfl, hB2⟩
    have hE2 : Ext wr w2 := hW1.trans hB2
    have HO2 := Lib.hid ((HO1.out.below hE2 fun b hb => hb).mono (P' := fun b => b < w2.heap.size) fun b hb => Nat.lt_of_lt_of_le hb hE2.bsize)
    have HQ2 := Lib.hid ((HQ1.out.below hE2 fun b hb => hb.elim (HPr.out b) (fun h => h.2)).mono (P' := fun b => P b ∨ In w.heap.size w2.heap.size b) fun b hb => hb.imp id fun h => ⟨h.1, Nat.lt_of_lt_of_le h.2 hE2.bsize⟩)
    have hw2 : w.heap.size ≤ w2.heap.size := Nat.le_trans hwr hE2.bsize
    have HU2 := Lib.hid ((HU1.out.below hE2 fun b hb => hb).mono (P' := fun b => b < w2.heap.size) fun b hb => Nat.lt_of_lt_of_le hb hE2.bsize)
    have HB2 := Lib.hid (hB.trans (hE2.mono hs))
    have hs2 := HB2.out.size
    have n0 := (hB2.cell (p := ⟨wr.heap.size, 0, none⟩) hz1).trans m0
    have n1 := (hB2.cell (p := ⟨wr.heap.size, 1, none⟩) hz1).trans m1
    clear hB2 hE2 hW1 HO1 HU1 hB m0 m1
    cases b
    · have HF2 := Lib.hid (show (xs.drop (k + 1)).foldl putIf out = R by have := HF.out; simpa [putIf, Hb.out] using this)
      go_wp2
      go_roundw
      case rel => exact ⟨k + 1, out, A1, c1', by omega, by go_num, rfl, HQ2.out, by omega, HF2.out, HB2.out⟩
      case measure => simp [intOf]; omega
    · have HF2 := Lib.hid (show (xs.drop (k + 1)).foldl putIf (putOf out x) = R by have := HF.out; simpa [putIf, Hb.out] using this)
      have Hlen := Lib.hid (show (putOf out x).length ≤ 1000 + (k + 1) from Nat.le_trans (length_putOf out x) (by omega))
      have HPut := Lib.hid (put_any (fun b => b < w2.heap.size) A1 c1' out x Au cu w2 HO2.out HU2.out (fun b hb => hb) hol)
      go_wp2_with fail
      refine HPut.out.mono ?_
      rintro e w3 ⟨A3, c3', cs3, rfl, hO3, hB3⟩
      have HO3 := Lib.hid (hO3.ra.mono (P' := fun b => P b ∨ In w.heap.size w3.heap.size b) fun b hb => .inr ⟨by have := hb.1; omega, hb.2⟩)
      have HB3 := Lib.hid (HB2.out.trans (hB3.mono hs2))
      clear hO3 hB3
      go_wp2
      go_roundw
      case rel => exact ⟨k + 1, putOf out x, A3, c3', by omega, by go_num, rfl, HO3.out, Hlen.out, HF2.out, HB3.out⟩
      case measure => simp [intOf]; omega
  · obtain rfl : k = 5 := by omega
    have hR : out = R := by rw [← hF, List.drop_eq_nil_of_le (by rw [Hx5.out]; omega)]; rfl
    have HO1 := Lib.hid hRA
    have HB1 := Lib.hid (HWW.out.trans (hB.mono HWW.out.size))
    clear hF hRA hB
    go_wp2
    go_ret
    subst hR
    exact ⟨A1, c1', rfl, HO1.out, HB1.out⟩
end Go.Proofs.YtendnkpiidhogaaGreat.At

namespace Go.Proofs.YtendnkpiidhogaaGreat.At
open Go.RowKit Go.Shelf

attribute [local go_sem] Oper.semAt_some

structure Fix (w : World) (s b : Nat) (Aj : Option Addr) (cj : Nat) (all : Attrs) (X : World) : Prop where
 r0 : X.heap[s]? = some (.cells #[.slice none 0 0] 24 (0, 0))
 r1 : X.heap[s + 1]? = some (.cells #[.int .i64 0] 27 (0, 0))
 cl : X.heap[s + 2]? = some (.cells #[.int .i64 4] 3 (0, 0))
 ky : X.heap[s + 3]? = some (.cells #[.int .i64 31] 3 (0, 0))
 al : X.heap[b]? = some (.cells #[.slice Aj all.length cj] 24 (0, 0))
 ra : RA X (fun q => q < b) Aj cj all
 bw : Below s w X
theorem Fix.grown {w : World} {s b : Nat} {Aj : Option Addr} {cj : Nat} {all : Attrs} {X X' : World} {row : Option Nat} (h : Fix w s b Aj cj all X) (hsw : s ≤ w.heap.size) (hg : X.grownBy X' row) (hr : ∀ r, row = some r → b < r ∧ ∃ o : Obj, X.heap[r]? = some o ∧ o.isCells = false) (hsb : s ≤ b) : Fix w s b Aj cj all X' :=
 have hr' : ∀ r, row = some r → ∃ o : Obj, X.heap[r]? = some o ∧ o.isCells = false := fun r e => (hr r e).2
 ⟨(grownBy_keeps_cells hg hr' h.r0 rfl).trans h.r0, (grownBy_keeps_cells hg hr' h.r1 rfl).trans h.r1, (grownBy_keeps_cells hg hr' h.cl rfl).trans h.cl, (grownBy_keeps_cells hg hr' h.ky rfl).trans h.ky, (grownBy_keeps_cells hg hr' h.al rfl).trans h.al, RA.grown h.ra hg hr', h.bw.grown hg (Nat.le_trans hsw h.bw.size) (fun k e => by have := (hr k e).1; omega)⟩
theorem Fix.below {w : World} {s b : Nat} {Aj : Option Addr} {cj : Nat} {all : Attrs} {X X' : World} (h : Fix w s b Aj cj all X) (hB : Below (b + 1) X X') (hsb : s + 3 < b) : Fix w s b Aj cj all X' :=
 ⟨(hB.block _ (by omega)).trans h.r0, (hB.block _ (by omega)).trans h.r1, (hB.block _ (by omega)).trans h.cl, (hB.block _ (by omega)).trans h.ky, (hB.block _ (by omega)).trans h.al, h.ra.below hB (fun q hq => by omega), h.bw.trans (hB.mono (by omega))⟩

def Lay (w : World) (s b : Nat) (Aj : Option Addr) (cj : Nat) (all R : Attrs) (k : Nat) (X : World) : Prop :=
 ∃ (out : Attrs) (A : Option Addr) (c : Nat) (cs : List Value), X.heap[b + 1]? = some (.cells #[.slice A out.length c] 24 (0, 0)) ∧ OA X (b + 2) A c out cs ∧ layOn 4 31 all out (tys.drop k) = some R ∧ out.length ≤ k ∧ Fix w s b Aj cj all X
theorem keepsG0 {B C : Nat} {W W' : World} {row : Option Nat} (hg : W.grownBy W' row) (hr : ∀ r, row = some r → ∃ o : Obj, W.heap[r]? = some o ∧ o.isCells = true) : Keeps B C 0 W W' :=
 ⟨hg.size, fun k o _ hk ho => (hg.block k (blk_lt hk) fun e => by obtain ⟨o', h1, h2⟩ := hr k e.symm; rw [hk] at h1; cases h1; rw [ho] at h2; cases h2).trans hk,
  fun k h1 h2 _ => by omega⟩
theorem own_cells {w : World} {base n size : Nat} {e : TypeId} {v : Value} {cs : List Value} (h : w.ownsRow base e size v n cs) {r : Nat} (hr : v.ownBlock = some r) : base ≤ r ∧ ∃ o : Obj, w.heap[r]? = some o ∧ o.isCells = true := by
 rcases h.2 with ⟨e1, _⟩ | ⟨g, cap, cur, e1, hg, hh, _⟩
 · rw [e1] at hr; cases hr
 · rw [e1] at hr
   simp [Value.ownBlock] at hr
   subst hr
   exact ⟨hg, _, hh, rfl⟩
theorem four_at (w : World) (o1 o2 o3 o4 : Obj) : ((((w.alloc o1).alloc o2).alloc o3).alloc o4).heap[w.heap.size]? = some o1 ∧ ((((w.alloc o1).alloc o2).alloc o3).alloc o4).heap[w.heap.size + 1]? = some o2 ∧ ((((w.alloc o1).alloc o2).alloc o3).alloc o4).heap[w.heap.size + 2]? = some o3 ∧ ((((w.alloc o1).alloc o2).alloc o3).alloc o4).heap[w.heap.size + 3]? = some o4 ∧ ((((w.alloc o1).alloc o2).alloc o3).alloc o4).heap.size = w.heap.size + 4 ∧ Below w.heap.size w ((((w.alloc o1).alloc o2).alloc o3).alloc o4) := by
 refine ⟨?_, ?_, ?_, ?_, by simp, ((((Below.refl _ w).alloc (Nat.le_refl _) _).alloc (by simp) _).alloc (by simp <;> omega) _).alloc (by simp <;> omega) _⟩
 · exact (Below.heap_alloc _ _ _ (by simp <;> omega)).trans ((Below.heap_alloc _ _ _ (by simp <;> omega)).trans ((Below.heap_alloc _ _ _ (by simp)).trans (heap_alloc_new w _)))
 · refine (Below.heap_alloc _ _ _ (by simp <;> omega)).trans ((Below.heap_alloc _ _ _ (by simp)).trans ?_)
   have := heap_alloc_new (w.alloc o1) o2; simpa using this
 · refine (Below.heap_alloc _ _ _ (by simp)).trans ?_
   have := heap_alloc_new ((w.alloc o1).alloc o2) o3; simpa using this
 · have := heap_alloc_new (((w.alloc o1).alloc o2).alloc o3) o4; simpa using this

end Go.Proofs.YtendnkpiidhogaaGreat.At

namespace Go.Proofs.YtendnkpiidhogaaGreat.At
open Go.RowKit Go.Shelf

def chF (t : Int) (was now copying : Bool) : Int :=
 if (if t ∈ [3, 258, 260, 261, 262, 263, 264, 266, 268] then true
  else if t = 259 then now || !was
  else if t = 354 then was || !now
  else if t = 1 then copying
  else if t = 2 then copying && (now || !was)
  else if t = 368 ∨ t = 369 then copying && (was || !now)
  else false) then 0 else 16
theorem ch_eq (o : Attrs) (a : Int × List Nat) (copying : Bool) : changesOf o a copying = chF a.1 (flagOf o a.1) (flagOf [a] a.1) copying := rfl

set_option maxRecDepth 100000 in
set_option maxHeartbeats 4000000 in
theorem changes_any (P : Nat → Prop) (A Aa : Option Addr) (c ca : Nat) (l : Attrs) (x : Int × List Nat) (copying : Bool) (w : World) (hv : RA w P A c l) (ha : RB w P Aa ca x.2) (hP : ∀ b, P b → b < w.heap.size) :
 Calls Tryz.prog 103 #[.slice A l.length c, .agg #[.int .i64 x.1, .slice Aa x.2.length ca], .bool copying] w fun e w' => e = .returned (.int .i64 (changesOf l x copying)) ∧ Below w.heap.size w w' := by
 rw [ch_eq]
 obtain ⟨W0, hW0⟩ : ∃ W0, W0 = w.alloc (.cells #[.int .i64 x.1, .slice Aa x.2.length ca] 37) := ⟨_, rfl⟩
 have hE0 : Ext w W0 := by rw [hW0]; exact Ext.alloc _ _
 have m0 : W0.cell? ⟨w.heap.size, 0, none⟩ = some (.int .i64 x.1) := by rw [hW0]; simp [go_sem]
 have m1 : W0.cell? ⟨w.heap.size, 1, none⟩ = some (.slice Aa x.2.length ca) := by rw [hW0]; simp [go_sem]
 have f1 := fun X (hX : Ext W0 X) => flag_any P A c l x.1 X (hv.below (hE0.trans hX) hP) (fun b hb => Nat.lt_of_lt_of_le (hP b hb) (hE0.trans hX).bsize)
 have ha0 : ∀ X, Ext W0 X → RB X P Aa ca x.2 := fun X hX => ha.below (hE0.trans hX) hP
 have hP0 : ∀ X, Ext W0 X → ∀ b, P b → b < X.heap.size := fun X hX b hb => Nat.lt_of_lt_of_le (hP b hb) (hE0.trans hX).bsize
 obtain ⟨was, hwas⟩ : ∃ b, flagOf l x.1 = b := ⟨_, rfl⟩
 obtain ⟨now, hnow⟩ : ∃ b, flagOf [x] x.1 = b := ⟨_, rfl⟩
 rw [hwas, hnow]
 simp only [hwas] at f1
 have F1 := Lib.hid f1
 have HA := Lib.hid ha0
 have HP := Lib.hid hP0
 have HN := Lib.hid hnow
 obtain ⟨ad, had⟩ : ∃ ad, w.heap.size = ad := ⟨_, rfl⟩
 rw [had] at m0 m1
 have Had := Lib.hid had
 have HE := Lib.hid hE0
 have HW := Lib.hid hW0
 clear hwas hnow f1 ha0 hP0 hE0 had hv ha
 go_enter Tryz.func103, Tryz.ntmps103
 go_wp2_with fail
 rw [← HW.out, Had.out]
 refine Par.region_ext (by kernel_rfl) 11 [0, 0, 2, 7, 0, 16, 0, 64, 255, 511, 1023] [] (fun j f X => match j with
  | 0 => f 0 = .slice A l.length c
  | 1 => f 1 = .pointer (some ⟨ad, 0, none⟩)
  | 2 => f 2 = .int .i64 x.1
  | 3 => f 3 = .bool was
  | 4 => f 4 = .agg #[.int .i64 x.1, .slice Aa x.2.length ca]
  | 5 => ∃ b, f 5 = .slice (some ⟨b, 0, none⟩) 1 1 ∧ RA X (fun q => q < X.heap.size) (some ⟨b, 0, none⟩) 1 [x]
  | 6 => f 6 = .pointer (some ⟨ad, 0, none⟩)
  | 7 => f 7 = .int .i64 x.1
  | 8 => f 8 = .bool now
  | 9 => f 9 = .bool was
  | 10 => f 10 = .bool now
  | _ => True) (by kernel_rfl) [(10, 0), (11, 1), (12, 2), (13, 3), (14, 4), (15, 5), (16, 6), (17, 7), (18, 8), (7, 9), (8, 10)] (by kernel_rfl) ?_
 refine Par.v0 1 10 ?_
 refine Par.v0 2 9 ?_
 refine Par.ld1 3 8 1 m0 ?_
 refine Par.c0 4 7 (fun f => #[f 0, f 2]) (F' := 45) (fun f X hX hR => ?_) ?_
 · have e0 : f 0 = _ := hR.out 0 rfl
   have e2 : f 2 = _ := hR.out 2 rfl
   simp only [e0, e2]
   refine (F1.out X hX).mono ?_
   rintro e w' ⟨rfl, hB⟩
   exact ⟨(.bool was), rfl, hB, fun _ _ => rfl⟩
 refine Par.S 5 6 [(10, 0), (11, 1), (12, 2), (13, 3), (16, 6), (17, 7)] (fun f X hX hR K hK => ?_) ?_
 · have x0 := hX.cell m0
   have x1 := hX.cell m1
   simp only [yA, yB, yC, yD, yE]
   refine ⟨?_⟩
   go_simp
   exact Par.k hK (s := by simp only [yA, yB, yC, yD, yE])
 refine Par.S 6 5 [(10, 0), (11, 1), (12, 2), (13, 3), (14, 4), (16, 6), (17, 7)] (fun f X hX hR K hK => ?_) ?_
 · have e4 : f 4 = _ := hR.out 4 rfl
   simp only [yA, yB, yC, yD, yE, e4]
   refine ⟨?_⟩
   go_simp
   exact hK.out _ (.slice (some ⟨X.heap.size, 0, none⟩) 1 1) _ (by simp only [yA, yB, yC, yD, yE, e4]) (Ext.alloc _ _) trivial (fun Y hY => ⟨_, rfl, ((RA.lit (P := fun q => q < (X.alloc (.cells #[.int .i64 x.1, .slice Aa x.2.length ca] 37)).heap.size) _ _ [x] 1 _ (CA.single (HA.out X hX)) rfl rfl (by omega) rfl (HP.out X hX) (by simp) (fun b hb => by have := HP.out X hX b hb; simp; omega)).below hY (fun b hb => hb)).mono (fun b hb => Nat.lt_of_lt_of_le hb hY.bsize)⟩)
 refine Par.v0 7 4 ?_
 refine Par.ld1 8 3 6 m0 ?_
 refine Par.c0 9 2 (fun f => #[f 5, f 7]) (F' := 45) (fun f X hX hR => ?_) ?_
 · obtain ⟨b5, (e5 : f 5 = _), r5⟩ := hR.out 5 rfl
   have e7 : f 7 = _ := hR.out 7 rfl
   simp only [e5, e7]
   refine (flag_any _ _ 1 [x] x.1 X r5 (fun b hb => hb)).mono ?_
   rw [HN.out]
   rintro e w' ⟨rfl, hB⟩
   exact ⟨(.bool now), rfl, hB, fun _ _ => rfl⟩
 refine Par.v1 10 1 3 ?_
 refine Par.v1 11 0 8 ?_
 refine Par.AllOps.fin ⟨fun f X hX hR hal hap => ?_⟩
 obtain ⟨b5, (e5 : f 5 = _), r5⟩ := hR 5 (by decide)
 have e9 : f 9 = _ := hR 9 (by decide)
 have e10 : f 10 = _ := hR 10 (by decide)
 simp only [yA, yB, yD, yE, e5, e9, e10]
 clear hR hal hap e5 e9 e10
 refine Par.Chain.done ?_
 have n0 := hX.cell m0
 have HB := Lib.hid (show Below w.heap.size w X from HE.out.trans hX)
 obtain ⟨t, ht⟩ : ∃ t, x.1 = t := ⟨_, rfl⟩
 have Ht := Lib.hid ht
 rw [ht] at n0
 clear F1 HA HP HN m0 m1 ht hX HW HE hP
 cases was <;> cases now <;> cases copying
 all_goals
  go_wp2
  all_goals
   go_ret
   exact ⟨ret_int (by rw [Ht.out]; first | (simp_all [chF]; done) | (simp_all [chF]; omega)), HB.out⟩
end Go.Proofs.YtendnkpiidhogaaGreat.At

namespace Go.Proofs.YtendnkpiidhogaaGreat.At
open Go.RowKit Go.Shelf

attribute [local go_sem] Oper.semAt_some

def WithP (R : Attrs ⊕ Int) (base : Nat) (e : Ending) (w' : World) : Prop :=
 match R with
 | .inl x => ∃ A c, e = .returned (.tuple #[.slice A x.length c, .int .i64 0]) ∧ RA w' (In base w'.heap.size) A c x
 | .inr r => e = .returned (.tuple #[.slice none 0 0, .int .i64 r])
theorem withP_no {R : Attrs ⊕ Int} {r : Int} {base : Nat} {w' : World} (h : R = .inr r) : WithP R base (.returned (.tuple #[.slice none 0 0, .int .i64 r])) w' := by rw [h]; rfl
theorem withP_yes {R : Attrs ⊕ Int} {x : Attrs} {n : Nat} {A : Option Addr} {c : Nat} {base : Nat} {w' : World} (h : R = .inl x) (hn : x.length = n) (hx : RA w' (In base w'.heap.size) A c x) : WithP R base (.returned (.tuple #[.slice A n c, .int .i64 0])) w' := by
 rw [h]; exact ⟨A, c, by rw [hn], hx⟩

theorem with_step {l t out : Attrs} {cp : Bool} {k : Nat} {x : Int × List Nat} (hk : k < t.length) (hx : t[k] = x) :
 withOn l cp (t.take k) out (t.drop k) = if formOf x.1 = 0 then .inr 18 else if (came (t.take k) x.1 || !came l x.1) = true then .inr 209 else if fineOf x = false then .inr 19 else if changesOf l x cp ≠ 0 then .inr (changesOf l x cp) else withOn l cp (t.take (k + 1)) (putOf out x) (t.drop (k + 1)) := by
 rw [List.drop_eq_getElem_cons hk, hx, withOn, List.take_succ_eq_append_getElem hk, hx]

set_option maxRecDepth 100000 in
set_option maxHeartbeats 4000000 in
theorem with_any (P P' : Nat → Prop) (A A' : Option Addr) (c c' : Nat) (l t : Attrs) (copying : Bool) (w : World) (hv : RA w P A c l) (hP : ∀ b, P b → b < w.heap.size) (hv' : RA w P' A' c' t) (hP' : ∀ b, P' b → b < w.heap.size) (hl : l.length ≤ 50000) (htl : t.length ≤ 1000) :
 Calls Tryz.prog 55 #[.slice A l.length c, .slice A' t.length c', .bool copying] w fun e w' => WithP (withOn l copying [] l t) w.heap.size e w' ∧ Below w.heap.size w w' := by
 obtain ⟨R, hR0⟩ : ∃ R, withOn l copying [] l t = R := ⟨_, rfl⟩
 rw [hR0]
 have HR0 := Lib.hid hR0
 clear hR0
 obtain ⟨hlc, hc⟩ := hv.cap
 obtain ⟨hlc', hc'⟩ := hv'.cap
 obtain ⟨i1, hj, hy0, hy1, hy2⟩ := info_parts info48
 have HJ := Lib.hid hj
 clear hj
 go_enter Tryz.func55, Tryz.ntmps55
 go_wp2
 go_loopw [8, 16] (fun v i wr => ∃ (k : Nat) (A1 : Option Addr) (c1 : Nat) (cs : List Value), k ≤ l.length ∧ i = .int .i64 k ∧ v = .slice A1 k c1 ∧ OA wr w.heap.size A1 c1 (l.take k) cs ∧ Below w.heap.size w wr) (fun _ i _ => l.length - (intOf i).toNat)
 case atStart => exact ⟨0, none, 0, [], Nat.zero_le _, rfl, rfl, OA.nil_ _ _, Below.refl _ _⟩
 case round =>
  obtain ⟨k, A1, c1, cs, hk, rfl, rfl, hO, hB⟩ := hrel
  have hs := hB.size
  by_cases hlt : k < l.length
  · obtain ⟨ad, Au, cu, rfl, hb, hc1, hc2, hu⟩ := (hv.below hB hP).at_ hlt
    have hP1 : ∀ b, P b → b < wr.heap.size := fun b hb => Nat.lt_of_lt_of_le (hP b hb) hs
    obtain ⟨x, hx⟩ : ∃ x, l[k] = x := ⟨_, rfl⟩
    rw [hx] at hc1 hc2 hu
    have Hm := Lib.hid (show (l.take k).length = k by simp; omega)
    have Hs := Lib.hid (show l.take (k + 1) = l.take k ++ [x] by rw [List.take_succ_eq_append_getElem hlt, hx])
    have HO := Lib.hid hO
    have m0 : (wr.alloc (.cells #[.int .i64 x.1, .slice Au x.2.length cu] 37)).cell? ⟨wr.heap.size, 0, none⟩ = some (.int .i64 x.1) := by simp [go_sem]
    have m1 : (wr.alloc (.cells #[.int .i64 x.1, .slice Au x.2.length cu] 37)).cell? ⟨wr.heap.size, 1, none⟩ = some (.slice Au x.2.length cu) := by simp [go_sem]
    have hW1 : Ext wr (wr.alloc (.cells #[.int .i64 x.1, .slice Au x.2.length cu] 37)) := Ext.alloc _ _
    clear hx hO
    go_wp2_with fail
    generalize wr.alloc (.cells #[.int .i64 x.1, .slice Au x.2.length cu] 37) = W1 at *
    refine Par.region_ext (by kernel_rfl) 8 [0, 0, 2, 0, 8, 24, 62, 126, 255, 511] [] (fun j f X => match j with
     | 0 => f 0 = .slice A1 k c1
     | 1 => f 1 = .pointer (some ⟨wr.heap.size, 0, none⟩)
     | 2 => f 2 = .int .i64 x.1
     | 3 => f 3 = .pointer (some ⟨wr.heap.size, 1, none⟩)
     | 4 => f 4 = .slice Au x.2.length cu
     | 5 => ∃ A5 c5, f 5 = .slice A5 x.2.length c5 ∧ RB X (In W1.heap.size X.heap.size) A5 c5 x.2
     | 6 => ∃ A5 c5, f 6 = .agg #[.int .i64 x.1, .slice A5 x.2.length c5] ∧ RB X (In W1.heap.size X.heap.size) A5 c5 x.2
     | 7 => ∃ b A5 c5, f 7 = .slice (some ⟨b, 0, none⟩) 1 1 ∧ RS X (fun q => q < X.heap.size) 2 (some ⟨b, 0, none⟩) 1 1 [.int .i64 x.1, .slice A5 x.2.length c5] ∧ RB X (In W1.heap.size X.heap.size) A5 c5 x.2
     | _ => True) (by kernel_rfl) [(20, 0), (21, 1), (22, 2), (23, 3), (24, 4), (25, 5), (26, 6), (27, 7)] (by kernel_rfl) ?_
    refine Par.v0 1 7 ?_
    refine Par.v0 2 6 ?_
    refine Par.ld1 3 5 1 m0 ?_
    refine Par.v0 4 4 ?_
    refine Par.ld1 5 3 3 m1 ?_
    refine Par.c0 6 2 (fun f => #[f 4]) (F' := 83) (fun f X hX hR => ?_) ?_
    · have e4 : f 4 = _ := hR.out 4 rfl
      simp only [e4]
      refine (clone_any P Au cu x.2 X (hu.below (hW1.trans hX) hP1) (fun b hb => Nat.lt_of_lt_of_le (hP1 b hb) (hW1.trans hX).bsize)).mono ?_
      rintro e w2 ⟨A5, c5, rfl, hr, hB⟩
      exact ⟨(.slice A5 x.2.length c5), rfl, hB, fun Y hY => ⟨A5, c5, rfl, (hr.below hY (fun b hb => hb.2)).mono (fun b hb => ⟨Nat.le_trans hX.bsize hb.1, Nat.lt_of_lt_of_le hb.2 hY.bsize⟩)⟩⟩
    refine Par.S 7 1 [(20, 0), (21, 1), (22, 2), (23, 3), (24, 4), (25, 5)] (fun f X hX hR K hK => ?_) ?_
    · have e2 : f 2 = _ := hR.out 2 rfl
      obtain ⟨A5, c5, (e5 : f 5 = _), r5⟩ := hR.out 5 rfl
      simp only [yA, yB, yC, yD, yE, e2, e5]
      refine ⟨?_⟩
      go_simp
      exact hK.out _ (.agg #[.int .i64 x.1, .slice A5 x.2.length c5]) _ (by simp only [yA, yB, yC, yD, yE, e2, e5]) (Ext.refl _) trivial (fun Y hY => ⟨A5, c5, rfl, (r5.below hY (fun b hb => hb.2)).mono (fun b hb => ⟨hb.1, Nat.lt_of_lt_of_le hb.2 hY.bsize⟩)⟩)
    refine Par.S 8 0 [(20, 0), (21, 1), (22, 2), (23, 3), (24, 4), (25, 5), (26, 6)] (fun f X hX hR K hK => ?_) ?_
    · obtain ⟨A6, c6, (e6 : f 6 = _), r6⟩ := hR.out 6 rfl
      simp only [yA, yB, yC, yD, yE, e6]
      refine ⟨?_⟩
      go_simp
      exact hK.out _ (.slice (some ⟨X.heap.size, 0, none⟩) 1 1) _ (by simp only [yA, yB, yC, yD, yE, e6]) (Ext.alloc _ _) trivial (fun Y hY => ⟨_, A6, c6, rfl, ((RS.fresh (w := X) (P := fun q => q < (X.alloc (.cells #[.int .i64 x.1, .slice A6 x.2.length c6] 37)).heap.size) #[.int .i64 x.1, .slice A6 x.2.length c6] 37 2 1 rfl (by unfold maxLen; omega) (by simp)).below hY (fun b hb => hb)).mono (fun b hb => Nat.lt_of_lt_of_le hb hY.bsize), (r6.below ((Ext.alloc X (.cells #[.int .i64 x.1, .slice A6 x.2.length c6] 37)).trans hY) (fun b hb => hb.2)).mono (fun b hb => ⟨hb.1, Nat.lt_of_lt_of_le hb.2 ((Ext.alloc X (.cells #[.int .i64 x.1, .slice A6 x.2.length c6] 37)).trans hY).bsize⟩)⟩)
    refine Par.AllOps.fin ⟨fun f X hX hR hal hap => ?_⟩
    have e0 : f 0 = _ := hR 0 (by decide)
    obtain ⟨A5, c5, (e5 : f 5 = _), r5⟩ := hR 5 (by decide)
    obtain ⟨A6, c6, (e6 : f 6 = _), r6⟩ := hR 6 (by decide)
    obtain ⟨b7, A7, c7, (e7 : f 7 = _), s7, r7⟩ := hR 7 (by decide)
    simp only [yA, yB, yD, yE, e0, e5, e6, e7]
    clear hR hal hap e0 e5 e6 e7
    have hbX : Below wr.heap.size wr X := hW1.trans hX
    have hOX := HO.out.below hbX
    refine Par.Chain.next (fun K hK => ⟨Par.want (by kernel_rfl) (wp_append_rs X (.tmp 20) (.tmp 27) 24 rfl w.heap.size 37 i1 _ 2 32 Tryz.underlying24 HJ.out hy0 hy1 hy2 rfl (by omega) (.slice A1 k c1) k cs rfl (Hm.out ▸ hOX.1) _ (some ⟨b7, 0, none⟩) 1 1 _ rfl s7 (by simp [Value.oneCell']) (k + 1) rfl (by unfold maxLen; omega) (by omega) (by have := hbX.size; omega) (fun A2 c2 w2 hown2 hg2 hor2 => hK.out _ _ ?_))⟩)
    refine Par.Chain.next (fun K hK => ⟨Par.want (by kernel_rfl) ?_⟩)
    go_simp
    refine hK.out _ _ ?_
    refine Par.Chain.done ?_
    have hO' := Lib.hid (OA.snoc (x := x) HO.out Hm.out hbX (r7.mono fun b hb => ⟨Nat.le_trans hW1.bsize hb.1, hb.2⟩) hs hown2 hg2 hor2)
    have hB' := Lib.hid ((hB.trans (hbX.mono hs)).grown hg2 (by have := hbX.size; omega) (fun g hg => ((Hm.out ▸ HO.out.1 : wr.ownsRow w.heap.size 37 2 (.slice A1 k c1) k cs).lt g hg).1))
    rw [← Hs.out] at hO'
    clear hOX hbX r7 s7 hown2 hg2 hor2 hX hW1
    go_wp2
    go_roundw
    case rel => exact ⟨k + 1, A2, c2, _, by omega, by go_num, rfl, hO'.out, hB'.out⟩
    case measure => simp [intOf]; omega
  · have e := Lib.hid (show l.take k = l by rw [List.take_of_length_le (by omega)])
    have ek := Lib.hid (show k = l.length by omega)
    have hO1 : RA wr (In w.heap.size wr.heap.size) A1 c1 l := by have := hO.ra; rwa [e.out] at this
    have HO1 := Lib.hid hO1
    clear hO hO1
    go_wp2
    go_loopw [8, 32] (fun v i wr => ∃ (k2 : Nat) (out : Attrs) (A2 : Option Addr) (c2 : Nat), k2 ≤ t.length ∧ i = .int .i64 k2 ∧ v = .slice A2 out.length c2 ∧ RA wr (In w.heap.size wr.heap.size) A2 c2 out ∧ out.length ≤ 50000 + k2 ∧ withOn l copying (t.take k2) out (t.drop k2) = R ∧ Below w.heap.size w wr) (fun _ i _ => t.length - (intOf i).toNat)
    case atStart => exact ⟨0, l, A1, c1, Nat.zero_le _, rfl, by rw [ek.out], HO1.out, by omega, by simpa using HR0.out, hB⟩
    case round =>
     clear HO1 e ek hB hs hlt hk HR0
     obtain ⟨k2, out, A2, c2, hk2, rfl, rfl, hRA, hlen, hW, hB⟩ := hrel
     have hs := hB.size
     by_cases hlt : k2 < t.length
     · have hvr' := hv'.below hB hP'
       have hvr := hv.below hB hP
       obtain ⟨ad, Au, cu, rfl, hb, hc1, hc2, hu⟩ := hvr'.at_ hlt
       have hP1 : ∀ b, P b → b < wr.heap.size := fun b hb => Nat.lt_of_lt_of_le (hP b hb) hs
       have hP1' : ∀ b, P' b → b < wr.heap.size := fun b hb => Nat.lt_of_lt_of_le (hP' b hb) hs
       obtain ⟨x, hx⟩ : ∃ x, t[k2] = x := ⟨_, rfl⟩
       rw [hx] at hc1 hc2 hu
       rw [with_step hlt hx] at hW
       have hvt := RA.take (m := k2) hvr' (by omega)
       have hlk : (t.take k2).length = k2 := by rw [List.length_take]; omega
       have F := fun w => form_any x.1 w
       have C1 := came_any P' (some ad) c' (t.take k2) x.1
       have C2 := came_any P A c l x.1
       have F3 := fine_any P' x Au cu
       rw [hlk] at C1
       obtain ⟨fo, hfo⟩ : ∃ y, formOf x.1 = y := ⟨_, rfl⟩
       obtain ⟨b1, hb1⟩ : ∃ y, came (t.take k2) x.1 = y := ⟨_, rfl⟩
       obtain ⟨b2, hb2⟩ : ∃ y, came l x.1 = y := ⟨_, rfl⟩
       obtain ⟨b3, hb3⟩ : ∃ y, fineOf x = y := ⟨_, rfl⟩
       obtain ⟨ch, hch⟩ : ∃ y, changesOf l x copying = y := ⟨_, rfl⟩
       simp only [hfo] at F
       rw [hb1] at C1
       rw [hb2] at C2
       rw [hb3] at F3
       rw [hfo, hb1, hb2, hb3, hch] at hW
       have HF := Lib.hid F
       have HC1 := Lib.hid C1
       have HC2 := Lib.hid C2
       have HF3 := Lib.hid F3
       have Hch := Lib.hid hch
       have HW := Lib.hid hW.symm
       have Hlen := Lib.hid (show (putOf out x).length ≤ 50000 + (k2 + 1) from Nat.le_trans (length_putOf out x) (by omega))
       have hol : out.length ≤ 100000 := by omega
       have m0 : (wr.alloc (.cells #[.int .i64 x.1, .slice Au x.2.length cu] 37)).cell? ⟨wr.heap.size, 0, none⟩ = some (.int .i64 x.1) := by simp [go_sem]
       have m1 : (wr.alloc (.cells #[.int .i64 x.1, .slice Au x.2.length cu] 37)).cell? ⟨wr.heap.size, 1, none⟩ = some (.slice Au x.2.length cu) := by simp [go_sem]
       have hz1 : wr.heap.size < (wr.alloc (.cells #[.int .i64 x.1, .slice Au x.2.length cu] 37)).heap.size := by simp
       have hW1 : Ext wr (wr.alloc (.cells #[.int .i64 x.1, .slice Au x.2.length cu] 37)) := Ext.alloc _ _
       have HV1 := Lib.hid (hvt.below hW1 hP1')
       have HV2 := Lib.hid (hvr.below hW1 hP1)
       have HU := Lib.hid (hu.below hW1 hP1')
       have HRA := Lib.hid ((hRA.below hW1 fun b hb => hb.2).mono (P' := fun b => b < (wr.alloc (.cells #[.int .i64 x.1, .slice Au x.2.length cu] 37)).heap.size) fun b hb => Nat.lt_of_lt_of_le hb.2 hW1.bsize)
       have HPV := Lib.hid (fun b (hb : P' b) => Nat.lt_of_lt_of_le (hP1' b hb) hW1.bsize)
       have HP2 := Lib.hid (fun b (hb : P b) => Nat.lt_of_lt_of_le (hP1 b hb) hW1.bsize)
       have hB1 := hB.trans (hW1.mono hs)
       have HB1 := Lib.hid hB1
       have hs1 := hB1.size
       have k1 : (0 : Int) ≤ (k2 : Int) := by omega
       have k3 : (k2 : Int) ≤ (c' : Int) := by omega
       have k4 : ¬ (c' : Int) = (k2 : Int) := by omega
       clear hx hfo hb1 hb2 hb3 hch F C1 C2 F3 hW hvt hRA hvr hvr' hu hlk hB hP1 hP1'
       go_wp2_with fail
       generalize (wr.alloc (.cells #[.int .i64 x.1, .slice Au x.2.length cu] 37)) = W1 at *
       refine (HF.out _).mono ?_
       rintro e w2 ⟨rfl, rfl⟩
       by_cases h0 : fo = 0
       · have Hr := Lib.hid (HW.out.trans (if_pos h0))
         subst h0
         go_wp2
         go_ret2
         exact ⟨withP_no Hr.out, HB1.out⟩
       have h0' : (fo == 0) = false := by simpa using h0
       have Hr := Lib.hid (HW.out.trans (if_neg h0))
       clear h0 HW
       cases b1
       rotate_left
       · go_wp2_with fail
         refine Par.region_ext (by kernel_rfl) 14 [0, 0, 3, 0, 8, 31, 63, 127, 127, 383, 1023, 2047, 4095, 8191] [] (fun j f X => match j with
          | 0 => f 0 = .slice (some ad) t.length c'
          | 1 => f 1 = .int .i64 k2
          | 2 => f 2 = .slice (some ad) k2 c'
          | 3 => f 3 = .pointer (some ⟨wr.heap.size, 0, none⟩)
          | 4 => f 4 = .int .i64 x.1
          | 5 => f 5 = .bool true
          | 6 => f 6 = .bool true
          | 7 => f 7 = undef
          | 8 => f 8 = undef
          | 9 => f 9 = undef
          | 10 => f 10 = undef
          | 11 => f 11 = undef
          | 12 => f 12 = .bool true
          | 13 => f 13 = .bool true
          | _ => True) (by kernel_rfl) [(43, 0), (44, 1), (45, 2), (46, 3), (47, 4), (48, 5), (49, 6), (50, 7), (51, 8), (52, 9), (53, 10), (54, 11), (55, 12), (42, 13)] (by kernel_rfl) ?_
         refine Par.v0 1 13 ?_
         refine Par.v0 2 12 ?_
         refine Par.S 3 11 [(43, 0), (44, 1), (46, 3), (47, 4)] (fun f X hX hR K hK => ?_) ?_
         · have e0 : f 0 = _ := hR.out 0 rfl
           have e1 : f 1 = _ := hR.out 1 rfl
           simp only [yA, yB, yC, yD, yE, e0, e1]
           refine ⟨?_⟩
           go_simp
           exact Par.k hK (s := by simp only [yA, yB, yC, yD, yE, e0, e1])
         refine Par.v0 4 10 ?_
         refine Par.ld1 5 9 3 m0 ?_
         refine Par.c0 6 8 (fun f => #[f 2, f 4]) (F' := 101) (fun f X hX hR => ?_) ?_
         · have e2 : f 2 = _ := hR.out 2 rfl
           have e4 : f 4 = _ := hR.out 4 rfl
           simp only [e2, e4]
           refine (HC1.out X (HV1.out.below hX HPV.out) (fun b hb => Nat.lt_of_lt_of_le (HPV.out b hb) hX.bsize)).mono ?_
           rintro e w2 ⟨rfl, hB9⟩
           exact ⟨(.bool true), rfl, hB9, fun _ _ => rfl⟩
         refine Par.v1 7 7 5 ?_
         refine Par.sk 8 6 6 ?_
         refine Par.sk 9 5 6 ?_
         refine Par.sk 10 4 6 ?_
         refine Par.sk 11 3 6 ?_
         refine Par.sk 12 2 6 ?_
         refine Par.v2 13 1 6 11 ?_
         refine Par.v1 14 0 12 ?_
         refine Par.AllOps.fin ⟨fun f X hX hR hal hap => ?_⟩
         have e13 : f 13 = _ := hR 13 (by decide)
         simp only [yA, yB, yD, yE, e13]
         clear hR hal hap e13
         refine Par.Chain.done ?_
         have HX := Lib.hid (HB1.out.trans (Below.mono hX hs1))
         go_wp2
         go_ret2
         exact ⟨withP_no (by rw [Hr.out]; simp), HX.out⟩
       go_wp2_with fail
       refine Par.region_ext (by kernel_rfl) 14 [0, 0, 3, 0, 8, 31, 63, 127, 127, 383, 1023, 2047, 4095, 8191] [] (fun j f X => match j with
        | 0 => f 0 = .slice (some ad) t.length c'
        | 1 => f 1 = .int .i64 k2
        | 2 => f 2 = .slice (some ad) k2 c'
        | 3 => f 3 = .pointer (some ⟨wr.heap.size, 0, none⟩)
        | 4 => f 4 = .int .i64 x.1
        | 5 => f 5 = .bool false
        | 6 => f 6 = .bool false
        | 7 => f 7 = .slice A l.length c
        | 8 => f 8 = .pointer (some ⟨wr.heap.size, 0, none⟩)
        | 9 => f 9 = .int .i64 x.1
        | 10 => f 10 = .bool b2
        | 11 => f 11 = .bool !b2
        | 12 => f 12 = .bool !b2
        | 13 => f 13 = .bool !b2
        | _ => True) (by kernel_rfl) [(43, 0), (44, 1), (45, 2), (46, 3), (47, 4), (48, 5), (49, 6), (50, 7), (51, 8), (52, 9), (53, 10), (54, 11), (55, 12), (42, 13)] (by kernel_rfl) ?_
       refine Par.v0 1 13 ?_
       refine Par.v0 2 12 ?_
       refine Par.S 3 11 [(43, 0), (44, 1), (46, 3), (47, 4)] (fun f X hX hR K hK => ?_) ?_
       · have e0 : f 0 = _ := hR.out 0 rfl
         have e1 : f 1 = _ := hR.out 1 rfl
         simp only [yA, yB, yC, yD, yE, e0, e1]
         refine ⟨?_⟩
         go_simp
         exact Par.k hK (s := by simp only [yA, yB, yC, yD, yE, e0, e1])
       refine Par.v0 4 10 ?_
       refine Par.ld1 5 9 3 m0 ?_
       refine Par.c0 6 8 (fun f => #[f 2, f 4]) (F' := 101) (fun f X hX hR => ?_) ?_
       · have e2 : f 2 = _ := hR.out 2 rfl
         have e4 : f 4 = _ := hR.out 4 rfl
         simp only [e2, e4]
         refine (HC1.out X (HV1.out.below hX HPV.out) (fun b hb => Nat.lt_of_lt_of_le (HPV.out b hb) hX.bsize)).mono ?_
         rintro e w2 ⟨rfl, hB9⟩
         exact ⟨(.bool false), rfl, hB9, fun _ _ => rfl⟩
       refine Par.v1 7 7 5 ?_
       refine Par.v1 8 6 6 ?_
       refine Par.v1 9 5 6 ?_
       refine Par.S 10 4 [(43, 0), (44, 1), (45, 2), (46, 3), (47, 4), (48, 5), (49, 6), (50, 7), (51, 8)] (fun f X hX hR K hK => ?_) ?_
       · have e6 : f 6 = _ := hR.out 6 rfl
         have e8 : f 8 = _ := hR.out 8 rfl
         have x0 := hX.cell m0
         simp only [yA, yB, yC, yD, yE, e6, e8]
         refine ⟨Par.want (by kernel_rfl) ?_⟩
         go_simp
         exact Par.k hK (s := by simp only [yA, yB, yC, yD, yE, e6, e8])
       refine Par.c1 11 3 6 (fun f => #[f 7, f 9]) (F' := 101) (fun f X hX hR => ?_) ?_
       · have e7 : f 7 = _ := hR.out 7 rfl
         have e9 : f 9 = _ := hR.out 9 rfl
         simp only [e7, e9]
         refine (HC2.out X (HV2.out.below hX HP2.out) (fun b hb => Nat.lt_of_lt_of_le (HP2.out b hb) hX.bsize)).mono ?_
         rintro e w2 ⟨rfl, hB9⟩
         exact ⟨(.bool b2), rfl, hB9, fun _ _ => rfl⟩
       refine Par.v2 12 2 6 10 ?_
       refine Par.v2 13 1 6 11 ?_
       refine Par.v1 14 0 12 ?_
       refine Par.AllOps.fin ⟨fun f X hX hR hal hap => ?_⟩
       have e13 : f 13 = _ := hR 13 (by decide)
       simp only [yA, yB, yD, yE, e13]
       clear hR hal hap e13
       refine Par.Chain.done ?_
       have HX := Lib.hid (HB1.out.trans (Below.mono hX hs1))
       have hsX := HX.out.size
       cases b2
       · go_wp2
         go_ret2
         exact ⟨withP_no (by rw [Hr.out]; simp), HX.out⟩
       have n0 := hX.cell m0
       have n1 := hX.cell m1
       have HUX := Lib.hid (HU.out.below hX HPV.out)
       have HLX := Lib.hid (HV2.out.below hX HP2.out)
       have HRX := Lib.hid ((HRA.out.below hX fun b hb => hb).mono (P' := fun b => b < X.heap.size) fun b hb => Nat.lt_of_lt_of_le hb hX.bsize)
       have HPVX := Lib.hid (fun b (hb : P' b) => Nat.lt_of_lt_of_le (HPV.out b hb) hX.bsize)
       have HP2X := Lib.hid (fun b (hb : P b) => Nat.lt_of_lt_of_le (HP2.out b hb) hX.bsize)
       have hlX : wr.heap.size < X.heap.size := Nat.lt_of_lt_of_le hz1 hX.bsize
       clear HU HV1 HV2 HRA HPV HP2 HC1 HC2 HF m0 m1 hX
       go_wp2_with fail
       refine (HF3.out X HUX.out HPVX.out).mono ?_
       rintro e w3 ⟨rfl, hB3⟩
       have HX3 := Lib.hid (HX.out.trans (hB3.mono hsX))
       cases b3
       · go_wp2
         go_ret2
         exact ⟨withP_no (by rw [Hr.out]; simp), HX3.out⟩
       have p0 := (hB3.cell (p := ⟨wr.heap.size, 0, none⟩) hlX).trans n0
       have p1 := (hB3.cell (p := ⟨wr.heap.size, 1, none⟩) hlX).trans n1
       have hs3 := hB3.size
       go_wp2_with fail
       have hL3 := (HLX.out.below hB3 HP2X.out).mono (P' := fun b => b < w3.heap.size) fun b hb => Nat.lt_of_lt_of_le (HP2X.out b hb) hs3
       have hU3 := (HUX.out.below hB3 HPVX.out).mono (P' := fun b => b < w3.heap.size) fun b hb => Nat.lt_of_lt_of_le (HPVX.out b hb) hs3
       have hR3 := (HRX.out.below hB3 fun b hb => hb).mono (P' := fun b => b < w3.heap.size) fun b hb => Nat.lt_of_lt_of_le hb hs3
       have hch := changes_any (fun b => b < w3.heap.size) A Au c cu l x copying w3 hL3 hU3 (fun b hb => hb)
       rw [Hch.out] at hch
       have HC := Lib.hid hch
       have HU3 := Lib.hid hU3
       have HR3 := Lib.hid hR3
       have hl3 : wr.heap.size < w3.heap.size := Nat.lt_of_lt_of_le hlX hs3
       have hs0 := HX3.out.size
       clear hch hL3 hU3 hR3 HUX HLX HRX HPVX HP2X n0 n1
       go_wp2_with fail
       refine HC.out.mono ?_
       rintro e w4 ⟨rfl, hB4⟩
       have HX4 := Lib.hid (HX3.out.trans (hB4.mono hs0))
       by_cases hc0 : ch = 0
       case neg =>
        have hc0' : (ch == 0) = false := by simpa using hc0
        have Hr2 := Lib.hid (show R = .inr ch by rw [Hr.out]; simp [hc0])
        clear hc0
        go_wp2
        go_ret2
        exact ⟨withP_no Hr2.out, HX4.out⟩
       have Hr2 := Lib.hid (show R = withOn l copying (t.take (k2 + 1)) (putOf out x) (t.drop (k2 + 1)) by rw [Hr.out]; simp [hc0])
       subst hc0
       have hs4 := hB4.size
       have hs5 := HX4.out.size
       have q0 := (hB4.cell (p := ⟨wr.heap.size, 0, none⟩) hl3).trans p0
       have q1 := (hB4.cell (p := ⟨wr.heap.size, 1, none⟩) hl3).trans p1
       have hput := put_any (fun b => b < w4.heap.size) A2 c2 out x Au cu w4 ((HR3.out.below hB4 fun b hb => hb).mono fun b hb => Nat.lt_of_lt_of_le hb hs4) ((HU3.out.below hB4 fun b hb => hb).mono fun b hb => Nat.lt_of_lt_of_le hb hs4) (fun b hb => hb) hol
       have HPut := Lib.hid hput
       clear hput p0 p1 HU3 HR3 HC Hr
       go_wp2_with fail
       refine HPut.out.mono ?_
       rintro e w5 ⟨A5, c5, cs5, rfl, hO5, hB5⟩
       have HO5 := Lib.hid (hO5.ra.mono (P' := In w.heap.size w5.heap.size) fun b hb => ⟨by have := hb.1; omega, hb.2⟩)
       have HX5 := Lib.hid (HX4.out.trans (hB5.mono hs5))
       clear hO5
       go_wp2
       go_roundw
       case rel => exact ⟨k2 + 1, putOf out x, A5, c5, by omega, by go_num, rfl, HO5.out, Hlen.out, Hr2.out.symm, HX5.out⟩
       case measure => simp [intOf]; omega
     · obtain rfl : k2 = t.length := by omega
       have hW2 : R = .inl out := by rw [← hW]; simp [withOn]
       have HW2 := Lib.hid hW2
       clear hW hW2
       go_wp2
       go_ret2
       exact ⟨withP_yes HW2.out rfl hRA, hB⟩
end Go.Proofs.YtendnkpiidhogaaGreat.At

namespace Go.Proofs.YtendnkpiidhogaaGreat.At
open Go.RowKit Go.Shelf

def setOf (flag : Int) (copying : Bool) (o t : Attrs) : Attrs ⊕ Int := if flagOf o flag = false then .inr 16 else withOn o copying [] o t

set_option maxRecDepth 100000 in
set_option maxHeartbeats 4000000 in
theorem set_any (P P' : Nat → Prop) (A A' : Option Addr) (c c' : Nat) (l t : Attrs) (w : World) (hv : RA w P A c l) (hP : ∀ b, P b → b < w.heap.size) (hv' : RA w P' A' c' t) (hP' : ∀ b, P' b → b < w.heap.size) (hl : l.length ≤ 50000) (htl : t.length ≤ 1000) :
    Calls Tryz.prog 22 #[.slice A l.length c, .slice A' t.length c'] w fun e w' => WithP (setOf 368 false l t) w.heap.size e w' ∧ Below w.heap.size w w' := by
  obtain ⟨R, hR⟩ : ∃ R, setOf 368 false l t = R := ⟨_, rfl⟩
  rw [hR]
  have hf := flag_any P A c l 368 w hv hP
  obtain ⟨b, hb⟩ : ∃ b, flagOf l 368 = b := ⟨_, rfl⟩
  rw [hb] at hf
  have HF := Lib.hid hf
  cases b
  · have Hr := Lib.hid (show R = .inr 16 by rw [← hR]; simp [setOf, hb])
    clear hR hb hf
    go_enter Tryz.func22, Tryz.ntmps22
    go_wp2_with fail
    refine HF.out.mono ?_
    rintro e w1 ⟨rfl, hB1⟩
    go_wp2
    go_ret2
    exact ⟨withP_no Hr.out, hB1⟩
  · have Hr := Lib.hid (show withOn l false [] l t = R by rw [← hR]; simp [setOf, hb])
    clear hR hb hf
    go_enter Tryz.func22, Tryz.ntmps22
    go_wp2_with fail
    refine HF.out.mono ?_
    rintro e w1 ⟨rfl, hB1⟩
    have hs1 := hB1.size
    have hW := with_any P P' A A' c c' l t false w1 (hv.below hB1 hP) (fun b hb => Nat.lt_of_lt_of_le (hP b hb) hs1) (hv'.below hB1 hP') (fun b hb => Nat.lt_of_lt_of_le (hP' b hb) hs1) hl htl
    rw [Hr.out] at hW
    have HW := Lib.hid hW
    clear hW
    go_wp2_with fail
    refine HW.out.mono ?_
    rintro e w2 ⟨hw2, hB2⟩
    cases R with
    | inr r =>
      obtain rfl := hw2
      go_wp2
      go_ret2
      exact ⟨rfl, hB1.trans (hB2.mono hs1)⟩
    | inl x =>
      obtain ⟨A2, c2, rfl, hR2⟩ := hw2
      have HR2 := Lib.hid hR2
      clear hR2
      go_wp2
      go_ret2
      exact ⟨⟨A2, c2, rfl, HR2.out.mono fun b hb => ⟨Nat.le_trans hs1 hb.1, hb.2⟩⟩, hB1.trans (hB2.mono hs1)⟩
end Go.Proofs.YtendnkpiidhogaaGreat.At

namespace Go.Proofs.YtendnkpiidhogaaGreat.At

def bt0 : Attrs := [(0, [0, 0, 0, 4]), (256, [0, 0, 0, 31]), (17, [0, 0, 0, 0, 0, 0, 0, 0, 0, 0, 0, 0, 0, 0, 0, 0])]
def ball : Attrs := [(0, [0, 0, 0, 4]), (17, [0, 0, 0, 0, 0, 0, 0, 0, 0, 0, 0, 0, 0, 0, 0, 0]), (256, [0, 0, 0, 31])]
def bobj (s : Nat) (n : List Nat) : Attrs := [(0, [0, 0, 0, 4]), (1, [0]), (2, [1]), (3, []), (17, [0, 0, 0, 0, 0, 0, 0, 0, 0, 0, 0, 0, 0, 0, 0, 0]), (256, [0, 0, 0, 31]), (258, []), (259, [s]), (260, [0]), (261, [0]), (262, [0]), (263, [0]), (264, [0]), (266, [0]), (268, [0]), (353, n), (354, [1]), (355, [0]), (356, [0]), (357, [0]), (368, [1]), (369, [1])]

theorem b_check : checkOf 1 bt0 (-1) 0 = 0 := by decide +kernel
theorem b_kinds : kindsOf bt0 (-1) 0 = (4, 31, 0) := by decide +kernel
theorem b_joined : joinedOf bt0 [] = some ball := by decide +kernel
theorem b_lay : layOn 4 31 ball [] tys = some (bobj 0 []) := by decide +kernel
theorem b_lens : ∀ x ∈ bobj 0 [], x.2.length ≤ 100000 := by decide +kernel
theorem b_val : (seek (bobj 0 []) 17).getD [] = [0, 0, 0, 0, 0, 0, 0, 0, 0, 0, 0, 0, 0, 0, 0, 0] := by decide +kernel
theorem b_reck : reckOf (bobj 0 []) = bobj 0 [0, 0, 0, 16] := by decide +kernel
theorem b_token : flagD bt0 4 1 = false := by decide +kernel
theorem b_private : flagD bt0 4 2 = true := by decide +kernel
theorem b_set : setOf 368 false (bobj 0 [0, 0, 0, 16]) [(259, [1])] = .inl (bobj 1 [0, 0, 0, 16]) := by decide +kernel
theorem b_get : getOf (bobj 1 [0, 0, 0, 16]) [17, 353] = ([(17, []), (353, [0, 0, 0, 16])], 17) := by decide +kernel
theorem b_has : hasOf 4 31 17 = true := by decide +kernel
theorem b_hidden : hiddenOf (bobj 1 [0, 0, 0, 16]) 17 = true := by decide +kernel
theorem b_len : (bobj 0 [0, 0, 0, 16]).length = 22 := rfl
end Go.Proofs.YtendnkpiidhogaaGreat.At

namespace Go.Proofs.YtendnkpiidhogaaGreat.At

def Kind17 (c k : Int) : Prop := c = 0 ∨ (c = 4 ∧ (k = 16 ∨ k = 31)) ∨ (c = 3 ∧ k = 3)
theorem kind17 {c k : Int} (h : hasOf c k 17 = true) : Kind17 c k := by
 unfold hasOf rowsOf at h
 split at h
 · simp at h
 · rename_i ht
   split at h
   · rename_i h0; exact .inl h0
   · rename_i h0
     unfold together at ht
     rw [if_neg h0] at ht
     split at ht
     · rename_i h4
       refine .inr (.inl ⟨h4, ?_⟩)
       simp at ht
       omega
     · split at ht
       · rename_i h4 h23
         have hk : k = 0 ∨ k = 3 := by simp at ht; omega
         rcases h23 with h2 | h3
         · rw [if_pos h2] at h
           subst h2
           rcases hk with rfl | rfl <;> simp [ownRow] at h
         · subst h3
           rcases hk with rfl | rfl
           · simp [ownRow] at h
           · exact .inr (.inr ⟨rfl, rfl⟩)
       · simp at ht

def Short (l : Attrs) : Prop := ∀ x ∈ l, x.2.length ≤ 100000
theorem fine_short {x : Int × List Nat} (h : fineOf x = true) : x.2.length ≤ 100000 := by
 obtain ⟨t, bs⟩ := x
 unfold fineOf fineF at h
 rcases formOf_cases t with e | e | e | e | e <;> rw [e] at h <;> simp at h <;> simp <;> omega
theorem check_parts {l : Attrs} {c k : Int} (h : checkOf 1 l (-1) 0 = 0) (hk : kindsOf l (-1) 0 = (c, k, 0)) : Short l ∧ ∀ x ∈ l, hasOf c k x.1 = true := by
 unfold checkOf at h
 rw [hk] at h
 rw [if_neg (by omega)] at h
 split at h
 · rename_i h1; exact absurd h h1
 · rename_i h1
   rw [if_neg (by simp)] at h
   split at h
   · cases h
   · rename_i h2
     have hf : formsOf l = 0 := by simpa using h1
     unfold formsOf at hf
     split at hf
     · cases hf
     split at hf
     · cases hf
     split at hf
     · cases hf
     · rename_i h5
       refine ⟨fun x hx => fine_short ?_, fun x hx => ?_⟩
       · simp at h5; exact h5 _ _ hx
       · simp at h2; exact h2 _ _ hx
theorem seek_mem {l : Attrs} {t : Int} {b : List Nat} (h : seek l t = some b) : ∃ x ∈ l, x.1 = t ∧ x.2 = b := by
 unfold seek at h
 rw [Option.map_eq_some_iff] at h
 obtain ⟨a, ha, e⟩ := h
 exact ⟨a, List.mem_of_find?_eq_some ha, by simpa using List.find?_some ha, e⟩
theorem check_kind {l : Attrs} {c k : Int} (h : checkOf 1 l (-1) 0 = 0) (hk : kindsOf l (-1) 0 = (c, k, 0)) (hc : came l 17 = true) : Kind17 c k := by
 unfold came at hc
 obtain ⟨b, hb⟩ := Option.isSome_iff_exists.1 hc
 obtain ⟨x, hx, h1, h2⟩ := seek_mem hb
 exact kind17 (h1 ▸ (check_parts h hk).2 x hx)
theorem check_kinds {l : Attrs} (h : checkOf 1 l (-1) 0 = 0) : (kindsOf l (-1) 0).2.2 = 0 := by
 unfold checkOf at h
 rw [if_neg (by omega)] at h
 split at h
 · rename_i h1; exact absurd h h1
 · split at h
   · rename_i h2; exact absurd h h2
   · rename_i h2; simpa using h2
theorem Short.putOf {l : Attrs} {a : Int × List Nat} (h : Short l) (ha : a.2.length ≤ 100000) : Short (putOf l a) := by
  have hi : ∀ l : Attrs, Short l → Short (ins a l) := by
    intro l
    induction l with
    | nil => intro _ x hx; rw [ins] at hx; rcases List.mem_singleton.1 hx with rfl; exact ha
    | cons y r ih =>
      intro hl x hx
      rw [ins] at hx
      split at hx
      · rcases List.mem_cons.1 hx with rfl | hx
        · exact ha
        · exact hl x hx
      · rcases List.mem_cons.1 hx with rfl | hx
        · exact hl _ (List.mem_cons_self ..)
        · exact ih (fun y hy => hl y (List.mem_cons_of_mem _ hy)) x hx
  exact hi _ fun x hx => h x (List.mem_filter.1 hx).1
theorem Short.join : ∀ {s l o : Attrs}, Short s → Short l → joinOn l s = some o → Short o
  | [], l, o, _, hl, h => by rw [joinOn] at h; cases h; exact hl
  | a :: r, l, o, hs, hl, h => by
    rw [joinOn] at h
    split at h
    · cases h
    · exact Short.join (fun x hx => hs x (List.mem_cons_of_mem _ hx)) (hl.putOf (hs a (List.mem_cons_self ..))) h
theorem Short.joined {s o : Attrs} (hs : Short s) (h : joinedOf s [] = some o) : Short o := by
  unfold joinedOf at h
  cases e : joinOn [] s with
  | none => rw [e] at h; cases h
  | some p =>
    rw [e] at h
    cases h
    exact hs.join (fun x hx => by cases hx) e
theorem Short.seek {l : Attrs} (h : Short l) (t : Int) : ((At.seek l t).getD []).length ≤ 100000 := by
 cases e : At.seek l t with
 | none => simp
 | some b => obtain ⟨x, hx, _, rfl⟩ := seek_mem e; exact h x hx
theorem standard_short (c t : Int) : (standardOf c t).2.length ≤ 100000 := by unfold standardOf; split <;> simp
theorem Short.lay {c k : Int} {a : Attrs} (ha : Short a) : ∀ (ts : List Int) {l o : Attrs}, Short l → layOn c k a l ts = some o → Short o
  | [], l, o, hl, h => by rw [layOn] at h; cases h; exact hl
  | t :: ts, l, o, hl, h => by
    rw [layOn] at h
    split at h
    · exact ha.lay ts hl h
    · split at h
      · rename_i b hb
        refine ha.lay ts (fun x hx => ?_) h
        rcases List.mem_append.1 hx with hx | hx
        · exact hl x hx
        · rcases List.mem_singleton.1 hx with rfl
          have := ha.seek t
          rw [hb] at this
          exact this
      · split at h
        · cases h
        · refine ha.lay ts (fun x hx => ?_) h
          rcases List.mem_append.1 hx with hx | hx
          · exact hl x hx
          · rcases List.mem_singleton.1 hx with rfl
            exact standard_short _ _
end Go.Proofs.YtendnkpiidhogaaGreat.At
