/- Words of 32 bits as the program holds them: sums, shifts, ors; RotateLeft32, Get32. hashes: sha256: a block is taken in. append of bytes onto a row of the call's own. hashes: the numbers of SHA-256, its first state, New, Clone, take. A range over an iterator whose values are told by a predicate (fresh slices, say). Nothing here speaks of the program. One operation of a region in a fence, taken by itself. baileylaw3.Short: the first of the bytes. hashes: Chunks: bytes come in pieces of 64, each in memory of its own. -/
import Derived.Test.YtaemogcomplhiaaGreatDoorQ10076d4a67d5
import Derived.BigQuiet
import Derived.Deep.DeepCutAuto
import Derived.Sort.LoopGhostIn
import Derived.Sort.CutIn
import Derived.Sort.AtCallIn
import Derived.TacticsInMore
namespace Go.Proofs.YtaemogcomplhiaaGreatDoor
open Go.RowKit
open Sha

theorem w32_add (x y : W) : IntKind.u32.wrap ((x.toNat : Int) + (y.toNat : Int)) = ((x + y).toNat : Int) := by
 rw [IntKind.wrap_u32, BitVec.toNat_add]; omega
theorem w32_xor (x y : W) : bits .xor .u32 (x.toNat : Int) (y.toNat : Int) = ((x ^^^ y).toNat : Int) := by
 rw [u32_xor_nat _ _ x.isLt y.isLt, BitVec.toNat_xor]
theorem w32_and (x y : W) : bits .and .u32 (x.toNat : Int) (y.toNat : Int) = ((x &&& y).toNat : Int) := by
 rw [u32_and_nat _ _ x.isLt y.isLt, BitVec.toNat_and]
theorem w32_or (x y : W) : bits .or .u32 (x.toNat : Int) (y.toNat : Int) = ((x ||| y).toNat : Int) := by
 rw [u32_or_nat _ _ x.isLt y.isLt, BitVec.toNat_or]
theorem w32_not (x : W) : bits .xor .u32 4294967295 (x.toNat : Int) = ((~~~x).toNat : Int) := by
 have h := w32_xor 4294967295#32 x
 rw [show ((4294967295#32 : W).toNat : Int) = 4294967295 from rfl] at h
 rw [h, ← BitVec.allOnes_xor (x := x)]
 rfl
theorem pow2_cast (n : Nat) : ((2 : Int) ^ n) = ((2 ^ n : Nat) : Int) := by simp
theorem w32_shr (x : W) (n : Nat) : (x.toNat : Int) / 2 ^ n = ((x >>> n).toNat : Int) := by
 rw [BitVec.toNat_ushiftRight, Nat.shiftRight_eq_div_pow, pow2_cast, Int.natCast_ediv]
theorem w32_shl (x : W) (n : Nat) : IntKind.u32.wrap ((x.toNat : Int) * 2 ^ n) = ((x <<< n).toNat : Int) := by
 rw [IntKind.wrap_u32, BitVec.toNat_shiftLeft, Nat.shiftLeft_eq, pow2_cast, Int.natCast_emod, Int.natCast_mul]
 rfl

theorem w32_shl' (x : W) (n : Nat) : (x.toNat : Int) * 2 ^ n % 4294967296 = ((x <<< n).toNat : Int) := by
 rw [← w32_shl, IntKind.wrap_u32]
set_option maxRecDepth 100000 in
theorem rot_at (x : W) (k : Int) (n s : Nat) (w : World) (hs : bits .and .u64 (IntKind.u64.wrap k) 31 = (s : Int)) (hn : IntKind.u64.wrap (32 - (s : Int)) = (n : Int)) (h : n + s = 32) :
 Calls Tryz.prog 163 #[.int .u32 (x.toNat : Int), .int .i64 k] w fun e w' => e = .returned (.int .u32 ((rr n x).toNat : Int)) ∧ w' = w := by
 have Hx : ((x <<< s) ||| (x >>> n)) = rr n x := by unfold rr; rw [show s = 32 - n by omega]
 have HX := Lib.hid Hx
 clear Hx
 go_enter Tryz.func163, Tryz.ntmps163
 go_wp2_with fail
 go_ret
 refine ⟨?_, rfl⟩
 show Ending.returned (.int .u32 (bits .or .u32 ((x.toNat : Int) * 2 ^ s % 4294967296) ((x.toNat : Int) / 2 ^ n))) = _
 rw [w32_shl', w32_shr, w32_or, HX.out]
theorem rot_any (x : W) (k : Int) (n : Nat) (w : World) (hk : k = -(n : Int)) (hn : n = 2 ∨ n = 6 ∨ n = 7 ∨ n = 11 ∨ n = 13 ∨ n = 17 ∨ n = 18 ∨ n = 19 ∨ n = 22 ∨ n = 25) :
 Calls Tryz.prog 163 #[.int .u32 (x.toNat : Int), .int .i64 k] w fun e w' => e = .returned (.int .u32 ((rr n x).toNat : Int)) ∧ w' = w := by
 subst hk
 rcases hn with rfl | rfl | rfl | rfl | rfl | rfl | rfl | rfl | rfl | rfl
 · exact rot_at x _ 2 30 w (by kernel_rfl) (by kernel_rfl) rfl
 · exact rot_at x _ 6 26 w (by kernel_rfl) (by kernel_rfl) rfl
 · exact rot_at x _ 7 25 w (by kernel_rfl) (by kernel_rfl) rfl
 · exact rot_at x _ 11 21 w (by kernel_rfl) (by kernel_rfl) rfl
 · exact rot_at x _ 13 19 w (by kernel_rfl) (by kernel_rfl) rfl
 · exact rot_at x _ 17 15 w (by kernel_rfl) (by kernel_rfl) rfl
 · exact rot_at x _ 18 14 w (by kernel_rfl) (by kernel_rfl) rfl
 · exact rot_at x _ 19 13 w (by kernel_rfl) (by kernel_rfl) rfl
 · exact rot_at x _ 22 10 w (by kernel_rfl) (by kernel_rfl) rfl
 · exact rot_at x _ 25 7 w (by kernel_rfl) (by kernel_rfl) rfl
theorem v_add (x y : W) : Value.int .u32 (IntKind.u32.wrap ((x.toNat : Int) + (y.toNat : Int))) = .int .u32 ((x + y).toNat : Int) := congrArg _ (w32_add x y)
theorem v_xor (x y : W) : Value.int .u32 (bits .xor .u32 (x.toNat : Int) (y.toNat : Int)) = .int .u32 ((x ^^^ y).toNat : Int) := congrArg _ (w32_xor x y)
theorem v_and (x y : W) : Value.int .u32 (bits .and .u32 (x.toNat : Int) (y.toNat : Int)) = .int .u32 ((x &&& y).toNat : Int) := congrArg _ (w32_and x y)
theorem v_not (x : W) : Value.int .u32 (bits .xor .u32 4294967295 (x.toNat : Int)) = .int .u32 ((~~~x).toNat : Int) := congrArg _ (w32_not x)
theorem v_down (x : W) : Value.int .u32 (IntKind.u32.wrap (x.toNat : Int)) = .int .u32 (x.toNat : Int) := by
 have := x.isLt
 rw [IntKind.wrap_u32, Int.emod_eq_of_lt (by omega) (by omega)]
theorem v_up (x : W) : Value.int .u64 (IntKind.u64.wrap (x.toNat : Int)) = .int .u64 (x.toNat : Int) := by
 have := x.isLt
 rw [IntKind.wrap_u64, Int.emod_eq_of_lt (by omega) (by omega)]
theorem gw0 (x : W) : ∃ y z : W, bits .xor .u32 ((rr 7 x).toNat : Int) ((rr 18 x).toNat : Int) = (y.toNat : Int) ∧ (x.toNat : Int) / 8 = (z.toNat : Int) ∧ bits .xor .u32 (y.toNat : Int) (z.toNat : Int) = ((g0 x).toNat : Int) := ⟨_, _, w32_xor _ _, w32_shr x 3, w32_xor _ _⟩
theorem gw1 (x : W) : ∃ y z : W, bits .xor .u32 ((rr 17 x).toNat : Int) ((rr 19 x).toNat : Int) = (y.toNat : Int) ∧ (x.toNat : Int) / 1024 = (z.toNat : Int) ∧ bits .xor .u32 (y.toNat : Int) (z.toNat : Int) = ((g1 x).toNat : Int) := ⟨_, _, w32_xor _ _, w32_shr x 10, w32_xor _ _⟩
theorem sw1 (x : W) : ∃ y : W, bits .xor .u32 ((rr 6 x).toNat : Int) ((rr 11 x).toNat : Int) = (y.toNat : Int) ∧ bits .xor .u32 (y.toNat : Int) ((rr 25 x).toNat : Int) = ((S1 x).toNat : Int) := ⟨_, w32_xor _ _, w32_xor _ _⟩
theorem sw0 (x : W) : ∃ y : W, bits .xor .u32 ((rr 2 x).toNat : Int) ((rr 13 x).toNat : Int) = (y.toNat : Int) ∧ bits .xor .u32 (y.toNat : Int) ((rr 22 x).toNat : Int) = ((S0 x).toNat : Int) := ⟨_, w32_xor _ _, w32_xor _ _⟩
theorem w32_mod (x : W) : (x.toNat : Int) % 4294967296 = (x.toNat : Int) := by
 have := x.isLt
 rw [Int.emod_eq_of_lt (by omega) (by omega)]
theorem o_nat {b : Nat} (h : b < 256) : (b : Int) = ((o b).toNat : Int) := by
 rw [o, BitVec.toNat_ofNat, Nat.mod_eq_of_lt (by omega)]
set_option maxRecDepth 100000 in
theorem get32_any (P : Nat → Prop) (A : Option Addr) (c : Nat) (bs : List Nat) (w : World) (h : RB w P A c bs) (hl : 4 ≤ bs.length) :
 Calls Tryz.prog 162 #[.slice A bs.length c] w fun e w' => e = .returned (.int .u32 ((be bs 0).toNat : Int)) ∧ Ext w w' := by
 obtain ⟨a, rfl, c0, h0⟩ := h.dg (i := 0) (by omega)
 obtain ⟨a1, e1, c1, h1⟩ := h.dg (i := 1) (by omega)
 obtain ⟨a2, e2, c2, h2⟩ := h.dg (i := 2) (by omega)
 obtain ⟨a3, e3, c3, h3⟩ := h.dg (i := 3) (by omega)
 cases e1; cases e2; cases e3
 have hc := h.cap
 rw [o_nat h0] at c0; rw [o_nat h1] at c1; rw [o_nat h2] at c2; rw [o_nat h3] at c3
 have Hb : be bs 0 = (o (dg bs 0) <<< 24) ||| (o (dg bs 1) <<< 16) ||| (o (dg bs 2) <<< 8) ||| o (dg bs 3) := rfl
 rw [Hb]
 clear Hb
 generalize o (dg bs 0) = x0 at *
 generalize o (dg bs 1) = x1 at *
 generalize o (dg bs 2) = x2 at *
 generalize o (dg bs 3) = x3 at *
 simp [Addr.add] at c0 c1 c2 c3
 have i0 : (0 : Int) < (bs.length : Int) := by omega
 have i1 : (1 : Int) < (bs.length : Int) := by omega
 have i2 : (2 : Int) < (bs.length : Int) := by omega
 have i3 : (3 : Int) < (bs.length : Int) := by omega
 clear h0 h1 h2 h3
 go_enter Tryz.func162, Tryz.ntmps162
 go_wp2_with fail
 go_quiet (fail)
 go_wp2_with fail
 go_ret
 refine ⟨?_, Ext.drewN _ _⟩
 show Ending.returned (.int .u32 (bits .or .u32 (bits .or .u32 (bits .or .u32 ((x0.toNat : Int) * 16777216 % 4294967296) ((x1.toNat : Int) * 65536 % 4294967296)) ((x2.toNat : Int) * 256 % 4294967296)) (x3.toNat : Int))) = _
 rw [show (16777216 : Int) = 2 ^ 24 from rfl, show (65536 : Int) = 2 ^ 16 from rfl, show (256 : Int) = 2 ^ 8 from rfl, w32_shl', w32_shl', w32_shl', w32_or, w32_or, w32_or]

theorem RB.mid' {w : World} {P : Nat → Prop} {A : Option Addr} {c : Nat} {bs : List Nat} (h : RB w P A c bs) {k m c' : Nat} (hkm : k ≤ m) (hm : m ≤ bs.length) (hc : m - k ≤ c') (hc' : c' ≤ maxLen) {A' : Option Addr} (hA : k < m → A' = A.map (·.add k)) : RB w P A' c' ((bs.drop k).take (m - k)) := by
 have h1 := h.1.sub hkm hm hc hc' (A' := A') (by simpa using hA)
 have e : ((bys bs).drop (k * 1)).take ((m - k) * 1) = bys ((bs.drop k).take (m - k)) := by simp [bys, List.map_take, List.map_drop]
 rw [e] at h1
 have hl : ((bs.drop k).take (m - k)).length = m - k := by rw [List.length_take, List.length_drop]; omega
 refine ⟨by rw [hl]; exact h1, fun b hb => h.2.1 b (List.mem_of_mem_drop (List.mem_of_mem_take hb)), by rw [hl]; have := h.2.2; omega⟩
theorem RB.from' {w : World} {P : Nat → Prop} {A : Option Addr} {c : Nat} {bs : List Nat} (h : RB w P A c bs) {k c' : Nat} (hk : k ≤ bs.length) (hc : bs.length - k ≤ c') (hc' : c' ≤ maxLen) {A' : Option Addr} (hA : k < bs.length → A' = A.map (·.add k)) : RB w P A' c' (bs.drop k) := by
 have := h.mid' hk (Nat.le_refl _) hc hc' hA
 rwa [List.take_of_length_le (by simp)] at this

def vs (l : List W) : List Value := l.map fun x => .int .u32 (x.toNat : Int)
theorem vs_length (l : List W) : (vs l).length = l.length := by simp [vs]
theorem vs_get {l : List W} {i : Nat} (h : i < l.length) : (vs l)[i]? = some (.int .u32 ((wd l i).toNat : Int)) := by
 simp [vs, wd, h]
theorem vs_set (l : List W) (i : Nat) (x : W) : (vs l).set i (.int .u32 (x.toNat : Int)) = vs (l.set i x) := by simp [vs, List.map_set]
def VB (w : World) (g : Nat) (l : List W) (t : TypeId) : Prop := w.heap[g]? = some (.cells (vs l).toArray t (0, 0))
theorem VB.lt {w : World} {g : Nat} {l : List W} {t : TypeId} (h : VB w g l t) : g < w.heap.size := blk_lt h
theorem VB.cell {w : World} {g : Nat} {l : List W} {t : TypeId} (h : VB w g l t) {i : Nat} (hi : i < l.length) : w.cell? ⟨g, i, none⟩ = some (.int .u32 ((wd l i).toNat : Int)) := by
 rw [blk_cell h]; simpa using vs_get hi
theorem VB.free {w : World} {g : Nat} {l : List W} {t : TypeId} (h : VB w g l t) (i : Nat) : w.frozen? ⟨g, i, none⟩ = false := blk_free h i
theorem VB.set {w : World} {g : Nat} {l : List W} {t : TypeId} (h : VB w g l t) (i : Nat) (x : W) : VB (w.setCell ⟨g, i, none⟩ (.int .u32 (x.toNat : Int))) g (l.set i x) t := by
 unfold VB
 rw [← vs_set]
 have := blk_set h i (.int .u32 (x.toNat : Int))
 simpa using this
theorem VB.ext {w X : World} {g : Nat} {l : List W} {t : TypeId} (h : VB w g l t) (hE : Ext w X) : VB X g l t := hE.at_ h
theorem wd_set {l : List W} {i : Nat} (x : W) (hi : i < l.length) : wd (l.set i x) i = x := by simp [wd, hi]
theorem wd_set_ne {l : List W} {i j : Nat} (x : W) (h : i ≠ j) : wd (l.set i x) j = wd l j := by simp [wd, List.getElem?_set_ne h]
theorem run_index_arr {w : World} {t e : TypeId} {n i : Nat} {cs : Array Value} {v : Value} (h : Tryz.prog.underlying t = some (.array n e)) (hs : ∀ w, (sizeOf e).run Tryz.prog w = .ok 1 w) (ha : ∀ w, (isAgg e).run Tryz.prog w = .ok false w) (hi : i < n) (hv : cs[i]? = some v) :
 (Instr.index t (.agg cs) (.int .i64 (i : Int))).run Tryz.prog w = .ok v w := by
 have hn : (0 : Int) ≤ (i : Int) ∧ (i : Int) < (n : Int) := by omega
 simp [Instr.index, run_underlying h, asIntOf, hn, hs, ha, part, hv, go_sem]
 intro hle
 omega
def Upto (l m : List W) (k : Nat) : Prop := l.length = m.length ∧ ∀ j, j < k → wd l j = wd m j
theorem Upto.step {l m : List W} {k : Nat} (h : Upto l m k) (hk : k < m.length) {x : W} (hx : x = wd m k) : Upto (l.set k x) m (k + 1) := by
 refine ⟨by simpa using h.1, fun j hj => ?_⟩
 rcases Nat.lt_or_ge j k with h1 | h1
 · rw [wd_set_ne _ (by omega)]; exact h.2 j h1
 · obtain rfl : j = k := by omega
   rw [wd_set _ (by rw [h.1]; exact hk), hx]
theorem Upto.fin {l m : List W} (h : Upto l m m.length) : l = m := by
 apply List.ext_getElem h.1
 intro i h1 h2
 have := h.2 i h2
 simpa [wd, h1, h2] using this
theorem Upto.zero (l m : List W) (h : l.length = m.length) : Upto l m 0 := ⟨h, fun _ h => absurd h (by omega)⟩
theorem rot2 (x : W) (w : World) : Calls Tryz.prog 163 #[.int .u32 (x.toNat : Int), .int .i64 (-2)] w fun e w' => e = .returned (.int .u32 ((rr 2 x).toNat : Int)) ∧ w' = w := rot_any x _ 2 w rfl (by decide)
theorem rot6 (x : W) (w : World) : Calls Tryz.prog 163 #[.int .u32 (x.toNat : Int), .int .i64 (-6)] w fun e w' => e = .returned (.int .u32 ((rr 6 x).toNat : Int)) ∧ w' = w := rot_any x _ 6 w rfl (by decide)
theorem rot7 (x : W) (w : World) : Calls Tryz.prog 163 #[.int .u32 (x.toNat : Int), .int .i64 (-7)] w fun e w' => e = .returned (.int .u32 ((rr 7 x).toNat : Int)) ∧ w' = w := rot_any x _ 7 w rfl (by decide)
theorem rot11 (x : W) (w : World) : Calls Tryz.prog 163 #[.int .u32 (x.toNat : Int), .int .i64 (-11)] w fun e w' => e = .returned (.int .u32 ((rr 11 x).toNat : Int)) ∧ w' = w := rot_any x _ 11 w rfl (by decide)
theorem rot13 (x : W) (w : World) : Calls Tryz.prog 163 #[.int .u32 (x.toNat : Int), .int .i64 (-13)] w fun e w' => e = .returned (.int .u32 ((rr 13 x).toNat : Int)) ∧ w' = w := rot_any x _ 13 w rfl (by decide)
theorem rot17 (x : W) (w : World) : Calls Tryz.prog 163 #[.int .u32 (x.toNat : Int), .int .i64 (-17)] w fun e w' => e = .returned (.int .u32 ((rr 17 x).toNat : Int)) ∧ w' = w := rot_any x _ 17 w rfl (by decide)
theorem rot18 (x : W) (w : World) : Calls Tryz.prog 163 #[.int .u32 (x.toNat : Int), .int .i64 (-18)] w fun e w' => e = .returned (.int .u32 ((rr 18 x).toNat : Int)) ∧ w' = w := rot_any x _ 18 w rfl (by decide)
theorem rot19 (x : W) (w : World) : Calls Tryz.prog 163 #[.int .u32 (x.toNat : Int), .int .i64 (-19)] w fun e w' => e = .returned (.int .u32 ((rr 19 x).toNat : Int)) ∧ w' = w := rot_any x _ 19 w rfl (by decide)
theorem rot22 (x : W) (w : World) : Calls Tryz.prog 163 #[.int .u32 (x.toNat : Int), .int .i64 (-22)] w fun e w' => e = .returned (.int .u32 ((rr 22 x).toNat : Int)) ∧ w' = w := rot_any x _ 22 w rfl (by decide)
theorem rot25 (x : W) (w : World) : Calls Tryz.prog 163 #[.int .u32 (x.toNat : Int), .int .i64 (-25)] w fun e w' => e = .returned (.int .u32 ((rr 25 x).toNat : Int)) ∧ w' = w := rot_any x _ 25 w rfl (by decide)
end Go.Proofs.YtaemogcomplhiaaGreatDoor

namespace Go.Proofs.YtaemogcomplhiaaGreatDoor
open Go.RowKit
open Sha

def KW (w : World) : Prop := ∀ i, i < 64 → ∃ y : Nat, w.cell? ⟨3, i, none⟩ = some (.int .u64 (y : Int)) ∧ y < 18446744073709551616 ∧ y / 4294967296 = (wd kk i).toNat
theorem KW.ext {w X : World} (h : KW w) (hE : Ext w X) : KW X := fun i hi => let ⟨y, h1, h2⟩ := h i hi; ⟨y, hE.cell h1, h2⟩
def hcells (s : List W) (wt : Value) (n : Nat) : List Value := .int .i64 3 :: (s.map (fun x => Value.int .u64 (x.toNat : Int)) ++ [wt, .int .u64 (n : Int)])
def HB (w : World) (b : Nat) (s : List W) (wt : Value) (n : Nat) : Prop := w.heap[b]? = some (.cells (hcells s wt n).toArray 192 (0, 0)) ∧ s.length = 8
theorem HB.lt {w : World} {b n : Nat} {s : List W} {wt : Value} (h : HB w b s wt n) : b < w.heap.size := blk_lt h.1
theorem HB.cell {w : World} {b n : Nat} {s : List W} {wt : Value} (h : HB w b s wt n) {i : Nat} (hi : i < 8) : w.cell? ⟨b, 1 + i, none⟩ = some (.int .u64 ((wd s i).toNat : Int)) := by
 obtain ⟨h, h8⟩ := h
 rw [blk_cell h]
 have : i < s.length := by omega
 simp [hcells, Nat.add_comm 1 i, List.getElem?_append_left, wd, this]
theorem HB.free {w : World} {b n : Nat} {s : List W} {wt : Value} (h : HB w b s wt n) (i : Nat) : w.frozen? ⟨b, i, none⟩ = false := blk_free h.1 i
theorem HB.kind {w : World} {b n : Nat} {s : List W} {wt : Value} (h : HB w b s wt n) : w.cell? ⟨b, 0, none⟩ = some (.int .i64 3) := by
 rw [blk_cell h.1]; rfl
theorem HB.wait {w : World} {b n : Nat} {s : List W} {wt : Value} (h : HB w b s wt n) : w.cell? ⟨b, 9, none⟩ = some wt := by
 obtain ⟨h, h8⟩ := h
 rw [blk_cell h]
 simp [hcells, h8]
theorem HB.num {w : World} {b n : Nat} {s : List W} {wt : Value} (h : HB w b s wt n) : w.cell? ⟨b, 10, none⟩ = some (.int .u64 (n : Int)) := by
 obtain ⟨h, h8⟩ := h
 rw [blk_cell h]
 simp [hcells, h8]
theorem HB.set {w : World} {b n : Nat} {s : List W} {wt : Value} (h : HB w b s wt n) {i : Nat} (hi : i < 8) (x : W) : HB (w.setCell ⟨b, 1 + i, none⟩ (.int .u64 (x.toNat : Int))) b (s.set i x) wt n := by
 refine ⟨?_, by simpa using h.2⟩
 have := blk_set h.1 (1 + i) (.int .u64 (x.toNat : Int))
 rw [this]
 have e : 1 + i = i + 1 := by omega
 have h8 := h.2
 simp [hcells, e, List.map_set, h8, hi]
theorem HB.setWait {w : World} {b n : Nat} {s : List W} {wt : Value} (h : HB w b s wt n) (v : Value) : HB (w.setCell ⟨b, 9, none⟩ v) b s v n := by
 refine ⟨?_, h.2⟩
 rw [blk_set h.1 9 v]
 have h8 := h.2
 simp [hcells, h8]
theorem HB.setNum {w : World} {b n : Nat} {s : List W} {wt : Value} (h : HB w b s wt n) (m : Nat) : HB (w.setCell ⟨b, 10, none⟩ (.int .u64 (m : Int))) b s wt m := by
 refine ⟨?_, h.2⟩
 rw [blk_set h.1 10 _]
 have h8 := h.2
 simp [hcells, h8]
theorem HB.ext {w X : World} {b n : Nat} {s : List W} {wt : Value} (h : HB w b s wt n) (hE : Ext w X) : HB X b s wt n := ⟨hE.at_ h.1, h.2⟩
theorem HB.just {w X : World} {g b n : Nat} {s : List W} {wt : Value} (h : HB w b s wt n) (hE : Just g w X) (hg : b ≠ g) : HB X b s wt n := ⟨hE.at_ hg h.1, h.2⟩
theorem be_drop (p : List Nat) (i : Nat) : be (p.drop i) 0 = be p i := by
 simp [be, List.getElem?_drop]

set_option maxRecDepth 100000 in
set_option maxHeartbeats 8000000 in
theorem sha256_any (b : Nat) (s : St) (wt : Value) (n : Nat) (P : Nat → Prop) (A : Option Addr) (c : Nat) (p : List Nat) (w : World) (hb : HB w b s.list wt n) (hk : KW w) (hp : RB w P A c p) (hl : p.length = 64) (hP : ∀ b, P b → b < w.heap.size) :
 Calls Tryz.prog 160 #[.pointer (some ⟨b, 0, none⟩), .slice A 64 c] w fun e w' => e = .returned (.tuple #[]) ∧ HB w' b (comp s p).list wt n ∧ Just b w w' := by
 obtain ⟨ad, rfl⟩ : ∃ ad, A = some ad := by obtain ⟨ad, e, _⟩ := hp.dg (i := 0) (by omega); exact ⟨ad, e⟩
 obtain ⟨m, hm⟩ : ∃ m, sch p 64 = m := ⟨_, rfl⟩
 have hm64 : m.length = 64 := by rw [← hm]; exact sch_length p 64
 have hmg : ∀ j, j < 64 → wd m j = if j < 16 then be p (4 * j) else nxt (sch p j) := fun j hj => by rw [← hm]; exact sch_get p 64 j hj
 have hmn : ∀ j, 16 ≤ j → j < 64 → wd m j = wd m (j - 16) + g0 (wd m (j - 15)) + wd m (j - 7) + g1 (wd m (j - 2)) := fun j h1 h2 => by rw [← hm]; exact sch_next p h1 h2
 have Hcomp := Lib.hid (show comp s p = s.add (rnds m s 64) by rw [← hm]; rfl)
 have Hb := Lib.hid hb
 have Hk := Lib.hid hk
 have Hp := Lib.hid hp
 have HP := Lib.hid hP
 have Hl := Lib.hid hl
 have Hmg := Lib.hid hmg
 have Hmn := Lib.hid hmn
 have hcap := hp.cap
 have hc64 : (64 : Int) ≤ (c : Int) := by omega
 have H64 := Lib.hid hm64
 have hz0 : VB (w.alloc (.cells (vs (List.replicate 64 0)).toArray 209)) w.heap.size (List.replicate 64 0) 209 := heap_alloc_new w _
 have hE0 := Ext.alloc w (.cells (vs (List.replicate 64 0)).toArray 209)
 have Hst : Hid (Upto (List.replicate 64 0) m 0) := Lib.hid (Upto.zero _ _ (by rw [hm64]; rfl))
 clear hb hk hp hP hl hmg hmn hm64 hm
 obtain ⟨W0, hW0⟩ : ∃ W0, w.alloc (.cells (vs (List.replicate 64 0)).toArray 209) = W0 := ⟨_, rfl⟩
 have HW0 := Lib.hid (show ∀ cs : Array Value, cs = (vs (List.replicate 64 0)).toArray → w.alloc (.cells cs 209) = W0 from fun cs e => by rw [e]; exact hW0)
 rw [hW0] at hz0 hE0
 obtain ⟨g, hg⟩ : ∃ g, w.heap.size = g := ⟨_, rfl⟩
 rw [hg] at hz0
 clear hW0
 go_enter Tryz.func160, Tryz.ntmps160
 go_wp2_with fail
 rw [HW0.out]
 case a => rfl
 have Hg := Lib.hid hg
 clear hg HW0
 go_loopw [21] (fun iv wr => ∃ (k : Nat) (L : List W), iv = .int .i64 (k : Int) ∧ k ≤ 64 ∧ Hid (Upto L m k) ∧ Hid (VB wr g L 209) ∧ Hid (Ext w wr)) (fun iv _ => (64 - intOf iv).toNat)
 case atStart => exact ⟨0, _, rfl, by omega, Hst, Lib.hid hz0, Lib.hid hE0⟩
 case round =>
  clear hz0 hE0 Hst
  obtain ⟨k, L, rfl, hk64, HU, HV, HE⟩ := hrel
  have hL64 : L.length = 64 := HU.out.1.trans H64.out
  have fr := HV.out.free k
  by_cases hlt : k < 64
  · have k64 : (k : Int) < 64 := by omega
    by_cases h16 : k < 16
    · have k16 : (k : Int) < 16 := by omega
      have hw4 : IntKind.i64.wrap (4 * (k : Int)) = ((4 * k : Nat) : Int) := by rw [IntWalk.i64_in _ (by omega)]; omega
      obtain ⟨k4, hk4⟩ : ∃ k4, 4 * k = k4 := ⟨_, rfl⟩
      rw [hk4] at hw4
      have q1 : (0 : Int) ≤ (k4 : Int) := by omega
      have q2 : (k4 : Int) ≤ 64 := by omega
      have q3 : ¬ (c : Int) = (k4 : Int) := by omega
      have hget := get32_any P (some (ad.add k4)) (c - k4) (p.drop k4) wr ((Hp.out.below HE.out HP.out).from' (by have := Hl.out; omega) (by have := Hl.out; omega) (by have := hcap.2.1; unfold maxLen; omega) (fun _ => rfl)) (by rw [List.length_drop, Hl.out]; omega)
      rw [be_drop, List.length_drop, Hl.out] at hget
      have Hget := Lib.hid hget
      have Hk4 := Lib.hid hk4
      clear hget hk4
      go_wp2_with fail
      refine Hget.out.mono ?_
      rintro e w2 ⟨rfl, hE2⟩
      have hV2 := HV.out.ext hE2
      have fr2 := hV2.free k
      have hV3 := hV2.set k (be p k4)
      have hU3 := HU.out.step (x := be p k4) (by rw [H64.out]; omega) (by rw [Hmg.out k hlt, if_pos h16, ← Hk4.out])
      have hE3 := (HE.out.trans hE2).setCell (p := ⟨g, k, none⟩) (by rw [Hg.out]; exact Nat.le_refl _) (.int .u32 ((be p k4).toNat : Int))
      have ce2 := hV2.cell (i := k) (by omega)
      have HU3 := Lib.hid hU3
      have HV3 := Lib.hid hV3
      have HE3 := Lib.hid hE3
      clear fr Hget hV2 hU3 hV3 hE3 hE2
      go_wp2_with fail
      go_roundw
      case rel => exact ⟨k + 1, _, by go_num, by omega, HU3, HV3, HE3⟩
      case measure => simp [intOf]; omega
    · have k16 : ¬ (k : Int) < 16 := by omega
      obtain ⟨z, hz⟩ : ∃ z, k - 16 = z := ⟨_, rfl⟩
      obtain ⟨z15, hz15⟩ : ∃ z, k - 15 = z := ⟨_, rfl⟩
      obtain ⟨z7, hz7⟩ : ∃ z, k - 7 = z := ⟨_, rfl⟩
      obtain ⟨z2, hz2⟩ : ∃ z, k - 2 = z := ⟨_, rfl⟩
      have l16 : (z : Int) < 64 := by omega
      have l15 : (z15 : Int) < 64 := by omega
      have l7 : (z7 : Int) < 64 := by omega
      have l2 : (z2 : Int) < 64 := by omega
      have w16 : IntKind.i64.wrap ((k : Int) - 16) = (z : Int) := by rw [IntWalk.i64_in _ (by omega)]; omega
      have w15 : IntKind.i64.wrap ((k : Int) - 15) = (z15 : Int) := by rw [IntWalk.i64_in _ (by omega)]; omega
      have w7 : IntKind.i64.wrap ((k : Int) - 7) = (z7 : Int) := by rw [IntWalk.i64_in _ (by omega)]; omega
      have w2 : IntKind.i64.wrap ((k : Int) - 2) = (z2 : Int) := by rw [IntWalk.i64_in _ (by omega)]; omega
      have d16 := HV.out.cell (i := z) (by omega)
      have d15 := HV.out.cell (i := z15) (by omega)
      have d7 := HV.out.cell (i := z7) (by omega)
      have d2 := HV.out.cell (i := z2) (by omega)
      have dk := HV.out.cell (i := k) (by omega)
      have he : wd m k = wd L z + g0 (wd L z15) + wd L z7 + g1 (wd L z2) := by
       rw [Hmn.out k (by omega) hlt, hz, hz15, hz7, hz2, HU.out.2 z (by omega), HU.out.2 z15 (by omega), HU.out.2 z7 (by omega), HU.out.2 z2 (by omega)]
      have HU3 := Lib.hid (HU.out.step (x := wd m k) (by rw [H64.out]; omega) rfl)
      rw [he] at HU3
      clear he hz hz15 hz7 hz2
      generalize wd L z = x16 at *
      generalize wd L z15 = x15 at *
      generalize wd L z7 = x7 at *
      generalize wd L z2 = x2 at *
      go_wp2_with fail
      go_quiet (fail)
      have E4 := Ext.drewN wr nq
      have HE4 := Lib.hid (HE.out.trans E4)
      have hV4 := HV.out.ext E4
      replace d16 := E4.cell d16
      replace d7 := E4.cell d7
      replace dk := E4.cell dk
      generalize wr.drewN nq = w4 at *
      have HV4 := Lib.hid hV4
      clear E4 hV4 fr d15 d2 w15 w2 l15 l2 HV HE HU
      obtain ⟨y1, y2, e1, e2, e3⟩ := gw0 x15
      go_wp2_with fail
      refine (rot7 _ _).mono ?_
      rintro e w5 ⟨rfl, rfl⟩
      go_wp2_with fail
      refine (rot18 _ _).mono ?_
      rintro e w5 ⟨rfl, rfl⟩
      go_upto_region 8 with fail
      clear e1 e2 e3
      obtain ⟨y3, y4, e1, e2, e3⟩ := gw1 x2
      obtain ⟨nw, hnw⟩ : ∃ y, x16 + g0 x15 + x7 + g1 x2 = y := ⟨_, rfl⟩
      rw [hnw] at HU3
      have Hnw := Lib.hid hnw
      clear hnw
      go_wp2_with fail
      refine (rot17 _ _).mono ?_
      rintro e w5 ⟨rfl, rfl⟩
      go_wp2_with fail
      refine (rot19 _ _).mono ?_
      rintro e w5 ⟨rfl, rfl⟩
      go_upto_region 9 with fail
      clear e1 e2 e3
      refine Par.region_ext (by kernel_rfl) 15 [0, 0, 2, 6, 14, 0, 62, 0, 128, 384, 896, 2046, 0, 8190, 16383, 32767] [] (fun j f X => match j with
       | 0 => f 0 = .int .i64 (k : Int)
       | 1 => f 1 = .int .i64 (k : Int)
       | 2 => f 2 = .int .i64 (z : Int)
       | 3 => f 3 = .pointer (some ⟨g, z, none⟩)
       | 4 => f 4 = .int .u32 ((x16).toNat : Int)
       | 5 => f 5 = .int .u32 ((g0 x15).toNat : Int)
       | 6 => f 6 = .int .u32 ((x16 + (g0 x15)).toNat : Int)
       | 7 => f 7 = .int .i64 (k : Int)
       | 8 => f 8 = .int .i64 (z7 : Int)
       | 9 => f 9 = .pointer (some ⟨g, z7, none⟩)
       | 10 => f 10 = .int .u32 ((x7).toNat : Int)
       | 11 => f 11 = .int .u32 (((x16 + (g0 x15)) + x7).toNat : Int)
       | 12 => f 12 = .int .u32 ((g1 x2).toNat : Int)
       | 13 => f 13 = .int .u32 ((nw).toNat : Int)
       | 14 => f 14 = .pointer (some ⟨g, k, none⟩)
       | _ => True) (by kernel_rfl) [(57, 0), (58, 1), (59, 2), (60, 3), (61, 4), (62, 5), (63, 6), (64, 7), (65, 8), (66, 9), (67, 10), (68, 11), (69, 12), (70, 13), (71, 14)] (by kernel_rfl) ?_
      refine Par.v0 1 14 ?_
      refine Par.v0 2 13 ?_
      refine Par.v1 3 12 1 (hR := fun _ _ h => h.trans (congrArg (Value.int .i64) w16)) ?_
      refine Par.S 4 11 [(57, 0), (58, 1), (59, 2), (62, 5), (64, 7), (65, 8), (66, 9), (67, 10), (69, 12)] (fun f X hX hR K hK => ?_) ?_
      · have e2 : f 2 = _ := hR.out 2 rfl
        simp only [yA, yB, yC, yD, yE, e2]
        refine ⟨?_⟩
        go_simp
        exact Par.k hK (s := by simp only [yA, yB, yC, yD, yE, e2])
      refine Par.ld1 5 10 3 d16 ?_
      refine Par.v0 6 9 ?_
      refine Par.v2 7 8 4 5 (hR := fun _ _ h => h.trans (v_add _ _)) ?_
      refine Par.v0 8 7 ?_
      refine Par.v1 9 6 7 (hR := fun _ _ h => h.trans (congrArg (Value.int .i64) w7)) ?_
      refine Par.S 10 5 [(57, 0), (58, 1), (59, 2), (60, 3), (61, 4), (62, 5), (63, 6), (64, 7), (65, 8), (69, 12)] (fun f X hX hR K hK => ?_) ?_
      · have e8 : f 8 = _ := hR.out 8 rfl
        simp only [yA, yB, yC, yD, yE, e8]
        refine ⟨?_⟩
        go_simp
        exact Par.k hK (s := by simp only [yA, yB, yC, yD, yE, e8])
      refine Par.ld1 11 4 9 d7 ?_
      refine Par.v2 12 3 6 10 (hR := fun _ _ h => h.trans (v_add _ _)) ?_
      refine Par.v0 13 2 ?_
      refine Par.v2 14 1 11 12 (hR := fun _ _ h => h.trans ((v_add (x16 + g0 x15 + x7) (g1 x2)).trans (congrArg (fun y : W => Value.int .u32 (y.toNat : Int)) Hnw.out))) ?_
      refine Par.S 15 0 [(57, 0), (58, 1), (59, 2), (60, 3), (61, 4), (62, 5), (63, 6), (64, 7), (65, 8), (66, 9), (67, 10), (68, 11), (69, 12), (70, 13)] (fun f X hX hR K hK => ?_) ?_
      · have e0 : f 0 = _ := hR.out 0 rfl
        simp only [yA, yB, yC, yD, yE, e0]
        refine ⟨?_⟩
        go_simp
        exact Par.k hK (s := by simp only [yA, yB, yC, yD, yE, e0])
      refine Par.AllOps.fin ⟨fun f X hX hR hal hap => ?_⟩
      have e13 : f 13 = _ := hR 13 (by decide)
      have e14 : f 14 = _ := hR 14 (by decide)
      simp only [yA, yB, yD, yE, e13, e14]
      clear hR hal hap e13 e14
      replace dk := hX.cell dk
      have hV5 := HV4.out.ext hX
      have fk := hV5.free k
      refine Par.Chain.next (fun K hK => ⟨Par.want (by kernel_rfl) ?_⟩)
      go_simp
      refine hK.out _ _ ?_
      refine Par.Chain.done ?_
      have HV6 := Lib.hid (hV5.set k nw)
      have HE6 := Lib.hid ((HE4.out.trans hX).setCell (p := ⟨g, k, none⟩) (by rw [Hg.out]; exact Nat.le_refl _) (.int .u32 (nw.toNat : Int)))
      clear dk hV5 fk hX
      generalize World.setCell X ⟨g, k, none⟩ (.int .u32 (nw.toNat : Int)) = w7 at *
      go_wp2_with fail
      go_roundw
      case rel => exact ⟨k + 1, _, by go_num, by omega, HU3, HV6, HE6⟩
      case measure => simp [intOf]; omega
  · obtain rfl : k = 64 := by omega
    rw [show ((64 : Nat) : Int) = 64 from rfl]
    have hU := HU.out
    rw [← H64.out] at hU
    obtain rfl := hU.fin
    clear hU fr HU hL64 hlt hk64 Hmg Hmn Hp HP Hl hcap hc64
    have hz2 : VB (wr.alloc (.cells (vs (List.replicate 8 0)).toArray 210)) wr.heap.size (List.replicate 8 0) 210 := heap_alloc_new wr _
    have hE2 := HE.out.trans (Ext.alloc wr (.cells (vs (List.replicate 8 0)).toArray 210))
    have hV2 := HV.out.ext (Ext.alloc wr (.cells (vs (List.replicate 8 0)).toArray 210))
    have Hst : Hid (Upto (List.replicate 8 0) s.list 0) := Lib.hid (Upto.zero _ _ rfl)
    obtain ⟨W2, hW2⟩ : ∃ W2, wr.alloc (.cells (vs (List.replicate 8 0)).toArray 210) = W2 := ⟨_, rfl⟩
    have HW2 := Lib.hid (show ∀ cs : Array Value, cs = (vs (List.replicate 8 0)).toArray → wr.alloc (.cells cs 210) = W2 from fun cs e => by rw [e]; exact hW2)
    rw [hW2] at hz2 hE2 hV2
    obtain ⟨g2, hg2⟩ : ∃ g2, wr.heap.size = g2 := ⟨_, rfl⟩
    have hgg : w.heap.size ≤ g2 := by rw [← hg2]; exact HE.out.bsize
    have hne : g ≠ g2 := by have := HV.out.lt; omega
    rw [hg2] at hz2
    have HZ2 := Lib.hid hz2
    have HE2 := Lib.hid hE2
    have HV2 := Lib.hid hV2
    clear hW2 hz2 hE2 hV2 HV HE
    have HL8 := Lib.hid (show s.list.length = 8 from rfl)
    have HB0 := Hb
    go_wp2_with fail
    rw [HW2.out]
    case a => rfl
    clear HW2 hg2
    go_loopw [73] (fun iv wr => ∃ (k : Nat) (V : List W), iv = .int .i64 (k : Int) ∧ k ≤ 8 ∧ Hid (Upto V s.list k) ∧ Hid (VB wr g2 V 210) ∧ Hid (VB wr g L 209) ∧ Hid (Ext w wr)) (fun iv _ => (8 - intOf iv).toNat)
    case atStart => exact ⟨0, _, rfl, by omega, Hst, HZ2, HV2, HE2⟩
    case round =>
     clear HZ2 HE2 HV2 Hst
     obtain ⟨k, V, rfl, hk8, HU, HZ, HV, HE⟩ := hrel
     have hV8 : V.length = 8 := HU.out.1
     have fr := HZ.out.free k
     by_cases hlt : k < 8
     · have k8 : (k : Int) < 8 := by omega
       have ck := HZ.out.cell (i := k) (by omega)
       have hbk := (Hb.out.ext HE.out).cell hlt
       have HU3 := Lib.hid (HU.out.step (x := wd s.list k) (by rw [HL8.out]; exact hlt) rfl)
       generalize wd s.list k = x at *
       have HZ3 := Lib.hid (HZ.out.set k x)
       have HE3 := Lib.hid (HE.out.setCell (p := ⟨g2, k, none⟩) hgg (.int .u32 (x.toNat : Int)))
       have HV3 := Lib.hid (show VB (wr.setCell ⟨g2, k, none⟩ (.int .u32 (x.toNat : Int))) g L 209 from ((Just.refl g2 wr).set k _).at_ hne HV.out)
       have hx := w32_mod x
       go_wp2_with fail
       go_roundw
       case rel => exact ⟨k + 1, _, by go_num, by omega, HU3, HZ3, HV3, HE3⟩
       case measure => simp [intOf]; omega
     · obtain rfl : k = 8 := by omega
       rw [show ((8 : Nat) : Int) = 8 from rfl]
       have hU := HU.out
       rw [← HL8.out] at hU
       obtain rfl := hU.fin
       clear hU fr HU hV8 hlt hk8
       obtain ⟨t, ht⟩ : ∃ t, rnds L s 0 = t := ⟨_, rfl⟩
       have HZt := Lib.hid (show VB wr g2 (rnds L s 0).list 210 from HZ.out)
       have hvL : wr.heap[g]? = some (.cells (vs L).toArray 209 (0, 0)) := HV.out
       have i64L : (Tryz.prog.info? 209).map (·.size) = some (vs L).toArray.size := by rw [List.size_toArray, vs_length, H64.out]; kernel_rfl
       have hLk : ∀ k, k < 64 → (vs L).toArray[k]? = some (.int .u32 ((wd L k).toNat : Int)) := fun k hk => by rw [List.getElem?_toArray]; exact vs_get (by rw [H64.out]; exact hk)
       have HLk := Lib.hid hLk
       have HI := Lib.hid i64L
       have hsz : (vs L).toArray.size = 64 := by rw [List.size_toArray, vs_length, H64.out]
       have HS := Lib.hid hsz
       generalize (vs L).toArray = arr at *
       clear ht HZ HV t hLk hsz HL8
       go_upto_region 17 with fail
       refine Par.region_txt 2 [0, 0] [] (fun j f X => match j with
        | 0 => f 0 = .agg arr
        | 1 => f 1 = Value.int IntKind.i64 0
        | _ => True) (by kernel_rfl) [(86, 0), (87, 1)] (by kernel_rfl) ?_
       refine lV0 1 1 hvL i64L ?_
       refine Par.v0 2 0 ?_
       refine Par.AllOps.fin ⟨fun f X hX hR hal hap => ?_⟩
       have e0 : f 0 = _ := hR 0 (by decide)
       have e1 : f 1 = _ := hR 1 (by decide)
       simp only [yA, yB, yD, yE, e0, e1]
       clear hR hal hap e0 e1
       refine Par.Chain.done ?_
       replace HE := Lib.hid (HE.out.trans hX)
       replace HZt := Lib.hid (HZt.out.ext hX)
       clear hvL hX i64L
       rename World => wq
       go_wp2_with fail
       go_loopw [87] (fun iv wr => ∃ (k : Nat), iv = .int .i64 (k : Int) ∧ k ≤ 64 ∧ Hid (VB wr g2 (rnds L s k).list 210) ∧ Hid (Ext w wr)) (fun iv _ => (64 - intOf iv).toNat)
       case atStart => exact ⟨0, rfl, by omega, HZt, HE⟩
       case round =>
        clear HZt HE
        obtain ⟨k, rfl, hk64, HZ, HE⟩ := hrel
        by_cases hlt : k < 64
        · have k64 : (k : Int) < 64 := by omega
          have hidx : ∀ W : World, (Instr.index 209 (.agg arr) (.int .i64 (k : Int))).run Tryz.prog W = .ok (.int .u32 ((wd L k).toNat : Int)) W := fun W => run_index_arr Tryz.underlying209 (fun _ => by kernel_rfl) (fun _ => by kernel_rfl) hlt (HLk.out k hlt)
          go_upto_region 20 with fail
          clear hidx
          obtain ⟨x, hx⟩ : ∃ x, wd L k = x := ⟨_, rfl⟩
          have Hr := Lib.hid (show rnds L s (k + 1) = rnd (rnds L s k) (wd kk k) x by rw [← hx]; rfl)
          rw [hx]
          generalize rnds L s k = r at *
          obtain ⟨ra, rb, rc, rd, re, rf, rg, rh⟩ := r
          have hvz : wr.heap[g2]? = some (.cells #[.int .u32 (ra.toNat : Int), .int .u32 (rb.toNat : Int), .int .u32 (rc.toNat : Int), .int .u32 (rd.toNat : Int), .int .u32 (re.toNat : Int), .int .u32 (rf.toNat : Int), .int .u32 (rg.toNat : Int), .int .u32 (rh.toNat : Int)] 210 (0, 0)) := HZ.out
          have v0 := blk_cell hvz 0
          have v1 := blk_cell hvz 1
          have v2 := blk_cell hvz 2
          have v3 := blk_cell hvz 3
          have v4 := blk_cell hvz 4
          have v5 := blk_cell hvz 5
          have v6 := blk_cell hvz 6
          have v7 := blk_cell hvz 7
          simp only [List.getElem?_toArray, List.getElem?_cons_zero, List.getElem?_cons_succ] at v0 v1 v2 v3 v4 v5 v6 v7
          clear hx HZ
          go_quiet (fail)
          have E4 := Ext.drewN wr nq
          have HE4 := Lib.hid (HE.out.trans E4)
          replace hvz := E4.at_ hvz
          replace v0 := E4.cell v0
          replace v1 := E4.cell v1
          replace v2 := E4.cell v2
          replace v3 := E4.cell v3
          replace v4 := E4.cell v4
          replace v5 := E4.cell v5
          replace v6 := E4.cell v6
          replace v7 := E4.cell v7
          generalize wr.drewN nq = w4 at *
          clear E4 HE
          obtain ⟨y1, e1, e2⟩ := sw1 re
          go_wp2_with fail
          refine (rot6 _ _).mono ?_
          rintro e w5 ⟨rfl, rfl⟩
          go_wp2_with fail
          refine (rot11 _ _).mono ?_
          rintro e w5 ⟨rfl, rfl⟩
          go_wp2_with fail
          refine (rot25 _ _).mono ?_
          rintro e w5 ⟨rfl, rfl⟩
          go_upto_region 22 with fail
          clear e1 e2
          obtain ⟨kd, hkd, hkl, hkv⟩ := (Hk.out.ext HE4.out) k hlt
          obtain ⟨kw, hkw⟩ : ∃ kw, wd kk k = kw := ⟨_, rfl⟩
          rw [hkw] at Hr hkv
          have Hkv := Lib.hid (show Value.int .u32 (IntKind.u32.wrap (Int.fdiv (kd : Int) (2 ^ 32))) = .int .u32 (kw.toNat : Int) by
           have := kw.isLt
           rw [Int.fdiv_eq_ediv_of_nonneg _ (by omega), IntKind.wrap_u32, ← hkv]
           congr 1
           omega)
          clear hkw hkl hkv
          have k80 : (k : Int) < 80 := by omega
          obtain ⟨t, ht⟩ : ∃ t, rh + S1 re + ch re rf rg + kw + x = t := ⟨_, rfl⟩
          have Ht := Lib.hid ht
          clear ht
          refine Par.region_ext (by kernel_rfl) 24 [0, 1, 0, 7, 0, 0, 32, 112, 0, 256, 0, 1024, 3840, 8176, 16383, 0, 32768, 98304, 229376, 491520, 1048575, 0, 4194303, 8388607] [] (fun j f X => match j with
           | 0 => f 0 = .pointer (some ⟨g2, 7, none⟩)
           | 1 => f 1 = .int .u32 ((rh).toNat : Int)
           | 2 => f 2 = .int .u32 ((S1 re).toNat : Int)
           | 3 => f 3 = .int .u32 ((rh + (S1 re)).toNat : Int)
           | 4 => f 4 = .int .u32 ((re).toNat : Int)
           | 5 => f 5 = .pointer (some ⟨g2, 5, none⟩)
           | 6 => f 6 = .int .u32 ((rf).toNat : Int)
           | 7 => f 7 = .int .u32 ((re &&& rf).toNat : Int)
           | 8 => f 8 = .int .u32 ((re).toNat : Int)
           | 9 => f 9 = .int .u32 ((~~~re).toNat : Int)
           | 10 => f 10 = .pointer (some ⟨g2, 6, none⟩)
           | 11 => f 11 = .int .u32 ((rg).toNat : Int)
           | 12 => f 12 = .int .u32 (((~~~re) &&& rg).toNat : Int)
           | 13 => f 13 = .int .u32 ((ch re rf rg).toNat : Int)
           | 14 => f 14 = .int .u32 (((rh + (S1 re)) + (ch re rf rg)).toNat : Int)
           | 15 => f 15 = .int .i64 (k : Int)
           | 16 => f 16 = .pointer (some ⟨3, k, none⟩)
           | 17 => f 17 = .int .u64 (kd : Int)
           | 18 => f 18 = .int .u64 (Int.fdiv (kd : Int) (2 ^ 32))
           | 19 => f 19 = .int .u32 ((kw).toNat : Int)
           | 20 => f 20 = .int .u32 ((((rh + (S1 re)) + (ch re rf rg)) + kw).toNat : Int)
           | 21 => f 21 = .int .u32 ((x).toNat : Int)
           | 22 => f 22 = .int .u32 ((t).toNat : Int)
           | 23 => f 23 = .int .u32 ((t).toNat : Int)
           | _ => True) (by kernel_rfl) [(103, 0), (104, 1), (105, 2), (106, 3), (107, 4), (108, 5), (109, 6), (110, 7), (111, 8), (112, 9), (113, 10), (114, 11), (115, 12), (116, 13), (117, 14), (118, 15), (119, 16), (120, 17), (121, 18), (122, 19), (123, 20), (124, 21), (125, 22), (17, 23)] (by kernel_rfl) ?_
          refine Par.v0 1 23 ?_
          refine Par.ld1 2 22 0 v7 ?_
          refine Par.v0 3 21 ?_
          refine Par.v2 4 20 1 2 (hR := fun _ _ h => h.trans (v_add _ _)) ?_
          refine Par.v0 5 19 ?_
          refine Par.v0 6 18 ?_
          refine Par.ld1 7 17 5 v5 ?_
          refine Par.v2 8 16 4 6 (hR := fun _ _ h => h.trans (v_and _ _)) ?_
          refine Par.v0 9 15 ?_
          refine Par.v1 10 14 8 (hR := fun _ _ h => h.trans (v_not _)) ?_
          refine Par.v0 11 13 ?_
          refine Par.ld1 12 12 10 v6 ?_
          refine Par.v2 13 11 9 11 (hR := fun _ _ h => h.trans (v_and _ _)) ?_
          refine Par.v2 14 10 7 12 (hR := fun _ _ h => h.trans (v_xor _ _)) ?_
          refine Par.v2 15 9 3 13 (hR := fun _ _ h => h.trans (v_add _ _)) ?_
          refine Par.v0 16 8 ?_
          refine Par.S 17 7 [(103, 0), (104, 1), (105, 2), (106, 3), (107, 4), (108, 5), (109, 6), (110, 7), (111, 8), (112, 9), (113, 10), (114, 11), (115, 12), (116, 13), (117, 14), (118, 15), (124, 21)] (fun f X hX hR K hK => ?_) ?_
          · have e15 : f 15 = _ := hR.out 15 rfl
            simp only [yA, yB, yC, yD, yE, e15]
            refine ⟨?_⟩
            go_simp
            exact Par.k hK (s := by simp only [yA, yB, yC, yD, yE, e15])
          refine Par.ld1 18 6 16 hkd ?_
          refine Par.v1 19 5 17 ?_
          refine Par.v1 20 4 18 (hR := fun _ _ h => h.trans (Hkv.out)) ?_
          refine Par.v2 21 3 14 19 (hR := fun _ _ h => h.trans (v_add _ _)) ?_
          refine Par.v0 22 2 ?_
          refine Par.v2 23 1 20 21 (hR := fun _ _ h => h.trans ((v_add _ _).trans (congrArg (fun y : W => Value.int .u32 (y.toNat : Int)) Ht.out))) ?_
          refine Par.v1 24 0 22 ?_
          refine Par.AllOps.fin ⟨fun f X hX hR hal hap => ?_⟩
          have e23 : f 23 = _ := hR 23 (by decide)
          simp only [yA, yB, yD, yE, e23]
          clear hR hal hap e23
          refine Par.Chain.done ?_
          replace HE4 := Lib.hid (HE4.out.trans hX)
          replace hvz := hX.at_ hvz
          replace v0 := hX.cell v0
          replace v1 := hX.cell v1
          replace v2 := hX.cell v2
          replace v3 := hX.cell v3
          replace v4 := hX.cell v4
          replace v5 := hX.cell v5
          replace v6 := hX.cell v6
          replace v7 := hX.cell v7
          clear hX
          rename World => w6
          clear Hkv hkd
          obtain ⟨y2, e1, e2⟩ := sw0 ra
          go_wp2_with fail
          refine (rot2 _ _).mono ?_
          rintro e w7 ⟨rfl, rfl⟩
          go_wp2_with fail
          refine (rot13 _ _).mono ?_
          rintro e w7 ⟨rfl, rfl⟩
          go_wp2_with fail
          refine (rot22 _ _).mono ?_
          rintro e w7 ⟨rfl, rfl⟩
          go_upto_region 24 with fail
          clear e1 e2
          obtain ⟨u, hu⟩ : ∃ u, S0 ra + mj ra rb rc = u := ⟨_, rfl⟩
          have Hu := Lib.hid hu
          clear hu
          refine Par.region_txt 18 [0, 0, 0, 4, 14, 0, 0, 64, 224, 510, 0, 1024, 0, 4096, 15360, 32766, 65535, 131071] [] (fun j f X => match j with
           | 0 => f 0 = .int .u32 ((S0 ra).toNat : Int)
           | 1 => f 1 = .int .u32 ((ra).toNat : Int)
           | 2 => f 2 = .pointer (some ⟨g2, 1, none⟩)
           | 3 => f 3 = .int .u32 ((rb).toNat : Int)
           | 4 => f 4 = .int .u32 ((ra &&& rb).toNat : Int)
           | 5 => f 5 = .int .u32 ((ra).toNat : Int)
           | 6 => f 6 = .pointer (some ⟨g2, 2, none⟩)
           | 7 => f 7 = .int .u32 ((rc).toNat : Int)
           | 8 => f 8 = .int .u32 ((ra &&& rc).toNat : Int)
           | 9 => f 9 = .int .u32 (((ra &&& rb) ^^^ (ra &&& rc)).toNat : Int)
           | 10 => f 10 = .pointer (some ⟨g2, 1, none⟩)
           | 11 => f 11 = .int .u32 ((rb).toNat : Int)
           | 12 => f 12 = .pointer (some ⟨g2, 2, none⟩)
           | 13 => f 13 = .int .u32 ((rc).toNat : Int)
           | 14 => f 14 = .int .u32 ((rb &&& rc).toNat : Int)
           | 15 => f 15 = .int .u32 ((mj ra rb rc).toNat : Int)
           | 16 => f 16 = .int .u32 ((u).toNat : Int)
           | 17 => f 17 = .int .u32 ((u).toNat : Int)
           | _ => True) (by kernel_rfl) [(134, 0), (135, 1), (136, 2), (137, 3), (138, 4), (139, 5), (140, 6), (141, 7), (142, 8), (143, 9), (144, 10), (145, 11), (146, 12), (147, 13), (148, 14), (149, 15), (150, 16), (18, 17)] (by kernel_rfl) ?_
          refine Par.v0 1 17 ?_
          refine Par.v0 2 16 ?_
          refine Par.v0 3 15 ?_
          refine Par.ld1 4 14 2 v1 ?_
          refine Par.v2 5 13 1 3 (hR := fun _ _ h => h.trans (v_and _ _)) ?_
          refine Par.v0 6 12 ?_
          refine Par.v0 7 11 ?_
          refine Par.ld1 8 10 6 v2 ?_
          refine Par.v2 9 9 5 7 (hR := fun _ _ h => h.trans (v_and _ _)) ?_
          refine Par.v2 10 8 4 8 (hR := fun _ _ h => h.trans (v_xor _ _)) ?_
          refine Par.v0 11 7 ?_
          refine Par.ld1 12 6 10 v1 ?_
          refine Par.v0 13 5 ?_
          refine Par.ld1 14 4 12 v2 ?_
          refine Par.v2 15 3 11 13 (hR := fun _ _ h => h.trans (v_and _ _)) ?_
          refine Par.v2 16 2 9 14 (hR := fun _ _ h => h.trans (v_xor _ _)) ?_
          refine Par.v2 17 1 0 15 (hR := fun _ _ h => h.trans ((v_add _ _).trans (congrArg (fun y : W => Value.int .u32 (y.toNat : Int)) Hu.out))) ?_
          refine Par.v1 18 0 16 ?_
          refine Par.AllOps.fin ⟨fun f X hX hR hal hap => ?_⟩
          have e17 : f 17 = _ := hR 17 (by decide)
          simp only [yA, yB, yD, yE, e17]
          clear hR hal hap e17
          refine Par.Chain.done ?_
          replace HE4 := Lib.hid (HE4.out.trans hX)
          replace hvz := hX.at_ hvz
          replace v0 := hX.cell v0
          replace v1 := hX.cell v1
          replace v2 := hX.cell v2
          replace v3 := hX.cell v3
          replace v4 := hX.cell v4
          replace v5 := hX.cell v5
          replace v6 := hX.cell v6
          replace v7 := hX.cell v7
          clear hX
          rename World => w8
          go_upto_region 25 with fail
          obtain ⟨na, hna⟩ : ∃ a, t + u = a := ⟨_, rfl⟩
          obtain ⟨ne, hne'⟩ : ∃ a, rd + t = a := ⟨_, rfl⟩
          have Hn := Lib.hid (show rnds L s (k + 1) = ⟨na, ra, rb, rc, ne, re, rf, rg⟩ by
           rw [Hr.out, ← hna, ← hne', ← Ht.out, ← Hu.out]; rfl)
          have Hna := Lib.hid hna
          have Hne := Lib.hid hne'
          clear hna hne'
          refine Par.region_txt 18 [0, 0, 3, 0, 0, 16, 0, 64, 0, 256, 0, 1792, 0, 0, 8192, 0, 32768, 131071, 262143] [] (fun j f X => match j with
           | 0 => f 0 = .int .u32 ((t).toNat : Int)
           | 1 => f 1 = .int .u32 ((u).toNat : Int)
           | 2 => f 2 = .int .u32 ((na).toNat : Int)
           | 3 => f 3 = .int .u32 ((ra).toNat : Int)
           | 4 => f 4 = .pointer (some ⟨g2, 1, none⟩)
           | 5 => f 5 = .int .u32 ((rb).toNat : Int)
           | 6 => f 6 = .pointer (some ⟨g2, 2, none⟩)
           | 7 => f 7 = .int .u32 ((rc).toNat : Int)
           | 8 => f 8 = .pointer (some ⟨g2, 3, none⟩)
           | 9 => f 9 = .int .u32 ((rd).toNat : Int)
           | 10 => f 10 = .int .u32 ((t).toNat : Int)
           | 11 => f 11 = .int .u32 ((ne).toNat : Int)
           | 12 => f 12 = .int .u32 ((re).toNat : Int)
           | 13 => f 13 = .pointer (some ⟨g2, 5, none⟩)
           | 14 => f 14 = .int .u32 ((rf).toNat : Int)
           | 15 => f 15 = .pointer (some ⟨g2, 6, none⟩)
           | 16 => f 16 = .int .u32 ((rg).toNat : Int)
           | 17 => f 17 = .agg #[.int .u32 (na.toNat : Int), .int .u32 (ra.toNat : Int), .int .u32 (rb.toNat : Int), .int .u32 (rc.toNat : Int), .int .u32 (ne.toNat : Int), .int .u32 (re.toNat : Int), .int .u32 (rf.toNat : Int), .int .u32 (rg.toNat : Int)]
           | _ => True) (by kernel_rfl) [(151, 0), (152, 1), (153, 2), (154, 3), (155, 4), (156, 5), (157, 6), (158, 7), (159, 8), (160, 9), (161, 10), (162, 11), (163, 12), (164, 13), (165, 14), (166, 15), (167, 16), (168, 17)] (by kernel_rfl) ?_
          refine Par.v0 1 17 ?_
          refine Par.v0 2 16 ?_
          refine Par.v2 3 15 0 1 (hR := fun _ _ h => h.trans ((v_add _ _).trans (congrArg (fun y : W => Value.int .u32 (y.toNat : Int)) Hna.out))) ?_
          refine Par.v0 4 14 ?_
          refine Par.v0 5 13 ?_
          refine Par.ld1 6 12 4 v1 ?_
          refine Par.v0 7 11 ?_
          refine Par.ld1 8 10 6 v2 ?_
          refine Par.v0 9 9 ?_
          refine Par.ld1 10 8 8 v3 ?_
          refine Par.v0 11 7 ?_
          refine Par.v2 12 6 9 10 (hR := fun _ _ h => h.trans ((v_add _ _).trans (congrArg (fun y : W => Value.int .u32 (y.toNat : Int)) Hne.out))) ?_
          refine Par.v0 13 5 ?_
          refine Par.v0 14 4 ?_
          refine Par.ld1 15 3 13 v5 ?_
          refine Par.v0 16 2 ?_
          refine Par.ld1 17 1 15 v6 ?_
          refine Par.S 18 0 [(151, 0), (152, 1), (153, 2), (154, 3), (155, 4), (156, 5), (157, 6), (158, 7), (159, 8), (160, 9), (161, 10), (162, 11), (163, 12), (164, 13), (165, 14), (166, 15), (167, 16)] (fun f X hX hR K hK => ?_) ?_
          · have e2 : f 2 = _ := hR.out 2 rfl
            have e3 : f 3 = _ := hR.out 3 rfl
            have e5 : f 5 = _ := hR.out 5 rfl
            have e7 : f 7 = _ := hR.out 7 rfl
            have e11 : f 11 = _ := hR.out 11 rfl
            have e12 : f 12 = _ := hR.out 12 rfl
            have e14 : f 14 = _ := hR.out 14 rfl
            have e16 : f 16 = _ := hR.out 16 rfl
            simp only [yA, yB, yC, yD, yE, e2, e3, e5, e7, e11, e12, e14, e16]
            refine ⟨?_⟩
            go_simp
            exact Par.k hK (s := by simp only [yA, yB, yC, yD, yE, e2, e3, e5, e7, e11, e12, e14, e16])
          refine Par.AllOps.fin ⟨fun f X hX hR hal hap => ?_⟩
          have e17 : f 17 = _ := hR 17 (by decide)
          simp only [yA, yB, yD, yE, e17]
          clear hR hal hap e17
          refine Par.Chain.next (fun K hK => ⟨Par.want (by kernel_rfl) (wp_storeV (cs' := #[.int .u32 (na.toNat : Int), .int .u32 (ra.toNat : Int), .int .u32 (rb.toNat : Int), .int .u32 (rc.toNat : Int), .int .u32 (ne.toNat : Int), .int .u32 (re.toNat : Int), .int .u32 (rf.toNat : Int), .int .u32 (rg.toNat : Int)]) (t := 210) 210 (.tmp 10) (.tmp 168) rfl rfl rfl rfl (hX.at_ hvz) (by kernel_rfl) rfl (by simp [Value.oneCell']) (fun Y hY1 hY2 hY3 => hK.out _ _ ?_))⟩)
          refine Par.Chain.done ?_
          have HZ9 := Lib.hid (show VB Y g2 (rnds L s (k + 1)).list 210 by rw [Hn.out]; exact hY1)
          have HE9 := Lib.hid (hY2.ext (HE4.out.trans hX) hgg)
          clear hX hY1 hY2 hY3 hvz v0 v1 v2 v3 v4 v5 v6 v7
          go_wp2_with fail
          go_roundw
          case rel => exact ⟨k + 1, by go_num, by omega, HZ9, HE9⟩
          case measure => simp [intOf]; omega
        · obtain rfl : k = 64 := by omega
          rw [show ((64 : Nat) : Int) = 64 from rfl]
          obtain ⟨t, ht⟩ : ∃ t, rnds L s 64 = t := ⟨_, rfl⟩
          rw [ht] at HZ
          have Hm := Lib.hid (show comp s p = s.add t by rw [Hcomp.out, ht])
          have hwt : wr.heap[g2]? = some (.cells (vs t.list).toArray 210 (0, 0)) := HZ.out
          have HLk := Lib.hid (show ∀ k, k < 8 → (vs t.list).toArray[k]? = some (.int .u32 ((wd t.list k).toNat : Int)) from fun k hk => by rw [List.getElem?_toArray]; exact vs_get hk)
          have i8 : (Tryz.prog.info? 210).map (·.size) = some (vs t.list).toArray.size := by kernel_rfl
          have Hts := Lib.hid (show ∀ k, k < 8 → wd (s.add t).list k = wd s.list k + wd t.list k from fun k hk => by
           match k, hk with
           | 0, _ | 1, _ | 2, _ | 3, _ | 4, _ | 5, _ | 6, _ | 7, _ => rfl)
          generalize (vs t.list).toArray = ar2 at *
          clear HZ hlt hk64 ht
          go_upto_region 27 with fail
          refine Par.region_txt 2 [0, 0] [] (fun j f X => match j with
           | 0 => f 0 = .agg ar2
           | 1 => f 1 = Value.int IntKind.i64 0
           | _ => True) (by kernel_rfl) [(170, 0), (171, 1)] (by kernel_rfl) ?_
          refine lV0 1 1 hwt i8 ?_
          refine Par.v0 2 0 ?_
          refine Par.AllOps.fin ⟨fun f X hX hR hal hap => ?_⟩
          have e0 : f 0 = _ := hR 0 (by decide)
          have e1 : f 1 = _ := hR 1 (by decide)
          simp only [yA, yB, yD, yE, e0, e1]
          clear hR hal hap e0 e1
          refine Par.Chain.done ?_
          have HJ0 := Lib.hid (Just.of_below (g := b) (HE.out.trans hX) (Nat.le_refl _))
          have HB1 := Lib.hid (Hb.out.ext (HE.out.trans hX))
          clear hX hwt i8 HE
          rename World => wh
          go_wp2_with fail
          go_loopw [171] (fun iv wr => ∃ (k : Nat) (H : List W), iv = .int .i64 (k : Int) ∧ k ≤ 8 ∧ Hid (HB wr b H wt n) ∧ Hid (Upto H (s.add t).list k) ∧ Hid (∀ j, k ≤ j → wd H j = wd s.list j) ∧ Hid (Just b w wr)) (fun iv _ => (8 - intOf iv).toNat)
          case atStart => exact ⟨0, _, rfl, by omega, HB1, Lib.hid (Upto.zero _ _ rfl), Lib.hid (fun _ _ => rfl), HJ0⟩
          case round =>
           clear HB1 HJ0
           obtain ⟨k, H, rfl, hk8, HB2, HU, HR, HJ⟩ := hrel
           by_cases hlt : k < 8
           · have k8 : (k : Int) < 8 := by omega
             have hidx : ∀ W : World, (Instr.index 210 (.agg ar2) (.int .i64 (k : Int))).run Tryz.prog W = .ok (.int .u32 ((wd t.list k).toNat : Int)) W := fun W => run_index_arr Tryz.underlying210 (fun _ => by kernel_rfl) (fun _ => by kernel_rfl) hlt (HLk.out k hlt)
             go_upto_region 30 with fail
             clear hidx
             obtain ⟨x, hx⟩ : ∃ x, wd t.list k = x := ⟨_, rfl⟩
             obtain ⟨y, hy⟩ : ∃ y, wd H k = y := ⟨_, rfl⟩
             obtain ⟨z, hz⟩ : ∃ z, y + x = z := ⟨_, rfl⟩
             have HU3 := Lib.hid (HU.out.step (x := z) hlt (by rw [Hts.out k hlt, ← hz, ← hx, ← hy, HR.out k (Nat.le_refl _)]))
             have HR3 := Lib.hid (show ∀ j, k + 1 ≤ j → wd (H.set k z) j = wd s.list j from fun j hj => by rw [wd_set_ne _ (by omega)]; exact HR.out j (by omega))
             have ck := HB2.out.cell hlt
             have Hz := Lib.hid hz
             rw [hy] at ck
             rw [hx]
             clear hx hy hz
             refine Par.region_ext (by kernel_rfl) 15 [0, 0, 0, 0, 4, 20, 60, 124, 252, 0, 1020, 2044, 1, 4097, 16383, 32767] [] (fun j f X => match j with
              | 0 => f 0 = .pointer (some ⟨b, 0, none⟩)
              | 1 => f 1 = .int .i64 (k : Int)
              | 2 => f 2 = .pointer (some ⟨b, 0, none⟩)
              | 3 => f 3 = .int .i64 (k : Int)
              | 4 => f 4 = .pointer (some ⟨b, 0, none⟩)
              | 5 => f 5 = .pointer (some ⟨b, 1, none⟩)
              | 6 => f 6 = .pointer (some ⟨b, 1 + k, none⟩)
              | 7 => f 7 = .int .u64 ((y).toNat : Int)
              | 8 => f 8 = .int .u32 ((y).toNat : Int)
              | 9 => f 9 = .int .u32 ((x).toNat : Int)
              | 10 => f 10 = .int .u32 ((z).toNat : Int)
              | 11 => f 11 = .int .u64 ((z).toNat : Int)
              | 12 => f 12 = .pointer (some ⟨b, 0, none⟩)
              | 13 => f 13 = .pointer (some ⟨b, 1, none⟩)
              | 14 => f 14 = .pointer (some ⟨b, 1 + k, none⟩)
              | _ => True) (by kernel_rfl) [(175, 0), (176, 1), (177, 2), (178, 3), (179, 4), (180, 5), (181, 6), (182, 7), (183, 8), (184, 9), (185, 10), (186, 11), (187, 12), (188, 13), (189, 14)] (by kernel_rfl) ?_
             refine Par.v0 1 14 ?_
             refine Par.v0 2 13 ?_
             refine Par.v0 3 12 ?_
             refine Par.v0 4 11 ?_
             refine Par.v1 5 10 2 ?_
             refine Par.v1 6 9 4 ?_
             refine Par.S 7 8 [(175, 0), (176, 1), (177, 2), (178, 3), (179, 4), (180, 5), (184, 9), (187, 12), (188, 13)] (fun f X hX hR K hK => ?_) ?_
             · have e3 : f 3 = _ := hR.out 3 rfl
               have e5 : f 5 = _ := hR.out 5 rfl
               simp only [yA, yB, yC, yD, yE, e3, e5]
               refine ⟨?_⟩
               go_simp
               exact Par.k hK (s := by simp only [yA, yB, yC, yD, yE, e3, e5])
             refine Par.ld1 8 7 6 ck ?_
             refine Par.v1 9 6 7 (hR := fun _ _ h => h.trans (v_down _)) ?_
             refine Par.v0 10 5 ?_
             refine Par.v2 11 4 8 9 (hR := fun _ _ h => h.trans ((v_add _ _).trans (congrArg (fun y : W => Value.int .u32 (y.toNat : Int)) Hz.out))) ?_
             refine Par.v1 12 3 10 (hR := fun _ _ h => h.trans (v_up _)) ?_
             refine Par.v1 13 2 0 ?_
             refine Par.v1 14 1 12 ?_
             refine Par.S 15 0 [(175, 0), (176, 1), (177, 2), (178, 3), (179, 4), (180, 5), (181, 6), (182, 7), (183, 8), (184, 9), (185, 10), (186, 11), (187, 12), (188, 13)] (fun f X hX hR K hK => ?_) ?_
             · have e1 : f 1 = _ := hR.out 1 rfl
               have e13 : f 13 = _ := hR.out 13 rfl
               simp only [yA, yB, yC, yD, yE, e1, e13]
               refine ⟨?_⟩
               go_simp
               exact Par.k hK (s := by simp only [yA, yB, yC, yD, yE, e1, e13])
             refine Par.AllOps.fin ⟨fun f X hX hR hal hap => ?_⟩
             have e11 : f 11 = _ := hR 11 (by decide)
             have e14 : f 14 = _ := hR 14 (by decide)
             simp only [yA, yB, yD, yE, e11, e14]
             clear hR hal hap e11 e14
             replace ck := hX.cell ck
             have hB5 := HB2.out.ext hX
             have fk := hB5.free (1 + k)
             refine Par.Chain.next (fun K hK => ⟨Par.want (by kernel_rfl) ?_⟩)
             go_simp
             refine hK.out _ _ ?_
             refine Par.Chain.done ?_
             have HB6 := Lib.hid (hB5.set hlt z)
             have HJ6 := Lib.hid ((HJ.out.trans (Just.of_below hX (Nat.le_refl _))).set (1 + k) (.int .u64 (z.toNat : Int)))
             clear ck hB5 fk hX
             generalize World.setCell X ⟨b, 1 + k, none⟩ (.int .u64 (z.toNat : Int)) = w9 at *
             go_wp2_with fail
             go_roundw
             case rel => exact ⟨k + 1, _, by go_num, by omega, HB6, HU3, HR3, HJ6⟩
             case measure => simp [intOf]; omega
           · obtain rfl : k = 8 := by omega
             have hH := HU.out.fin
             go_wp2_with fail
             go_end0
             exact ⟨rfl, by rw [Hm.out, ← hH]; exact HB2.out, HJ.out⟩
end Go.Proofs.YtaemogcomplhiaaGreatDoor

namespace Go.Proofs.YtaemogcomplhiaaGreatDoor
open Go.RowKit

def OW (w : World) (base : Nat) (A : Option Addr) (c : Nat) (bs : List Nat) : Prop := w.ownsRow base 5 1 (.slice A bs.length c) bs.length (bys bs) ∧ ∀ b ∈ bs, b < 256
theorem own_base {w : World} {base n size : Nat} {e : TypeId} {v : Value} {cs : List Value} (h : w.ownsRow base e size v n cs) (k : Nat) (hk : v.ownBlock = some k) : base ≤ k := by
 rcases h.2 with ⟨rfl, rfl⟩ | ⟨g, cap, cur, rfl, hg, _⟩
 · cases hk
 · simp [Value.ownBlock] at hk
   omega
theorem OW.rb {w : World} {base : Nat} {A : Option Addr} {c : Nat} {bs : List Nat} (h : OW w base A c bs) (hl : bs.length ≤ 100000000) : RB w (In base w.heap.size) A c bs := ⟨RS.of_own h.1, h.2, by omega⟩
theorem OW.lit (w : World) (b : Nat) (hb : b < 256) : OW (w.alloc (.cells #[.int .u8 (b : Int)] 5)) w.heap.size (some ⟨w.heap.size, 0, none⟩) 1 [b] :=
 ⟨World.ownsRow_lit w #[.int .u8 (b : Int)] 1 (Nat.le_refl _) (by unfold maxLen; omega) rfl, by simp; exact hb⟩
theorem OW.ext {w X : World} {base : Nat} {A : Option Addr} {c : Nat} {bs : List Nat} (h : OW w base A c bs) (hE : w.grownBy X none) : OW X base A c bs := ⟨own_kept h.1 hE, h.2⟩
theorem RB.upE {w X : World} {A : Option Addr} {c : Nat} {bs : List Nat} (h : RB w (fun b => b < w.heap.size) A c bs) (hE : Ext w X) : RB X (fun b => b < X.heap.size) A c bs := (h.below hE (fun _ hb => hb)).mono fun _ hb => Nat.lt_of_lt_of_le hb hE.bsize
section
variable {w : World} {ops : Array Oper} {rest : List Oper} {o : Oper} {a : Act} {Q : Exit → Act → World → Prop}
theorem app8 (hgd : o.guard = none) (s x : Operand) (ho : o.op = .call { callee := .builtin .append, args := #[s, x], argTypes := #[22, 22] }) (base : Nat) {A Au : Option Addr} {c cu : Nat} {bs cs : List Nat} {B : Nat → Prop}
 (hs : a.eval s = .slice A bs.length c) (hown : OW w base A c bs) (hx : a.eval x = .slice Au cs.length cu) (hr : RB w B Au cu cs) (hl : bs.length + cs.length ≤ 100000000) (hbase : base ≤ w.heap.size)
 (h : ∀ A' c' w', OW w' base A' c' (bs ++ cs) → Below base w w' → wpList Tryz.prog ops Q rest (a.put o.dst (.slice A' (bs ++ cs).length c')) w') : wpList Tryz.prog ops Q (o :: rest) a w := by
 obtain ⟨i0, hi, hz0, hz1, hz2⟩ := info_parts info8
 refine wpList_append_rs w hgd s x 22 ho base 5 i0 (.int .u8 0) 1 1 Tryz.underlying22 hi hz0 hz1 hz2 rfl (by decide) _ bs.length (bys bs) hs hown.1 B Au cs.length cu (bys cs) hx hr.1 (by intro u hu; obtain ⟨b, _, rfl⟩ := List.mem_map.1 hu; rfl) (bs.length + cs.length) rfl (by unfold maxLen; omega) (by omega) hbase ?_
 intro A' c' w' h1 h2 h3
 have hlen : (bs ++ cs).length = bs.length + cs.length := List.length_append
 refine (hlen ▸ h A' c' w' ⟨?_, ?_⟩ ?_ : _)
 · rw [hlen, show bys (bs ++ cs) = bys bs ++ bys cs by simp [bys]]
   exact h1
 · intro b hb
   rcases List.mem_append.1 hb with hb | hb
   · exact hown.2 b hb
   · exact hr.2.1 b hb
 · exact Below.grown (Below.refl base w) h2 hbase (own_base hown.1)
end
end Go.Proofs.YtaemogcomplhiaaGreatDoor

namespace Go.Proofs.YtaemogcomplhiaaGreatDoor
open Go.RowKit
open Sha

set_option maxRecDepth 100000 in
theorem block3 (w : World) : Calls Tryz.prog 134 #[.int .i64 3] w fun e w' => e = .returned (.int .i64 64) ∧ w' = w := by
 go_enter Tryz.func134, Tryz.ntmps134
 go_wp2
 go_ret
 exact ⟨rfl, rfl⟩
set_option maxRecDepth 100000 in
theorem size3 (w : World) : Calls Tryz.prog 127 #[.int .i64 3] w fun e w' => e = .returned (.int .i64 32) ∧ w' = w := by
 go_enter Tryz.func127, Tryz.ntmps127
 go_wp2
 go_ret
 exact ⟨rfl, rfl⟩
def one8 : List Nat := [7640891576956012808, 13503953896175478587, 4354685564936845355, 11912009170470909681, 5840696475078001361, 11170449401992604703, 2270897969802886507, 6620516959819538809]
def two8 : List Nat := [14680500436340154072, 7105036623409894663, 10473403895298186519, 1526699215303891257, 7436329637833083697, 10282925794625328401, 15784041429090275239, 5167115440072839076]
def NB (w : World) (g : Nat) (l : List Nat) (t : TypeId) : Prop := w.heap[g]? = some (.cells (nts l).toArray t (0, 0))
theorem NB.cell {w : World} {g : Nat} {l : List Nat} {t : TypeId} (h : NB w g l t) {i : Nat} (hi : i < l.length) : w.cell? ⟨g, i, none⟩ = some (.int .u64 (dg l i : Int)) := by
 rw [blk_cell h]; simpa using nts_get hi
theorem NB.free {w : World} {g : Nat} {l : List Nat} {t : TypeId} (h : NB w g l t) (i : Nat) : w.frozen? ⟨g, i, none⟩ = false := blk_free h i
theorem NB.set {w : World} {g : Nat} {l : List Nat} {t : TypeId} (h : NB w g l t) (i x : Nat) : NB (w.setCell ⟨g, i, none⟩ (.int .u64 (x : Int))) g (l.set i x) t := by
 unfold NB
 have := blk_set h i (.int .u64 (x : Int))
 rw [this]
 simp [nts, List.map_set]
def sh32 (k : Nat) : List Nat := (one8.take k).map (· / 4294967296) ++ one8.drop k
theorem sh32_step {k : Nat} (h : k < 8) : (sh32 k).set k (dg one8 k / 4294967296) = sh32 (k + 1) := by
 match k, h with
 | 0, _ | 1, _ | 2, _ | 3, _ | 4, _ | 5, _ | 6, _ | 7, _ => rfl
theorem sh32_get {k : Nat} (h : k < 8) : dg (sh32 k) k = dg one8 k := by
 match k, h with
 | 0, _ | 1, _ | 2, _ | 3, _ | 4, _ | 5, _ | 6, _ | 7, _ => rfl
theorem sh32_len {k : Nat} (h : k ≤ 8) : (sh32 k).length = 8 := by simp [sh32, one8]; omega
theorem end_v {fn : Func} {R : Ending → World → Prop} {a : Act} {W : World} {p : Tmp} {g : Nat} {cs : Array Value} {t ty : TypeId} {d : TypeDesc} (hr : fn.results = #[.cell p t]) (hp : a.tmps.getD p undef = .pointer (some ⟨g, 0, none⟩)) (hd : a.defers = [])
 (hg : W.heap[g]? = some (.cells cs ty (0, 0))) (hu : Tryz.prog.underlying t = some d) (hk : d.isRow = true) (hi : (Tryz.prog.info? t).map (·.size) = some cs.size) (hR : R (.returned (.agg cs)) W) : bodyPost Tryz.prog fn R .ret a W :=
 bodyPost_ret (results_cell_row hr a.tmps W g _ _ _ d hp hg hu (by cases d <;> first | rfl | exact hk) hi) hd hR
set_option maxRecDepth 100000 in
set_option maxHeartbeats 2000000 in
theorem start3 (w : World) : Calls Tryz.prog 143 #[.int .i64 3] w fun e w' => e = .returned (.agg (nts (sh32 8)).toArray) ∧ Ext w w' := by
 obtain ⟨W3, hW3⟩ : ∃ W3, ((w.alloc (.cells (nts (List.replicate 8 0)).toArray 175)).alloc (.cells (nts one8).toArray 175)).alloc (.cells (nts two8).toArray 175) = W3 := ⟨_, rfl⟩
 have HW := Lib.hid (show ∀ c1 c2 c3 : Array Value, c1 = (nts (List.replicate 8 0)).toArray → c2 = (nts one8).toArray → c3 = (nts two8).toArray → ((w.alloc (.cells c1 175)).alloc (.cells c2 175)).alloc (.cells c3 175) = W3 from fun c1 c2 c3 e1 e2 e3 => by rw [e1, e2, e3]; exact hW3)
 have hE : Ext w W3 := by rw [← hW3]; exact ((Ext.alloc _ _).trans (Ext.alloc _ _)).trans (Ext.alloc _ _)
 have h0 : NB W3 w.heap.size (List.replicate 8 0) 175 := by
  rw [← hW3]
  exact (Ext.alloc _ _).at_ ((Ext.alloc _ _).at_ (heap_alloc_new w _))
 have h1 : NB W3 (w.heap.size + 1) (sh32 0) 175 := by
  rw [← hW3]
  have := heap_alloc_new (w.alloc (.cells (nts (List.replicate 8 0)).toArray 175)) (.cells (nts one8).toArray 175)
  rw [World.size_alloc] at this
  exact (Ext.alloc _ _).at_ this
 obtain ⟨g, hg⟩ : ∃ g, w.heap.size = g := ⟨_, rfl⟩
 rw [hg] at h0 h1
 have Hg := Lib.hid hg
 have HE := Lib.hid hE
 have H0 := Lib.hid h0
 have H1 := Lib.hid h1
 clear hW3 hE h0 h1
 go_enter Tryz.func143, Tryz.ntmps143
 go_wp2_with fail
 rw [HW.out]
 case a => rfl
 case a => rfl
 case a => rfl
 clear HW hg
 go_loopw [27] (fun iv wr => ∃ (k : Nat), iv = .int .i64 (k : Int) ∧ k ≤ 8 ∧ Hid (NB wr (g + 1) (sh32 k) 175) ∧ Hid (NB wr g (List.replicate 8 0) 175) ∧ Hid (Ext w wr)) (fun iv _ => (8 - intOf iv).toNat)
 case atStart => exact ⟨0, rfl, by omega, H1, H0, HE⟩
 case round =>
  clear H1 H0 HE
  obtain ⟨k, rfl, hk8, H1, H0, HE⟩ := hrel
  by_cases hlt : k < 8
  · have k8 : (k : Int) < 8 := by omega
    have ck := H1.out.cell (i := k) (by rw [sh32_len (by omega)]; exact hlt)
    have fk := H1.out.free k
    rw [sh32_get hlt] at ck
    have HN := H1.out.set k (dg one8 k / 4294967296)
    rw [sh32_step hlt] at HN
    have H1' := Lib.hid HN
    have H0' := Lib.hid (show NB (wr.setCell ⟨g + 1, k, none⟩ (.int .u64 ((dg one8 k / 4294967296 : Nat) : Int))) g (List.replicate 8 0) 175 from ((Just.refl (g + 1) wr).set k _).at_ (by omega) H0.out)
    have HE' := Lib.hid (HE.out.setCell (p := ⟨g + 1, k, none⟩) (by have := Hg.out; show w.heap.size ≤ g + 1; omega) (.int .u64 ((dg one8 k / 4294967296 : Nat) : Int)))
    obtain ⟨x, hx⟩ : ∃ x, dg one8 k = x := ⟨_, rfl⟩
    obtain ⟨y, hy⟩ : ∃ y, x / 4294967296 = y := ⟨_, rfl⟩
    rw [hx] at ck H1' H0' HE'
    rw [hy] at H1' H0' HE'
    have hxy : (x : Int) / 4294967296 = (y : Int) := by rw [← hy]; omega
    clear hx hy HN
    go_wp2_with fail
    go_roundw
    case rel => exact ⟨k + 1, by go_num, by omega, H1', H0', HE'⟩
    case measure => simp [intOf]; omega
  · obtain rfl : k = 8 := by omega
    rw [show ((8 : Nat) : Int) = 8 from rfl]
    have h1 := H1.out
    have h0 := H0.out
    have hi : (Tryz.prog.info? 175).map (·.size) = some (nts (sh32 8)).toArray.size := by kernel_rfl
    have hb : (Tryz.prog.info? 175).map (·.size) = some (nts (List.replicate 8 0)).toArray.size := by kernel_rfl
    have h1c : (nts (sh32 8)).toArray.all (·.oneCell') = true := by simp [nts, Value.oneCell']
    have hsz : (nts (List.replicate 8 0)).toArray.size = (nts (sh32 8)).toArray.size := rfl
    unfold NB at h1 h0
    obtain ⟨c8, hc8⟩ : ∃ c, (nts (sh32 8)).toArray = c := ⟨_, rfl⟩
    rw [hc8] at h1 hi h1c hsz
    have Hc8 := Lib.hid hc8
    clear hc8
    generalize (nts (List.replicate 8 0)).toArray = z8 at *
    clear H1 H0 hlt hk8
    go_upto_region 21 with fail
    refine Par.region_txt 1 [0, 1] [] (fun j f X => match j with
     | 0 => f 0 = .agg c8
     | _ => True) (by kernel_rfl) [(39, 0)] (by kernel_rfl) ?_
    refine lV0 1 0 h1 hi ?_
    refine Par.AllOps.fin ⟨fun f X hX hR hal hap => ?_⟩
    have e0 : f 0 = .agg c8 := hR 0 (by decide)
    simp only [Par.putL, Act.put, List.setIfInBounds_toArray, List.set_cons_succ, List.set_cons_zero, e0]
    clear hR hal hap e0
    refine Par.Chain.next (fun K hK => ⟨Par.want (by kernel_rfl) (wp_storeV (cs' := c8) (t := 175) 175 (.tmp 2) (.tmp 39) rfl rfl rfl rfl (hX.at_ h0) hi hsz h1c (fun Y hY1 hY2 hY3 => hK.out _ _ ?_))⟩)
    refine Par.Chain.done ?_
    go_wp2
    exact end_v rfl rfl rfl hY1 Tryz.underlying175 rfl hi ⟨by rw [Hc8.out], hY2.ext (HE.out.trans hX) (by have := Hg.out; omega)⟩

theorem new_list : nts (sh32 8) = s256.list.map fun x => Value.int .u64 (x.toNat : Int) := by
 simp [nts, sh32, one8, s256, St.list]
set_option maxRecDepth 100000 in
set_option maxHeartbeats 2000000 in
theorem new3 (w : World) : Calls Tryz.prog 136 #[.int .i64 3] w fun e w' => ∃ b, e = .returned (.pointer (some ⟨b, 0, none⟩)) ∧ HB w' b s256.list (.slice none 0 0) 0 ∧ w.heap.size ≤ b ∧ Ext w w' := by
 have hst := Lib.hid (start3 w)
 go_enter Tryz.func136, Tryz.ntmps136
 go_wp2_with fail
 refine (size3 _).mono ?_
 rintro e w1 ⟨rfl, rfl⟩
 go_wp2_with fail
 refine hst.out.mono ?_
 rintro e w2 ⟨rfl, hE⟩
 rw [new_list]
 go_wp2_with fail
 go_ret
 exact ⟨_, rfl, ⟨heap_alloc_new _ _, rfl⟩, hE.bsize, hE.trans (Ext.alloc _ _)⟩

set_option maxRecDepth 100000 in
set_option maxHeartbeats 1000000 in
theorem cloneO (P : Nat → Prop) (A : Option Addr) (c : Nat) (bs : List Nat) (w : World) (h : RB w P A c bs) (hP : ∀ b, P b → b < w.heap.size) (hA : bs = [] → A = none ∧ c = 0) (h3 : bs.length ≤ 1000000) :
 Calls Tryz.prog 146 #[.slice A bs.length c] w fun e w' => ∃ A' c', e = .returned (.slice A' bs.length c') ∧ OW w' w.heap.size A' c' bs ∧ (bs = [] → A' = none ∧ c' = 0) ∧ Ext w w' := by
 obtain ⟨i0, hi, hz0, hz1, hz2⟩ := info_parts info8
 have q22 : ∀ (w : World) (a : Option Addr) (n c n' c' : Nat), (binOp .eql 22 (.slice a n c) (.slice none n' c')).run Tryz.prog w = .ok (.bool a.isNone) w := fun w a n c n' c' => Lib.run_eql_slice_nil w _ _ a n c n' c' Tryz.underlying22
 obtain ⟨h1, h2, _⟩ := h.cap
 have hc0 := h.2.1
 by_cases he : bs = []
 · obtain ⟨rfl, rfl⟩ := hA he
   subst he
   clear hA
   go_enter Tryz.func146, Tryz.ntmps146
   go_wp2
   go_ret
   exact ⟨none, 0, rfl, ⟨⟨by simp [bys], .inl ⟨rfl, rfl⟩⟩, by simp⟩, fun _ => ⟨rfl, rfl⟩, Ext.refl _⟩
 · have hpos : 0 < bs.length := List.length_pos_iff.2 he
   obtain ⟨ad, rfl, _⟩ := h.1.2.2.2 hpos
   have h' : RB (w.alloc (.cells #[] 5)) P (some ad) c bs := h.keep fun p hp => World.cell?_alloc_lt w _ p (hP _ hp)
   have hw0 : OW (w.alloc (.cells #[] 5)) w.heap.size (some ⟨w.heap.size, 0, none⟩) 0 [] := ⟨World.ownsRow_made w #[] 0 (Nat.le_refl _) (Nat.zero_le _) rfl, by simp⟩
   have HE := Lib.hid he
   have hE0 := Ext.alloc w (.cells #[] 5)
   clear h hA hpos he
   go_enter Tryz.func146, Tryz.ntmps146
   go_wp2_with (at_builtin; refine app8 rfl (.tmp 5) (.tmp 6) rfl w.heap.size rfl hw0 rfl h' (by simp; omega) (by simp) ?_)
   intro A' c' w1 hw1 hb1
   go_wp2
   go_ret
   exact ⟨A', c', rfl, hw1, fun e => absurd e HE.out, Below.trans hE0 hb1⟩

set_option maxRecDepth 100000 in
theorem take3 (b : Nat) (s : St) (wt : Value) (n : Nat) (P : Nat → Prop) (A : Option Addr) (c : Nat) (p : List Nat) (w : World) (hb : HB w b s.list wt n) (hk : KW w) (hp : RB w P A c p) (hl : p.length = 64) (hP : ∀ b, P b → b < w.heap.size) :
 Calls Tryz.prog 145 #[.pointer (some ⟨b, 0, none⟩), .slice A 64 c] w fun e w' => e = .returned (.tuple #[]) ∧ HB w' b (comp s p).list wt n ∧ Just b w w' := by
 have hs := Lib.hid (sha256_any b s wt n P A c p w hb hk hp hl hP)
 have h0 := hb.kind
 clear hb hk hp hP
 go_enter Tryz.func145, Tryz.ntmps145
 go_wp2_with fail
 refine hs.out.mono ?_
 rintro e w1 ⟨rfl, h1, h2⟩
 have H1 := Lib.hid h1
 have H2 := Lib.hid h2
 clear h1 h2
 go_wp2_with fail
 go_end0
 exact ⟨rfl, H1.out, H2.out⟩
end Go.Proofs.YtaemogcomplhiaaGreatDoor

namespace Go.Proofs.YtaemogcomplhiaaGreatDoor
open Go.RowKit

def SeqAtV {β : Type} (P : Program) (g : Nat) (lb : Array Value) (xs : Nat → β → Array Value) (Vs : Nat → β → World → Prop) (Nd : Nat → World → Prop) (T : Nat → Nat → World → World → Prop) (Kp : World → World → Prop) (m N : Nat) (fin : Bool) (w : World) : Prop :=
  ∀ (n l : Nat) (J J' Jx : Nat → World → Prop) (W : World), 1 ≤ n → Below w.heap.size w W → l < W.heap.size → OwnFrom W.heap.size J → OwnFrom W.heap.size J' → OwnFrom W.heap.size Jx →
    (∀ k W1, k ≤ N → J k W1 → Nd k W1) → (∀ k W1 W2, k ≤ N → J k W1 → T W.heap.size k W1 W2 → J' k W2) → (fin = false → ∀ W', ¬ J' N W') →
    (∀ k b W1, J' k W1 → Vs k b W1 → k < N → W.heap.size + m ≤ W1.heap.size → YieldAt Fence.wide (n - 1) P l (xs k b) W1 fun e W' =>
      (e = .returned (.bool true) ∧ J (k + 1) W' ∧ Kp W1 W' ∧ Keeps W.heap.size W.heap.size m W1 W') ∨ (e = .returned (.bool false) ∧ Jx (k + 1) W' ∧ Keeps W.heap.size W.heap.size m W1 W')) →
    J 0 W →
    CallsIn Fence.wide n P g (#[.func (.yield l) #[] #[]] ++ lb) W fun e W' => (∃ v, e = .returned v) ∧ (J' N W' ∨ ∃ k, 0 < k ∧ k ≤ N ∧ Jx k W')

theorem wpIn_iterV {β : Type} {n : Nat} {P : Program} {g : Operand} {ps : Array Tmp} {assign body : Code} {Q : Exit → Act → World → Prop} {a : Act} {w : World}
    (h2 : 2 ≤ n) {gf : Nat} {lb : Array Value} (hg : a.eval g = .func (.func gf) #[] lb) (eg : ∀ args w, (callFunc gf args).run P w = .ok (.enter gf args) w)
    {xs : Nat → β → Array Value} {Vs : Nat → β → World → Prop} {Nd : Nat → World → Prop} {T : Nat → Nat → World → World → Prop} {Kp : World → World → Prop} {m N : Nat} {fin : Bool} {w0 : World} (hseq : SeqAtV P gf lb xs Vs Nd T Kp m N fin w0)
    (hKt : ∀ {A B C : World}, Kp A B → Kp B C → Kp A C) (hKb : ∀ (W : World) (l : Nat) (o o' : Obj), w.heap.size ≤ l → W.heap[l]? = some o → o.isCells = false → o.isWalk = false → Kp W (W.putObj l o'))
    (hT : ∀ B k W1 W2, T B k W1 W2 → W1.heap.size ≤ W2.heap.size ∧ ∀ b o, b < B → W1.heap[b]? = some o → o.isCells = false → W2.heap[b]? = some o)
    (hb0 : Below w0.heap.size w0 w) (hps : ∀ k b, (xs k b).size = ps.size) (hVp : ∀ k b (W : World) (l : Nat) (o o' : Obj), Vs k b W → W.heap[l]? = some o → o.isCells = false → Vs k b (W.putObj l o'))
    (I I' : Nat → World → Prop) (Ix : Code → Nat → World → Prop) (hI : OwnFrom w.heap.size I) (hI' : OwnFrom w.heap.size I') (hIx : ∀ c, OwnFrom w.heap.size (Ix c))
    (hNd : ∀ k W, k ≤ N → I k W → Nd k W) (hIT : ∀ B k W1 W2, w.heap.size ≤ B → k ≤ N → I k W1 → T B k W1 W2 → I' k W2) (hfin : fin = false → ∀ W', ¬ I' N W') (h0 : I 0 w) (a₁ : Nat → β → Act)
    (hassign : ∀ (l k : Nat) (b : β) (W : World) (K : Act → World → Prop), K (a₁ k b) W →
      assign.wpIn (Fence.wide.inRound l) (n - 1 - 1) P (Exit.then K (fun _ _ _ => False)) { tmps := (ps.zip (xs k b)).foldl (fun t (p, v) => t.setIfInBounds p v) a.tmps, defers := [] } W)
    (hbody : ∀ (l k : Nat) (b : β) (W : World), I' k W → Vs k b W → k < N → w.heap.size + 2 + m ≤ W.heap.size → body.wpIn (Fence.wide.inRound l) (n - 1 - 1) P (iterPost w.heap.size m Kp I Ix (k + 1) W) (a₁ k b) W)
    (hdone : ∀ (D : Nat) (W : World), w.heap.size ≤ D → I' N W → W.heap[D]? = some (.deferred (some [])) → Q .normal { a with defers := { target := .collected D, args := #[] } :: a.defers } W)
    (hstop : ∀ (D : Nat) (c : Code) (k : Nat) (W : World), w.heap.size ≤ D → 0 < k → k ≤ N → Ix c k W → W.heap[D]? = some (.deferred (some [])) → c.wpIn Fence.wide n P Q { a with defers := { target := .collected D, args := #[] } :: a.defers } W) :
    (Code.rangeFunc g ps assign body).wpIn Fence.wide n P Q a w := by
  refine wpIn_rangeFunc ?_
  intro fn hfn
  obtain ⟨rc, hrc⟩ : ∃ rc : LoopState → Option Code → Loop, rc = fun st pe => { state := st, pending := pe, fn, tmps := a.tmps, params := ps, assign, body, defers := w.heap.size } := ⟨_, rfl⟩
  obtain ⟨L, hL⟩ : ∃ L, w.heap.size + 1 = L := ⟨_, rfl⟩
  obtain ⟨D, hD⟩ : ∃ D, w.heap.size = D := ⟨_, rfl⟩
  obtain ⟨W1, hW1⟩ : ∃ W1, (w.alloc (.deferred (some []))).alloc (.loop (rc .ready none)) = W1 := ⟨_, rfl⟩
  have hz1 : W1.heap.size = D + 2 := by rw [← hW1, ← hD]; simp
  have hl1 : W1.heap[L]? = some (.loop (rc .ready none)) := by
    rw [← hW1, ← hL]; have := World.alloc_heap_new (w.alloc (.deferred (some []))) (.loop (rc .ready none)); rwa [World.size_alloc] at this
  have hd1 : W1.heap[D]? = some (.deferred (some [])) := by
    rw [← hW1, ← hD]; exact (Below.heap_alloc _ _ _ (by simp)).trans (World.alloc_heap_new w _)
  have hi1 : I 0 W1 := by rw [← hW1]; exact hI.alloc _ (hI.alloc _ h0)
  have hb1 : Below w0.heap.size w0 W1 := by rw [← hW1]; exact hb0.trans ((((Below.refl _ w).alloc (Nat.le_refl _) _).alloc (by simp) _).mono hb0.size)
  have hlD : L = D + 1 := by omega
  refine ⟨L, [{ target := .collected D, args := #[] }], W1, { target := .fn (.func gf) lb, args := #[.func (.yield L) #[] #[]] }, W1, gf,
    #[.func (.yield L) #[] #[]] ++ lb, W1, ?_, ?_, ?_, ?_, fun _ => by omega, ?_⟩
  · rw [← hW1, hrc, ← hL, ← hD]; exact run_enterLoop_outer _ _ _ _ _
  · simp only [resolve, hg]
    simp [go_sem]
  · exact fun _ _ => trivial
  · simp [invoke, go_sem, eg]
  -- the record's two blocks, beside what the caller holds
  have recs : ∀ (st : LoopState) (pe : Option Code), OwnFrom W1.heap.size (fun (_ : Nat) (W : World) => (L < W.heap.size ∧ W.heap[L]? = some (.loop (rc st pe))) ∧ D < W.heap.size ∧ W.heap[D]? = some (.deferred (some []))) := fun st pe =>
    OwnFrom.and (ownFrom_block _ (by omega)) (ownFrom_block _ (by omega))
  have lt : ∀ {W : World} {b : Nat} {o : Obj}, W.heap[b]? = some o → b < W.heap.size := fun h => (Array.getElem?_eq_some_iff.1 h).1
  refine (hseq (n - 1) L
    (fun k W => I k W ∧ (L < W.heap.size ∧ W.heap[L]? = some (.loop (rc .ready none))) ∧ D < W.heap.size ∧ W.heap[D]? = some (.deferred (some [])))
    (fun k W => I' k W ∧ (L < W.heap.size ∧ W.heap[L]? = some (.loop (rc .ready none))) ∧ D < W.heap.size ∧ W.heap[D]? = some (.deferred (some [])))
    (fun k W => ∃ c, Ix c k W ∧ (L < W.heap.size ∧ W.heap[L]? = some (.loop (rc .done (some c)))) ∧ D < W.heap.size ∧ W.heap[D]? = some (.deferred (some [])))
    W1 (by omega) hb1 (by omega) (OwnFrom.and (ownFrom_mono hI (by omega)) (recs _ _)) (OwnFrom.and (ownFrom_mono hI' (by omega)) (recs _ _))
    (fun k A B row hs hg' hr => by obtain ⟨c, hc, hr2⟩ := hs; exact ⟨c, ownFrom_mono (hIx c) (by omega) k A B row hc hg' hr, recs _ _ k A B row hr2 hg' hr⟩)
    (fun k A hk hs => hNd k A hk hs.1) ?_ (fun hf W' hs => hfin hf W' hs.1) ?_ ⟨hi1, ⟨lt hl1, hl1⟩, lt hd1, hd1⟩).mono ?_
  · rintro k A B hk ⟨hi, ⟨_, hl⟩, _, hd⟩ ht
    have hl' := (hT _ _ _ _ ht).2 L _ (by omega) hl rfl
    have hd' := (hT _ _ _ _ ht).2 D _ (by omega) hd rfl
    exact ⟨hIT _ k A B (by omega) hk hi ht, ⟨lt hl', hl'⟩, lt hd', hd'⟩
  · -- one round
    rintro k b W ⟨hi, ⟨_, hl⟩, _, hd⟩ hvs hlen hm
    have hlt : L < W.heap.size := lt hl
    have hy := run_yield (P := P) (args := xs k b) hl (by rw [hrc]; exact hps k b)
    rw [hrc] at hy
    refine ⟨fn, _, assign, body, hy, roundIn_of_wpIn hfn (hassign _ k b W _ ⟨_, run_beginRound hl (by rw [hrc]), ?_⟩)⟩
    have hl2 : (W.putObj L (.loop { rc .ready none with state := .busy })).heap[L]? = some (.loop { rc .ready none with state := .busy }) := World.putObj_heap_same hlt
    have hd2 : (W.putObj L (.loop { rc .ready none with state := .busy })).heap[D]? = some (.deferred (some [])) := (World.putObj_heap_other (by omega)).trans hd
    have hw2 : Kp W (W.putObj L (.loop { rc .ready none with state := .busy })) := hKb _ _ _ _ (by omega) hl rfl rfl
    have hk2 : Keeps W1.heap.size W1.heap.size m W (W.putObj L (.loop { rc .ready none with state := .busy })) := Keeps.putObj (by omega) (by omega)
    refine wpIn_mono (hbody _ k b _ (hI'.putObj _ hi (by omega) hl rfl) (hVp k b W _ _ _ hvs hl rfl) hlen (by simp; omega)) ?_
    have fin : ∀ (jump : Option Code) (W3 : World), Keeps w.heap.size (w.heap.size + 2) m (W.putObj L (.loop { rc .ready none with state := .busy })) W3 →
        (Instr.endRound L jump).run P W3 = .ok (.bool jump.isNone) (W3.putObj L (.loop (rc (if jump.isNone then .ready else .done) jump))) ∧
        W3.heap[L]? = some (.loop { rc .ready none with state := .busy }) ∧
        (W3.putObj L (.loop (rc (if jump.isNone then .ready else .done) jump))).heap[L]? = some (.loop (rc (if jump.isNone then .ready else .done) jump)) ∧
        (W3.putObj L (.loop (rc (if jump.isNone then .ready else .done) jump))).heap[D]? = some (.deferred (some [])) ∧
        Keeps W1.heap.size W1.heap.size m W (W3.putObj L (.loop (rc (if jump.isNone then .ready else .done) jump))) := fun jump W3 hk3 => by
      have hl3 := hk3.others L _ (by omega) hl2 rfl
      have hd3 := hk3.others D _ (by omega) hd2 rfl
      have := run_endRound (P := P) jump hl3
      rw [hrc] at this ⊢
      exact ⟨this, by rw [hrc] at hl3; exact hl3, World.putObj_heap_same (lt hl3), (World.putObj_heap_other (by omega)).trans hd3, by rw [hrc] at hk2 hk3; exact hk2.trans ((hk3.mono (by omega) (by omega) (by omega)).trans (Keeps.putObj (by omega) (by omega)))⟩
    rintro e a3 W3 hp
    cases e with
    | normal =>
      obtain ⟨hk3, hkp3, hi3⟩ := hp
      obtain ⟨hr, hl3, hl4, hd4, hk4⟩ := fin none W3 hk3
      exact ⟨_, _, hr, .inl ⟨rfl, ⟨hI.putObj _ hi3 (by omega) hl3 rfl, ⟨lt hl4, hl4⟩, lt hd4, hd4⟩, hKt (hKt hw2 hkp3) (hKb _ _ _ _ (by omega) hl3 rfl rfl), hk4⟩⟩
    | ret =>
      obtain ⟨hk3, hi3⟩ := hp
      obtain ⟨hr, hl3, hl4, hd4, hk4⟩ := fin (some .ret) W3 hk3
      exact ⟨_, _, hr, .inr ⟨rfl, ⟨.ret, (hIx _).putObj _ hi3 (by omega) hl3 rfl, ⟨lt hl4, hl4⟩, lt hd4, hd4⟩, hk4⟩⟩
    | exit id =>
      obtain ⟨hk3, hi3⟩ := hp
      obtain ⟨hr, hl3, hl4, hd4, hk4⟩ := fin (some (.exit id)) W3 hk3
      exact ⟨_, _, hr, .inr ⟨rfl, ⟨.exit id, (hIx _).putObj _ hi3 (by omega) hl3 rfl, ⟨lt hl4, hl4⟩, lt hd4, hd4⟩, hk4⟩⟩
    | goto t =>
      obtain ⟨hk3, hi3⟩ := hp
      obtain ⟨hr, hl3, hl4, hd4, hk4⟩ := fin (some (.goto t)) W3 hk3
      exact ⟨_, _, hr, .inr ⟨rfl, ⟨.goto t, (hIx _).putObj _ hi3 (by omega) hl3 rfl, ⟨lt hl4, hl4⟩, lt hd4, hd4⟩, hk4⟩⟩
    | panic ch => exact hp.elim
    | outgrown => exact hp.elim
  · -- behind the iterator
    rintro e W2 ⟨⟨v, rfl⟩, (⟨hi, ⟨_, hl⟩, _, hd⟩ | ⟨k, hk0, hk, c, hi, ⟨_, hl⟩, _, hd⟩)⟩
    · exact ⟨none, _, by have := run_endLoop (P := P) hl (by rw [hrc]; simp); rw [hrc] at this; exact this, hdone _ _ (by omega) (hI'.putObj _ hi (by omega) hl rfl) ((World.putObj_heap_other (by omega)).trans hd)⟩
    · exact ⟨some c, _, by have := run_endLoop (P := P) hl (by rw [hrc]; simp); rw [hrc] at this; exact this, hstop _ c k _ (by omega) hk0 hk ((hIx c).putObj _ hi (by omega) hl rfl) ((World.putObj_heap_other (by omega)).trans hd)⟩

end Go.Proofs.YtaemogcomplhiaaGreatDoor

namespace Go.Proofs.YtaemogcomplhiaaGreatDoor
open Go.RowKit
section
variable {P : Program} {ops : Array Oper} {Q : Exit → Act → World → Prop} {n : Nat}
theorem oper_wide {o : Oper} {a : Act} {w : World} {K : Act → World → Prop} (hd : Par.noDefer o = true) (hh : o.wp P a w K Q) : o.wpIn Fence.wide n P a w K Q := by
  refine ⟨fun _ _ => trivial, ?_⟩
  rw [Oper.semAt_eq _ _ _ (Par.noDefer_spec hd)]
  unfold Oper.wp at hh
  generalize (execOp a.eval o).run P w = r at *
  cases r with
  | ok x w' =>
    cases x <;> simp only [Oper.upon, Oper.uponIn] at hh ⊢
    case enter f args => exact ⟨(fun h => by cases h), (callsIn_wide (n := n - 1)).2 hh⟩
    case row r args => exact ⟨(fun h => by cases h), fun c cs _ => let ⟨v, w'', r, s⟩ := hh c cs; ⟨v, w'', r, stepsIn_wide.2 s⟩⟩
    all_goals first | exact hh | exact hh.elim
  | halt x w' => cases x <;> simp only [Oper.upon, Oper.uponIn] at hh ⊢ <;> exact hh
theorem ops_step {i : Nat} {rest : List Nat} {o : Oper} {a : Act} {w : World} (ho : ops[i]? = some o) (hw : Region.wanted o (yielded ops a.tmps) = true) (hd : Par.noDefer o = true) (h : ∀ K : Act → World → Prop, (∀ a' w', wpOpsIn Fence.wide n P ops Q rest a' w' → K a' w') → o.wp P a w K Q) : wpOpsIn Fence.wide n P ops Q (i :: rest) a w := by
 rw [wpOpsIn_cons]
 refine wpOpIn_step ho fun K hK => ?_
 rw [if_pos hw]
 exact oper_wide hd (h K hK)
end
end Go.Proofs.YtaemogcomplhiaaGreatDoor

namespace Go.Proofs.YtaemogcomplhiaaGreatDoor
open Go.RowKit

theorem RB.takeS {w : World} {P : Nat → Prop} {A : Option Addr} {c : Nat} {bs : List Nat} (h : RB w P A c bs) (n : Nat) : RB w P A c (bs.take n) := by
 obtain ⟨⟨h1, h2, h3, h4⟩, h5, h6⟩ := h
 refine ⟨⟨by rw [List.length_take]; omega, h2, by simp [bys], fun hn => ?_⟩, fun x hx => h5 x (List.mem_of_mem_take hx), by rw [List.length_take]; omega⟩
 obtain ⟨ad, e, hP, hc⟩ := h4 (by rw [List.length_take] at hn; omega)
 refine ⟨ad, e, hP, fun j u hu => hc j u ?_⟩
 rw [bys, List.map_take, List.getElem?_take] at hu
 split at hu
 · exact hu
 · cases hu
end Go.Proofs.YtaemogcomplhiaaGreatDoor

namespace Go.Proofs.YtaemogcomplhiaaGreatDoor
open Go.RowKit
open Sha
attribute [local go_sem] Oper.semAt_some

theorem chunks_any (A : Option Addr) (len c : Nat) (w : World) : Calls Tryz.prog 144 #[.slice A len c, .int .i64 64] w fun e w' => e = .returned (.func (.func 158) #[] #[.pointer (some ⟨w.heap.size + 1, 0, none⟩), .pointer (some ⟨w.heap.size, 0, none⟩)]) ∧
 w' = (w.alloc (.cells #[.slice A len c] 22)).alloc (.cells #[.int .i64 64] 3) := by
 go_enter Tryz.func144, Tryz.ntmps144
 go_wp2
 go_ret
 exact ⟨rfl, rfl⟩
theorem OW.mono {w : World} {base base' : Nat} {A : Option Addr} {c : Nat} {bs : List Nat} (h : OW w base A c bs) (hb : base' ≤ base) : OW w base' A c bs := by
 obtain ⟨⟨h1, h2⟩, h3⟩ := h
 refine ⟨⟨h1, ?_⟩, h3⟩
 rcases h2 with h2 | ⟨g, cap, cur, e, hg, h4⟩
 · exact .inl h2
 · exact .inr ⟨g, cap, cur, e, Nat.le_trans hb hg, h4⟩
def pc (l : List Nat) (k : Nat) : List Nat := (l.drop (64 * k)).take 64
def TBox (bb : Nat) (_B _k : Nat) (W W' : World) : Prop := Just bb W W' ∧ ∃ cs t, W.heap[bb]? = some (.cells cs t (0, 0))
def KBox (bb bn : Nat) (W W' : World) : Prop := W'.heap[bb]? = W.heap[bb]? ∧ W'.heap[bn]? = W.heap[bn]?
theorem KBox.trans {bb bn : Nat} {a b c : World} (h : KBox bb bn a b) (k : KBox bb bn b c) : KBox bb bn a c := ⟨k.1.trans h.1, k.2.trans h.2⟩
theorem tbox_keeps (bb : Nat) : ∀ B k W1 W2, TBox bb B k W1 W2 → W1.heap.size ≤ W2.heap.size ∧ ∀ (b : Nat) (o : Obj), b < B → W1.heap[b]? = some o → o.isCells = false → W2.heap[b]? = some o := fun _ _ _ _ h =>
 ⟨h.1.size, fun b o _ hb ho => h.1.at_ (fun e => by
  obtain ⟨cs, t, hc⟩ := h.2
  rw [e, hc] at hb
  injection hb with hb
  rw [← hb] at ho
  cases ho) hb⟩
def LeftAt (w : World) (bb : Nat) (A : Option Addr) (_c : Nat) (all : List Nat) (k : Nat) : Prop :=
 ∃ A' c', w.heap[bb]? = some (.cells #[.slice A' (all.drop (64 * k)).length c'] 22 (0, 0)) ∧ (all.drop (64 * k)).length ≤ c' ∧ c' ≤ maxLen ∧ (64 * k < all.length → A' = A.map (·.add (64 * k)))
theorem left_rb {X : World} {c k : Nat} {A : Option Addr} {P : Nat → Prop} {all : List Nat} {A' : Option Addr} {c' : Nat} (h1 : (all.drop (64 * k)).length ≤ c') (h2 : c' ≤ maxLen) (h3 : 64 * k < all.length → A' = A.map (·.add (64 * k))) (hk : 64 * k ≤ all.length) (hr : RB X P A c all) : RB X P A' c' (all.drop (64 * k)) :=
 hr.from' hk (by rw [List.length_drop] at h1; exact h1) h2 h3
set_option maxRecDepth 100000 in
set_option maxHeartbeats 8000000 in
theorem chunks_seq {bb bn : Nat} {A : Option Addr} {c : Nat} {P : Nat → Prop} (all : List Nat) (w : World) (hb : w.heap[bb]? = some (.cells #[.slice A all.length c] 22 (0, 0))) (hn : w.heap[bn]? = some (.cells #[.int .i64 64] 3 (0, 0))) (hne : bb ≠ bn)
 (hc : all.length ≤ c) (hc' : c ≤ maxLen) (hl : all.length ≤ 1000000) (hP : ∀ b, P b → b < w.heap.size ∧ b ≠ bb) :
 SeqAtV Tryz.prog 158 #[.pointer (some ⟨bn, 0, none⟩), .pointer (some ⟨bb, 0, none⟩)] (fun k v => #[.int .i64 (k : Int), v]) (fun k v X => ∃ A' c', v = .slice A' (pc all k).length c' ∧ OW X w.heap.size A' c' (pc all k)) (fun _ X => RB X P A c all) (TBox bb) (KBox bb bn) 0 ((all.length + 63) / 64) true w := by
 intro n l' J J' Jx W hnn hW _ _ _ _ hNd hT hfin hY h0
 have hbW := (hW.block bb (blk_lt hb)).trans hb
 have hnW := (hW.block bn (blk_lt hn)).trans hn
 have zb := blk_lt hb
 have zn := blk_lt hn
 have zW := hW.size
 have HT := Lib.hid hT
 have HY := Lib.hid hY
 have HN := Lib.hid hNd
 have HP := Lib.hid hP
 obtain ⟨N, hN⟩ : ∃ N, (all.length + 63) / 64 = N := ⟨_, rfl⟩
 rw [hN] at HY HT HN ⊢
 have HNN := Lib.hid hN
 clear hT hY hfin hNd hP hN
 have hLe : LeftAt W bb A c all 0 := ⟨A, c, hbW, by simpa using hc, hc', fun _ => by cases A <;> simp [Addr.add]⟩
 have HL0 := Lib.hid hLe
 have nc := blk_cell hnW 0
 simp only [List.getElem?_toArray, List.getElem?_cons_zero] at nc
 clear hLe hbW hb hn
 refine callsIn_of_wp Tryz.func158 rfl trivial ?_ rfl
 simp only [Tryz.ntmps158, List.size_toArray, List.length_cons, List.length_nil, Nat.reduceAdd, Nat.reduceSub, Array.replicate_succ, Array.replicate_zero, List.push_toArray, List.append_toArray, List.nil_append, List.cons_append]
 refine wpIn_wide.2 ?_
 go_wp2_with fail
 refine (wpIn_wide (n := n)).1 ?_
 gi_loopg [4] N (fun d i wr => ∃ (k : Nat) (Wk : World), d + k = N ∧ i = .int .i64 (k : Int) ∧ J k Wk ∧ TBox bb W.heap.size k Wk wr ∧ LeftAt wr bb A c all k ∧ wr.heap[bn]? = some (.cells #[.int .i64 64] 3 (0, 0)) ∧ W.heap.size ≤ Wk.heap.size)
 case atStart => exact ⟨0, W, Nat.add_zero _, rfl, h0, ⟨Just.refl _ _, let ⟨_, _, h, _⟩ := HL0.out; ⟨_, _, h⟩⟩, HL0.out, hnW, Nat.le_refl _⟩
 case round =>
  obtain ⟨k, Wk, hdk, rfl, hJk, hTk, hLk, hnk, hzk⟩ := hrel
  clear HL0 h0 nc
  have hrk := HN.out k Wk (by omega) hJk
  have hrr : RB wr P A c all := hrk.keep fun p hp => World.cell?_of_block (hTk.1.block _ (Nat.lt_of_lt_of_le (HP.out _ hp).1 (by omega)) (HP.out _ hp).2)
  obtain ⟨A', c', hbk, q1, q2, q3⟩ := hLk
  have hNk : 64 * k ≤ all.length ∨ all.length < 64 * k := by omega
  have cb := blk_cell hbk 0
  have cn := blk_cell hnk 0
  simp only [List.getElem?_toArray, List.getElem?_cons_zero] at cb cn
  by_cases hkN : k < N
  · have hkl : 64 * k < all.length := by have := HNN.out; omega
    have HRB := Lib.hid (left_rb q1 q2 q3 (by omega) hrr)
    obtain ⟨rest, hrest⟩ : ∃ r, all.drop (64 * k) = r := ⟨_, rfl⟩
    rw [hrest] at hbk cb q1 HRB
    have hrl : rest.length = all.length - 64 * k := by rw [← hrest, List.length_drop]
    have hr0 : (0 : Int) < (rest.length : Int) := by omega
    have Hrl := Lib.hid hrl
    have Hrest := Lib.hid hrest
    clear hrest hrl hNk
    obtain ⟨ad, rfl⟩ : ∃ ad, A' = some ad := by obtain ⟨ad, e, _⟩ := HRB.out.dg (i := 0) (by omega); exact ⟨ad, e⟩
    have Q3 := Lib.hid q3
    obtain ⟨m, hm⟩ : ∃ m : Nat, min 64 rest.length = m := ⟨_, rfl⟩
    have hmin : min (64 : Int) (rest.length : Int) = (m : Int) := by omega
    have hm1 : (0 : Int) ≤ (m : Int) := by omega
    have hm2 : (m : Int) ≤ (rest.length : Int) := by omega
    have hm3 : (m : Int) ≤ (c' : Int) := by omega
    obtain ⟨p, hp⟩ : ∃ p, rest.take m = p := ⟨_, rfl⟩
    have hpl : p.length = m := by rw [← hp, List.length_take]; omega
    have hpk : pc all k = p := by
     rw [pc, Hrest.out, ← hp, ← hm]
     rcases Nat.le_total 64 rest.length with h | h
     · rw [Nat.min_eq_left h]
     · rw [Nat.min_eq_right h, List.take_length, List.take_of_length_le h]
    have hrl := Hrl.out
    have hcl := cloneO P (some ad) c' p wr (by rw [← hp]; exact HRB.out.takeS m) (fun b hb => Nat.lt_of_lt_of_le (HP.out b hb).1 (Nat.le_trans (Nat.le_trans zW hzk) hTk.1.size)) (fun e => by rw [e] at hpl; simp at hpl; omega) (by omega)
    rw [hpl] at hcl
    have Hcl := Lib.hid hcl
    have Hpk := Lib.hid hpk
    have Hpl := Lib.hid hpl
    have Hp := Lib.hid hp
    have Hm := Lib.hid hm
    clear hm hp hpl hpk hcl q3 hrl
    gi_upto_region 5 with fail
    refine wpIn_region ?_
    show wpOpsIn _ _ _ _ _ [0, 1, 2, 3, 4, 5, 6, 7] _ _
    refine ops_step rfl (by kernel_rfl) (by kernel_rfl) (fun K hK => ?_)
    go_simp
    refine hK _ _ ?_
    clear hK
    refine ops_step rfl (by kernel_rfl) (by kernel_rfl) (fun K hK => ?_)
    go_simp
    refine hK _ _ ?_
    clear hK
    refine ops_step rfl (by kernel_rfl) (by kernel_rfl) (fun K hK => ?_)
    go_simp
    refine hK _ _ ?_
    clear hK
    refine ops_step rfl (by kernel_rfl) (by kernel_rfl) (fun K hK => ?_)
    go_simp
    refine hK _ _ ?_
    clear hK
    refine ops_step rfl (by kernel_rfl) (by kernel_rfl) (fun K hK => ?_)
    go_simp
    refine hK _ _ ?_
    clear hK
    refine ops_step rfl (by kernel_rfl) (by kernel_rfl) (fun K hK => ?_)
    go_simp
    refine Hcl.out.mono ?_
    rintro e w4 ⟨A2, c2, rfl, ho2, _, hE4⟩
    go_simp
    refine hK _ _ ?_
    clear hK
    have hJ4 := HT.out k Wk w4 (by omega) hJk ⟨hTk.1.trans (Just.of_below hE4 (Nat.le_refl _)), hTk.2⟩
    have z4 := hE4.bsize
    obtain ⟨fn, tmps, assign, body, hy, hRo⟩ := HY.out k (.slice A2 m c2) w4 hJ4 ⟨A2, c2, by rw [Hpk.out, Hpl.out], by rw [Hpk.out]; exact ho2.mono (Nat.le_trans (Nat.le_trans zW hzk) hTk.1.size)⟩ hkN (by have := hTk.1.size; omega)
    have HE4 := Lib.hid hE4
    clear ho2 hE4 hJ4 hJk
    rw [wpOpsIn_cons]
    refine wpOpIn_step rfl (fun K hK => ?_)
    rw [if_pos (by kernel_rfl)]
    gi_wp2
    refine hRo.mono ?_
    rintro e W3 (⟨rfl, hJ3, hk3, hs3⟩ | ⟨rfl, hJx3, _⟩)
    · have hb3 := hk3.1.trans (HE4.out.at_ hbk)
      have hn3 := hk3.2.trans (HE4.out.at_ hnk)
      have c3 := blk_cell hb3 0
      have f3 := blk_free hb3 0
      simp only [List.getElem?_toArray, List.getElem?_cons_zero] at c3
      have z3 := hs3.size
      have hrl := Hrl.out
      have hmm := Hm.out
      have hs0 := hTk.1.size
      have hdl : (all.drop (64 * (k + 1))).length = rest.length - m := by rw [List.length_drop]; omega
      clear hk3 hs3 hbk hnk cb cn hy hRo HE4 HRB
      by_cases hcm : c' = m
      · obtain rfl : m = c' := hcm.symm
        have hset := blk_set hb3 0 (.slice (some ad) 0 0)
        rw [show (#[Value.slice (some ad) rest.length m] : Array Value).setIfInBounds 0 (.slice (some ad) 0 0) = #[.slice (some ad) 0 0] from rfl] at hset
        have hjs := (Just.refl bb W3).set 0 (.slice (some ad) 0 0)
        have hn4 := hjs.at_ (fun e => hne e.symm) hn3
        have hT4 : TBox bb W.heap.size (k + 1) W3 (W3.setCell ⟨bb, 0, none⟩ (.slice (some ad) 0 0)) := ⟨hjs, _, _, hb3⟩
        have hL4 : LeftAt (W3.setCell ⟨bb, 0, none⟩ (.slice (some ad) 0 0)) bb A c all (k + 1) := ⟨(some ad), 0, by rw [hdl, show rest.length - m = 0 by omega]; exact hset, by omega, by omega, fun h => absurd h (by omega)⟩
        have HT4 := Lib.hid hT4
        have HL4 := Lib.hid hL4
        have HN4 := Lib.hid hn4
        clear hset hjs hn4 hT4 hL4 hb3 hn3 hrl hmm hdl
        gi_wp2
        refine ops_step rfl (by kernel_rfl) (by kernel_rfl) (fun K hK => ?_)
        go_simp
        refine hK _ _ ?_
        clear hK
        simp only [wpOpsIn]
        gi_upto_region 6 with fail
        gi_wp2
        gi_roundg (gk - 1)
        case rel => exact ⟨k + 1, W3, by omega, by go_num, hJ3, HT4.out, HL4.out, HN4.out, by omega⟩
        case measure => omega
      · have hcm' : ¬ (c' : Int) = (m : Int) := by omega
        have hset := blk_set hb3 0 (.slice (some (ad.add m)) (rest.length - m) (c' - m))
        rw [show (#[Value.slice (some ad) rest.length c'] : Array Value).setIfInBounds 0 (.slice (some (ad.add m)) (rest.length - m) (c' - m)) = #[.slice (some (ad.add m)) (rest.length - m) (c' - m)] from rfl] at hset
        have hjs := (Just.refl bb W3).set 0 (.slice (some (ad.add m)) (rest.length - m) (c' - m))
        have hn4 := hjs.at_ (fun e => hne e.symm) hn3
        have hT4 : TBox bb W.heap.size (k + 1) W3 (W3.setCell ⟨bb, 0, none⟩ (.slice (some (ad.add m)) (rest.length - m) (c' - m))) := ⟨hjs, _, _, hb3⟩
        have hL4 : LeftAt (W3.setCell ⟨bb, 0, none⟩ (.slice (some (ad.add m)) (rest.length - m) (c' - m))) bb A c all (k + 1) := ⟨(some (ad.add m)), c' - m, by rw [hdl]; exact hset, by omega, by omega, fun h => by have h1 := Q3.out hkl; cases A with | none => cases h1 | some a0 => (injection h1 with h1; simp only [Option.map_some]; rw [h1, add_of_add]; congr 2; omega)⟩
        have HT4 := Lib.hid hT4
        have HL4 := Lib.hid hL4
        have HN4 := Lib.hid hn4
        clear hset hjs hn4 hT4 hL4 hb3 hn3 hrl hmm hdl
        gi_wp2
        refine ops_step rfl (by kernel_rfl) (by kernel_rfl) (fun K hK => ?_)
        go_simp
        refine hK _ _ ?_
        clear hK
        simp only [wpOpsIn]
        gi_upto_region 6 with fail
        gi_wp2
        gi_roundg (gk - 1)
        case rel => exact ⟨k + 1, W3, by omega, by go_num, hJ3, HT4.out, HL4.out, HN4.out, by omega⟩
        case measure => omega
    · gi_wp2
      refine ops_step rfl (by kernel_rfl) (by kernel_rfl) (fun K hK => ?_)
      go_simp
      refine hK _ _ ?_
      clear hK
      simp only [wpOpsIn]
      gi_wp2
      exact bodyPost_ret (results_none rfl _ _ _) rfl ⟨⟨_, rfl⟩, .inr ⟨k + 1, by omega, by omega, hJx3⟩⟩
  · obtain rfl : k = N := by omega
    have hd0 : (all.drop (64 * k)).length = 0 := by have := HNN.out; rw [List.length_drop]; omega
    rw [hd0] at hbk cb
    have hJ' := HT.out k Wk wr (Nat.le_refl _) hJk hTk
    gi_wp2
    go_end0
    exact ⟨⟨_, rfl⟩, .inl hJ'⟩
end Go.Proofs.YtaemogcomplhiaaGreatDoor
