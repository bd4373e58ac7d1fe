/- What attrs.Num, attrs.Bool and the reference's, and zbyte's functions compute. -/
import Derived.Test.YtpikikaoelnheaaOwn
namespace Go.Proofs.Ytpikikaoelnheaa
open Go.RowKit

/-- The four bytes of a number. -/
def num4 (v : Int) : List Nat := [(v / 16777216 % 256).toNat, (v / 65536 % 256).toNat, (v / 256 % 256).toNat, (v % 256).toNat]
theorem num4_lt (v : Int) : ∀ b ∈ num4 v, b < 256 := by
  intro b hb
  simp [num4] at hb
  omega
theorem bys_num4 (v : Int) : bys (num4 v) = [.int .u8 (v / 16777216 % 256), .int .u8 (v / 65536 % 256), .int .u8 (v / 256 % 256), .int .u8 (v % 256)] := by
  simp [bys, num4]
  omega

theorem RB.setCell {w : World} {P : Nat → Prop} {A : Option Addr} {c : Nat} {bs : List Nat} (h : RB w P A c bs) {p : Addr} (hp : ¬ P p.block) (u : Value) : RB (w.setCell p u) P A c bs :=
  h.keep fun q hq => World.cell?_setCell_other w p q u (fun e => by subst e; exact hp hq)
/-- Behind a block of new bytes. -/
theorem RB.fresh {w : World} {P : Nat → Prop} (cs : Array Value) (t : TypeId) (bs : List Nat) (n H : Nat) (h : cs.toList = bys bs) (hb : ∀ b ∈ bs, b < 256) (hn : bs.length = n) (hl : n ≤ 1000000) (hH : w.heap.size = H) (hP : P H) : RB (w.alloc (.cells cs t)) P (some ⟨H, 0, none⟩) n bs := by
  subst hH hn
  have h1 : cs.size = bs.length * 1 := by
    have := congrArg List.length h
    simp [bys] at this
    omega
  have := RS.fresh (w := w) (P := P) cs t 1 bs.length h1 (by unfold maxLen; omega) hP
  rw [h] at this
  exact ⟨this, hb, by omega⟩
theorem grownBy_alloc_left {w w1 : World} {o : Obj} {row : Option Nat} (h : (w.alloc o).grownBy w1 row) : w.grownBy w1 row :=
  ⟨h.os, h.tape, h.output, by have := h.size; simp at this; omega, fun k hk hne => (h.block k (by simp; omega) hne).trans (Below.heap_alloc w o k hk)⟩

set_option maxHeartbeats 400000 in
theorem refNum_any (t v : Int) (w : World) :
    Calls Try.prog 26 #[.int .i64 t, .int .i64 v] w fun e w' => ∃ A c, e = .returned (.agg #[.int .i64 t, .slice A (num4 v).length c]) ∧ RB w' (In w.heap.size w'.heap.size) A c (num4 v) ∧ Below w.heap.size w w' := by
  go_enter Try.func26, Try.ntmps26
  go_wp2
  refine bodyPost_ret (v := .agg #[.int .i64 t, .slice (some ⟨w.heap.size + 1, 0, none⟩) 4 4]) (by simp [results, Try.results26, go_sem]) rfl ⟨_, _, rfl, ?_, ?_⟩
  · exact RB.fresh _ _ _ _ _ (by rw [bys_num4]) (num4_lt v) rfl (by decide) (by simp) ⟨by omega, by simp⟩
  · exact ((Below.refl _ w).alloc (Nat.le_refl _) _).alloc (by simp) _

set_option maxHeartbeats 400000 in
theorem append32_any (x : Int) (base : Nat) (A : Option Addr) (c n : Nat) (bs : List Nat) (w : World) (hx : 0 ≤ x ∧ x < 4294967296) (h : w.ownsRow base 5 1 (.slice A n c) n (bys bs)) (hbase : base ≤ w.heap.size) (hl : n ≤ 1000000) :
    Calls Try.prog 50 #[.slice A n c, .int .u32 x] w fun e w' => ∃ A' c', e = .returned (.slice A' (n + 4) c') ∧ w'.ownsRow base 5 1 (.slice A' (n + 4) c') (n + 4) (bys (bs ++ num4 x)) ∧ w.grownBy w' (Value.slice A n c).ownBlock := by
  obtain ⟨i0, hi, hz0, hz1, hz2⟩ := info_parts info5
  go_enter Try.func50, Try.ntmps50
  go_wp2_with (at_builtin; refine wpList_append_rs _ rfl _ _ 46 rfl base 5 i0 (.int .u8 0) 1 1 Try.underlying46 hi hz0 hz1 hz2 rfl (by decide) _ _ _ rfl (h.alloc _) (fun _ => True) (some ⟨w.heap.size, 0, none⟩) 4 4 (bys (num4 x)) rfl ?src (oneCell_bys _) (n + 4) rfl (by unfold maxLen; omega) (by omega) (by simp; omega) ?_)
  case src =>
    have e : (bys (num4 x)) = [.int .u8 (x / 16777216), .int .u8 (x / 65536 % 256), .int .u8 (x / 256 % 256), .int .u8 (x % 256)] := by
      rw [bys_num4, show x / 16777216 % 256 = x / 16777216 from by omega]
    rw [e]
    exact RS.fresh _ _ 1 4 rfl (by unfold maxLen; omega) trivial
  intro A' c' w1 hown hgrow hor
  go_wp2
  go_ret
  exact ⟨A', c', rfl, by rw [bys, List.map_append]; exact hown, grownBy_alloc_left hgrow⟩

/-- Bytes owned, out of nothing. -/
theorem RB.of_own' {w : World} {base n : Nat} {e : TypeId} {A : Option Addr} {c : Nat} {bs : List Nat} (h : w.ownsRow base e 1 (.slice A n c) n (bys bs)) (hn : bs.length = n) (hb : ∀ b ∈ bs, b < 256) (hl : n ≤ 140737488355328) : RB w (In base w.heap.size) A c bs := by
  subst hn
  exact RB.of_own h hb hl

set_option maxHeartbeats 400000 in
theorem num_any (t v : Int) (w : World) :
    Calls Try.prog 24 #[.int .i64 t, .int .i64 v] w fun e w' => ∃ A c, e = .returned (.agg #[.int .i64 t, .slice A (num4 v).length c]) ∧ RB w' (In w.heap.size w'.heap.size) A c (num4 v) ∧ Below w.heap.size w w' := by
  have e4 : num4 (v % 4294967296) = num4 v := by
    simp [num4]
    omega
  go_enter Try.func24, Try.ntmps24
  go_wp2_with fail
  refine (append32_any (v % 4294967296) _ none 0 0 [] _ (by omega) (World.ownsRow_nil _ (w.heap.size + 1) _ _) (by simp) (by omega)).mono ?_
  rintro e w1 ⟨A1, c1, rfl, hown, hg⟩
  rw [e4] at hown
  have hb1 : Below w.heap.size w w1 := ((Below.refl _ w).alloc (Nat.le_refl _) _).grown hg (by simp) (by simp [Value.ownBlock])
  have hc := (hg.block w.heap.size (by simp) (by simp [Value.ownBlock])).trans (heap_alloc_new w _)
  have c0 := blk_cell hc 0
  have c1' := blk_cell hc 1
  simp at c0 c1'
  have f0 := blk_free hc 0
  have f1 := blk_free hc 1
  have hlt := blk_lt hc
  have Hc := Lib.hid hc
  clear hc hg
  go_wp2
  refine bodyPost_ret (v := .agg #[.int .i64 t, .slice A1 4 c1]) (by simp [results, Try.results24, go_sem, c0, c1']) rfl ⟨_, _, rfl, ?_, ?_⟩
  · have h1 : RB w1 (In (w.heap.size + 1) w1.heap.size) A1 c1 (num4 v) := RB.of_own' (n := 4) (by simpa using hown) rfl (num4_lt v) (by omega)
    refine ((h1.setCell (p := ⟨w.heap.size, 0, none⟩) (fun h => by have := h.1; simp at this; omega) _).setCell (p := ⟨w.heap.size, 1, none⟩) (fun h => by have := h.1; simp at this; omega) _).mono fun b hb => ⟨by have := hb.1; omega, by have := hb.2; simpa [World.setCell] using this⟩
  · exact (hb1.setCell (p := ⟨w.heap.size, 0, none⟩) (Nat.le_refl _) _).setCell (p := ⟨w.heap.size, 1, none⟩) (Nat.le_refl _) _

theorem bys_one (n : Nat) : bys [n] = [.int .u8 (n : Int)] := rfl

set_option maxHeartbeats 400000 in
theorem bool_any (t : Int) (v : Bool) (w : World) :
    Calls Try.prog 23 #[.int .i64 t, .bool v] w fun e w' => ∃ A c, e = .returned (.agg #[.int .i64 t, .slice A 1 c]) ∧ RB w' (In w.heap.size w'.heap.size) A c [v.toNat] ∧ Below w.heap.size w w' := by
  cases v
  all_goals
    go_enter Try.func23, Try.ntmps23
    go_wp2
    refine bodyPost_ret (v := .agg #[.int .i64 t, .slice (some ⟨w.heap.size + 1, 0, none⟩) 1 1]) (by simp [results, Try.results23, go_sem]) rfl ⟨_, _, rfl, ?_, ?_⟩
    · exact RB.fresh _ _ _ _ _ rfl (by simp) rfl (by decide) (by simp) ⟨by omega, by simp⟩
    · exact ((Below.refl _ w).alloc (Nat.le_refl _) _).alloc (by simp) _

set_option maxHeartbeats 400000 in
theorem refBool_any (t : Int) (v : Bool) (w : World) :
    Calls Try.prog 25 #[.int .i64 t, .bool v] w fun e w' => ∃ A c, e = .returned (.agg #[.int .i64 t, .slice A 1 c]) ∧ RB w' (In w.heap.size w'.heap.size) A c [v.toNat] ∧ Below w.heap.size w w' := by
  cases v
  all_goals
    go_enter Try.func25, Try.ntmps25
    go_wp2
    refine bodyPost_ret (v := .agg #[.int .i64 t, .slice (some ⟨w.heap.size + 1, 0, none⟩) 1 1]) (by simp [results, Try.results25, go_sem]) rfl ⟨_, _, rfl, ?_, ?_⟩
    · exact RB.fresh _ _ _ _ _ rfl (by simp) rfl (by decide) (by simp) ⟨by omega, by simp⟩
    · exact ((Below.refl _ w).alloc (Nat.le_refl _) _).alloc (by simp) _
end Go.Proofs.Ytpikikaoelnheaa
