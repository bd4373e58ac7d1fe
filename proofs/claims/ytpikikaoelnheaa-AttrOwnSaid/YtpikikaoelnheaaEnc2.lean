/- What the reference's Encode computes. -/
import Derived.Test.YtpikikaoelnheaaEnc
namespace Go.Proofs.Ytpikikaoelnheaa
open Go.RowKit

set_option maxRecDepth 100000 in
set_option maxHeartbeats 2000000 in
theorem refEnc_any (P : Nat → Prop) (A : Option Addr) (c : Nat) (l : List (Int × List Nat)) (w : World) (hv : RA w P A c l) (hP : ∀ b, P b → b < w.heap.size) :
    Calls Try.prog 43 #[.slice A l.length c] w (EncPost w l) := by
  obtain ⟨hlc, hc⟩ := hv.cap
  obtain ⟨i0, hi, hz0, hz1, hz2⟩ := info_parts info5
  by_cases hl : l.length ≤ 64
  · go_enter Try.func43, Try.ntmps43
    go_wp2
    go_loopw [4, 5] (fun v i wr => ∃ (k : Nat) (A' : Option Addr) (c' n : Nat), k ≤ l.length ∧ i = .int .i64 k ∧ v = .slice A' n c' ∧ (encTo l k).length = n ∧ n ≤ k * 16388 ∧ wr.ownsRow w.heap.size 5 1 (.slice A' n c') n (bys (encTo l k)) ∧ Below w.heap.size w wr ∧ encOk l k) (fun _ i _ => l.length - (intOf i).toNat)
    case atStart => exact ⟨0, none, 0, 0, Nat.zero_le _, rfl, rfl, rfl, by omega, World.ownsRow_nil _ _ _ _, Below.refl _ _, by intro x hx; simp at hx⟩
    case round =>
      obtain ⟨k, A', c', n, hk, rfl, rfl, hlen, hn, hown, hB, hok⟩ := hrel
      have Hlen := Lib.hid hlen
      have hs := hB.size
      clear hlen
      by_cases hlt : k < l.length
      · obtain ⟨ad, Au, cu, rfl, hb, hc1, hc2, hu⟩ := (hv.below hB hP).at_ hlt
        obtain ⟨x, hx⟩ : ∃ x, l[k] = x := ⟨_, rfl⟩
        rw [hx] at hc1 hc2 hu
        have Hx := Lib.hid hx
        have hul := hu.cap
        clear hx
        by_cases h1 : x.1 < 0
        · have hno := Lib.hid (encOf_no hlt (by rw [Hx.out]; simp [okEnc]; omega))
          go_wp2
          go_ret2
          exact EncPost.no hno.out hB
        · by_cases h2 : 65535 < x.1
          · have hno := Lib.hid (encOf_no hlt (by rw [Hx.out]; simp [okEnc]; omega))
            have h1' : decide (x.1 < 0) = false := by simp; omega
            go_wp2
            go_ret2
            exact EncPost.no hno.out hB
          · have h1' : decide (x.1 < 0) = false := by simp; omega
            have h2' : decide (65535 < x.1) = false := by simp; omega
            by_cases h3 : 16384 < x.2.length
            · have hno := Lib.hid (encOf_no hlt (by rw [Hx.out]; simp [okEnc]; omega))
              go_wp2
              go_ret2
              exact EncPost.no hno.out hB
            · have hyes := Lib.hid (encOk_succ hok hlt (by rw [Hx.out]; simp [okEnc]; omega))
              have hsucc := Lib.hid (encTo_succ hlt)
              rw [Hx.out] at hsucc
              have h3' : decide (16384 < (x.2.length : Int)) = false := by simp; omega
              have hlt0 : ∀ g, (Value.slice A' n c').ownBlock = some g → w.heap.size ≤ g ∧ g < wr.heap.size := hown.lt
              have Hown := Lib.hid hown
              have had := hP _ hb
              clear hown
              go_wp2_with fail
              have hsrc : RS (wr.alloc (.cells #[.int .u8 (IntKind.u8.wrap (x.1 / 256)), .int .u8 (IntKind.u8.wrap x.1), .int .u8 (IntKind.u8.wrap ((x.2.length : Int) / 256)), .int .u8 (IntKind.u8.wrap (x.2.length : Int))] 5)).drew (fun _ => True) 1 (some ⟨wr.heap.size, 0, none⟩) 4 4 (bys (num2 x.1 ++ num2 (x.2.length : Nat))) := by
                have e : bys (num2 x.1 ++ num2 (x.2.length : Nat)) = [.int .u8 (IntKind.u8.wrap (x.1 / 256)), .int .u8 (IntKind.u8.wrap x.1), .int .u8 (IntKind.u8.wrap ((x.2.length : Int) / 256)), .int .u8 (IntKind.u8.wrap (x.2.length : Int))] := by
                  rw [bys, List.map_append]
                  show bys _ ++ bys _ = _
                  rw [bys_num2, bys_num2]
                  simp only [IntKind.wrap_u8']
                  rfl
                rw [e]
                exact RS.drewN (RS.fresh (P := fun _ => True) #[.int .u8 (IntKind.u8.wrap (x.1 / 256)), .int .u8 (IntKind.u8.wrap x.1), .int .u8 (IntKind.u8.wrap ((x.2.length : Int) / 256)), .int .u8 (IntKind.u8.wrap (x.2.length : Int))] 5 1 4 rfl (by unfold maxLen; omega) trivial) 1
              have hnb : (Value.slice A' n c').ownBlock ≠ some ad.block := fun e => by have := (hlt0 _ e).1; omega
              have hadr : ad.block < wr.heap.size := by omega
              go_region_held3 (fun w' => w'.cell? (ad.add (k * 2)) = some (.int .i64 x.1))
                (first | go_keep | ((try dsimp only); rw [hg1.cell_far _ (by simp [block_of_add]; omega) (fun e => hnb (by simpa [block_of_add] using e.symm))]; go_keep))
                (first | (refine step_append_rs _ (by rfl) _ _ _ (by rfl) w.heap.size 5 i0 _ 1 1 Try.underlying46 hi hz0 hz1 hz2 rfl (by omega) (.slice A' n c') n (bys (encTo l k)) (by rfl) (Hown.out.alloc _) (fun _ => True) (some ⟨wr.heap.size, 0, none⟩) 4 4 (bys (num2 x.1 ++ num2 (x.2.length : Nat))) (by rfl) hsrc (oneCell_bys _) (n + 4) rfl (by unfold maxLen; omega) (by omega) (by simp; omega) ?_; intro A1 c1 w1 hown1 hg1 hor1))
              have hg1' := grownBy_alloc_left (w := wr) (o := .cells #[.int .u8 (IntKind.u8.wrap (x.1 / 256)), .int .u8 (IntKind.u8.wrap x.1), .int .u8 (IntKind.u8.wrap ((x.2.length : Int) / 256)), .int .u8 (IntKind.u8.wrap (x.2.length : Int))] 5) ⟨hg1.os, hg1.tape, hg1.output, hg1.size, hg1.block⟩
              have hBr : Below w.heap.size wr w1 := (Below.refl _ wr).grown hg1' hs (fun g hg => (hlt0 g hg).1)
              have y2 : w1.cell? ⟨(ad.add (k * 2)).block, (ad.add (k * 2)).off + 1, none⟩ = some (.slice Au x.2.length cu) := (hBr.cell (by show (ad.add (k * 2)).block < _; rw [block_of_add]; exact had)).trans hc2
              have hu3 : RB w1 P Au cu x.2 := hu.below hBr hP
              have hs1 := hBr.size
              clear hg1 hor1 hg1'
              go_wp2_with (at_builtin; refine app5 rfl (.tmp 61) (.tmp 66) rfl w.heap.size (.slice A1 (n + 4) c1) (n + 4) _ rfl hown1 P Au x.2.length cu x.2 rfl hu3.1 (n + 4 + x.2.length) rfl (by omega) (by omega) ?_; intro A4 c4 w4 hown4 hg4 hor4)
              have hB4 : Below w.heap.size w w4 := (hB.trans hBr).grown hg4 (by omega) (fun g hg => (hown1.lt g hg).1)
              have hown5 : w4.ownsRow w.heap.size 5 1 (.slice A4 (n + 4 + x.2.length) c4) (n + 4 + x.2.length) (bys (encTo l (k + 1))) := by
                have e : bys (encTo l (k + 1)) = bys (encTo l k) ++ bys (num2 x.1 ++ num2 (x.2.length : Nat)) ++ bys x.2 := by
                  rw [hsucc.out]; simp [bys]
                rw [e]
                exact hown4
              have hl4 := Lib.hid (show (encTo l (k + 1)).length = n + 4 + x.2.length by rw [hsucc.out]; simp [num2_length, Hlen.out]; omega)
              clear hg4 hor4 hown4 hown1 y2 hsrc
              go_roundw
              case rel => exact ⟨k + 1, A4, c4, _, by omega, by go_num, rfl, hl4.out, by omega, hown5, hB4, hyes.out⟩
              case measure => simp [intOf]; omega
      · go_wp2
        go_ret2
        exact EncPost.yes hl hok hlt Hlen.out (by omega) hv.lt hown hB
  · have hno := Lib.hid (show encOf l = none by rw [encOf, if_neg (fun h => hl h.1)])
    go_enter Try.func43, Try.ntmps43
    go_wp2
    go_ret2
    exact EncPost.no hno.out (Below.refl _ _)
end Go.Proofs.Ytpikikaoelnheaa
