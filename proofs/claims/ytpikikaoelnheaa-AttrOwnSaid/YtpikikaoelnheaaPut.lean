/- What the reference's Put computes. -/
import Derived.Test.YtpikikaoelnheaaApp
namespace Go.Proofs.Ytpikikaoelnheaa
open Go.RowKit

set_option maxRecDepth 100000 in
set_option maxHeartbeats 2000000 in
theorem refPut_any (P : Nat → Prop) (A : Option Addr) (c : Nat) (l : List (Int × List Nat)) (a : Int × List Nat) (Aa : Option Addr) (ca : Nat) (w : World) (hv : RA w P A c l) (ha : RB w P Aa ca a.2) (hP : ∀ b, P b → b < w.heap.size) (hl : l.length ≤ 1000000) :
    Calls Try.prog 39 #[.slice A l.length c, .agg #[.int .i64 a.1, .slice Aa a.2.length ca]] w fun e w' => ∃ A' c' cs, e = .returned (.slice A' (putOf l a).length c') ∧ OV w' (w.heap.size + 1) P A' c' (putOf l a) cs ∧ Below w.heap.size w w' := by
  obtain ⟨hlc, hc⟩ := hv.cap
  go_enter Try.func39, Try.ntmps39
  go_wp2
  obtain ⟨w1, hw1⟩ : ∃ w1, w.alloc (.cells #[.int .i64 a.1, .slice Aa a.2.length ca] 48) = w1 := ⟨_, rfl⟩
  have hsz : w1.heap.size = w.heap.size + 1 := by rw [← hw1]; simp
  have hb1 : w1.heap[w.heap.size]? = some (.cells #[.int .i64 a.1, .slice Aa a.2.length ca] 48) := by rw [← hw1]; exact heap_alloc_new w _
  have hBw : Below w.heap.size w w1 := by rw [← hw1]; exact (Below.refl _ _).alloc (Nat.le_refl _) _
  rw [hw1]
  have Hsz := Lib.hid hsz
  have Hb1 := Lib.hid hb1
  clear hw1 hsz hb1
  go_loopw [5, 6, 7] (fun v d i wr => ∃ (k : Nat) (A' : Option Addr) (c' n : Nat) (cs : List Value) (out : List (Int × List Nat)) (dn : Bool), k ≤ l.length ∧ n ≤ k + 1 ∧ out.length = n ∧ v = .slice A' n c' ∧ d = .bool dn ∧ i = .int .i64 k ∧ OV wr (w.heap.size + 1) P A' c' out cs ∧ Below (w.heap.size + 1) w1 wr ∧ putInv l a k out dn ∧ (dn = false → n ≤ k)) (fun _ _ i _ => l.length - (intOf i).toNat)
  case atStart => exact ⟨0, none, 0, 0, [], [], false, Nat.zero_le _, by omega, rfl, rfl, rfl, rfl, OV.nil_ _ _ _ (fun b hb => by have := hP b hb; omega), Below.refl _ _, putInv_zero l a, by omega⟩
  case round =>
    obtain ⟨k, A', c', n, cs, out, dn, hk, hn, hout, rfl, rfl, rfl, hO, hB, hI, hdn⟩ := hrel
    have Hout := Lib.hid hout
    clear hout
    have hs : w.heap.size + 1 ≤ wr.heap.size := by have := hB.size; have := Hsz.out; omega
    have hbox := (hB.block w.heap.size (by omega)).trans Hb1.out
    have x0 := blk_cell hbox 0
    have x1 := blk_cell hbox 1
    simp at x0 x1
    have HI := Lib.hid hI
    have HO := Lib.hid hO
    have Hbox := Lib.hid hbox
    have hBw' := hBw.trans (hB.mono (by omega))
    clear hI hbox
    by_cases hlt : k < l.length
    · obtain ⟨ad, Au, cu, rfl, hb, hc1, hc2, hu⟩ := (hv.below hBw' hP).at_ hlt
      obtain ⟨x, hx⟩ : ∃ x, l[k] = x := ⟨_, rfl⟩
      rw [hx] at hc1 hc2 hu
      have Hx := Lib.hid hx
      clear hx
      by_cases he : x.1 = a.1
      · have he' : (x.1 == a.1) = true := by simp [he]
        have hi := Lib.hid (putInv_skip HI.out hlt (by rw [Hx.out]; exact he'))
        clear he
        go_wp2_with fail
        go_quiet (fail)
        go_wp2
        go_roundw
        case rel => exact ⟨k + 1, A', c', n, cs, out, dn, by omega, by omega, Hout.out, rfl, rfl, by go_num, HO.out, below_drewN hB _, hi.out, fun h => by have := hdn h; omega⟩
        case measure => simp [intOf]; omega
      · have he' : (x.1 == a.1) = false := by simp [he]
        clear he
        have har : RB wr P Aa ca a.2 := ha.below hBw' hP
        have hadlt := hP _ hb
        cases dn
        · have hn2 : n ≤ k := hdn rfl
          by_cases hgt : a.1 < x.1
          · have hi := Lib.hid (putInv_hi HI.out hlt (by rw [Hx.out]; exact he') (by rw [Hx.out]; exact hgt))
            rw [Hx.out] at hi
            go_wp2_with fail
            go_quiet (fail)
            go_wp2_with fail
            go_quiet (fail)
            go_wp2_with (first
              | (at_builtin; refine app48one (w0 := wr) rfl (.tmp 34) (.tmp 36) rfl (w.heap.size + 1) (.slice A' n c') n cs rfl (Hout.out ▸ HO.out.1) _ rfl rfl ⟨rfl, rfl⟩ (by omega) hs ?_; intro A1 c1 w2 hown2 hg2 hor2; have hW2 := OV.snoc (x := a) HO.out Hout.out ((Below.refl wr.heap.size wr).alloc (Nat.le_refl _) _) har hs hown2 hg2; clear hown2 hg2 hor2; have y1 : w2.cell? (ad.add (k * 2)) = some (.int .i64 x.1) := (hW2.2.cell (by rw [block_of_add]; omega)).trans hc1; have y2 : w2.cell? ⟨(ad.add (k * 2)).block, (ad.add (k * 2)).off + 1, none⟩ = some (.slice Au x.2.length cu) := (hW2.2.cell (by show (ad.add (k * 2)).block < _; rw [block_of_add]; omega)).trans hc2; have hs2 := hW2.2.size; have Hl2 := Lib.hid (show (out ++ [a]).length = n + 1 by rw [List.length_append, Hout.out]; rfl))
              | (at_builtin; refine app48one (w0 := w2) rfl (.tmp 38) (.tmp 43) rfl (w.heap.size + 1) (.slice A1 (n + 1) c1) (n + 1) _ rfl (Hl2.out ▸ hW2.1.1) 0 rfl rfl ⟨rfl, rfl⟩ (by omega) (by omega) ?_; intro A2 c2 w3 hown3 hg3 hor3; have hW3 := OV.snoc (x := x) hW2.1 Hl2.out ((Below.refl w2.heap.size w2).alloc (Nat.le_refl _) _) (hu.below hW2.2 fun b hb => by have := hP b hb; omega) (by omega) hown3 hg3; clear hown3 hg3 hor3))
            go_roundw
            case rel => exact ⟨k + 1, A2, c2, n + 1 + 1, _, _, true, by omega, by omega, by simp [Hout.out], rfl, rfl, by go_num, hW3.1, (hB.trans hW2.2).trans hW3.2, hi.out, by simp⟩
            case measure => simp [intOf]; omega
          · have hi := Lib.hid (putInv_lo HI.out hlt (by rw [Hx.out]; exact he') (by rw [Hx.out]; exact hgt))
            rw [Hx.out] at hi
            go_wp2_with fail
            go_quiet (fail)
            go_wp2_with fail
            go_quiet (fail)
            go_wp2_with (at_builtin; refine app48one (w0 := wr) rfl (.tmp 38) (.tmp 43) rfl (w.heap.size + 1) (.slice A' n c') n cs rfl (Hout.out ▸ HO.out.1) _ rfl rfl ⟨rfl, rfl⟩ (by omega) hs ?_; intro A1 c1 w2 hown2 hg2 hor2; have hW2 := OV.snoc (x := x) HO.out Hout.out ((Below.refl wr.heap.size wr).alloc (Nat.le_refl _) _) hu hs hown2 hg2; clear hown2 hg2 hor2)
            go_roundw
            case rel => exact ⟨k + 1, A1, c1, n + 1, _, _, false, by omega, by omega, by simp [Hout.out], rfl, rfl, by go_num, hW2.1, hB.trans hW2.2, hi.out, by omega⟩
            case measure => simp [intOf]; omega
        · have hi := Lib.hid (putInv_done HI.out hlt (by rw [Hx.out]; exact he'))
          rw [Hx.out] at hi
          go_wp2_with fail
          go_quiet (fail)
          go_wp2_with fail
          go_quiet (fail)
          go_wp2_with (at_builtin; refine app48one (w0 := wr) rfl (.tmp 38) (.tmp 43) rfl (w.heap.size + 1) (.slice A' n c') n cs rfl (Hout.out ▸ HO.out.1) _ rfl rfl ⟨rfl, rfl⟩ (by omega) hs ?_; intro A1 c1 w2 hown2 hg2 hor2; have hW2 := OV.snoc (x := x) HO.out Hout.out ((Below.refl wr.heap.size wr).alloc (Nat.le_refl _) _) hu hs hown2 hg2; clear hown2 hg2 hor2)
          go_roundw
          case rel => exact ⟨k + 1, A1, c1, n + 1, _, _, true, by omega, by omega, by simp [Hout.out], rfl, rfl, by go_num, hW2.1, hB.trans hW2.2, hi.out, by simp⟩
          case measure => simp [intOf]; omega
    · have har : RB wr P Aa ca a.2 := ha.below hBw' hP
      cases dn
      · have hi := Lib.hid (putInv_end HI.out hlt)
        go_wp2_with (at_builtin; refine app48one (w0 := wr) rfl (.tmp 47) (.tmp 49) rfl (w.heap.size + 1) (.slice A' n c') n cs rfl (Hout.out ▸ HO.out.1) 0 rfl rfl ⟨rfl, rfl⟩ (by omega) hs ?_; intro A1 c1 w2 hown2 hg2 hor2; have hW2 := OV.snoc (x := a) HO.out Hout.out ((Below.refl wr.heap.size wr).alloc (Nat.le_refl _) _) har hs hown2 hg2; clear hown2 hg2 hor2)
        go_ret
        have hW3 := hW2.1
        rw [← hi.out] at hW3
        exact ⟨A1, c1, by rw [hi.out, List.length_append, Hout.out]; rfl, ⟨_, hW3⟩, hBw'.trans (hW2.2.mono (by omega))⟩
      · have hi := Lib.hid (putInv_end_done HI.out hlt)
        go_wp2
        go_ret
        refine ⟨A', c', cs, ?_, ?_, hBw'⟩
        · rw [hi.out, Hout.out]; rfl
        · rw [hi.out]; exact HO.out
end Go.Proofs.Ytpikikaoelnheaa
