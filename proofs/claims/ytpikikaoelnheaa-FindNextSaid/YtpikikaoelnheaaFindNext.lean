/- FindNext: hits come as many at a time as one likes, each once, in order: the walk of the law. -/
import Derived.Test.YtpikikaoelnheaaFindBegun
import Derived.Test.YtpikikaoelnheaaOpenF
import Derived.Deep.QuietTactic
import Derived.BigQuiet
import Derived.Deep.CutRange
namespace Go.Proofs.Ytpikikaoelnheaa
open Go.RowKit Go.Shelf

/-- New over numbers. -/
theorem new_numbers (Bs : Nat) (P : Nat → Prop) (A : Option Addr) (c : Nat) (l : List Int) (w : World) (hP : ∀ b, P b → b < w.heap.size) (hBs : Bs < w.heap.size) (hc : w.cell? ⟨Bs, 0, none⟩ = some (.slice A l.length c)) (hR : RI w P A c l) (hl : l.length ≤ 65536) :
    Calls Try.prog 18 #[.func (.func 49) #[] #[.pointer (some ⟨Bs, 0, none⟩)]] w fun e w' => e = .returned (.pointer (some ⟨w.heap.size, 0, none⟩)) ∧ Srch w' w.heap.size (w.heap.size + 2 + 2 + 0) l ∧ Below w.heap.size w w' := by
  have h := new_any 49 #[.pointer (some ⟨Bs, 0, none⟩)] l NoNeed TPlain (Below w.heap.size) 0 (fun _ X => Below w.heap.size w X) (fun _ X => Below w.heap.size w X) w (by omega)
    (fun w' hb => (numbers_seq Bs w.heap.size P A c l w hP hBs (Nat.le_refl _) hc hR).later hb)
    (enters_of Try.func49 (by kernel_rfl) rfl) (fun h k => h.trans k) (fun _ _ h => h) tplain_keeps (fun B k W1 W2 ht b o _ hb _ => (ht.block b (blk_lt hb) (by simp)).trans hb)
    (fun _ _ _ h hb => h.trans hb) (fun _ _ _ h hb => h.trans hb) (fun _ _ _ _ => trivial) (fun B k W1 W2 _ _ h ht => h.grown ht (by have := h.size; exact this) (fun r e => by cases e)) (fun _ _ _ h => h) (Below.refl _ _)
  refine h.mono ?_
  rintro e w' ⟨rfl, hS, hE⟩
  rw [List.take_of_length_le hl] at hS
  refine ⟨rfl, hS, ?_⟩
  rcases hE with ⟨k, hE⟩ | hE
  · exact hE
  · exact hE

theorem RI.take {w : World} {P : Nat → Prop} {A : Option Addr} {c : Nat} {l : List Int} (h : RI w P A c l) (n : Nat) : RI w P A c (l.take n) := by
  by_cases hn : n ≤ l.length
  · have h1 := h.1.pre hn
    rw [its_take] at h1
    exact ⟨by rw [List.length_take, Nat.min_eq_left hn]; exact h1, by rw [List.length_take]; have := h.2; omega⟩
  · rw [List.take_of_length_le (by omega)]
    exact h

set_option maxRecDepth 100000 in
set_option maxHeartbeats 4000000 in
theorem findNext_any (P P' : Nat → Prop) (A A' : Option Addr) (c c' : Nat) (hs ns : List Int) (w : World) (h : RI w P A c hs) (h' : RI w P' A' c' ns) (hP : ∀ b, P b → b < w.heap.size) (hP' : ∀ b, P' b → b < w.heap.size) :
    Calls Try.prog 4 #[.slice A hs.length c, .slice A' ns.length c'] w fun e w' => e = .returned (.bool true) ∧ Below w.heap.size w w' := by
  have hcap := h.cap
  have hcap' := h'.cap
  go_enter Try.func4, Try.ntmps4
  go_wp2_with fail
  refine (findBegun_any _).mono ?_
  rintro e w1 ⟨rfl, hB1⟩
  go_upto_if 16 with fail
  go_cut [0] (fun s0 wx => ∃ hs' : List Int, s0 = .slice A hs'.length c ∧ RI w P A c hs' ∧ hs'.length ≤ 2000 ∧ w1 = wx)
  case first =>
    by_cases hlong : 2000 < hs.length
    · have hl : (hs.take 2000).length = 2000 := by simp; omega
      have Hl := Lib.hid hl
      have k1 : (2000 : Int) ≤ (hs.length : Int) := by omega
      have r0 := Lib.hid (h.take 2000)
      clear hl h h'
      go_wp2_with fail
      go_meet
      case rel => exact ⟨hs.take 2000, by rw [Hl.out], r0.out, by rw [Hl.out]; omega, rfl⟩
    · go_wp2_with fail
      go_meet
      case rel => exact ⟨hs, rfl, h, by omega, rfl⟩
  case rest =>
    clear h hcap
    obtain ⟨l, rfl, r, hl, rfl⟩ := hcut
    have hcap := r.cap
    go_wp2_with fail
    refine (numbers_any A c l.length w1).mono ?_
    rintro e w' ⟨rfl, rfl⟩
    have hbx := heap_alloc_new w1 (.cells #[.slice A l.length c] 22)
    have c0 := blk_cell hbx 0
    simp only [List.getElem?_toArray, List.getElem?_cons_zero] at c0
    have hB2 : Below w.heap.size w (w1.alloc (.cells #[.slice A l.length c] 22)) := hB1.alloc hB1.size _
    have hz : (w1.alloc (.cells #[.slice A l.length c] 22)).heap.size = w1.heap.size + 1 := by simp
    have hs1 := hB1.size
    generalize w1.alloc (.cells #[.slice A l.length c] 22) = W at *
    have Hnew := Lib.hid (new_numbers w1.heap.size P A c l W (fun b hb => by have := hP b hb; omega) (by omega) c0 (r.below hB2 hP) (by omega))
    have Hz := Lib.hid hz
    clear c0 hbx hB1 hz
    go_wp2_with fail
    refine Hnew.out.mono ?_
    rintro e w2 ⟨rfl, hS, hB3⟩
    have hw2 := hB2.trans (hB3.mono hB2.size)
    have hR0 := hS.read (by omega)
    have zW := hB3.size
    obtain ⟨g, hg⟩ : ∃ g, W.heap.size = g := ⟨_, rfl⟩
    rw [hg] at hR0 zW ⊢
    obtain ⟨Pn, hPn⟩ : ∃ Pn, In (g + 2 + 2 + 0) w2.heap.size = Pn := ⟨_, rfl⟩
    have hPn1 : ¬ Pn g := by rw [← hPn]; intro h; have := h.1; omega
    have hPn2 : ∀ b, Pn b → b < w2.heap.size := by rw [← hPn]; exact fun b h => h.2
    have zg : w.heap.size ≤ g := by have := hB2.size; omega
    rw [hPn] at hR0
    clear hS hPn hg Hnew hB2 hB3
    go_wp2_with fail
    go_loopw [7, 8] (fun at_ i wr => ∃ (k a : Nat), k ≤ ns.length ∧ k ≤ 20 ∧ i = .int .i64 (k : Int) ∧ at_ = .int .i64 (a : Int) ∧ a ≤ l.length ∧ SrchR wr g Pn (l.drop a) ∧ Below w.heap.size w wr ∧ w2.heap.size ≤ wr.heap.size) (fun _ i _ => 20 - (intOf i).toNat)
    case atStart => exact ⟨0, 0, by omega, by omega, rfl, rfl, by omega, by simpa using hR0, hw2, Nat.le_refl _⟩
    case round =>
      obtain ⟨k, a, hk, hk20, rfl, rfl, ha, hSr, hw, hzw⟩ := hrel
      by_cases hk1 : k < ns.length
      · by_cases hk2 : k < 20
        · obtain ⟨ad, rfl, _, hx⟩ := (h'.below hw hP').at_ hk1
          generalize ns.getD k 0 = z at *
          by_cases hbad : z < 0 ∨ 1024 < z
          · go_wp2_with fail
            refine (next_bad g z _ hbad).mono ?_
            rintro e w' ⟨rfl, rfl⟩
            by_cases hz0 : z < 0
            all_goals
              go_wp2_with fail
              go_roundw
              case rel => exact ⟨k + 1, a, by omega, by omega, by go_num, rfl, ha, hSr, hw, hzw⟩
              case measure => simp [intOf]; omega
          · obtain ⟨n, rfl⟩ : ∃ n : Nat, z = (n : Int) := ⟨z.toNat, by omega⟩
            have hn : n ≤ 1024 := by omega
            clear hbad
            go_wp2_with fail
            refine (next_any g Pn (l.drop a) n wr hSr (fun b hb => by have := hPn2 b hb; omega) hPn1 hn).mono ?_
            rintro e w3 ⟨A3, c3, rfl, hI3, hS3, hB3⟩
            have hwr := hw.size
            have z3 := hB3.size
            have hw3 : Below w.heap.size w w3 := hw.trans ⟨hB3.os, hB3.tape, hB3.output, hB3.size, fun b hb => hB3.block b (by omega) (by omega)⟩
            obtain ⟨q, hq⟩ : ∃ q, l.length = a + q := ⟨l.length - a, by omega⟩
            have hqi : (l.length : Int) - (a : Int) = (q : Int) := by omega
            have hld : (l.drop a).length = q := by rw [List.length_drop]; omega
            have hx3 := (hw3.cell (p := ad.add k) (by rw [block_of_add]; exact hP' _ ‹_›)).trans ((hw.cell (p := ad.add k) (by rw [block_of_add]; exact hP' _ ‹_›)).symm.trans hx)
            have hl3 := left_any g Pn _ w3 hS3
            rw [show ((l.drop a).drop n).length = q - n by rw [List.length_drop, hld]] at hl3
            obtain ⟨m, hm⟩ : ∃ m, n < q ∧ m = n ∨ ¬ n < q ∧ m = q := by
              by_cases hnq : n < q
              · exact ⟨n, .inl ⟨hnq, rfl⟩⟩
              · exact ⟨q, .inr ⟨hnq, rfl⟩⟩
            have hml : ((l.drop a).take n).length = m := by rw [List.length_take, hld]; omega
            have hmq : m ≤ q := by omega
            have hli : ((q - n : Nat) : Int) = (q : Int) - (m : Int) := by omega
            have Hl3 := Lib.hid hl3
            have Hml := Lib.hid hml
            have Hli := Lib.hid hli
            rw [hli] at Hl3
            rw [hml]
            have Hq := Lib.hid hq
            clear hl3 hml hli hld hq
            rcases hm with ⟨hnq, rfl⟩ | ⟨hnq, rfl⟩
            · have t1 : decide ((m : Int) < (q : Int)) = true := decide_eq_true (by omega)
              go_wp2_with fail
              refine Hl3.out.mono ?_
              rintro e w' ⟨rfl, rfl⟩
              go_wp2_with fail
              have rl3 := (r.below hw3 hP)
              have Hrl := Lib.hid rl3
              have HI3 := Lib.hid hI3
              have HS3 := Lib.hid hS3
              have Hns := Lib.hid (h'.below hw3 hP')
              clear hx3 hx hI3 hS3 hSr rl3 hR0
              go_loopw [12] (fun kk wx => ∃ j d : Nat, j ≤ m ∧ kk = .int .i64 (j : Int) ∧ wx = w3.drewN d) (fun kk _ => m - (intOf kk).toNat)
              case atStart => exact ⟨0, 0, by omega, rfl, rfl⟩
              case round =>
                obtain ⟨j, d, hj, rfl, rfl⟩ := hrel
                by_cases hjm : j < m
                · obtain ⟨ad3, rfl, _, q1⟩ := HI3.out.at_ (i := j) (by rw [Hml.out]; exact hjm)
                  obtain ⟨ad4, rfl, _, q2⟩ := Hrl.out.at_ (i := a + j) (by have := Hq.out; omega)
                  have e1 : ((l.drop a).take m).getD j 0 = l.getD (a + j) 0 := by simp [List.getD_eq_getElem?_getD, List.getElem?_drop, hjm]
                  rw [e1] at q1
                  clear e1
                  have i1 : (j : Int) < (m : Int) := by omega
                  have i2 : (a : Int) + (j : Int) < (l.length : Int) := by have := Hq.out; omega
                  generalize l.getD (a + j) 0 = x at *
                  go_wp2_with fail
                  go_quiet (fail)
                  go_wp2_with fail
                  go_roundw
                  case rel => exact ⟨j + 1, _, by omega, by go_num, by first | rfl | exact drewN_add _ _ _⟩
                  case measure => simp [intOf]; omega
                · obtain rfl : j = m := by omega
                  go_wp2_with fail
                  go_roundw
                  case rel => exact ⟨k + 1, a + j, by omega, by omega, by go_num, by go_num, by have := Hq.out; omega, by rw [← List.drop_drop]; exact HS3.out, below_drewN hw3 _, by show _ ≤ w3.heap.size; omega⟩
                  case measure => simp [intOf]; omega
            · have t1 : decide ((n : Int) < (m : Int)) = false := decide_eq_false (by omega)
              go_wp2_with fail
              refine Hl3.out.mono ?_
              rintro e w' ⟨rfl, rfl⟩
              go_wp2_with fail
              have rl3 := (r.below hw3 hP)
              have Hrl := Lib.hid rl3
              have HI3 := Lib.hid hI3
              have HS3 := Lib.hid hS3
              have Hns := Lib.hid (h'.below hw3 hP')
              clear hx3 hx hI3 hS3 hSr rl3 hR0
              go_loopw [12] (fun kk wx => ∃ j d : Nat, j ≤ m ∧ kk = .int .i64 (j : Int) ∧ wx = w3.drewN d) (fun kk _ => m - (intOf kk).toNat)
              case atStart => exact ⟨0, 0, by omega, rfl, rfl⟩
              case round =>
                obtain ⟨j, d, hj, rfl, rfl⟩ := hrel
                by_cases hjm : j < m
                · obtain ⟨ad3, rfl, _, q1⟩ := HI3.out.at_ (i := j) (by rw [Hml.out]; exact hjm)
                  obtain ⟨ad4, rfl, _, q2⟩ := Hrl.out.at_ (i := a + j) (by have := Hq.out; omega)
                  have e1 : ((l.drop a).take n).getD j 0 = l.getD (a + j) 0 := by simp [List.getD_eq_getElem?_getD, List.getElem?_drop, show j < n by omega]
                  rw [e1] at q1
                  clear e1
                  have i1 : (j : Int) < (m : Int) := by omega
                  have i2 : (a : Int) + (j : Int) < (l.length : Int) := by have := Hq.out; omega
                  generalize l.getD (a + j) 0 = x at *
                  go_wp2_with fail
                  go_quiet (fail)
                  go_wp2_with fail
                  go_roundw
                  case rel => exact ⟨j + 1, _, by omega, by go_num, by first | rfl | exact drewN_add _ _ _⟩
                  case measure => simp [intOf]; omega
                · obtain rfl : j = m := by omega
                  go_wp2_with fail
                  go_roundw
                  case rel => exact ⟨k + 1, a + j, by omega, by omega, by go_num, by go_num, by have := Hq.out; omega, by rw [List.drop_of_length_le (by have := Hq.out; omega)]; have := HS3.out; rwa [List.drop_of_length_le (by rw [List.length_drop]; have := Hq.out; omega)] at this, below_drewN hw3 _, by show _ ≤ w3.heap.size; omega⟩
                  case measure => simp [intOf]; omega
        · go_wp2
          go_ret
          exact ⟨rfl, hw⟩
      · go_wp2
        go_ret
        exact ⟨rfl, hw⟩
end Go.Proofs.Ytpikikaoelnheaa
