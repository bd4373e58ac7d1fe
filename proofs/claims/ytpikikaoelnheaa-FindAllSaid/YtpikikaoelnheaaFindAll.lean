/- FindAll: a search finds just the objects that are seen and match, in their order: the walk of the law. -/
import Derived.Test.YtpikikaoelnheaaFindAllN
import Derived.Deep.QuietTactic
import Derived.BigQuiet
import Derived.Deep.CutRange
import Derived.Deep.CutBlock
namespace Go.Proofs.Ytpikikaoelnheaa
open Go.RowKit Go.Shelf

attribute [local go_sem] Oper.semAt_some
attribute [local go_sem ↓] shut_append

theorem RI.upto {w : World} {P : Nat → Prop} {A : Option Addr} {c : Nat} {l : List Int} (h : RI w P A c l) (n : Nat) : RI w P A c (l.take n) := by
  by_cases hn : n ≤ l.length
  · have h1 := h.1.pre hn
    rw [its_take] at h1
    exact ⟨by rw [List.length_take, Nat.min_eq_left hn]; exact h1, by rw [List.length_take]; have := h.2; omega⟩
  · rw [List.take_of_length_le (by omega)]
    exact h

set_option maxRecDepth 100000 in
set_option maxHeartbeats 4000000 in
theorem findAll_any (P P' P'' : Nat → Prop) (A A' A'' : Option Addr) (c c' c'' : Nat) (hs : List Int) (os : List (List (Int × List Nat))) (ocs : List Value) (t : List (Int × List Nat)) (u : Bool) (most : Int) (w : World)
    (h : RI w P A c hs) (hP : ∀ b, P b → b < w.heap.size) (h' : RAA w P' A' c' os ocs) (hP' : ∀ b, P' b → b < w.heap.size) (h'' : RA w P'' A'' c'' t) (hP'' : ∀ b, P'' b → b < w.heap.size) :
    Calls Try.prog 3 #[.slice A hs.length c, .slice A' os.length c', .slice A'' t.length c'', .bool u, .int .i64 most] w fun e w' => e = .returned (.bool true) ∧ Below w.heap.size w w' := by
  refine (callsIn_wide (n := 6)).1 ?_
  refine callsIn_of_wp_marks Try.func3 rfl trivial ?_ rfl
  simp only [Try.ntmps3, List.size_toArray, List.length_cons, List.length_nil, Nat.reduceAdd, Nat.reduceSub, Array.replicate_succ, Array.replicate_zero, List.push_toArray, List.append_toArray, List.nil_append, List.cons_append]
  have hcap := h.cap
  have hcap' := h'.cap
  refine wpIn_wide.2 ?_
  go_wp2_with fail
  obtain ⟨m0, m1, z0, hB0⟩ := alloc2 w (.cells #[.int .i64 most] 3) (.cells #[.bool false] 4)
  obtain ⟨s, hs0⟩ : ∃ s, w.heap.size = s := ⟨_, rfl⟩
  rw [hs0] at m0 m1 z0 hB0 hP hP' hP'' ⊢
  generalize (w.alloc (.cells #[.int .i64 most] 3)).alloc (.cells #[.bool false] 4) = W0 at *
  have Hs := Lib.hid hs0
  have Hz0 := Lib.hid z0
  clear hs0 z0
  refine (findBegun_any _).mono ?_
  rintro e w1 ⟨rfl, hB1⟩
  have hw1 : Below s w w1 := hB0.trans (hB1.mono (by have := Hz0.out; omega))
  replace m0 := (hB1.block s (by have := Hz0.out; omega)).trans m0
  replace m1 := (hB1.block (s + 1) (by have := Hz0.out; omega)).trans m1
  have zs1 : s + 2 ≤ w1.heap.size := by have := hB1.size; have := Hz0.out; omega
  go_upto_if 25 with fail
  have o2 := heap_alloc_new w1 (.cells #[.bool true] 4)
  have hB2 : Below w1.heap.size w1 (w1.alloc (.cells #[.bool true] 4)) := (Below.refl _ w1).alloc (Nat.le_refl _) _
  have hz2 : (w1.alloc (.cells #[.bool true] 4)).heap.size = w1.heap.size + 1 := by simp
  obtain ⟨g, hg⟩ : ∃ g, w1.heap.size = g := ⟨_, rfl⟩
  rw [hg] at o2 hB2 hz2 zs1 ⊢
  generalize w1.alloc (.cells #[.bool true] 4) = W1 at *
  have hw2 : Below s w W1 := hw1.trans (hB2.mono (by omega))
  replace m0 := (hB2.block s (by omega)).trans m0
  replace m1 := (hB2.block (s + 1) (by omega)).trans m1
  have Hz2 := Lib.hid hz2
  clear hB0 hB1 hB2 hw1 hg hz2
  go_cut [0] from 22 to 27 (fun s0 wx => ∃ hs' : List Int, s0 = .slice A hs'.length c ∧ RI w P A c hs' ∧ hs'.length ≤ 20 ∧ W1 = wx)
  case first =>
    by_cases hlong : 20 < hs.length
    · have hl : (hs.take 20).length = 20 := by simp; omega
      have Hl := Lib.hid hl
      have k1 : (20 : Int) ≤ (hs.length : Int) := by omega
      have r0 := Lib.hid (h.upto 20)
      clear hl h h' h''
      go_wp2_with fail
      go_meet
      case rel => exact ⟨hs.take 20, by rw [Hl.out], r0.out, by rw [Hl.out]; omega, rfl⟩
    · go_wp2_with fail
      go_meet
      case rel => exact ⟨hs, rfl, h, by omega, rfl⟩
  case rest =>
    clear h hcap
    obtain ⟨hh, rfl, r, hhl, rfl⟩ := hcut
    have hcap := r.cap
    go_upto_block 0 with fail
    go_cut [12] from 13 to 45 (fun s12 wx => ∃ (A1 : Option Addr) (c1 : Nat) (ls : List (List (Int × List Nat))) (cs : List Value), s12 = .slice A1 ls.length c1 ∧ ls.length ≤ 20 ∧ OL wx W1.heap.size A1 c1 ls cs ∧ Below W1.heap.size W1 wx)
    case first =>
      obtain ⟨i1, hj, hy0, hy1, hy2⟩ := info_parts info24
      go_wp2_with fail
      go_loopw [12, 13] (fun v i wr => ∃ (A1 : Option Addr) (c1 : Nat) (ls : List (List (Int × List Nat))) (cs : List Value), v = .slice A1 ls.length c1 ∧ i = .int .i64 (ls.length : Int) ∧ ls.length ≤ os.length ∧ ls.length ≤ 20 ∧ OL wr W1.heap.size A1 c1 ls cs ∧ Below W1.heap.size W1 wr) (fun _ i _ => 20 - (intOf i).toNat)
      case atStart => exact ⟨none, 0, [], [], rfl, rfl, by simp, by simp, OL.nil_ _ _, Below.refl _ _⟩
      case round =>
        obtain ⟨A1, c1, ls, cs, rfl, rfl, hk, hk20, hO, hB⟩ := hrel
        have hwr : Below s w wr := hw2.trans (hB.mono (by have := Hz2.out; omega))
        have zwr := hwr.size
        by_cases h1 : ls.length < os.length
        · by_cases h2 : ls.length < 20
          · obtain ⟨ad, Ao, co, rfl, hb, hx, hcs0, ro⟩ := (h'.below hwr hP').at_ h1
            obtain ⟨ob, hob⟩ : ∃ ob, os[ls.length] = ob := ⟨_, rfl⟩
            rw [hob] at hx ro
            have Hc := Lib.hid (cut_any P' Ao co ob 10 20 wr ro (fun b hb => by have := hP' b hb; have := hB.size; have := Hz2.out; omega) (by omega) (by omega))
            obtain ⟨m, hm⟩ : ∃ m, ls.length = m := ⟨_, rfl⟩
            have Hm := Lib.hid hm
            have HO := Lib.hid hO
            have HB := Lib.hid hB
            have h1' : m < os.length := by omega
            have h2' : m < 20 := by omega
            rw [hm] at hx ⊢
            clear hO hob hm h1 h2 hk hk20 hB ro hcs0
            go_wp2_with fail
            refine Hc.out.mono ?_
            rintro e w2 ⟨A2, c2, cs2, rfl, hO2, hB2⟩
            obtain ⟨bb, hbb⟩ : ∃ bb, cutOf ob 10 20 = bb := ⟨_, rfl⟩
            rw [hbb] at hO2 ⊢
            have zw2 := hB2.size
            have zb := HB.out.size
            have hown : w2.ownsRow W1.heap.size 24 1 (.slice A1 m c1) m cs := by
              have := own_kept HO.out.1 ⟨hB2.os, hB2.tape, hB2.output, hB2.size, fun k hk _ => hB2.block k hk⟩
              rwa [Hm.out] at this
            have hra := hO2.ra
            clear hO2
            go_wp2_with (at_builtin; refine wpList_append_rs _ rfl _ _ 23 rfl W1.heap.size 24 i1 _ 1 24 Try.underlying23 hj hy0 hy1 hy2 rfl (by omega) (.slice A1 m c1) m cs rfl (hown.alloc _) (fun _ => True) (some ⟨w2.heap.size, 0, none⟩) 1 1 [.slice A2 bb.length c2] rfl (RS.fresh #[.slice A2 bb.length c2] 24 1 1 rfl (by unfold maxLen; omega) trivial) (by simp [Value.oneCell']) (m + 1) rfl (by unfold maxLen; omega) (by omega) (by simp; omega) ?_; intro A3 c3 w3 hown3 hg3 hor3)
            have hO3 := OL.snoc (x := bb) HO.out Hm.out (hB2.alloc zw2 _) ((hra.keep fun p hp => World.cell?_alloc_lt w2 _ p hp.2).mono fun b hb => ⟨hb.1, by have := hb.2; simp; omega⟩) zb hown3 hg3 hor3
            have hB3 := (HB.out.trans ((hB2.mono zb).alloc (by omega) (.cells #[.slice A2 bb.length c2] 24))).grown hg3 (by simp; omega) (fun g hg => by rw [← Hm.out] at hg; exact (HO.out.1.lt g hg).1)
            have e9 : (ls ++ [bb]).length = m + 1 := by rw [List.length_append, Hm.out]; rfl
            have E9 := Lib.hid e9
            clear hown3 hg3 hor3 hra hown e9
            go_wp2_with fail
            go_roundw
            case rel => exact ⟨A3, c3, ls ++ [bb], _, by rw [E9.out], by rw [E9.out]; go_num, by rw [E9.out]; omega, by rw [E9.out]; omega, hO3, hB3⟩
            case measure => simp [intOf]; omega
          · go_wp2_with fail
            go_meet
            case rel => exact ⟨A1, c1, ls, cs, rfl, hk20, hO, hB⟩
        · go_wp2_with fail
          go_meet
          case rel => exact ⟨A1, c1, ls, cs, rfl, hk20, hO, hB⟩
    case rest =>
      obtain ⟨A1, c1, ls, cs, rfl, hls, hO, hB⟩ := hcut
      obtain ⟨W2, rfl⟩ : ∃ W2, W2 = wc := ⟨_, rfl⟩
      have hw3 : Below s w W2 := hw2.trans (hB.mono (by have := Hz2.out; omega))
      replace m0 := (hB.block s (by have := Hz2.out; omega)).trans m0
      replace m1 := (hB.block (s + 1) (by have := Hz2.out; omega)).trans m1
      replace o2 := (hB.block g (by have := Hz2.out; omega)).trans o2
      have zW2 := hB.size
      have rl := hO.raa
      have zg : g < W2.heap.size := by have := Hz2.out; omega
      clear hO hB
      have Hc := Lib.hid (cut_any P'' A'' c'' t 3 20 W2 (h''.below hw3 hP'') (fun b hb => by have := hP'' b hb; omega) (by omega) (by omega))
      go_wp2_with fail
      refine Hc.out.mono ?_
      rintro e W3 ⟨AT, cT, csT, rfl, hOT, hB3⟩
      obtain ⟨T, hT⟩ : ∃ T, cutOf t 3 20 = T := ⟨_, rfl⟩
      rw [hT] at hOT ⊢
      have hw4 : Below s w W3 := hw3.trans (hB3.mono (by omega))
      replace m0 := (hB3.block s (by omega)).trans m0
      replace m1 := (hB3.block (s + 1) (by omega)).trans m1
      replace o2 := (hB3.block g (by omega)).trans o2
      have rl3 := rl.below hB3 fun b hb => hb.2
      have rT3 := hOT.ra
      have zW3 := hB3.size
      have rh3 := r.below hw4 hP
      obtain ⟨s3, hs3⟩ : ∃ s3, W3.heap.size = s3 := ⟨_, rfl⟩
      have rl4 : RAA W3 (fun b => b < s3) A1 c1 ls cs := rl3.mono fun b hb => by have := hb.2; omega
      have rT4 : RA W3 (fun b => b < s3) AT cT T := rT3.mono fun b hb => by have := hb.2; omega
      have rh4 : RI W3 (fun b => b < s3) A c hh := rh3.mono fun b hb => by have := hP b hb; omega
      have capL := rl4.cap
      have capT := rT4.cap
      clear rl rl3 rT3 rh3 hOT hT Hc h'' r
      obtain ⟨N, hN⟩ : ∃ N, min hh.length ls.length = N := ⟨_, rfl⟩
      obtain ⟨p, hp0⟩ : ∃ p, hitOf u T ls = p := ⟨_, rfl⟩
      have Hs3 := Lib.hid hs3
      clear hs3
      go_upto_block 2 with fail
      have hs3 := Hs3.out
      obtain ⟨q0, q1, z4, hB4⟩ := alloc2 W3 (.cells #[.slice none 0 0] 22) (.cells #[.slice none 0 0] 22)
      rw [hs3] at q0 q1 z4 hB4 ⊢
      generalize (W3.alloc (.cells #[.slice none 0 0] 22)).alloc (.cells #[.slice none 0 0] 22) = W4 at *
      have hT0 : Two W3 W4 s3 none none 0 0 [] [] := Two.nil_ q0 q1 hB4
      have HN := Lib.hid hN
      clear hs3 q0 q1 hN
      go_cut [] from 16 to 97 (fun wx => ∃ (Aw Aa : Option Addr) (cw ca : Nat), Two W3 wx s3 Aw Aa cw ca (hitsOf p N hh) (atsOf p N))
      case first =>
        go_wp2_with fail
        go_loopw [16] (fun i wr => ∃ (k : Nat) (Aw Aa : Option Addr) (cw ca : Nat), k ≤ N ∧ i = .int .i64 (k : Int) ∧ Two W3 wr s3 Aw Aa cw ca (hitsOf p k hh) (atsOf p k)) (fun i _ => N - (intOf i).toNat)
        case atStart => exact ⟨0, none, none, 0, 0, Nat.zero_le _, rfl, by rw [hitsOf_zero, atsOf_zero]; exact hT0⟩
        case round =>
          clear hT0 hB4
          obtain ⟨k, Aw, Aa, cw, ca, hk, rfl, h2⟩ := hrel
          have hN' := HN.out
          by_cases h1 : k < hh.length
          · by_cases hkl : k < ls.length
            · obtain ⟨ad, rfl, hb, hx⟩ := rh4.at_ h1
              obtain ⟨adl, adl', cl, rfl, hbl, hxl, hcs0, ro⟩ := rl4.at_ hkl
              obtain ⟨ob, hob⟩ : ∃ ob, ls[k] = ob := ⟨_, rfl⟩
              rw [hob] at hxl ro
              have hp : p k = ((u || !flagOf ob 2) && matchOf ob T) := by rw [← hp0, hitOf, List.getD_eq_getElem?_getD, List.getElem?_eq_getElem hkl, Option.getD_some, hob]
              obtain ⟨x, hxx⟩ : ∃ x, hh.getD k 0 = x := ⟨_, rfl⟩
              rw [hxx] at hx
              have Hyes := Lib.hid (fun (h : p k = true) => show hitsOf p (k + 1) hh = hitsOf p k hh ++ [x] by rw [hitsOf_yes h, hxx])
              obtain ⟨m, hm⟩ : ∃ m, sc p k = m := ⟨_, rfl⟩
              have Hl1 := Lib.hid (show (hitsOf p k hh).length = m by rw [hitsOf_length, hm])
              have Hl2 := Lib.hid (show (atsOf p k).length = m by rw [atsOf_length, hm])
              have hmk : m ≤ k := by rw [← hm]; exact sc_le p k
              have hkN : k < N := by omega
              have zz := h2.below.size
              have zs := Hs3.out
              have hxw := (h2.below.cell (p := ad.add k) (by rw [block_of_add]; exact hb)).trans hx
              have hxl' := (h2.below.cell (p := adl.add k) (by rw [block_of_add]; exact hbl)).trans hxl
              replace ro := ro.below h2.below fun b hb => hb
              have rt := rT4.below h2.below fun b hb => hb
              have H2 := Lib.hid h2
              have hf := refFlag_any (fun b => b < s3) adl' cl ob 2 wr ro
              have hs := seen_any (fun b => b < s3) adl' cl ob u wr ro (fun b hb => by omega)
              have Hp := Lib.hid hp
              obtain ⟨fl, hfl⟩ : ∃ fl, flagOf ob 2 = fl := ⟨_, rfl⟩
              rw [hfl] at hf hs Hp
              have hf' := Lib.hid hf
              have hsn := Lib.hid hs
              clear hf hs hp hob hxx hm hfl h2 hcs0 hxl hN'
              cases u
              · cases fl
                · simp only [Bool.not_false, Bool.or_true, Bool.true_and] at hsn Hp
                  go_wp2_with fail
                  refine hf'.out.mono ?_
                  rintro e w' ⟨rfl, rfl⟩
                  go_wp2_with fail
                  refine hsn.out.mono ?_
                  rintro e w5 ⟨rfl, hB5⟩
                  have hxl5 := (hB5.cell (p := adl.add k) (by rw [block_of_add]; omega)).trans hxl'
                  have h5 := Lib.hid (H2.out.later hB5)
                  have Hm := Lib.hid (refMatch_any (fun b => b < s3) (fun b => b < s3) adl' AT cl cT ob T w5 (ro.below hB5 (fun b hb => by omega)) (rt.below hB5 (fun b hb => by omega)))
                  cases hmt : matchOf ob T
                  · rw [hmt] at Hm
                    have hno : p k = false := by simp [Hp.out, hmt]
                    have hn1 := Lib.hid (hitsOf_no (hs := hh) hno)
                    have hn2 := Lib.hid (atsOf_no hno)
                    clear hno hmt
                    go_wp2_with fail
                    refine Hm.out.mono ?_
                    rintro e w6 ⟨rfl, d, rfl⟩
                    have h6 := Lib.hid (h5.out.later (below_drewN (Below.refl _ w5) d))
                    go_wp2_with fail
                    go_roundw
                    case rel => exact ⟨k + 1, Aw, Aa, cw, ca, by omega, by go_num, by rw [hn1.out, hn2.out]; exact h6.out⟩
                    case measure => simp [intOf]; omega
                  · rw [hmt] at Hm
                    have hyes : p k = true := by simp [Hp.out, hmt]
                    have hn1 := Lib.hid (Hyes.out hyes)
                    have hn2 := Lib.hid (atsOf_yes hyes)
                    clear hyes hmt
                    go_wp2_with fail
                    refine Hm.out.mono ?_
                    rintro e w6 ⟨rfl, d, rfl⟩
                    have h6 := h5.out.later (below_drewN (Below.refl _ w5) d)
                    have zz := h6.below.size
                    have hx6 := (h6.below.cell (p := ad.add k) (by rw [block_of_add]; exact hb)).trans hx
                    generalize w5.drewN d = w6 at *
                    obtain ⟨A2, c2, X2, hrun, hg2, h7⟩ := h6.step x (by rw [Hl1.out]; omega)
                    obtain ⟨A3, c3, X3, hrun2, hg3, h8⟩ := h7.step2 ((k : Int) + 1) (by rw [Hl2.out]; omega)
                    have c0 := blk_cell h6.want.cell 0
                    have c1 := blk_cell hg2 0
                    have c2' := blk_free hg2 0
                    have d0 := blk_cell h7.at_.cell 0
                    have d1 := blk_cell hg3 0
                    have d2 := blk_free hg3 0
                    have zs3 := blk_lt h6.want.cell
                    simp only [List.getElem?_toArray, List.getElem?_cons_zero] at c0 c1 d0 d1
                    have c0a : ((w6.alloc (.cells #[.int .i64 x] 3)).drew).cell? ⟨s3, 0, none⟩ = some (.slice Aw (hitsOf p k hh).length cw) := (World.cell?_alloc_lt w6 _ ⟨s3, 0, none⟩ zs3).trans c0
                    have H8 := Lib.hid h8
                    rw [Hl1.out] at hrun c0 c1 c0a
                    rw [Hl2.out] at hrun2 d0 d1
                    rw [Hl1.out] at hrun2 d0
                    rw [Hl2.out] at H8
                    clear h6 h7 h8 hg2 hg3
                    go_upto_region 18 with fail
                    refine (wpIn_wide (n := 6)).1 ?_
                    gi_wp2
                    first | (gi_region_with (fail)) | fail
                    all_goals
                      generalize X2.setCell ⟨s3, 0, none⟩ (.slice A2 (m + 1) c2) = W7 at *
                      go_wp2_with fail
                      go_roundw
                      case rel => exact ⟨k + 1, A2, A3, c2, c3, by omega, by go_num, by rw [hn1.out, hn2.out]; exact H8.out⟩
                      case measure => simp [intOf]; omega
                · simp only [Bool.not_true, Bool.or_self, Bool.false_and] at hsn Hp
                  go_wp2_with fail
                  refine hf'.out.mono ?_
                  rintro e w' ⟨rfl, rfl⟩
                  go_wp2_with fail
                  refine hsn.out.mono ?_
                  rintro e w5 ⟨rfl, hB5⟩
                  have hno : p k = false := by simp [Hp.out]
                  have hn1 := Lib.hid (hitsOf_no (hs := hh) hno)
                  have hn2 := Lib.hid (atsOf_no hno)
                  have h5 := Lib.hid (H2.out.later hB5)
                  clear hno
                  go_wp2_with fail
                  go_roundw
                  case rel => exact ⟨k + 1, Aw, Aa, cw, ca, by omega, by go_num, by rw [hn1.out, hn2.out]; exact h5.out⟩
                  case measure => simp [intOf]; omega
              · simp only [Bool.true_or, Bool.true_and] at hsn Hp
                go_wp2_with fail
                refine hsn.out.mono ?_
                rintro e w5 ⟨rfl, hB5⟩
                have hxl5 := (hB5.cell (p := adl.add k) (by rw [block_of_add]; omega)).trans hxl'
                have h5 := Lib.hid (H2.out.later hB5)
                have Hm := Lib.hid (refMatch_any (fun b => b < s3) (fun b => b < s3) adl' AT cl cT ob T w5 (ro.below hB5 (fun b hb => by omega)) (rt.below hB5 (fun b hb => by omega)))
                cases hmt : matchOf ob T
                · rw [hmt] at Hm
                  have hno : p k = false := by simp [Hp.out, hmt]
                  have hn1 := Lib.hid (hitsOf_no (hs := hh) hno)
                  have hn2 := Lib.hid (atsOf_no hno)
                  clear hno hmt
                  go_wp2_with fail
                  refine Hm.out.mono ?_
                  rintro e w6 ⟨rfl, d, rfl⟩
                  have h6 := Lib.hid (h5.out.later (below_drewN (Below.refl _ w5) d))
                  go_wp2_with fail
                  go_roundw
                  case rel => exact ⟨k + 1, Aw, Aa, cw, ca, by omega, by go_num, by rw [hn1.out, hn2.out]; exact h6.out⟩
                  case measure => simp [intOf]; omega
                · rw [hmt] at Hm
                  have hyes : p k = true := by simp [Hp.out, hmt]
                  have hn1 := Lib.hid (Hyes.out hyes)
                  have hn2 := Lib.hid (atsOf_yes hyes)
                  clear hyes hmt
                  go_wp2_with fail
                  refine Hm.out.mono ?_
                  rintro e w6 ⟨rfl, d, rfl⟩
                  have h6 := h5.out.later (below_drewN (Below.refl _ w5) d)
                  have zz := h6.below.size
                  have hx6 := (h6.below.cell (p := ad.add k) (by rw [block_of_add]; exact hb)).trans hx
                  generalize w5.drewN d = w6 at *
                  obtain ⟨A2, c2, X2, hrun, hg2, h7⟩ := h6.step x (by rw [Hl1.out]; omega)
                  obtain ⟨A3, c3, X3, hrun2, hg3, h8⟩ := h7.step2 ((k : Int) + 1) (by rw [Hl2.out]; omega)
                  have c0 := blk_cell h6.want.cell 0
                  have c1 := blk_cell hg2 0
                  have c2' := blk_free hg2 0
                  have d0 := blk_cell h7.at_.cell 0
                  have d1 := blk_cell hg3 0
                  have d2 := blk_free hg3 0
                  have zs3 := blk_lt h6.want.cell
                  simp only [List.getElem?_toArray, List.getElem?_cons_zero] at c0 c1 d0 d1
                  have c0a : ((w6.alloc (.cells #[.int .i64 x] 3)).drew).cell? ⟨s3, 0, none⟩ = some (.slice Aw (hitsOf p k hh).length cw) := (World.cell?_alloc_lt w6 _ ⟨s3, 0, none⟩ zs3).trans c0
                  have H8 := Lib.hid h8
                  rw [Hl1.out] at hrun c0 c1 c0a
                  rw [Hl2.out] at hrun2 d0 d1
                  rw [Hl1.out] at hrun2 d0
                  rw [Hl2.out] at H8
                  clear h6 h7 h8 hg2 hg3
                  go_upto_region 18 with fail
                  refine (wpIn_wide (n := 6)).1 ?_
                  gi_wp2
                  first | (gi_region_with (fail)) | fail
                  all_goals
                    generalize X2.setCell ⟨s3, 0, none⟩ (.slice A2 (m + 1) c2) = W7 at *
                    go_wp2_with fail
                    go_roundw
                    case rel => exact ⟨k + 1, A2, A3, c2, c3, by omega, by go_num, by rw [hn1.out, hn2.out]; exact H8.out⟩
                    case measure => simp [intOf]; omega
            · have hkN : k = N := by omega
              have HkN := Lib.hid hkN
              have h2' := Lib.hid h2
              clear hkN h2
              go_wp2_with fail
              go_meet
              case rel => exact ⟨Aw, Aa, cw, ca, by rw [← HkN.out]; exact h2'.out⟩
          · have hkN : k = N := by omega
            have HkN := Lib.hid hkN
            have h2' := Lib.hid h2
            clear hkN h2
            go_wp2_with fail
            go_meet
            case rel => exact ⟨Aw, Aa, cw, ca, by rw [← HkN.out]; exact h2'.out⟩
      case rest =>
        obtain ⟨Aw, Aa, cw, ca, h2⟩ := hcut
        obtain ⟨W5, rfl⟩ : ∃ W5, W5 = wc := ⟨_, rfl⟩
        have hB5 := h2.below
        have hs3 := Hs3.out
        replace m0 := (hB5.block s (by omega)).trans m0
        replace m1 := (hB5.block (s + 1) (by omega)).trans m1
        replace o2 := (hB5.block g (by omega)).trans o2
        have rl5 := rl4.below hB5 fun b hb => hb
        have rT5 := rT4.below hB5 fun b hb => hb
        have rh5 := rh4.below hB5 fun b hb => hb
        have kw := h2.want.cell
        have ka := h2.at_.cell
        have hM : sc p N ≤ 20 := by have := sc_le p N; have := HN.out; omega
        have rw5 := h2.want.ri (by rw [hitsOf_length]; omega)
        have ra5 := h2.at_.ri (by rw [atsOf_length]; omega)
        rw [hitsOf_length] at kw
        rw [atsOf_length] at ka
        have z5 := blk_lt ka
        have hw5 : Below s w W5 := hw4.trans (hB5.mono (by omega))
        clear h2 hT0 hB4 rl4 rT4 rh4
        have hk0 := heap_alloc_new W5 (.cells #[.int .i64 0] 3)
        have hBk : Below W5.heap.size W5 (W5.alloc (.cells #[.int .i64 0] 3)) := (Below.refl _ W5).alloc (Nat.le_refl _) _
        have hzk : (W5.alloc (.cells #[.int .i64 0] 3)).heap.size = W5.heap.size + 1 := by simp
        have hg1 := fun W => given_any A A1 c c1 hh.length ls.length (some ⟨W5.heap.size, 0, none⟩) W
        have Hg1 := Lib.hid hg1
        clear hs3 hg1
        go_wp2_with fail
        have hs3 := Hs3.out
        obtain ⟨C, hC⟩ : ∃ C, W5.heap.size = C := ⟨_, rfl⟩
        have HC := Lib.hid hC
        rw [hC] at hk0 hBk hzk Hg1 rw5 ra5 z5 ⊢
        generalize W5.alloc (.cells #[.int .i64 0] 3) = W6 at *
        have hw6 : Below s w W6 := hw5.trans (hBk.mono (by omega))
        replace m0 := (hBk.block s (by omega)).trans m0
        replace m1 := (hBk.block (s + 1) (by omega)).trans m1
        replace o2 := (hBk.block g (by omega)).trans o2
        replace kw := (hBk.block s3 (by omega)).trans kw
        replace ka := (hBk.block (s3 + 1) (by omega)).trans ka
        replace rl5 := rl5.below hBk fun b hb => by omega
        replace rT5 := rT5.below hBk fun b hb => by omega
        replace rh5 := rh5.below hBk fun b hb => by omega
        replace rw5 := rw5.below hBk fun b hb => hb.2
        replace ra5 := ra5.below hBk fun b hb => hb.2
        clear hC hBk hw5 hB5
        refine (Hg1.out W6).mono ?_
        rintro e w' ⟨rfl, rfl⟩
        obtain ⟨p0, p1, p2, z7, hB7⟩ := alloc3 W6 (.cells #[.slice A hh.length c] 22) (.cells #[.slice A1 ls.length c1] 23) (.cells #[.pointer (some ⟨C, 0, none⟩)] 36)
        rw [hzk] at p0 p1 p2 z7 hB7 ⊢
        generalize ((W6.alloc (.cells #[.slice A hh.length c] 22)).alloc (.cells #[.slice A1 ls.length c1] 23)).alloc (.cells #[.pointer (some ⟨C, 0, none⟩)] 36) = W7 at *
        have Hz7 := Lib.hid z7
        have hff := fun W => filter_fn 48 #[.pointer (some ⟨C + 1, 0, none⟩), .pointer (some ⟨C + 1 + 1, 0, none⟩), .pointer (some ⟨C + 1 + 1 + 1, 0, none⟩)] AT cT T.length u W
        have Hff := Lib.hid hff
        clear z7 hff
        go_wp2_with fail
        refine (Hff.out W7).mono ?_
        rintro e w' ⟨rfl, rfl⟩
        obtain ⟨q0, q1, q2, z8, hB8⟩ := alloc3 W7 (.cells #[.func (.func 48) #[] #[.pointer (some ⟨C + 1, 0, none⟩), .pointer (some ⟨C + 1 + 1, 0, none⟩), .pointer (some ⟨C + 1 + 1 + 1, 0, none⟩)]] 34) (.cells #[.slice AT T.length cT] 24) (.cells #[.bool u] 4)
        rw [Hz7.out] at q0 q1 q2 z8 hB8 ⊢
        generalize ((W7.alloc (.cells #[.func (.func 48) #[] #[.pointer (some ⟨C + 1, 0, none⟩), .pointer (some ⟨C + 1 + 1, 0, none⟩), .pointer (some ⟨C + 1 + 1 + 1, 0, none⟩)]] 34)).alloc (.cells #[.slice AT T.length cT] 24)).alloc (.cells #[.bool u] 4) = W8 at *
        have hnil := fun w => eql_nil w (.func 47) #[] #[.pointer (some ⟨C + 1 + 3, 0, none⟩), .pointer (some ⟨C + 1 + 3 + 1 + 1, 0, none⟩), .pointer (some ⟨C + 1 + 3 + 1, 0, none⟩)]
        have hk8 := (hB8.block C (by omega)).trans ((hB7.block C (by omega)).trans hk0)
        have kc := blk_cell hk8 0
        simp only [List.getElem?_toArray, List.getElem?_cons_zero] at kc
        have Hz8 := Lib.hid z8
        clear z8
        go_wp2_with fail
        have hs3 := Hs3.out
        refine (wpIn_wide (n := 6)).1 ?_
        obtain ⟨K, hK⟩ : ∃ K, C + 1 + 3 + 3 = K := ⟨_, rfl⟩
        have hKk := heap_alloc_new W8 (.cells #[.int .i64 0] 3)
        have hBK : Below W8.heap.size W8 (W8.alloc (.cells #[.int .i64 0] 3)) := (Below.refl _ W8).alloc (Nat.le_refl _) _
        have hzK : (W8.alloc (.cells #[.int .i64 0] 3)).heap.size = W8.heap.size + 1 := by simp
        rw [Hz8.out, hK] at hKk hBK hzK
        rw [Hz8.out, hK]
        generalize W8.alloc (.cells #[.int .i64 0] 3) = Wk at *
        have hB68 : Below (C + 1) W6 Wk := (hB7.trans (hB8.mono (by omega))).trans (hBK.mono (by omega))
        have hB78 : Below (C + 1 + 3) W7 Wk := hB8.trans (hBK.mono (by omega))
        have hwk : Below s w Wk := hw6.trans (hB68.mono (by omega))
        replace m0 := (hB68.block s (by omega)).trans m0
        replace m1 := (hB68.block (s + 1) (by omega)).trans m1
        replace o2 := (hB68.block g (by omega)).trans o2
        replace kw := (hB68.block s3 (by omega)).trans kw
        replace ka := (hB68.block (s3 + 1) (by omega)).trans ka
        replace hk8 := (hBK.block C (by omega)).trans hk8
        replace rl5 := rl5.below hB68 fun b hb => by omega
        replace rT5 := rT5.below hB68 fun b hb => by omega
        replace rh5 := rh5.below hB68 fun b hb => by omega
        replace rw5 := rw5.below hB68 fun b hb => by have := hb.2; omega
        replace ra5 := ra5.below hB68 fun b hb => by have := hb.2; omega
        have g0 := blk_cell ((hB78.block _ (by omega)).trans p0) 0
        have g1 := blk_cell ((hB78.block _ (by omega)).trans p1) 0
        have g2 := blk_cell ((hB78.block _ (by omega)).trans p2) 0
        have g3 := blk_cell ((hBK.block _ (by omega)).trans q0) 0
        have g4 := blk_cell ((hBK.block _ (by omega)).trans q1) 0
        have g5 := blk_cell ((hBK.block _ (by omega)).trans q2) 0
        simp only [List.getElem?_toArray, List.getElem?_cons_zero] at g0 g1 g2 g3 g4 g5
        have hgs := given_seq (C + 1) K C (fun b => b < s3) A A1 c c1 hh ls cs Wk (fun b hb => by omega) (fun h => by omega) (by omega) (by omega) (by omega) g0 g1 g2 rh5 rl5
        have hfs := filter_seq (C + 1 + 3) K C 48 _ (fun b => b < s3) (fun b => b < s3) A1 AT c1 cT u T hh ls cs Wk (fun b hb => by omega) (fun h => by omega) (fun b hb => by omega) (fun h => by omega) (by omega) (by omega) (by omega)
          g3 g4 g5 rl5 rT5 (enters_of Try.func48 (by kernel_rfl) rfl) (fun w' hb => hgs.later hb)
        rw [hp0, HN.out] at hfs
        have Hfs := Lib.hid hfs
        have hMk := hM
        clear hgs hfs g0 g1 g2 g3 g4 g5 p0 p1 p2 q0 q1 q2 hnil kc hk0 hB7 hB8 hB68 hB78 hw6 rl5 rT5 rh5 Hff Hg1
        have HK := Lib.hid hK
        have zCK : C < K := by omega
        have zsC : s3 + 1 < C := by omega
        have zss : s + 1 < g ∧ g < s3 := by omega
        clear hK
        have zKk := blk_lt hKk
        have hInv : ∀ q : Nat → Nat, OwnFrom Wk.heap.size (fun (j : Nat) X => Counted C (q j) X ∧ Counted K j X ∧ BelowBut K C Wk X) := by
          rintro q j X X' row ⟨a1, a2, a3⟩ hg hr
          have hr' := fun r e => (hr r e).2
          refine ⟨(grownBy_keeps_cells hg hr' a1 rfl).trans a1, (grownBy_keeps_cells hg hr' a2 rfl).trans a2, a3.trans ⟨hg.os, hg.tape, hg.output, hg.size, fun b hb _ => hg.block b ?_ fun e => ?_⟩⟩
          · have := a3.size; omega
          · have := (hr b e.symm).1; omega
        have HInv := Lib.hid hInv
        clear hInv
        refine' wpIn_iter (by omega) (gf := 47) (lb := #[.pointer (some ⟨C + 1 + 3, 0, none⟩), .pointer (some ⟨C + 1 + 3 + 1 + 1, 0, none⟩), .pointer (some ⟨C + 1 + 3 + 1, 0, none⟩)]) rfl (enters_of Try.func47 (by kernel_rfl) rfl)
          Hfs.out (fun h k => BelowBut.trans h k) (fun X l o o' hl ho _ _ => ?hKb) (thit_keeps C p N) (Below.refl _ _) (fun _ => rfl)
          (fun j X => Counted C (atHit p N j) X ∧ Counted K j X ∧ BelowBut K C Wk X)
          (fun j X => Counted C (toHit p N j) X ∧ Counted K j X ∧ BelowBut K C Wk X)
          (fun cc _ X => cc = .ret ∧ X.heap[s + 1]? = some (.cells #[.bool true] 4 (0, 0)) ∧ Below s w X)
          (HInv.out (atHit p N)) (HInv.out (toHit p N)) ?hIx (fun k X _ h => h.1) ?hIT (fun h => by cases h) ?h0 _ ?assign ?body ?done ?stop
        case hKb => exact ⟨rfl, rfl, rfl, by simp, fun b hb _ => World.putObj_heap_other (by omega)⟩
        case hIx =>
          rintro cc j X X' row ⟨a0, a1, a2⟩ hg hr
          have hr' := fun r e => (hr r e).2
          refine ⟨a0, (grownBy_keeps_cells hg hr' a1 rfl).trans a1, a2.trans ⟨hg.os, hg.tape, hg.output, hg.size, fun b hb => hg.block b ?_ fun e => ?_⟩⟩
          · have := a2.size; have := Hs.out; omega
          · have := (hr b e.symm).1; omega
        case hIT =>
          rintro B k X X' hB hk ⟨a1, a2, a3⟩ ht
          exact ⟨ht.2.2, ht.1.same K _ a2 (by omega) (.inr rfl), a3.trans (ht.1.but (by have := a3.size; omega) (by omega))⟩
        case h0 => exact ⟨by simpa [Counted, atHit] using hk8, by simpa [Counted] using hKk, BelowBut.refl _ _ _⟩
        case assign =>
          intro l k X K' hK'
          gi_wp2
          exact hK'
        case body =>
          rintro l j X ⟨a1, a2, a3⟩ hlt _
          have zX := a3.size
          have b0 := blk_cell ((a3.block s (by omega) (by omega)).trans m0) 0
          have hr := (a3.block (s + 1) (by omega) (by omega)).trans m1
          have b1 := blk_cell hr 0
          have b2 := blk_free hr 0
          have b3 := blk_cell ((a3.block g (by omega) (by omega)).trans o2) 0
          have b4 := blk_cell ((a3.block s3 (by omega) (by omega)).trans kw) 0
          have b5 := blk_cell ((a3.block (s3 + 1) (by omega) (by omega)).trans ka) 0
          have b6 := blk_cell a1 0
          have b7 := blk_cell a2 0
          have b8 := blk_free a2 0
          simp only [List.getElem?_toArray, List.getElem?_cons_zero] at b0 b1 b3 b4 b5 b6 b7
          obtain ⟨adw, rfl, hbw, hxw⟩ := (rw5.keep (w' := X) fun q hq => a3.cell (by have := hq.2; omega) (by have := hq.2; omega)).at_ (i := j) (by rw [hitsOf_length]; exact hlt)
          obtain ⟨ada, rfl, hba, hxa⟩ := (ra5.keep (w' := X) fun q hq => a3.cell (by have := hq.2; omega) (by have := hq.2; omega)).at_ (i := j) (by rw [atsOf_length]; exact hlt)
          rw [hitsOf_get hlt] at hxw
          rw [atsOf_get hlt] at hxa
          simp only [List.getD_eq_getElem?_getD] at hxw
          have HX := Lib.hid hlt
          have Hnext := Lib.hid (toHit_succ hlt)
          generalize hh[(selTo p N)[j]?.getD 0]?.getD 0 = x at *
          generalize toHit p N j = q at *
          have hjm : (j : Int) < ((sc p N : Nat) : Int) := by omega
          have hge : ¬ ((sc p N : Nat) : Int) ≤ (j : Int) := by omega
          have hkS := fun v => blk_set a2 0 v
          generalize sc p N = M at *
          have A1 := Lib.hid a1
          have A2 := Lib.hid a2
          have A3 := Lib.hid a3
          have HR := Lib.hid hr
          have hBX : Below s w X := hwk.trans ⟨a3.os, a3.tape, a3.output, a3.size, fun b hb => a3.block b (by omega) (by omega)⟩
          clear a1 a2 a3 hr hlt
          by_cases hmo : (j : Int) + 1 = most
          · have t1 : ((j : Int) + 1 == most) = true := by simp [hmo]
            clear hmo
            have hK2 : ∀ p : Addr, p.block < K → (X.setCell ⟨K, 0, none⟩ (.int .i64 ((j : Int) + 1))).cell? p = X.cell? p := fun p hp => World.cell?_of_block (Below.heap_setCell _ _ _ _ (by show p.block ≠ K; omega))
            have e1 := (hK2 ⟨s + 1, 0, none⟩ (by show s + 1 < K; omega)).trans b1
            have hr2 := (Below.heap_setCell X ⟨K, 0, none⟩ (.int .i64 ((j : Int) + 1)) (s + 1) (by show s + 1 ≠ K; omega)).trans HR.out
            have e2 := blk_free hr2 0
            have e3 := (hK2 ⟨g, 0, none⟩ (by show g < K; omega)).trans b3
            have e5 := (hK2 ⟨s3 + 1, 0, none⟩ (by show s3 + 1 < K; omega)).trans b5
            have e6 := (hK2 ⟨C, 0, none⟩ zCK).trans b6
            have e7 := (hK2 (ada.add j) (by rw [block_of_add]; have := hba.2; omega)).trans hxa
            have e8 := blk_cell (hkS (.int .i64 ((j : Int) + 1))) 0
            simp at e8
            have HK1 := Lib.hid (show Keeps Wk.heap.size (Wk.heap.size + 2) 1 X (X.setCell ⟨K, 0, none⟩ (.int .i64 ((j : Int) + 1))) from Keeps.setCell _ _ _ _ (.inl (by show K < _; omega)) _)
            have HB1 := Lib.hid (hBX.setCell (p := ⟨K, 0, none⟩) (by show s ≤ K; omega) (.int .i64 ((j : Int) + 1)))
            have HR2 := Lib.hid (blk_set hr2 0 (.bool true))
            gi_wp2
            clear b0 b1 b2 b3 b4 b5 b6 b7 b8 hkS hK2 hr2 hxa hxw
            generalize X.setCell ⟨K, 0, none⟩ (.int .i64 ((j : Int) + 1)) = XK at *
            have hwj : IntKind.i64.wrap (j : Int) = (j : Int) := IntWalk.i64_in _ (by have := HX.out; omega)
            first | (gi_region_with (fail)) | fail
            all_goals
              gi_wp2
              refine ⟨HK1.out.trans ((Keeps.drew _ _ _ _).trans (Keeps.setCell _ _ _ _ (.inl (by show s + 1 < _; omega)) _)), rfl, ?_, ?_⟩
              · show (XK.setCell ⟨s + 1, 0, none⟩ (.bool true)).heap[s + 1]? = _
                simpa using HR2.out
              · exact (HB1.out.setCell (p := ⟨s + 1, 0, none⟩) (by show s ≤ s + 1; omega) _).drew
          · have t1 : ((j : Int) + 1 == most) = false := by simp [hmo]
            clear hmo
            gi_wp2
            refine ⟨Keeps.setCell _ _ _ _ (.inl (by show K < _; omega)) _, ⟨rfl, rfl, rfl, by simp [World.setCell], fun b hb _ => Below.heap_setCell _ _ _ _ (by show b ≠ K; omega)⟩, ?_, ?_, A3.out.trans ⟨rfl, rfl, rfl, by simp [World.setCell], fun b hb _ => Below.heap_setCell _ _ _ _ (by show b ≠ K; omega)⟩⟩
            · rw [← Hnext.out]
              exact (Below.heap_setCell _ _ _ _ (by show C ≠ K; omega)).trans A1.out
            · have := hkS (.int .i64 ((j : Int) + 1))
              simpa [Counted] using this
        case done =>
          rintro D X hD ⟨_, a2, a3⟩ hKd
          have zX := a3.size
          have hr := (a3.block (s + 1) (by omega) (by omega)).trans m1
          have b1 := blk_cell hr 0
          have b2 := blk_free hr 0
          have b3 := blk_cell ((a3.block g (by omega) (by omega)).trans o2) 0
          have b4 := blk_cell ((a3.block s3 (by omega) (by omega)).trans kw) 0
          have b7 := blk_cell a2 0
          simp only [List.getElem?_toArray, List.getElem?_cons_zero] at b1 b3 b4 b7
          have hBX : Below s w X := hwk.trans ⟨a3.os, a3.tape, a3.output, a3.size, fun b hb => a3.block b (by omega) (by omega)⟩
          have Hwk := Lib.hid hwk
          clear a2 a3 hwk
          gi_wp2
          go_wp2
          have hK' := (KeepsOthers.setCell X ⟨s + 1, 0, none⟩ (.bool true)).same D _ hKd rfl
          have hc4 : (X.setCell ⟨s + 1, 0, none⟩ (.bool true)).cell? ⟨s + 1, 0, none⟩ = some (.bool true) := World.cell?_setCell_same' X ⟨s + 1, 0, none⟩ (.bool true) (by rw [b1]; rfl)
          have hc5 := cell_kept hc4 (grownBy_putObj' _ D (.deferred none)) (fun r e => by cases e; exact ⟨_, hK', rfl⟩)
          refine ⟨by simp, .inl ⟨_, _, rfl, run_takeDeferred hK', .bool true, ?_, rfl, ?_⟩⟩
          · simp [results, Try.f3, go_sem, hc5]
          · rw [Hs.out]
            exact (hBX.setCell (p := ⟨s + 1, 0, none⟩) (by show s ≤ s + 1; omega) _).trans (belowK_b (w := w) (Nat.le_of_eq Hs.out.symm) _ D _ _ (by have := Hs.out; omega) hK' rfl rfl)
        case stop =>
          rintro D cc k X hD _ _ ⟨rfl, a1, a2⟩ hKd
          have hc1 := blk_cell a1 0
          simp only [List.getElem?_toArray, List.getElem?_cons_zero] at hc1
          gi_wp2
          have hc5 := cell_kept hc1 (grownBy_putObj' _ D (.deferred none)) (fun r e => by cases e; exact ⟨_, hKd, rfl⟩)
          refine ⟨by simp, .inl ⟨_, _, rfl, run_takeDeferred hKd, .bool true, ?_, rfl, ?_⟩⟩
          · simp [results, Try.f3, go_sem, hc5]
          · rw [Hs.out]
            exact a2.trans (belowK_b (w := w) (Nat.le_of_eq Hs.out.symm) _ D _ _ (by have := Hs.out; omega) hKd rfl rfl)
end Go.Proofs.Ytpikikaoelnheaa
