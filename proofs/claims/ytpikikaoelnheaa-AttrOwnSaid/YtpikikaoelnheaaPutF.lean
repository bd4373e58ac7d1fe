/- attrs.Put once more: the values that its answer holds lie in blocks that can be written. -/
import Derived.Test.YtpikikaoelnheaaPut2
namespace Go.Proofs.Ytpikikaoelnheaa
open Go.RowKit

/-- Where something lies there, it lies in a block from base on that can be written. -/
def FreshAt (w : World) (base : Nat) (A : Option Addr) (n : Nat) : Prop := ∀ ad, A = some ad → 0 < n → base ≤ ad.block ∧ ad.block < w.heap.size ∧ ∀ p : Addr, p.block = ad.block → w.frozen? p = false
theorem FreshAt.of_own {w : World} {base n size : Nat} {e : TypeId} {A : Option Addr} {c : Nat} {cs : List Value} (h : w.ownsRow base e size (.slice A n c) n cs) : FreshAt w base A n := by
  intro ad e0 hn
  subst e0
  obtain ⟨h0, ⟨e1, rfl⟩ | ⟨g, cap, cur, e1, hg, hh, h5, h6, h7, h8⟩⟩ := h
  · cases e1
  · injection e1 with e1 e2 e3
    cases e1
    exact ⟨hg, (Array.getElem?_eq_some_iff.1 hh).1, fun p hp => by
      have hh' : w.heap[p.block]? = some (Obj.cells cur e) := by rw [hp]; exact hh
      simp [World.frozen?, hh']⟩
/-- The values' blocks can be written; none is the row's. -/
def FV (w : World) (cs : List Value) (own : Option Nat) : Prop := ∀ ad n c, Value.slice (some ad) n c ∈ cs → 0 < n → ad.block < w.heap.size ∧ own ≠ some ad.block ∧ ∀ p : Addr, p.block = ad.block → w.frozen? p = false
theorem FV.nil_ (w : World) (own : Option Nat) : FV w [] own := fun _ _ _ h => by cases h
theorem FV.later {w w' : World} {cs : List Value} {own : Option Nat} (h : FV w cs own) (hb : Below w.heap.size w w') : FV w' cs own := fun ad n c hm hn => by
  obtain ⟨h1, h2, h3⟩ := h ad n c hm hn
  exact ⟨by have := hb.size; omega, h2, fun p hp => (hb.frozen (by omega)).trans (h3 p hp)⟩
theorem FV.step {wr W2 W3 : World} {cs cs' : List Value} {own own' : Option Nat} {Au : Option Addr} {n cu : Nat} (h : FV wr cs own) (hb : Below wr.heap.size wr W2) (hlt : ∀ g, own = some g → g < wr.heap.size) (hg : W2.grownBy W3 own)
    (hor : own' = own ∨ own' = some W2.heap.size) (hnew : ∀ ad, Au = some ad → 0 < n → wr.heap.size ≤ ad.block ∧ ad.block < W2.heap.size ∧ ∀ p : Addr, p.block = ad.block → W2.frozen? p = false)
    (hmem : ∀ v ∈ cs', v ∈ cs ∨ v = .slice Au n cu ∨ ∃ z, v = .int .i64 z) : FV W3 cs' own' := by
  intro ad k c hm hk
  have z1 := hb.size
  have z2 := hg.size
  have fin : ∀ b, b < W2.heap.size → own ≠ some b → (∀ p : Addr, p.block = b → W2.frozen? p = false) → ∀ p : Addr, p.block = b → W3.frozen? p = false := fun b hb hne hf p hp =>
    (World.frozen?_of_block (w := W2) (by rw [hp]; exact hg.block b hb fun e => hne e.symm)).trans (hf p hp)
  rcases hmem _ hm with h0 | h0 | ⟨z, h0⟩
  · obtain ⟨h1, h2, h3⟩ := h ad k c h0 hk
    refine ⟨by omega, ?_, fin _ (by omega) h2 fun p hp => (hb.frozen (by omega)).trans (h3 p hp)⟩
    rcases hor with e | e
    · rw [e]; exact h2
    · rw [e]; intro e'; injection e' with e'; omega
  · injection h0 with e1 e2 e3
    subst e2
    obtain ⟨h1, h2, h3⟩ := hnew ad e1.symm hk
    have hne : own ≠ some ad.block := fun e => by have := hlt _ e; omega
    refine ⟨by omega, ?_, fin _ h2 hne h3⟩
    rcases hor with e | e
    · rw [e]; exact hne
    · rw [e]; intro e'; injection e' with e'; omega
  · cases h0

set_option maxHeartbeats 400000 in
theorem cloneF_any (P : Nat → Prop) (A : Option Addr) (c : Nat) (bs : List Nat) (w : World) (h : RB w P A c bs) (hP : ∀ b, P b → b < w.heap.size) :
    Calls Try.prog 52 #[.slice A bs.length c] w fun e w' => ∃ A' c', e = .returned (.slice A' bs.length c') ∧ RB w' (In w.heap.size w'.heap.size) A' c' bs ∧ FreshAt w' w.heap.size A' bs.length ∧ Below w.heap.size w w' := by
  obtain ⟨i0, hi, hz0, hz1, hz2⟩ := info_parts info5
  have q22 : ∀ (w : World) (a : Option Addr) (n c n' c' : Nat), (binOp .eql 46 (.slice a n c) (.slice none n' c')).run Try.prog w = .ok (.bool a.isNone) w := fun w a n c n' c' => Lib.run_eql_slice_nil w _ _ a n c n' c' Try.underlying46
  obtain ⟨h1, h2, h3⟩ := h.cap
  have hc0 := h.2.1
  rcases A with _ | ad
  · have hl : bs.length = 0 := by
      rcases Nat.eq_zero_or_pos bs.length with h0 | h0
      · exact h0
      · obtain ⟨ad, h, _⟩ := h.1.2.2.2 h0
        cases h
    obtain rfl := List.eq_nil_of_length_eq_zero hl
    clear hl
    go_enter Try.func52, Try.ntmps52
    go_wp2
    go_ret
    exact ⟨none, 0, rfl, RB.nil_ _ _, fun ad e => (by cases e), Below.refl _ _⟩
  · have h' : RS (w.alloc (.cells #[] 5)) P 1 (some ad) bs.length c (bys bs) := h.1.keep fun p hp => World.cell?_alloc_lt w _ p (hP _ hp)
    clear h
    go_enter Try.func52, Try.ntmps52
    go_wp2_with (at_builtin; refine wpList_append_rs _ rfl _ _ 46 rfl w.heap.size 5 i0 (.int .u8 0) 1 1 Try.underlying46 hi hz0 hz1 hz2 rfl (by decide) _ _ _ rfl (World.ownsRow_made w #[] 0 (Nat.le_refl _) (Nat.zero_le _) rfl) P (some ad) bs.length c (bys bs) rfl h' (oneCell_bys bs) bs.length (by omega) (by unfold maxLen; omega) (by omega) (by simp) ?_)
    intro A' c' w1 hown hgrow _
    go_wp2
    go_ret
    exact ⟨A', c', rfl, RB.of_own (by simpa using hown) hc0 h3, FreshAt.of_own hown, ((Below.refl _ w).alloc (Nat.le_refl _) _).grown hgrow (by simp) (by intro k hk; simp [Value.ownBlock] at hk; omega)⟩

set_option maxRecDepth 100000 in
set_option maxHeartbeats 1000000 in
theorem copiedF_any (P : Nat → Prop) (a : Int × List Nat) (Aa : Option Addr) (ca : Nat) (w : World) (ha : RB w P Aa ca a.2) (hP : ∀ b, P b → b < w.heap.size) :
    Calls Try.prog 54 #[.agg #[.int .i64 a.1, .slice Aa a.2.length ca]] w fun e w' => ∃ A' c', e = .returned (.agg #[.int .i64 a.1, .slice A' a.2.length c']) ∧ RB w' (In w.heap.size w'.heap.size) A' c' a.2 ∧ FreshAt w' w.heap.size A' a.2.length ∧ Below w.heap.size w w' := by
  go_enter Try.func54, Try.ntmps54
  go_wp2_with fail
  obtain ⟨W, hW⟩ : ∃ W, (w.alloc (.cells #[.int .i64 a.1, .slice Aa a.2.length ca] 48)).alloc (.cells #[.int .i64 0, .slice none 0 0] 48) = W := ⟨_, rfl⟩
  have hb0 : W.heap[w.heap.size]? = some (.cells #[.int .i64 a.1, .slice Aa a.2.length ca] 48) := by
    rw [← hW]; exact (Below.heap_alloc _ _ _ (by simp)).trans (heap_alloc_new w _)
  have hb1 : W.heap[w.heap.size + 1]? = some (.cells #[.int .i64 0, .slice none 0 0] 48) := by
    rw [← hW]; have := heap_alloc_new (w.alloc (.cells #[.int .i64 a.1, .slice Aa a.2.length ca] 48)) (.cells #[.int .i64 0, .slice none 0 0] 48); rwa [World.size_alloc] at this
  have hsz : W.heap.size = w.heap.size + 2 := by rw [← hW]; simp
  have hBW : Below w.heap.size w W := by rw [← hW]; exact ((Below.refl _ w).alloc (Nat.le_refl _) _).alloc (by simp) _
  rw [hW]
  have x0 := blk_cell hb0 0
  have x1 := blk_cell hb0 1
  have y0 := blk_cell hb1 0
  have y1 := blk_cell hb1 1
  have f0 := blk_free hb1 0
  have f1 := blk_free hb1 1
  simp at x0 x1 y0 y1
  have haW : RB W P Aa ca a.2 := ha.below hBW hP
  have Hcall := Lib.hid (fun V (hV : RB V P Aa ca a.2) (hs : ∀ b, P b → b < V.heap.size) => cloneF_any P Aa ca a.2 V hV hs)
  have hPW : ∀ b, P b → b < W.heap.size := fun b hb => by have := hP b hb; omega
  have Hsz := Lib.hid hsz
  have hlt0 : w.heap.size < W.heap.size := by omega
  have hlt1 : w.heap.size + 1 < W.heap.size := by omega
  clear hW hsz hb0 hb1
  go_region_held3 (fun w' => w'.cell? ⟨w.heap.size, 0, none⟩ = some (.int .i64 a.1) ∧ w'.cell? ⟨w.heap.size, 1, none⟩ = some (.slice Aa a.2.length ca))
    (first
      | go_keep
      | ((try dsimp only); refine ⟨(hB1.cell (by simp; omega)).trans x0, (hB1.cell (by simp; omega)).trans x1⟩))
    (first
      | (go_at_call 52; refine (Hcall.out _ (by exact haW) (by exact hPW)).mono ?_; rintro e w1 ⟨A1, c1, rfl, hr, hr1, hB1⟩; have z0 := (hB1.cell (p := ⟨w.heap.size + 1, 0, none⟩) (by simp; omega)).trans y0; have z1 := (hB1.cell (p := ⟨w.heap.size + 1, 1, none⟩) (by simp; omega)).trans y1; have g0 := (hB1.frozen (p := ⟨w.heap.size + 1, 0, none⟩) (by simp; omega)).trans f0; have g1 := (hB1.frozen (p := ⟨w.heap.size + 1, 1, none⟩) (by simp; omega)).trans f1; have hs1 := hB1.size))
  go_wp2
  have hs1' : W.heap.size ≤ w1.heap.size := by simpa using hs1
  have hB1' : Below W.heap.size W w1 := ⟨hB1.os, hB1.tape, hB1.output, hB1.size, hB1.block⟩
  have hr' : RB w1 (In W.heap.size w1.heap.size) A1 c1 a.2 := hr
  refine bodyPost_ret (v := .agg #[.int .i64 a.1, .slice A1 a.2.length c1]) (by simp [results, Try.results54, go_sem, z0, z1]) rfl ⟨A1, c1, rfl, ?_, ?_, ?_⟩
  · refine ((hr'.setCell (p := ⟨w.heap.size + 1, 0, none⟩) (fun h => by have := h.1; simp at this; omega) _).setCell (p := ⟨w.heap.size + 1, 1, none⟩) (fun h => by have := h.1; simp at this; omega) _).mono fun b hb => ⟨by have := hb.1; omega, by have := hb.2; simpa [World.setCell] using this⟩
  · intro ad e hn
    obtain ⟨h1, h2, h3⟩ := hr1 ad e hn
    simp at h1 h2
    exact ⟨by omega, by simpa [World.setCell] using h2, fun p hp => by rw [World.frozen?_setCell, World.frozen?_setCell]; exact h3 p hp⟩
  · exact ((hBW.trans (hB1'.mono (by omega))).setCell (p := ⟨w.heap.size + 1, 0, none⟩) (by simp) _).setCell (p := ⟨w.heap.size + 1, 1, none⟩) (by simp) _
set_option maxRecDepth 100000 in
set_option maxHeartbeats 2000000 in
theorem putF_any (P : Nat → Prop) (A : Option Addr) (c : Nat) (l : List (Int × List Nat)) (a : Int × List Nat) (Aa : Option Addr) (ca : Nat) (w : World) (hv : RA w P A c l) (ha : RB w P Aa ca a.2) (hP : ∀ b, P b → b < w.heap.size) (hl : l.length ≤ 100000) :
    Calls Try.prog 36 #[.slice A l.length c, .agg #[.int .i64 a.1, .slice Aa a.2.length ca]] w fun e w' => ∃ A' c' cs, e = .returned (.slice A' (putOf l a).length c') ∧ OA w' (w.heap.size + 1) A' c' (putOf l a) cs ∧ FV w' cs (Value.slice A' (putOf l a).length c').ownBlock ∧ Below w.heap.size w w' := by
  obtain ⟨hlc, hc⟩ := hv.cap
  go_enter Try.func36, Try.ntmps36
  go_wp2
  obtain ⟨w1, hw1⟩ : ∃ w1, w.alloc (.cells #[.int .i64 a.1, .slice Aa a.2.length ca] 48) = w1 := ⟨_, rfl⟩
  have hsz : w1.heap.size = w.heap.size + 1 := by rw [← hw1]; simp
  have hb1 : w1.heap[w.heap.size]? = some (.cells #[.int .i64 a.1, .slice Aa a.2.length ca] 48) := by rw [← hw1]; exact heap_alloc_new w _
  have hBw : Below w.heap.size w w1 := by rw [← hw1]; exact (Below.refl _ _).alloc (Nat.le_refl _) _
  rw [hw1]
  have Hsz := Lib.hid hsz
  have Hb1 := Lib.hid hb1
  clear hw1 hsz hb1
  go_loopw [5, 6, 11] (fun v d i wr => ∃ (k : Nat) (A' : Option Addr) (c' n : Nat) (cs : List Value) (out : List (Int × List Nat)) (q : Option Nat), k ≤ l.length ∧ n ≤ k ∧ out.length = n ∧ v = .slice A' n c' ∧ d = .int .i64 (match q with | none => -1 | some p => (p : Int)) ∧ i = .int .i64 k ∧ OA wr (w.heap.size + 1) A' c' out cs ∧ FV wr cs (Value.slice A' n c').ownBlock ∧ Below (w.heap.size + 1) w1 wr ∧ (match q with | none => putInv l a k out false | some p => putAt l a k out p)) (fun _ _ i _ => l.length - (intOf i).toNat)
  case atStart => exact ⟨0, none, 0, 0, [], [], none, Nat.zero_le _, by omega, rfl, rfl, rfl, rfl, OA.nil_ _ _, FV.nil_ _ _, Below.refl _ _, putInv_zero l a⟩
  case round =>
    obtain ⟨k, A', c', n, cs, out, q, hk, hn, hout, rfl, rfl, rfl, hO, hF, hB, hI⟩ := hrel
    have Hout := Lib.hid hout
    clear hout
    have hs : w.heap.size + 1 ≤ wr.heap.size := by have := hB.size; have := Hsz.out; omega
    have hbox := (hB.block w.heap.size (by omega)).trans Hb1.out
    have x0 := blk_cell hbox 0
    have x1 := blk_cell hbox 1
    simp at x0 x1
    have HO := Lib.hid hO
    have HF := Lib.hid hF
    clear hF
    have hBw' := hBw.trans (hB.mono (by omega))
    have hlt0 : w.heap.size < wr.heap.size := by omega
    clear hbox
    by_cases hlt : k < l.length
    · obtain ⟨ad, Au, cu, rfl, hb, hc1, hc2, hu⟩ := (hv.below hBw' hP).at_ hlt
      have hP1 : ∀ b, P b → b < wr.heap.size := fun b hb => by have := hP b hb; omega
      obtain ⟨x, hx⟩ : ∃ x, l[k] = x := ⟨_, rfl⟩
      rw [hx] at hc1 hc2 hu
      have Hx := Lib.hid hx
      clear hx
      by_cases he : x.1 = a.1
      · have he' : (x.1 == a.1) = true := by simp [he]
        have he2 : (l[k].1 == a.1) = true := by rw [Hx.out]; exact he'
        have He := Lib.hid he2
        clear he he2
        have HI := Lib.hid hI
        clear hI
        cases q
        · have hi := Lib.hid (putInv_skip HI.out hlt He.out)
          go_wp2
          go_roundw
          case rel => exact ⟨k + 1, A', c', n, cs, out, none, by omega, by omega, Hout.out, rfl, rfl, by go_num, HO.out.below ((Below.refl _ wr).alloc (Nat.le_refl _) _), HF.out.later ((Below.refl _ wr).alloc (Nat.le_refl _) _), hB.alloc (by omega) _, hi.out⟩
          case measure => simp [intOf]; omega
        · rename_i p
          have hi := Lib.hid (putAt_skip HI.out hlt He.out)
          go_wp2
          go_roundw
          case rel => exact ⟨k + 1, A', c', n, cs, out, some p, by omega, by omega, Hout.out, rfl, rfl, by go_num, HO.out.below ((Below.refl _ wr).alloc (Nat.le_refl _) _), HF.out.later ((Below.refl _ wr).alloc (Nat.le_refl _) _), hB.alloc (by omega) _, hi.out⟩
          case measure => simp [intOf]; omega
      · have he' : (x.1 == a.1) = false := by simp [he]
        have He := Lib.hid (show (l[k].1 == a.1) = false by rw [Hx.out]; exact he')
        clear he
        have HI := Lib.hid hI
        clear hI
        cases q
        · by_cases hgt : a.1 < x.1
          · have hi := Lib.hid (putAt_hi HI.out hlt He.out (by rw [Hx.out]; exact hgt))
            rw [Hx.out] at hi
            go_wp2_with fail
            refine (copiedF_any P x Au cu _ (hu.keep fun p hp => World.cell?_alloc_lt wr _ p (hP1 _ hp)) (fun b hb => by have := hP1 b hb; simp; omega)).mono ?_
            rintro e w2 ⟨A1, c1, rfl, hr, hr1, hB2⟩
            have hb2 : Below wr.heap.size wr w2 := ((Below.refl _ wr).alloc (Nat.le_refl _) _).trans (hB2.mono (by simp))
            have hO2 := HO.out.below hb2
            have hs2 := hb2.size
            clear hB2
            go_wp2_with (at_builtin; refine app48one (w0 := w2) rfl (.tmp 31) (.tmp 34) rfl (w.heap.size + 1) (.slice A' n c') n cs rfl (Hout.out ▸ hO2.1) 0 rfl rfl ⟨rfl, rfl⟩ (by omega) (by omega) ?_; intro A3 c3 w3 hown3 hg3 hor3)
            have hO3 := OA.snoc (x := x) HO.out Hout.out (hb2.alloc hs2 _) ((hr.keep fun p hp => World.cell?_alloc_lt w2 _ p hp.2).mono fun b hb => ⟨by have := hb.1; simp at this; omega, by have := hb.2; simp; omega⟩) hs hown3 hg3 hor3
            have hF3 := HF.out.step (cs' := cs ++ [.int .i64 x.1, .slice A1 x.2.length c1]) (hb2.alloc hs2 _) (fun g e => (HO.out.1.lt g (by rw [Hout.out]; exact e)).2) hg3 hor3 (fun ad e hn => ⟨by have := hr1 ad e hn; have h' := this.1; (try simp at h'); omega, by have := (hr1 ad e hn).2.1; (try simp); omega, fun p hp => ((Below.refl w2.heap.size w2).alloc (Nat.le_refl _) _).frozen (by have := (hr1 ad e hn).2.1; omega) |>.trans ((hr1 ad e hn).2.2 p hp)⟩) (by intro v hv; simp at hv; rcases hv with hv | hv | hv; exact .inl hv; exact .inr (.inr ⟨_, hv⟩); exact .inr (.inl hv))
            have hB3 := (hB.trans ((hb2.mono hs).alloc (by omega) _)).grown hg3 (by simp; omega) (fun g hg => by rw [← Hout.out] at hg; exact (HO.out.1.lt g hg).1)
            clear hown3 hg3 hor3 hr
            go_roundw
            case rel => exact ⟨k + 1, A3, c3, n + 1, _, _, some out.length, by omega, by omega, by simp [Hout.out], rfl, by rw [Hout.out], by go_num, hO3, hF3, hB3, hi.out⟩
            case measure => simp [intOf]; omega
          · have hi := Lib.hid (putInv_lo HI.out hlt He.out (by rw [Hx.out]; exact hgt))
            rw [Hx.out] at hi
            go_wp2_with fail
            refine (copiedF_any P x Au cu _ (hu.keep fun p hp => World.cell?_alloc_lt wr _ p (hP1 _ hp)) (fun b hb => by have := hP1 b hb; simp; omega)).mono ?_
            rintro e w2 ⟨A1, c1, rfl, hr, hr1, hB2⟩
            have hb2 : Below wr.heap.size wr w2 := ((Below.refl _ wr).alloc (Nat.le_refl _) _).trans (hB2.mono (by simp))
            have hO2 := HO.out.below hb2
            have hs2 := hb2.size
            clear hB2
            go_wp2_with (at_builtin; refine app48one (w0 := w2) rfl (.tmp 31) (.tmp 34) rfl (w.heap.size + 1) (.slice A' n c') n cs rfl (Hout.out ▸ hO2.1) 0 rfl rfl ⟨rfl, rfl⟩ (by omega) (by omega) ?_; intro A3 c3 w3 hown3 hg3 hor3)
            have hO3 := OA.snoc (x := x) HO.out Hout.out (hb2.alloc hs2 _) ((hr.keep fun p hp => World.cell?_alloc_lt w2 _ p hp.2).mono fun b hb => ⟨by have := hb.1; simp at this; omega, by have := hb.2; simp; omega⟩) hs hown3 hg3 hor3
            have hF3 := HF.out.step (cs' := cs ++ [.int .i64 x.1, .slice A1 x.2.length c1]) (hb2.alloc hs2 _) (fun g e => (HO.out.1.lt g (by rw [Hout.out]; exact e)).2) hg3 hor3 (fun ad e hn => ⟨by have := hr1 ad e hn; have h' := this.1; (try simp at h'); omega, by have := (hr1 ad e hn).2.1; (try simp); omega, fun p hp => ((Below.refl w2.heap.size w2).alloc (Nat.le_refl _) _).frozen (by have := (hr1 ad e hn).2.1; omega) |>.trans ((hr1 ad e hn).2.2 p hp)⟩) (by intro v hv; simp at hv; rcases hv with hv | hv | hv; exact .inl hv; exact .inr (.inr ⟨_, hv⟩); exact .inr (.inl hv))
            have hB3 := (hB.trans ((hb2.mono hs).alloc (by omega) _)).grown hg3 (by simp; omega) (fun g hg => by rw [← Hout.out] at hg; exact (HO.out.1.lt g hg).1)
            clear hown3 hg3 hor3 hr
            go_roundw
            case rel => exact ⟨k + 1, A3, c3, n + 1, _, _, none, by omega, by omega, by simp [Hout.out], rfl, rfl, by go_num, hO3, hF3, hB3, hi.out⟩
            case measure => simp [intOf]; omega
        · rename_i p
          have hi := Lib.hid (putAt_more HI.out hlt He.out)
          rw [Hx.out] at hi
          have hp0 : ¬ (p : Int) < 0 := by omega
          go_wp2_with fail
          refine (copiedF_any P x Au cu _ (hu.keep fun p hp => World.cell?_alloc_lt wr _ p (hP1 _ hp)) (fun b hb => by have := hP1 b hb; simp; omega)).mono ?_
          rintro e w2 ⟨A1, c1, rfl, hr, hr1, hB2⟩
          have hb2 : Below wr.heap.size wr w2 := ((Below.refl _ wr).alloc (Nat.le_refl _) _).trans (hB2.mono (by simp))
          have hO2 := HO.out.below hb2
          have hs2 := hb2.size
          clear hB2
          go_wp2_with (at_builtin; refine app48one (w0 := w2) rfl (.tmp 31) (.tmp 34) rfl (w.heap.size + 1) (.slice A' n c') n cs rfl (Hout.out ▸ hO2.1) 0 rfl rfl ⟨rfl, rfl⟩ (by omega) (by omega) ?_; intro A3 c3 w3 hown3 hg3 hor3)
          have hO3 := OA.snoc (x := x) HO.out Hout.out (hb2.alloc hs2 _) ((hr.keep fun p hp => World.cell?_alloc_lt w2 _ p hp.2).mono fun b hb => ⟨by have := hb.1; simp at this; omega, by have := hb.2; simp; omega⟩) hs hown3 hg3 hor3
          have hF3 := HF.out.step (cs' := cs ++ [.int .i64 x.1, .slice A1 x.2.length c1]) (hb2.alloc hs2 _) (fun g e => (HO.out.1.lt g (by rw [Hout.out]; exact e)).2) hg3 hor3 (fun ad e hn => ⟨by have := hr1 ad e hn; have h' := this.1; (try simp at h'); omega, by have := (hr1 ad e hn).2.1; (try simp); omega, fun p hp => ((Below.refl w2.heap.size w2).alloc (Nat.le_refl _) _).frozen (by have := (hr1 ad e hn).2.1; omega) |>.trans ((hr1 ad e hn).2.2 p hp)⟩) (by intro v hv; simp at hv; rcases hv with hv | hv | hv; exact .inl hv; exact .inr (.inr ⟨_, hv⟩); exact .inr (.inl hv))
          have hB3 := (hB.trans ((hb2.mono hs).alloc (by omega) _)).grown hg3 (by simp; omega) (fun g hg => by rw [← Hout.out] at hg; exact (HO.out.1.lt g hg).1)
          clear hown3 hg3 hor3 hr
          go_roundw
          case rel => exact ⟨k + 1, A3, c3, n + 1, _, _, some p, by omega, by omega, by simp [Hout.out], rfl, rfl, by go_num, hO3, hF3, hB3, hi.out⟩
          case measure => simp [intOf]; omega
    · have har : RB wr P Aa ca a.2 := ha.below hBw' hP
      have hP1 : ∀ b, P b → b < wr.heap.size := fun b hb => by have := hP b hb; omega
      have HI := Lib.hid hI
      clear hI
      cases q
      · have hi := putInv_end HI.out hlt
        have hi := Lib.hid hi
        go_wp2_with fail
        refine (copiedF_any P a Aa ca _ har hP1).mono ?_
        rintro e w2 ⟨A1, c1, rfl, hr, hr1, hb2⟩
        have hO2 := HO.out.below hb2
        have hs2 := hb2.size
        have hne2 : (Value.slice A' n c').ownBlock ≠ some w2.heap.size := fun e => by have := HO.out.1.lt _ (by rw [Hout.out]; exact e); omega
        have hins := Lib.hid (insert_any (w.heap.size + 1) n c' n w2.heap.size A' cs (.int .i64 a.1) (.slice A1 a.2.length c1) (w2.alloc (.cells #[.int .i64 a.1, .slice A1 a.2.length c1] 48)) (Nat.le_refl _) (by omega) (Hout.out ▸ hO2.1.alloc _) (by simp; omega) (heap_alloc_new w2 _) hne2 (CA.one (w := wr) HO.out.2 (by have := HO.out.1.1; omega)) ⟨rfl, rfl⟩)
        go_wp2_with fail
        refine hins.out.mono ?_
        rintro e w3 ⟨A3, c3, rfl, hown3, hg3, hor3⟩
        have hO3 := OA.inserted (x := a) (p := n) HO.out Hout.out (hb2.alloc hs2 _) ((hr.keep fun p hp => World.cell?_alloc_lt w2 _ p hp.2).mono fun b hb => ⟨hb.1, by have := hb.2; simp; omega⟩) hs (Nat.le_refl _) hown3 hg3 hor3
        have hF3 := HF.out.step (cs' := cs.take (n * 2) ++ [.int .i64 a.1, .slice A1 a.2.length c1] ++ cs.drop (n * 2)) (hb2.alloc hs2 _) (fun g e => (HO.out.1.lt g (by rw [Hout.out]; exact e)).2) hg3 hor3 (fun ad e hn => ⟨by have := hr1 ad e hn; have h' := this.1; (try simp at h'); omega, by have := (hr1 ad e hn).2.1; (try simp); omega, fun p hp => ((Below.refl w2.heap.size w2).alloc (Nat.le_refl _) _).frozen (by have := (hr1 ad e hn).2.1; omega) |>.trans ((hr1 ad e hn).2.2 p hp)⟩) (by intro v hv; simp only [List.mem_append, List.mem_cons, List.not_mem_nil, or_false] at hv; rcases hv with (hv | hv | hv) | hv; exact .inl (List.mem_of_mem_take hv); exact .inr (.inr ⟨_, hv⟩); exact .inr (.inl hv); exact .inl (List.mem_of_mem_drop hv))
        have hB3 := (hb2.alloc hs2 (.cells #[.int .i64 a.1, .slice A1 a.2.length c1] 48)).mono hs
        have hB4 := hB3.grown hg3 (by simp; omega) (fun g hg => by rw [← Hout.out] at hg; exact (HO.out.1.lt g hg).1)
        have he := Lib.hid (show putOf l a = out.take n ++ [a] ++ out.drop n by rw [hi.out, List.take_of_length_le (by rw [Hout.out]; omega), List.drop_eq_nil_of_le (by rw [Hout.out]; omega), List.append_nil])
        rw [← he.out] at hO3
        have hl3 := Lib.hid (show (putOf l a).length = n + 1 by rw [he.out]; simp [Hout.out] <;> omega)
        clear hown3 hg3 hor3 hins hB3
        go_wp2
        go_ret
        exact ⟨A3, c3, _, by rw [hl3.out]; rfl, hO3, by rw [hl3.out]; exact hF3, hBw'.trans (hB4.mono (by omega))⟩
      · rename_i p
        have hp0 : ¬ (p : Int) < 0 := by omega
        have hpn : p ≤ n := by have := HI.out.1; have := Hout.out; omega
        have hi := Lib.hid (putAt_end HI.out hlt)
        go_wp2_with fail
        refine (copiedF_any P a Aa ca _ har hP1).mono ?_
        rintro e w2 ⟨A1, c1, rfl, hr, hr1, hb2⟩
        have hO2 := HO.out.below hb2
        have hs2 := hb2.size
        have hne2 : (Value.slice A' n c').ownBlock ≠ some w2.heap.size := fun e => by have := HO.out.1.lt _ (by rw [Hout.out]; exact e); omega
        have hins := Lib.hid (insert_any (w.heap.size + 1) n c' p w2.heap.size A' cs (.int .i64 a.1) (.slice A1 a.2.length c1) (w2.alloc (.cells #[.int .i64 a.1, .slice A1 a.2.length c1] 48)) hpn (by omega) (Hout.out ▸ hO2.1.alloc _) (by simp; omega) (heap_alloc_new w2 _) hne2 (CA.one (w := wr) HO.out.2 (by have := HO.out.1.1; omega)) ⟨rfl, rfl⟩)
        go_wp2_with fail
        refine hins.out.mono ?_
        rintro e w3 ⟨A3, c3, rfl, hown3, hg3, hor3⟩
        have hO3 := OA.inserted (x := a) (p := p) HO.out Hout.out (hb2.alloc hs2 _) ((hr.keep fun p hp => World.cell?_alloc_lt w2 _ p hp.2).mono fun b hb => ⟨hb.1, by have := hb.2; simp; omega⟩) hs hpn hown3 hg3 hor3
        have hF3 := HF.out.step (cs' := cs.take (p * 2) ++ [.int .i64 a.1, .slice A1 a.2.length c1] ++ cs.drop (p * 2)) (hb2.alloc hs2 _) (fun g e => (HO.out.1.lt g (by rw [Hout.out]; exact e)).2) hg3 hor3 (fun ad e hn => ⟨by have := hr1 ad e hn; have h' := this.1; (try simp at h'); omega, by have := (hr1 ad e hn).2.1; (try simp); omega, fun p hp => ((Below.refl w2.heap.size w2).alloc (Nat.le_refl _) _).frozen (by have := (hr1 ad e hn).2.1; omega) |>.trans ((hr1 ad e hn).2.2 p hp)⟩) (by intro v hv; simp only [List.mem_append, List.mem_cons, List.not_mem_nil, or_false] at hv; rcases hv with (hv | hv | hv) | hv; exact .inl (List.mem_of_mem_take hv); exact .inr (.inr ⟨_, hv⟩); exact .inr (.inl hv); exact .inl (List.mem_of_mem_drop hv))
        have hB3 := (hb2.alloc hs2 (.cells #[.int .i64 a.1, .slice A1 a.2.length c1] 48)).mono hs
        have hB4 := hB3.grown hg3 (by simp; omega) (fun g hg => by rw [← Hout.out] at hg; exact (HO.out.1.lt g hg).1)
        have he := Lib.hid (show putOf l a = out.take p ++ [a] ++ out.drop p by rw [hi.out]; simp)
        rw [← he.out] at hO3
        have hl3 := Lib.hid (show (putOf l a).length = n + 1 by rw [he.out]; simp [Hout.out] <;> omega)
        clear hown3 hg3 hor3 hins hB3
        go_wp2
        go_ret
        exact ⟨A3, c3, _, by rw [hl3.out]; rfl, hO3, by rw [hl3.out]; exact hF3, hBw'.trans (hB4.mono (by omega))⟩
end Go.Proofs.Ytpikikaoelnheaa
