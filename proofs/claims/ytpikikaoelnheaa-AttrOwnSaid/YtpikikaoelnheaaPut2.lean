/- What attrs.Put computes. -/
import Derived.Test.YtpikikaoelnheaaInsert2
namespace Go.Proofs.Ytpikikaoelnheaa
open Go.RowKit

/-- The cells cs read as the attributes l, the values lying in blocks of which V holds. -/
def CA (w : World) (V : Nat → Prop) (l : List (Int × List Nat)) (cs : List Value) : Prop :=
  ∀ j x, l[j]? = some x → cs[j * 2]? = some (.int .i64 x.1) ∧ ∃ A' c', cs[j * 2 + 1]? = some (.slice A' x.2.length c') ∧ RB w V A' c' x.2
section
variable {w w' : World} {V V' : Nat → Prop} {l l' : List (Int × List Nat)} {cs cs' : List Value}
theorem CA.app (h : CA w V l cs) (h' : CA w V l' cs') (hl : cs.length = l.length * 2) : CA w V (l ++ l') (cs ++ cs') := by
  intro j x hx
  rcases Nat.lt_or_ge j l.length with hj | hj
  · rw [List.getElem?_append_left hj] at hx
    rw [List.getElem?_append_left (by omega), List.getElem?_append_left (by omega)]
    exact h j x hx
  · rw [List.getElem?_append_right hj] at hx
    rw [List.getElem?_append_right (by omega), List.getElem?_append_right (by omega), hl, show j * 2 - l.length * 2 = (j - l.length) * 2 by omega, show j * 2 + 1 - l.length * 2 = (j - l.length) * 2 + 1 by omega]
    exact h' _ x hx
theorem CA.take (h : CA w V l cs) (n : Nat) : CA w V (l.take n) (cs.take (n * 2)) := by
  intro j x hx
  rw [List.getElem?_take] at hx
  split at hx
  · rw [List.getElem?_take, List.getElem?_take, if_pos (by omega), if_pos (by omega)]
    exact h j x hx
  · cases hx
theorem CA.drop (h : CA w V l cs) (n : Nat) : CA w V (l.drop n) (cs.drop (n * 2)) := by
  intro j x hx
  rw [List.getElem?_drop] at hx
  rw [List.getElem?_drop, List.getElem?_drop, show n * 2 + j * 2 = (n + j) * 2 by omega, show n * 2 + (j * 2 + 1) = (n + j) * 2 + 1 by omega]
  exact h _ x hx
theorem CA.keep (h : CA w V l cs) (hk : ∀ p : Addr, V p.block → w'.cell? p = w.cell? p) (hV : ∀ b, V b → V' b) : CA w' V' l cs := by
  intro j x hx
  obtain ⟨h1, A', c', h2, h3⟩ := h j x hx
  exact ⟨h1, A', c', h2, (h3.keep hk).mono hV⟩
theorem CA.single {x : Int × List Nat} {A : Option Addr} {c : Nat} (h : RB w V A c x.2) : CA w V [x] [.int .i64 x.1, .slice A x.2.length c] := by
  intro j y hy
  have hj : j = 0 := by
    have := (List.getElem?_eq_some_iff.1 hy).1
    simp at this
    omega
  subst hj
  simp at hy
  subst hy
  exact ⟨rfl, A, c, rfl, h⟩
theorem CA.one (h : CA w V l cs) (hl : cs.length = l.length * 2) : ∀ u ∈ cs, u.oneCell' = true := by
  intro u hu
  obtain ⟨j, hj⟩ := List.getElem?_of_mem hu
  have hjl := (List.getElem?_eq_some_iff.1 hj).1
  obtain ⟨h1, A', c', h2, h3⟩ := h (j / 2) _ (List.getElem?_eq_getElem (by omega))
  rcases Nat.mod_two_eq_zero_or_one j with e | e
  · rw [show j / 2 * 2 = j by omega, hj] at h1
    injection h1 with h1
    subst h1
    rfl
  · rw [show j / 2 * 2 + 1 = j by omega, hj] at h2
    injection h2 with h2
    subst h2
    rfl
end

/-- Behind an insertion of one attribute. -/
theorem OA.inserted {wr W2 W3 : World} {base : Nat} {A A' : Option Addr} {c c' : Nat} {l : List (Int × List Nat)} {cs : List Value} {m p : Nat} (h : OA wr base A c l cs) (hm : l.length = m) (hb : Below wr.heap.size wr W2) {x : Int × List Nat} {Au : Option Addr} {cu : Nat}
    (hu : RB W2 (In wr.heap.size W2.heap.size) Au cu x.2) (hbase : base ≤ wr.heap.size) (hp : p ≤ m)
    (hown : W3.ownsRow base 48 2 (.slice A' (m + 1) c') (m + 1) (cs.take (p * 2) ++ [.int .i64 x.1, .slice Au x.2.length cu] ++ cs.drop (p * 2))) (hg : W2.grownBy W3 (Value.slice A m c).ownBlock)
    (hor : (Value.slice A' (m + 1) c').ownBlock = (Value.slice A m c).ownBlock ∨ (Value.slice A' (m + 1) c').ownBlock = some W2.heap.size) :
    OA W3 base A' c' (l.take p ++ [x] ++ l.drop p) (cs.take (p * 2) ++ [.int .i64 x.1, .slice Au x.2.length cu] ++ cs.drop (p * 2)) := by
  subst hm
  have hl := h.1.1
  have hlt := h.1.lt
  have hs := hb.size
  have hs' := hg.size
  have elen : (l.take p ++ [x] ++ l.drop p).length = l.length + 1 := by simp; omega
  have kept : ∀ (b : Nat), b < W2.heap.size → (Value.slice A l.length c).ownBlock ≠ some b → W3.heap[b]? = W2.heap[b]? := fun b h1 h2 => hg.block b h1 (fun e => h2 e.symm)
  have hold : CA W3 (fun b => base ≤ b ∧ b < W3.heap.size ∧ (Value.slice A' (l.length + 1) c').ownBlock ≠ some b) l cs := CA.keep (w := wr) (V := fun b => base ≤ b ∧ b < wr.heap.size ∧ (Value.slice A l.length c).ownBlock ≠ some b) h.2
    (fun q hq => (World.cell?_of_block (kept _ (by omega) hq.2.2)).trans (hb.cell hq.2.1))
    (fun b hq => ⟨hq.1, by omega, by
      rcases hor with e | e
      · rw [e]; exact hq.2.2
      · rw [e]; intro e'; injection e' with e'; omega⟩)
  have hnew : RB W3 (fun b => base ≤ b ∧ b < W3.heap.size ∧ (Value.slice A' (l.length + 1) c').ownBlock ≠ some b) Au cu x.2 := by
    refine (hu.keep fun q hq => ?_).mono fun b hq => ?_
    · refine World.cell?_of_block (kept _ hq.2 fun e => ?_)
      have := (hlt _ e).2
      have := hq.1
      omega
    · have h1 := hq.1
      have h2 := hq.2
      refine ⟨by omega, by omega, ?_⟩
      rcases hor with e | e
      · rw [e]; intro e'; have := (hlt _ e').2; omega
      · rw [e]; intro e'; injection e' with e'; omega
  rw [OA, elen]
  exact ⟨hown, ((hold.take p).app (CA.single hnew) (by simp; omega)).app (hold.drop p) (by simp; omega)⟩

set_option maxRecDepth 100000 in
set_option maxHeartbeats 2000000 in
theorem put_any (P : Nat → Prop) (A : Option Addr) (c : Nat) (l : List (Int × List Nat)) (a : Int × List Nat) (Aa : Option Addr) (ca : Nat) (w : World) (hv : RA w P A c l) (ha : RB w P Aa ca a.2) (hP : ∀ b, P b → b < w.heap.size) (hl : l.length ≤ 100000) :
    Calls Try.prog 36 #[.slice A l.length c, .agg #[.int .i64 a.1, .slice Aa a.2.length ca]] w fun e w' => ∃ A' c' cs, e = .returned (.slice A' (putOf l a).length c') ∧ OA w' (w.heap.size + 1) A' c' (putOf l a) cs ∧ Below w.heap.size w w' := by
  obtain ⟨hlc, hc⟩ := hv.cap
  go_enter Try.func36, Try.ntmps36
  go_wp2
  obtain ⟨w1, hw1⟩ : ∃ w1, w.alloc (.cells #[.int .i64 a.1, .slice Aa a.2.length ca] 48) = w1 := ⟨_, rfl⟩
  have hsz : w1.heap.size = w.heap.size + 1 := by rw [← hw1]; simp
  have hb1 : w1.heap[w.heap.size]? = some (.cells #[.int .i64 a.1, .slice Aa a.2.length ca] 48) := by rw [← hw1]; exact heap_alloc_new w _
  have hBw : Below w.heap.size w w1 := by rw [← hw1]; exact (Below.refl _ _).alloc (Nat.le_refl _) _
  rw [hw1]
  have Hsz := Lib.hid hsz
  have Hb1 := Lib.hid hb1
  clear hw1 hsz hb1
  go_loopw [5, 6, 11] (fun v d i wr => ∃ (k : Nat) (A' : Option Addr) (c' n : Nat) (cs : List Value) (out : List (Int × List Nat)) (q : Option Nat), k ≤ l.length ∧ n ≤ k ∧ out.length = n ∧ v = .slice A' n c' ∧ d = .int .i64 (match q with | none => -1 | some p => (p : Int)) ∧ i = .int .i64 k ∧ OA wr (w.heap.size + 1) A' c' out cs ∧ Below (w.heap.size + 1) w1 wr ∧ (match q with | none => putInv l a k out false | some p => putAt l a k out p)) (fun _ _ i _ => l.length - (intOf i).toNat)
  case atStart => exact ⟨0, none, 0, 0, [], [], none, Nat.zero_le _, by omega, rfl, rfl, rfl, rfl, OA.nil_ _ _, Below.refl _ _, putInv_zero l a⟩
  case round =>
    obtain ⟨k, A', c', n, cs, out, q, hk, hn, hout, rfl, rfl, rfl, hO, hB, hI⟩ := hrel
    have Hout := Lib.hid hout
    clear hout
    have hs : w.heap.size + 1 ≤ wr.heap.size := by have := hB.size; have := Hsz.out; omega
    have hbox := (hB.block w.heap.size (by omega)).trans Hb1.out
    have x0 := blk_cell hbox 0
    have x1 := blk_cell hbox 1
    simp at x0 x1
    have HO := Lib.hid hO
    have hBw' := hBw.trans (hB.mono (by omega))
    have hlt0 : w.heap.size < wr.heap.size := by omega
    clear hbox
    by_cases hlt : k < l.length
    · obtain ⟨ad, Au, cu, rfl, hb, hc1, hc2, hu⟩ := (hv.below hBw' hP).at_ hlt
      have hP1 : ∀ b, P b → b < wr.heap.size := fun b hb => by have := hP b hb; omega
      obtain ⟨x, hx⟩ : ∃ x, l[k] = x := ⟨_, rfl⟩
      rw [hx] at hc1 hc2 hu
      have Hx := Lib.hid hx
      clear hx
      by_cases he : x.1 = a.1
      · have he' : (x.1 == a.1) = true := by simp [he]
        have he2 : (l[k].1 == a.1) = true := by rw [Hx.out]; exact he'
        have He := Lib.hid he2
        clear he he2
        have HI := Lib.hid hI
        clear hI
        cases q
        · have hi := Lib.hid (putInv_skip HI.out hlt He.out)
          go_wp2
          go_roundw
          case rel => exact ⟨k + 1, A', c', n, cs, out, none, by omega, by omega, Hout.out, rfl, rfl, by go_num, HO.out.below ((Below.refl _ wr).alloc (Nat.le_refl _) _), hB.alloc (by omega) _, hi.out⟩
          case measure => simp [intOf]; omega
        · rename_i p
          have hi := Lib.hid (putAt_skip HI.out hlt He.out)
          go_wp2
          go_roundw
          case rel => exact ⟨k + 1, A', c', n, cs, out, some p, by omega, by omega, Hout.out, rfl, rfl, by go_num, HO.out.below ((Below.refl _ wr).alloc (Nat.le_refl _) _), hB.alloc (by omega) _, hi.out⟩
          case measure => simp [intOf]; omega
      · have he' : (x.1 == a.1) = false := by simp [he]
        have He := Lib.hid (show (l[k].1 == a.1) = false by rw [Hx.out]; exact he')
        clear he
        have HI := Lib.hid hI
        clear hI
        cases q
        · by_cases hgt : a.1 < x.1
          · have hi := Lib.hid (putAt_hi HI.out hlt He.out (by rw [Hx.out]; exact hgt))
            rw [Hx.out] at hi
            go_wp2_with fail
            refine (copied_any P x Au cu _ (hu.keep fun p hp => World.cell?_alloc_lt wr _ p (hP1 _ hp)) (fun b hb => by have := hP1 b hb; simp; omega)).mono ?_
            rintro e w2 ⟨A1, c1, rfl, hr, hB2⟩
            have hb2 : Below wr.heap.size wr w2 := ((Below.refl _ wr).alloc (Nat.le_refl _) _).trans (hB2.mono (by simp))
            have hO2 := HO.out.below hb2
            have hs2 := hb2.size
            clear hB2
            go_wp2_with (at_builtin; refine app48one (w0 := w2) rfl (.tmp 31) (.tmp 34) rfl (w.heap.size + 1) (.slice A' n c') n cs rfl (Hout.out ▸ hO2.1) 0 rfl rfl ⟨rfl, rfl⟩ (by omega) (by omega) ?_; intro A3 c3 w3 hown3 hg3 hor3)
            have hO3 := OA.snoc (x := x) HO.out Hout.out (hb2.alloc hs2 _) ((hr.keep fun p hp => World.cell?_alloc_lt w2 _ p hp.2).mono fun b hb => ⟨by have := hb.1; simp at this; omega, by have := hb.2; simp; omega⟩) hs hown3 hg3 hor3
            have hB3 := (hB.trans ((hb2.mono hs).alloc (by omega) _)).grown hg3 (by simp; omega) (fun g hg => by rw [← Hout.out] at hg; exact (HO.out.1.lt g hg).1)
            clear hown3 hg3 hor3 hr
            go_roundw
            case rel => exact ⟨k + 1, A3, c3, n + 1, _, _, some out.length, by omega, by omega, by simp [Hout.out], rfl, by rw [Hout.out], by go_num, hO3, hB3, hi.out⟩
            case measure => simp [intOf]; omega
          · have hi := Lib.hid (putInv_lo HI.out hlt He.out (by rw [Hx.out]; exact hgt))
            rw [Hx.out] at hi
            go_wp2_with fail
            refine (copied_any P x Au cu _ (hu.keep fun p hp => World.cell?_alloc_lt wr _ p (hP1 _ hp)) (fun b hb => by have := hP1 b hb; simp; omega)).mono ?_
            rintro e w2 ⟨A1, c1, rfl, hr, hB2⟩
            have hb2 : Below wr.heap.size wr w2 := ((Below.refl _ wr).alloc (Nat.le_refl _) _).trans (hB2.mono (by simp))
            have hO2 := HO.out.below hb2
            have hs2 := hb2.size
            clear hB2
            go_wp2_with (at_builtin; refine app48one (w0 := w2) rfl (.tmp 31) (.tmp 34) rfl (w.heap.size + 1) (.slice A' n c') n cs rfl (Hout.out ▸ hO2.1) 0 rfl rfl ⟨rfl, rfl⟩ (by omega) (by omega) ?_; intro A3 c3 w3 hown3 hg3 hor3)
            have hO3 := OA.snoc (x := x) HO.out Hout.out (hb2.alloc hs2 _) ((hr.keep fun p hp => World.cell?_alloc_lt w2 _ p hp.2).mono fun b hb => ⟨by have := hb.1; simp at this; omega, by have := hb.2; simp; omega⟩) hs hown3 hg3 hor3
            have hB3 := (hB.trans ((hb2.mono hs).alloc (by omega) _)).grown hg3 (by simp; omega) (fun g hg => by rw [← Hout.out] at hg; exact (HO.out.1.lt g hg).1)
            clear hown3 hg3 hor3 hr
            go_roundw
            case rel => exact ⟨k + 1, A3, c3, n + 1, _, _, none, by omega, by omega, by simp [Hout.out], rfl, rfl, by go_num, hO3, hB3, hi.out⟩
            case measure => simp [intOf]; omega
        · rename_i p
          have hi := Lib.hid (putAt_more HI.out hlt He.out)
          rw [Hx.out] at hi
          have hp0 : ¬ (p : Int) < 0 := by omega
          go_wp2_with fail
          refine (copied_any P x Au cu _ (hu.keep fun p hp => World.cell?_alloc_lt wr _ p (hP1 _ hp)) (fun b hb => by have := hP1 b hb; simp; omega)).mono ?_
          rintro e w2 ⟨A1, c1, rfl, hr, hB2⟩
          have hb2 : Below wr.heap.size wr w2 := ((Below.refl _ wr).alloc (Nat.le_refl _) _).trans (hB2.mono (by simp))
          have hO2 := HO.out.below hb2
          have hs2 := hb2.size
          clear hB2
          go_wp2_with (at_builtin; refine app48one (w0 := w2) rfl (.tmp 31) (.tmp 34) rfl (w.heap.size + 1) (.slice A' n c') n cs rfl (Hout.out ▸ hO2.1) 0 rfl rfl ⟨rfl, rfl⟩ (by omega) (by omega) ?_; intro A3 c3 w3 hown3 hg3 hor3)
          have hO3 := OA.snoc (x := x) HO.out Hout.out (hb2.alloc hs2 _) ((hr.keep fun p hp => World.cell?_alloc_lt w2 _ p hp.2).mono fun b hb => ⟨by have := hb.1; simp at this; omega, by have := hb.2; simp; omega⟩) hs hown3 hg3 hor3
          have hB3 := (hB.trans ((hb2.mono hs).alloc (by omega) _)).grown hg3 (by simp; omega) (fun g hg => by rw [← Hout.out] at hg; exact (HO.out.1.lt g hg).1)
          clear hown3 hg3 hor3 hr
          go_roundw
          case rel => exact ⟨k + 1, A3, c3, n + 1, _, _, some p, by omega, by omega, by simp [Hout.out], rfl, rfl, by go_num, hO3, hB3, hi.out⟩
          case measure => simp [intOf]; omega
    · have har : RB wr P Aa ca a.2 := ha.below hBw' hP
      have hP1 : ∀ b, P b → b < wr.heap.size := fun b hb => by have := hP b hb; omega
      have HI := Lib.hid hI
      clear hI
      cases q
      · have hi := putInv_end HI.out hlt
        have hi := Lib.hid hi
        go_wp2_with fail
        refine (copied_any P a Aa ca _ har hP1).mono ?_
        rintro e w2 ⟨A1, c1, rfl, hr, hb2⟩
        have hO2 := HO.out.below hb2
        have hs2 := hb2.size
        have hne2 : (Value.slice A' n c').ownBlock ≠ some w2.heap.size := fun e => by have := HO.out.1.lt _ (by rw [Hout.out]; exact e); omega
        have hins := Lib.hid (insert_any (w.heap.size + 1) n c' n w2.heap.size A' cs (.int .i64 a.1) (.slice A1 a.2.length c1) (w2.alloc (.cells #[.int .i64 a.1, .slice A1 a.2.length c1] 48)) (Nat.le_refl _) (by omega) (Hout.out ▸ hO2.1.alloc _) (by simp; omega) (heap_alloc_new w2 _) hne2 (CA.one (w := wr) HO.out.2 (by have := HO.out.1.1; omega)) ⟨rfl, rfl⟩)
        go_wp2_with fail
        refine hins.out.mono ?_
        rintro e w3 ⟨A3, c3, rfl, hown3, hg3, hor3⟩
        have hO3 := OA.inserted (x := a) (p := n) HO.out Hout.out (hb2.alloc hs2 _) ((hr.keep fun p hp => World.cell?_alloc_lt w2 _ p hp.2).mono fun b hb => ⟨hb.1, by have := hb.2; simp; omega⟩) hs (Nat.le_refl _) hown3 hg3 hor3
        have hB3 := (hb2.alloc hs2 (.cells #[.int .i64 a.1, .slice A1 a.2.length c1] 48)).mono hs
        have hB4 := hB3.grown hg3 (by simp; omega) (fun g hg => by rw [← Hout.out] at hg; exact (HO.out.1.lt g hg).1)
        have he := Lib.hid (show putOf l a = out.take n ++ [a] ++ out.drop n by rw [hi.out, List.take_of_length_le (by rw [Hout.out]; omega), List.drop_eq_nil_of_le (by rw [Hout.out]; omega), List.append_nil])
        rw [← he.out] at hO3
        have hl3 := Lib.hid (show (putOf l a).length = n + 1 by rw [he.out]; simp [Hout.out] <;> omega)
        clear hown3 hg3 hor3 hins hB3
        go_wp2
        go_ret
        exact ⟨A3, c3, _, by rw [hl3.out]; rfl, hO3, hBw'.trans (hB4.mono (by omega))⟩
      · rename_i p
        have hp0 : ¬ (p : Int) < 0 := by omega
        have hpn : p ≤ n := by have := HI.out.1; have := Hout.out; omega
        have hi := Lib.hid (putAt_end HI.out hlt)
        go_wp2_with fail
        refine (copied_any P a Aa ca _ har hP1).mono ?_
        rintro e w2 ⟨A1, c1, rfl, hr, hb2⟩
        have hO2 := HO.out.below hb2
        have hs2 := hb2.size
        have hne2 : (Value.slice A' n c').ownBlock ≠ some w2.heap.size := fun e => by have := HO.out.1.lt _ (by rw [Hout.out]; exact e); omega
        have hins := Lib.hid (insert_any (w.heap.size + 1) n c' p w2.heap.size A' cs (.int .i64 a.1) (.slice A1 a.2.length c1) (w2.alloc (.cells #[.int .i64 a.1, .slice A1 a.2.length c1] 48)) hpn (by omega) (Hout.out ▸ hO2.1.alloc _) (by simp; omega) (heap_alloc_new w2 _) hne2 (CA.one (w := wr) HO.out.2 (by have := HO.out.1.1; omega)) ⟨rfl, rfl⟩)
        go_wp2_with fail
        refine hins.out.mono ?_
        rintro e w3 ⟨A3, c3, rfl, hown3, hg3, hor3⟩
        have hO3 := OA.inserted (x := a) (p := p) HO.out Hout.out (hb2.alloc hs2 _) ((hr.keep fun p hp => World.cell?_alloc_lt w2 _ p hp.2).mono fun b hb => ⟨hb.1, by have := hb.2; simp; omega⟩) hs hpn hown3 hg3 hor3
        have hB3 := (hb2.alloc hs2 (.cells #[.int .i64 a.1, .slice A1 a.2.length c1] 48)).mono hs
        have hB4 := hB3.grown hg3 (by simp; omega) (fun g hg => by rw [← Hout.out] at hg; exact (HO.out.1.lt g hg).1)
        have he := Lib.hid (show putOf l a = out.take p ++ [a] ++ out.drop p by rw [hi.out]; simp)
        rw [← he.out] at hO3
        have hl3 := Lib.hid (show (putOf l a).length = n + 1 by rw [he.out]; simp [Hout.out] <;> omega)
        clear hown3 hg3 hor3 hins hB3
        go_wp2
        go_ret
        exact ⟨A3, c3, _, by rw [hl3.out]; rfl, hO3, hBw'.trans (hB4.mono (by omega))⟩
end Go.Proofs.Ytpikikaoelnheaa
