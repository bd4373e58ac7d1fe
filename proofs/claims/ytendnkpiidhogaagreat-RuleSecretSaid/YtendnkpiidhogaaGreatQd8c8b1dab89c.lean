/- What attrs.Put computes. What zbyte's Append16, Get16, Get32, attrs.Int and the reference's Int compute. What attrs.Form, attrs.Fine and the reference's compute. A range over an iterator that hands over a known row of values: what the iterator owes, what the statement gives. Nothing here speaks of the program. What attrs.Types hands over: the types that have a form, rising. What layer 18 (rules) reckons, in plain words: which attributes an object has, a template's kinds and faults, an object's making. Nothing here walks the program. The laws' own iterators: numbers, and objects that are counted. Which class goes with which key type, and which attributes an object has: the program's inner rows, and the reference's answer. A range over an iterator that hands over values of a kind (a row that it has just laid, say): as XIter, with a relation instead of known values. Nothing here speaks of the program. The attributes that an object has: the reference's answer, the program's rows one behind the other. The rows of the attributes that an object has come one behind the other. Whether an object has an attribute: the reference's answer, the program's. Whether an object has an attribute: the program's answer. Plain: a template's faults, found row by row; lists of attributes that are the front of another, or were just laid. What stands in cells stands when memory grows and no cells are touched. -/
import Derived.Test.YtendnkpiidhogaaGreatQeac3b8b15797
import Derived.RangeFuncFrom
import Derived.RangeFuncLeaves
import Derived.OwnWalkIn
import Derived.Deep.Draws
import Derived.TacticsInMore
import Derived.LoopNIn
import Derived.LoopIn
import Derived.ControlIn
import Derived.Shelf.Abstract
import Derived.Deep.RegionHeld3
import Derived.Stop.RegionWithIn
namespace Go.Proofs.YtendnkpiidhogaaGreat.At
open Go.RowKit

def CA (w : World) (V : Nat → Prop) (l : List (Int × List Nat)) (cs : List Value) : Prop :=
 ∀ j x, l[j]? = some x → cs[j * 2]? = some (.int .i64 x.1) ∧ ∃ A' c', cs[j * 2 + 1]? = some (.slice A' x.2.length c') ∧ RB w V A' c' x.2
section
variable {w w' : World} {V V' : Nat → Prop} {l l' : List (Int × List Nat)} {cs cs' : List Value}
theorem CA.app (h : CA w V l cs) (h' : CA w V l' cs') (hl : cs.length = l.length * 2) : CA w V (l ++ l') (cs ++ cs') := by
 intro j x hx
 rcases Nat.lt_or_ge j l.length with hj | hj
 · rw [List.getElem?_append_left hj] at hx
   rw [List.getElem?_append_left (by omega), List.getElem?_append_left (by omega)]
   exact h j x hx
 · rw [List.getElem?_append_right hj] at hx
   rw [List.getElem?_append_right (by omega), List.getElem?_append_right (by omega), hl, show j * 2 - l.length * 2 = (j - l.length) * 2 by omega, show j * 2 + 1 - l.length * 2 = (j - l.length) * 2 + 1 by omega]
   exact h' _ x hx
theorem CA.take (h : CA w V l cs) (n : Nat) : CA w V (l.take n) (cs.take (n * 2)) := by
 intro j x hx
 rw [List.getElem?_take] at hx
 split at hx
 · rw [List.getElem?_take, List.getElem?_take, if_pos (by omega), if_pos (by omega)]
   exact h j x hx
 · cases hx
theorem CA.drop (h : CA w V l cs) (n : Nat) : CA w V (l.drop n) (cs.drop (n * 2)) := by
 intro j x hx
 rw [List.getElem?_drop] at hx
 rw [List.getElem?_drop, List.getElem?_drop, show n * 2 + j * 2 = (n + j) * 2 by omega, show n * 2 + (j * 2 + 1) = (n + j) * 2 + 1 by omega]
 exact h _ x hx
theorem CA.keep (h : CA w V l cs) (hk : ∀ p : Addr, V p.block → w'.cell? p = w.cell? p) (hV : ∀ b, V b → V' b) : CA w' V' l cs := by
 intro j x hx
 obtain ⟨h1, A', c', h2, h3⟩ := h j x hx
 exact ⟨h1, A', c', h2, (h3.keep hk).mono hV⟩
theorem CA.single {x : Int × List Nat} {A : Option Addr} {c : Nat} (h : RB w V A c x.2) : CA w V [x] [.int .i64 x.1, .slice A x.2.length c] := by
 intro j y hy
 have hj : j = 0 := by
  have := (List.getElem?_eq_some_iff.1 hy).1
  simp at this
  omega
 subst hj
 simp at hy
 subst hy
 exact ⟨rfl, A, c, rfl, h⟩
theorem CA.one (h : CA w V l cs) (hl : cs.length = l.length * 2) : ∀ u ∈ cs, u.oneCell' = true := by
 intro u hu
 obtain ⟨j, hj⟩ := List.getElem?_of_mem hu
 have hjl := (List.getElem?_eq_some_iff.1 hj).1
 obtain ⟨h1, A', c', h2, h3⟩ := h (j / 2) _ (List.getElem?_eq_getElem (by omega))
 rcases Nat.mod_two_eq_zero_or_one j with e | e
 · rw [show j / 2 * 2 = j by omega, hj] at h1
   injection h1 with h1
   subst h1
   rfl
 · rw [show j / 2 * 2 + 1 = j by omega, hj] at h2
   injection h2 with h2
   subst h2
   rfl
end

theorem OA.inserted {wr W2 W3 : World} {base : Nat} {A A' : Option Addr} {c c' : Nat} {l : List (Int × List Nat)} {cs : List Value} {m p : Nat} (h : OA wr base A c l cs) (hm : l.length = m) (hb : Below wr.heap.size wr W2) {x : Int × List Nat} {Au : Option Addr} {cu : Nat}
 (hu : RB W2 (In wr.heap.size W2.heap.size) Au cu x.2) (hbase : base ≤ wr.heap.size) (hp : p ≤ m)
 (hown : W3.ownsRow base 37 2 (.slice A' (m + 1) c') (m + 1) (cs.take (p * 2) ++ [.int .i64 x.1, .slice Au x.2.length cu] ++ cs.drop (p * 2))) (hg : W2.grownBy W3 (Value.slice A m c).ownBlock)
 (hor : (Value.slice A' (m + 1) c').ownBlock = (Value.slice A m c).ownBlock ∨ (Value.slice A' (m + 1) c').ownBlock = some W2.heap.size) :
 OA W3 base A' c' (l.take p ++ [x] ++ l.drop p) (cs.take (p * 2) ++ [.int .i64 x.1, .slice Au x.2.length cu] ++ cs.drop (p * 2)) := by
 subst hm
 have hl := h.1.1
 have hlt := h.1.lt
 have hs := hb.size
 have hs' := hg.size
 have elen : (l.take p ++ [x] ++ l.drop p).length = l.length + 1 := by simp; omega
 have kept : ∀ (b : Nat), b < W2.heap.size → (Value.slice A l.length c).ownBlock ≠ some b → W3.heap[b]? = W2.heap[b]? := fun b h1 h2 => hg.block b h1 (fun e => h2 e.symm)
 have hold : CA W3 (fun b => base ≤ b ∧ b < W3.heap.size ∧ (Value.slice A' (l.length + 1) c').ownBlock ≠ some b) l cs := CA.keep (w := wr) (V := fun b => base ≤ b ∧ b < wr.heap.size ∧ (Value.slice A l.length c).ownBlock ≠ some b) h.2
  (fun q hq => (World.cell?_of_block (kept _ (by omega) hq.2.2)).trans (hb.cell hq.2.1))
  (fun b hq => ⟨hq.1, by omega, by
   rcases hor with e | e
   · rw [e]; exact hq.2.2
   · rw [e]; intro e'; injection e' with e'; omega⟩)
 have hnew : RB W3 (fun b => base ≤ b ∧ b < W3.heap.size ∧ (Value.slice A' (l.length + 1) c').ownBlock ≠ some b) Au cu x.2 := by
  refine (hu.keep fun q hq => ?_).mono fun b hq => ?_
  · refine World.cell?_of_block (kept _ hq.2 fun e => ?_)
    have := (hlt _ e).2
    have := hq.1
    omega
  · have h1 := hq.1
    have h2 := hq.2
    refine ⟨by omega, by omega, ?_⟩
    rcases hor with e | e
    · rw [e]; intro e'; have := (hlt _ e').2; omega
    · rw [e]; intro e'; injection e' with e'; omega
 rw [OA, elen]
 exact ⟨hown, ((hold.take p).app (CA.single hnew) (by simp; omega)).app (hold.drop p) (by simp; omega)⟩

set_option maxRecDepth 100000 in
set_option maxHeartbeats 2000000 in
theorem put_any (P : Nat → Prop) (A : Option Addr) (c : Nat) (l : List (Int × List Nat)) (a : Int × List Nat) (Aa : Option Addr) (ca : Nat) (w : World) (hv : RA w P A c l) (ha : RB w P Aa ca a.2) (hP : ∀ b, P b → b < w.heap.size) (hl : l.length ≤ 100000) :
 Calls Tryz.prog 86 #[.slice A l.length c, .agg #[.int .i64 a.1, .slice Aa a.2.length ca]] w fun e w' => ∃ A' c' cs, e = .returned (.slice A' (putOf l a).length c') ∧ OA w' (w.heap.size + 1) A' c' (putOf l a) cs ∧ Below w.heap.size w w' := by
 obtain ⟨hlc, hc⟩ := hv.cap
 go_enter Tryz.func86, Tryz.ntmps86
 go_wp2
 obtain ⟨w1, hw1⟩ : ∃ w1, w.alloc (.cells #[.int .i64 a.1, .slice Aa a.2.length ca] 37) = w1 := ⟨_, rfl⟩
 have hsz : w1.heap.size = w.heap.size + 1 := by rw [← hw1]; simp
 have hb1 : w1.heap[w.heap.size]? = some (.cells #[.int .i64 a.1, .slice Aa a.2.length ca] 37) := by rw [← hw1]; exact heap_alloc_new w _
 have hBw : Below w.heap.size w w1 := by rw [← hw1]; exact (Below.refl _ _).alloc (Nat.le_refl _) _
 rw [hw1]
 have Hsz := Lib.hid hsz
 have Hb1 := Lib.hid hb1
 clear hw1 hsz hb1
 go_loopw [5, 6, 11] (fun v d i wr => ∃ (k : Nat) (A' : Option Addr) (c' n : Nat) (cs : List Value) (out : List (Int × List Nat)) (q : Option Nat), k ≤ l.length ∧ n ≤ k ∧ out.length = n ∧ v = .slice A' n c' ∧ d = .int .i64 (match q with | none => -1 | some p => (p : Int)) ∧ i = .int .i64 k ∧ OA wr (w.heap.size + 1) A' c' out cs ∧ Below (w.heap.size + 1) w1 wr ∧ (match q with | none => putInv l a k out false | some p => putAt l a k out p)) (fun _ _ i _ => l.length - (intOf i).toNat)
 case atStart => exact ⟨0, none, 0, 0, [], [], none, Nat.zero_le _, by omega, rfl, rfl, rfl, rfl, OA.nil_ _ _, Below.refl _ _, putInv_zero l a⟩
 case round =>
  obtain ⟨k, A', c', n, cs, out, q, hk, hn, hout, rfl, rfl, rfl, hO, hB, hI⟩ := hrel
  have Hout := Lib.hid hout
  clear hout
  have hs : w.heap.size + 1 ≤ wr.heap.size := by have := hB.size; have := Hsz.out; omega
  have hbox := (hB.block w.heap.size (by omega)).trans Hb1.out
  have x0 := blk_cell hbox 0
  have x1 := blk_cell hbox 1
  simp at x0 x1
  have HO := Lib.hid hO
  have hBw' := hBw.trans (hB.mono (by omega))
  have hlt0 : w.heap.size < wr.heap.size := by omega
  clear hbox
  by_cases hlt : k < l.length
  · obtain ⟨ad, Au, cu, rfl, hb, hc1, hc2, hu⟩ := (hv.below hBw' hP).at_ hlt
    have hP1 : ∀ b, P b → b < wr.heap.size := fun b hb => by have := hP b hb; omega
    obtain ⟨x, hx⟩ : ∃ x, l[k] = x := ⟨_, rfl⟩
    rw [hx] at hc1 hc2 hu
    have Hx := Lib.hid hx
    clear hx
    by_cases he : x.1 = a.1
    · have he' : (x.1 == a.1) = true := by simp [he]
      have he2 : (l[k].1 == a.1) = true := by rw [Hx.out]; exact he'
      have He := Lib.hid he2
      clear he he2
      have HI := Lib.hid hI
      clear hI
      cases q
      · have hi := Lib.hid (putInv_skip HI.out hlt He.out)
        go_wp2
        go_roundw
        case rel => exact ⟨k + 1, A', c', n, cs, out, none, by omega, by omega, Hout.out, rfl, rfl, by go_num, HO.out.below ((Below.refl _ wr).alloc (Nat.le_refl _) _), hB.alloc (by omega) _, hi.out⟩
        case measure => simp [intOf]; omega
      · rename_i p
        have hi := Lib.hid (putAt_skip HI.out hlt He.out)
        go_wp2
        go_roundw
        case rel => exact ⟨k + 1, A', c', n, cs, out, some p, by omega, by omega, Hout.out, rfl, rfl, by go_num, HO.out.below ((Below.refl _ wr).alloc (Nat.le_refl _) _), hB.alloc (by omega) _, hi.out⟩
        case measure => simp [intOf]; omega
    · have he' : (x.1 == a.1) = false := by simp [he]
      have He := Lib.hid (show (l[k].1 == a.1) = false by rw [Hx.out]; exact he')
      clear he
      have HI := Lib.hid hI
      clear hI
      cases q
      · by_cases hgt : a.1 < x.1
        · have hi := Lib.hid (putAt_hi HI.out hlt He.out (by rw [Hx.out]; exact hgt))
          rw [Hx.out] at hi
          go_wp2_with fail
          refine (copied_any P x Au cu _ (hu.keep fun p hp => World.cell?_alloc_lt wr _ p (hP1 _ hp)) (fun b hb => by have := hP1 b hb; simp; omega)).mono ?_
          rintro e w2 ⟨A1, c1, rfl, hr, hB2⟩
          have hb2 : Below wr.heap.size wr w2 := ((Below.refl _ wr).alloc (Nat.le_refl _) _).trans (hB2.mono (by simp))
          have hO2 := HO.out.below hb2
          have hs2 := hb2.size
          clear hB2
          go_wp2_with (at_builtin; refine app48one (w0 := w2) rfl (.tmp 31) (.tmp 34) rfl (w.heap.size + 1) (.slice A' n c') n cs rfl (Hout.out ▸ hO2.1) 0 rfl rfl ⟨rfl, rfl⟩ (by omega) (by omega) ?_; intro A3 c3 w3 hown3 hg3 hor3)
          have hO3 := OA.snoc (x := x) HO.out Hout.out (hb2.alloc hs2 _) ((hr.keep fun p hp => World.cell?_alloc_lt w2 _ p hp.2).mono fun b hb => ⟨by have := hb.1; simp at this; omega, by have := hb.2; simp; omega⟩) hs hown3 hg3 hor3
          have hB3 := (hB.trans ((hb2.mono hs).alloc (by omega) _)).grown hg3 (by simp; omega) (fun g hg => by rw [← Hout.out] at hg; exact (HO.out.1.lt g hg).1)
          clear hown3 hg3 hor3 hr
          go_roundw
          case rel => exact ⟨k + 1, A3, c3, n + 1, _, _, some out.length, by omega, by omega, by simp [Hout.out], rfl, by rw [Hout.out], by go_num, hO3, hB3, hi.out⟩
          case measure => simp [intOf]; omega
        · have hi := Lib.hid (putInv_lo HI.out hlt He.out (by rw [Hx.out]; exact hgt))
          rw [Hx.out] at hi
          go_wp2_with fail
          refine (copied_any P x Au cu _ (hu.keep fun p hp => World.cell?_alloc_lt wr _ p (hP1 _ hp)) (fun b hb => by have := hP1 b hb; simp; omega)).mono ?_
          rintro e w2 ⟨A1, c1, rfl, hr, hB2⟩
          have hb2 : Below wr.heap.size wr w2 := ((Below.refl _ wr).alloc (Nat.le_refl _) _).trans (hB2.mono (by simp))
          have hO2 := HO.out.below hb2
          have hs2 := hb2.size
          clear hB2
          go_wp2_with (at_builtin; refine app48one (w0 := w2) rfl (.tmp 31) (.tmp 34) rfl (w.heap.size + 1) (.slice A' n c') n cs rfl (Hout.out ▸ hO2.1) 0 rfl rfl ⟨rfl, rfl⟩ (by omega) (by omega) ?_; intro A3 c3 w3 hown3 hg3 hor3)
          have hO3 := OA.snoc (x := x) HO.out Hout.out (hb2.alloc hs2 _) ((hr.keep fun p hp => World.cell?_alloc_lt w2 _ p hp.2).mono fun b hb => ⟨by have := hb.1; simp at this; omega, by have := hb.2; simp; omega⟩) hs hown3 hg3 hor3
          have hB3 := (hB.trans ((hb2.mono hs).alloc (by omega) _)).grown hg3 (by simp; omega) (fun g hg => by rw [← Hout.out] at hg; exact (HO.out.1.lt g hg).1)
          clear hown3 hg3 hor3 hr
          go_roundw
          case rel => exact ⟨k + 1, A3, c3, n + 1, _, _, none, by omega, by omega, by simp [Hout.out], rfl, rfl, by go_num, hO3, hB3, hi.out⟩
          case measure => simp [intOf]; omega
      · rename_i p
        have hi := Lib.hid (putAt_more HI.out hlt He.out)
        rw [Hx.out] at hi
        have hp0 : ¬ (p : Int) < 0 := by omega
        go_wp2_with fail
        refine (copied_any P x Au cu _ (hu.keep fun p hp => World.cell?_alloc_lt wr _ p (hP1 _ hp)) (fun b hb => by have := hP1 b hb; simp; omega)).mono ?_
        rintro e w2 ⟨A1, c1, rfl, hr, hB2⟩
        have hb2 : Below wr.heap.size wr w2 := ((Below.refl _ wr).alloc (Nat.le_refl _) _).trans (hB2.mono (by simp))
        have hO2 := HO.out.below hb2
        have hs2 := hb2.size
        clear hB2
        go_wp2_with (at_builtin; refine app48one (w0 := w2) rfl (.tmp 31) (.tmp 34) rfl (w.heap.size + 1) (.slice A' n c') n cs rfl (Hout.out ▸ hO2.1) 0 rfl rfl ⟨rfl, rfl⟩ (by omega) (by omega) ?_; intro A3 c3 w3 hown3 hg3 hor3)
        have hO3 := OA.snoc (x := x) HO.out Hout.out (hb2.alloc hs2 _) ((hr.keep fun p hp => World.cell?_alloc_lt w2 _ p hp.2).mono fun b hb => ⟨by have := hb.1; simp at this; omega, by have := hb.2; simp; omega⟩) hs hown3 hg3 hor3
        have hB3 := (hB.trans ((hb2.mono hs).alloc (by omega) _)).grown hg3 (by simp; omega) (fun g hg => by rw [← Hout.out] at hg; exact (HO.out.1.lt g hg).1)
        clear hown3 hg3 hor3 hr
        go_roundw
        case rel => exact ⟨k + 1, A3, c3, n + 1, _, _, some p, by omega, by omega, by simp [Hout.out], rfl, rfl, by go_num, hO3, hB3, hi.out⟩
        case measure => simp [intOf]; omega
  · have har : RB wr P Aa ca a.2 := ha.below hBw' hP
    have hP1 : ∀ b, P b → b < wr.heap.size := fun b hb => by have := hP b hb; omega
    have HI := Lib.hid hI
    clear hI
    cases q
    · have hi := putInv_end HI.out hlt
      have hi := Lib.hid hi
      go_wp2_with fail
      refine (copied_any P a Aa ca _ har hP1).mono ?_
      rintro e w2 ⟨A1, c1, rfl, hr, hb2⟩
      have hO2 := HO.out.below hb2
      have hs2 := hb2.size
      have hne2 : (Value.slice A' n c').ownBlock ≠ some w2.heap.size := fun e => by have := HO.out.1.lt _ (by rw [Hout.out]; exact e); omega
      have hins := Lib.hid (insert_any (w.heap.size + 1) n c' n w2.heap.size A' cs (.int .i64 a.1) (.slice A1 a.2.length c1) (w2.alloc (.cells #[.int .i64 a.1, .slice A1 a.2.length c1] 37)) (Nat.le_refl _) (by omega) (Hout.out ▸ hO2.1.alloc _) (by simp; omega) (heap_alloc_new w2 _) hne2 (CA.one (w := wr) HO.out.2 (by have := HO.out.1.1; omega)) ⟨rfl, rfl⟩)
      go_wp2_with fail
      refine hins.out.mono ?_
      rintro e w3 ⟨A3, c3, rfl, hown3, hg3, hor3⟩
      have hO3 := OA.inserted (x := a) (p := n) HO.out Hout.out (hb2.alloc hs2 _) ((hr.keep fun p hp => World.cell?_alloc_lt w2 _ p hp.2).mono fun b hb => ⟨hb.1, by have := hb.2; simp; omega⟩) hs (Nat.le_refl _) hown3 hg3 hor3
      have hB3 := (hb2.alloc hs2 (.cells #[.int .i64 a.1, .slice A1 a.2.length c1] 37)).mono hs
      have hB4 := hB3.grown hg3 (by simp; omega) (fun g hg => by rw [← Hout.out] at hg; exact (HO.out.1.lt g hg).1)
      have he := Lib.hid (show putOf l a = out.take n ++ [a] ++ out.drop n by rw [hi.out, List.take_of_length_le (by rw [Hout.out]; omega), List.drop_eq_nil_of_le (by rw [Hout.out]; omega), List.append_nil])
      rw [← he.out] at hO3
      have hl3 := Lib.hid (show (putOf l a).length = n + 1 by rw [he.out]; simp [Hout.out] <;> omega)
      clear hown3 hg3 hor3 hins hB3
      go_wp2
      go_ret
      exact ⟨A3, c3, _, by rw [hl3.out]; rfl, hO3, hBw'.trans (hB4.mono (by omega))⟩
    · rename_i p
      have hp0 : ¬ (p : Int) < 0 := by omega
      have hpn : p ≤ n := by have := HI.out.1; have := Hout.out; omega
      have hi := Lib.hid (putAt_end HI.out hlt)
      go_wp2_with fail
      refine (copied_any P a Aa ca _ har hP1).mono ?_
      rintro e w2 ⟨A1, c1, rfl, hr, hb2⟩
      have hO2 := HO.out.below hb2
      have hs2 := hb2.size
      have hne2 : (Value.slice A' n c').ownBlock ≠ some w2.heap.size := fun e => by have := HO.out.1.lt _ (by rw [Hout.out]; exact e); omega
      have hins := Lib.hid (insert_any (w.heap.size + 1) n c' p w2.heap.size A' cs (.int .i64 a.1) (.slice A1 a.2.length c1) (w2.alloc (.cells #[.int .i64 a.1, .slice A1 a.2.length c1] 37)) hpn (by omega) (Hout.out ▸ hO2.1.alloc _) (by simp; omega) (heap_alloc_new w2 _) hne2 (CA.one (w := wr) HO.out.2 (by have := HO.out.1.1; omega)) ⟨rfl, rfl⟩)
      go_wp2_with fail
      refine hins.out.mono ?_
      rintro e w3 ⟨A3, c3, rfl, hown3, hg3, hor3⟩
      have hO3 := OA.inserted (x := a) (p := p) HO.out Hout.out (hb2.alloc hs2 _) ((hr.keep fun p hp => World.cell?_alloc_lt w2 _ p hp.2).mono fun b hb => ⟨hb.1, by have := hb.2; simp; omega⟩) hs hpn hown3 hg3 hor3
      have hB3 := (hb2.alloc hs2 (.cells #[.int .i64 a.1, .slice A1 a.2.length c1] 37)).mono hs
      have hB4 := hB3.grown hg3 (by simp; omega) (fun g hg => by rw [← Hout.out] at hg; exact (HO.out.1.lt g hg).1)
      have he := Lib.hid (show putOf l a = out.take p ++ [a] ++ out.drop p by rw [hi.out]; simp)
      rw [← he.out] at hO3
      have hl3 := Lib.hid (show (putOf l a).length = n + 1 by rw [he.out]; simp [Hout.out] <;> omega)
      clear hown3 hg3 hor3 hins hB3
      go_wp2
      go_ret
      exact ⟨A3, c3, _, by rw [hl3.out]; rfl, hO3, hBw'.trans (hB4.mono (by omega))⟩
end Go.Proofs.YtendnkpiidhogaaGreat.At

namespace Go.Proofs.YtendnkpiidhogaaGreat.At
open Go.RowKit

theorem or_shift (i a b : Nat) (h : b < 2 ^ i) : a * 2 ^ i ||| b = a * 2 ^ i + b := by
 rw [Nat.mul_comm, ← Nat.two_pow_add_eq_or_of_lt h]
theorem or32a (x y i j : Nat) (hi : x * 2 ^ i < 4294967296) (hy : y * 2 ^ j < 2 ^ i) (hi32 : i ≤ 32) : bits .or .u32 ((x : Int) * 2 ^ i) ((y : Int) * 2 ^ j) = ((x * 2 ^ i + y * 2 ^ j : Nat) : Int) := by
 have h2 : (2 : Nat) ^ i ≤ 2 ^ 32 := Nat.pow_le_pow_right (by omega) hi32
 have := u32_or_nat (x * 2 ^ i) (y * 2 ^ j) hi (by omega)
 rw [or_shift i x _ hy] at this
 rw [← this]
 simp
def be4 (x y z t : Nat) : Nat := x * 16777216 + y * 65536 + z * 256 + t
theorem or4_u32 (x y z t : Nat) (hx : x < 256) (hy : y < 256) (hz : z < 256) (ht : t < 256) :
 bits .or .u32 (bits .or .u32 (bits .or .u32 ((x : Int) * 16777216) ((y : Int) * 65536)) ((z : Int) * 256)) (t : Int) = (be4 x y z t : Int) := by
 have h1 := or32a x y 24 16 (by omega) (by omega) (by omega)
 have h2 := or32a (x * 256 + y) z 16 8 (by omega) (by omega) (by omega)
 have h3 := or32a (x * 65536 + y * 256 + z) t 8 0 (by omega) (by omega) (by omega)
 simp at h1 h2 h3
 rw [h1, show (x : Int) * 16777216 + (y : Int) * 65536 = ((x : Int) * 256 + y) * 65536 by omega, h2, show ((x : Int) * 256 + y) * 65536 + (z : Int) * 256 = ((x : Int) * 65536 + y * 256 + z) * 256 by omega, h3]
 unfold be4
 omega
set_option maxHeartbeats 800000 in
theorem get32_any (P : Nat → Prop) (A : Option Addr) (c : Nat) (x y z t : Nat) (w : World) (h : RB w P A c [x, y, z, t]) :
 Calls Tryz.prog 84 #[.slice A 4 c] w fun e w' => e = .returned (.int .u32 (be4 x y z t : Int)) ∧ ∃ m, w' = w.drewN m := by
 obtain ⟨ad, rfl, hp, hc0, hb0⟩ := h.at_ (i := 0) (by simp)
 obtain ⟨ad', e, _, hc1, hb1⟩ := h.at_ (i := 1) (by simp)
 injection e with e; subst e
 obtain ⟨ad', e, _, hc2, hb2⟩ := h.at_ (i := 2) (by simp)
 injection e with e; subst e
 obtain ⟨ad', e, _, hc3, hb3⟩ := h.at_ (i := 3) (by simp)
 injection e with e; subst e
 simp [Addr.add] at hc0 hc1 hc2 hc3
 simp at hb0 hb1 hb2 hb3
 go_enter Tryz.func84, Tryz.ntmps84
 go_wp2_with fail
 go_quiet (fail)
 go_wp2
 go_ret
 exact ⟨ret_int (or4_u32 x y z t (by omega) (by omega) (by omega) (by omega)), _, rfl⟩

def intO : Option (List Nat) → Option Nat
 | some [x, y, z, t] => some (be4 x y z t)
 | _ => none
theorem intO_no {bs : List Nat} (h : bs.length ≠ 4) : intO (some bs) = none := by
 match bs, h with
 | [], _ => rfl
 | [_], _ => rfl
 | [_, _], _ => rfl
 | [_, _, _], _ => rfl
 | [_, _, _, _], h => simp at h
 | _ :: _ :: _ :: _ :: _ :: _, _ => rfl
def intOf' (l : List (Int × List Nat)) (t : Int) : Option Nat := intO (seek l t)

set_option maxHeartbeats 800000 in
theorem int_any (P : Nat → Prop) (A : Option Addr) (c : Nat) (l : List (Int × List Nat)) (t : Int) (w : World) (hv : RA w P A c l) (hP : ∀ b, P b → b < w.heap.size) :
 Calls Tryz.prog 44 #[.slice A l.length c, .int .i64 t] w fun e w' => e = .returned (.tuple #[.int .i64 ((intOf' l t).getD 0 : Nat), .bool (intOf' l t).isSome]) ∧ Below w.heap.size w w' := by
 have hg := Lib.hid (get_any P A c l t w hv hP)
 unfold intOf'
 obtain ⟨o, ho⟩ : ∃ o, seek l t = o := ⟨_, rfl⟩
 rw [ho] at hg ⊢
 clear ho
 rcases o with _ | bs
 · go_enter Tryz.func44, Tryz.ntmps44
   go_wp2_with fail
   refine hg.out.mono ?_
   rintro e w1 ⟨A1, c1, rfl, hr, hB⟩
   go_wp2
   go_ret2
   exact ⟨rfl, hB⟩
 · by_cases h1 : bs.length = 4
   · obtain ⟨x, y, z, u, rfl⟩ : ∃ x y z u, bs = [x, y, z, u] := by
      match bs, h1 with
      | [x, y, z, u], _ => exact ⟨x, y, z, u, rfl⟩
     clear h1
     go_enter Tryz.func44, Tryz.ntmps44
     go_wp2_with fail
     refine hg.out.mono ?_
     rintro e w1 ⟨A1, c1, rfl, hr, hB⟩
     have hlt : be4 x y z u < 4294967296 := by
      have h1 := hr.2.1 x (by simp)
      have h2 := hr.2.1 y (by simp)
      have h3 := hr.2.1 z (by simp)
      have h4 := hr.2.1 u (by simp)
      unfold be4
      omega
     go_wp2_with fail
     refine (get32_any _ A1 c1 x y z u w1 hr).mono ?_
     rintro e w2 ⟨rfl, m, rfl⟩
     go_wp2
     go_ret2
     exact ⟨rfl, below_drewN hB m⟩
   · have h1' : ((bs.length : Int) != 4) = true := by rw [bne_iff_ne]; omega
     have hi := Lib.hid (intO_no h1)
     go_enter Tryz.func44, Tryz.ntmps44
     go_wp2_with fail
     refine hg.out.mono ?_
     rintro e w1 ⟨A1, c1, rfl, hr, hB⟩
     simp only [Option.getD_some]
     go_wp2
     go_ret2
     exact ⟨by rw [hi.out]; rfl, hB⟩

end Go.Proofs.YtendnkpiidhogaaGreat.At

namespace Go.Proofs.YtendnkpiidhogaaGreat.At
open Go.RowKit

def formOf (t : Int) : Int :=
 if t ∈ [1, 2, 259, 260, 261, 262, 263, 264, 266, 268, 354, 355, 356, 357, 368, 369] then 1
 else if t ∈ [0, 256, 289, 353] then 2
 else if t ∈ [3, 17, 258, 384, 385] then 3
 else if t ∈ [288, 290, 291, 292, 293] then 4
 else 0
theorem formOf_cases (t : Int) : formOf t = 0 ∨ formOf t = 1 ∨ formOf t = 2 ∨ formOf t = 3 ∨ formOf t = 4 := by
 unfold formOf
 repeat' split
 all_goals simp

set_option maxHeartbeats 4000000 in
theorem form_any (t : Int) (w : World) :
 Calls Tryz.prog 88 #[.int .i64 t] w fun e w' => e = .returned (.int .i64 (formOf t)) ∧ w = w' := by
 go_enter Tryz.func88, Tryz.ntmps88
 go_wp2
 all_goals (go_ret; exact ⟨ret_int (by simp_all [formOf]), rfl⟩)
def fineF (f : Int) (bs : List Nat) : Bool :=
 if f = 1 then bs.length == 1 && decide (bs.getD 0 0 < 2)
 else if f = 2 then bs.length == 4
 else if f = 3 then decide (bs.length ≤ 16384)
 else if f = 4 then decide (0 < bs.length) && decide (bs.length ≤ 512) && !(bs.getD 0 0 == 0)
 else false
def fineOf (a : Int × List Nat) : Bool := fineF (formOf a.1) a.2

set_option maxRecDepth 100000 in
set_option maxHeartbeats 2000000 in
theorem fine_any (P : Nat → Prop) (a : Int × List Nat) (A : Option Addr) (c : Nat) (w : World) (ha : RB w P A c a.2) (hP : ∀ b, P b → b < w.heap.size) :
    Calls Tryz.prog 102 #[.agg #[.int .i64 a.1, .slice A a.2.length c]] w fun e w' => e = .returned (.bool (fineOf a)) ∧ Below w.heap.size w w' := by
  obtain ⟨t, bs⟩ := a
  have hcap := ha.cap
  obtain ⟨h1, h2, h3⟩ := hcap
  have hB : ∀ o : Obj, Below w.heap.size w (w.alloc o) := fun o => (Below.refl _ w).alloc (Nat.le_refl _) o
  have hcell : 0 < bs.length → ∃ ad x r, A = some ad ∧ bs = x :: r ∧ ad.block < w.heap.size ∧ w.cell? ad = some (.int .u8 (x : Int)) := fun h => by
    obtain ⟨ad, e, hp, hc, _⟩ := ha.at_ (i := 0) h
    match bs, h with
    | x :: r, _ =>
      simp [Addr.add] at hc
      exact ⟨ad, x, r, e, rfl, hP _ hp, hc⟩
  have Hcell := Lib.hid hcell
  clear hcell
  have Hp : ∀ b, Hid (fineF (formOf t) bs = b) → fineOf (t, bs) = b := fun b h => h.out
  have HP := Lib.hid Hp
  clear Hp
  have hfm := Lib.hid (form_any t)
  rcases formOf_cases t with hf | hf | hf | hf | hf
  all_goals
    have Hf := hfm
    rw [hf] at Hf HP
    clear hf hfm
  · have hr := Lib.hid (HP.out false (show _ = _ from rfl))
    go_enter Tryz.func102, Tryz.ntmps102
    go_wp2_with fail
    refine (Hf.out _).mono ?_
    rintro e w1 ⟨rfl, rfl⟩
    go_wp2
    go_ret
    exact ⟨by rw [hr.out]; first | rfl | (simp; omega), hB _⟩
  · by_cases hl : bs.length = 1
    · obtain ⟨ad, x, r, rfl, rfl, had, hc⟩ := Hcell.out (by omega)
      obtain rfl : r = [] := by simpa using hl
      clear hl
      by_cases hx : x < 2
      · have hr := Lib.hid (HP.out true (show _ = _ by simp [fineF, hx]))
        go_enter Tryz.func102, Tryz.ntmps102
        go_wp2_with fail
        refine (Hf.out _).mono ?_
        rintro e w1 ⟨rfl, rfl⟩
        go_wp2
        go_ret
        exact ⟨by rw [hr.out]; first | rfl | (simp; omega), hB _⟩
      · have hr := Lib.hid (HP.out false (show _ = _ by simp [fineF, hx]))
        go_enter Tryz.func102, Tryz.ntmps102
        go_wp2_with fail
        refine (Hf.out _).mono ?_
        rintro e w1 ⟨rfl, rfl⟩
        go_wp2
        go_ret
        exact ⟨by rw [hr.out]; first | rfl | (simp; omega), hB _⟩
    · have hl' : ((bs.length : Int) == 1) = false := by simp; omega
      have hr := Lib.hid (HP.out false (show _ = _ by simp [fineF, hl]))
      go_enter Tryz.func102, Tryz.ntmps102
      go_wp2_with fail
      refine (Hf.out _).mono ?_
      rintro e w1 ⟨rfl, rfl⟩
      go_wp2
      go_ret
      exact ⟨by rw [hr.out]; first | rfl | (simp; omega), hB _⟩
  · by_cases hl : bs.length = 4
    · have hr := Lib.hid (HP.out true (show _ = _ by simp [fineF, hl]))
      have hl' : ((bs.length : Int) == 4) = true := by simp; omega
      clear hl
      go_enter Tryz.func102, Tryz.ntmps102
      go_wp2_with fail
      refine (Hf.out _).mono ?_
      rintro e w1 ⟨rfl, rfl⟩
      go_wp2
      go_ret
      exact ⟨by rw [hr.out]; first | rfl | (simp; omega), hB _⟩
    · have hl' : ((bs.length : Int) == 4) = false := by simp; omega
      have hr := Lib.hid (HP.out false (show _ = _ by simp [fineF, hl]))
      go_enter Tryz.func102, Tryz.ntmps102
      go_wp2_with fail
      refine (Hf.out _).mono ?_
      rintro e w1 ⟨rfl, rfl⟩
      go_wp2
      go_ret
      exact ⟨by rw [hr.out]; first | rfl | (simp; omega), hB _⟩
  · by_cases hl : bs.length ≤ 16384
    · have hr := Lib.hid (HP.out true (show _ = _ by simp [fineF, hl]))
      have hl' : decide ((bs.length : Int) ≤ 16384) = true := by simp; omega
      go_enter Tryz.func102, Tryz.ntmps102
      go_wp2_with fail
      refine (Hf.out _).mono ?_
      rintro e w1 ⟨rfl, rfl⟩
      go_wp2
      go_ret
      exact ⟨by rw [hr.out]; first | rfl | (simp; omega), hB _⟩
    · have hl' : decide ((bs.length : Int) ≤ 16384) = false := by simp; omega
      have hr := Lib.hid (HP.out false (show _ = _ by simp [fineF, hl]))
      go_enter Tryz.func102, Tryz.ntmps102
      go_wp2_with fail
      refine (Hf.out _).mono ?_
      rintro e w1 ⟨rfl, rfl⟩
      go_wp2
      go_ret
      exact ⟨by rw [hr.out]; first | rfl | (simp; omega), hB _⟩
  · by_cases hl0 : 0 < bs.length
    · by_cases hl : bs.length ≤ 512
      · obtain ⟨ad, x, r, rfl, rfl, had, hc⟩ := Hcell.out hl0
        have hl5 : (r.length : Int) + 1 ≤ 512 := by simp at hl; omega
        by_cases hx : x = 0
        · have hr := Lib.hid (HP.out false (show _ = _ by simp [fineF, hx]))
          subst hx
          go_enter Tryz.func102, Tryz.ntmps102
          go_wp2_with fail
          refine (Hf.out _).mono ?_
          rintro e w1 ⟨rfl, rfl⟩
          go_wp2
          go_ret
          exact ⟨by rw [hr.out]; first | rfl | (simp; omega), hB _⟩
        · have hr := Lib.hid (HP.out true (show _ = _ by simp at hl; simp [fineF, hx]; omega))
          have hx' : ((x : Int) != 0) = true := by rw [bne_iff_ne]; omega
          have hx2 : ((x : Int) == 0) = false := by simp; omega
          clear hx
          go_enter Tryz.func102, Tryz.ntmps102
          go_wp2_with fail
          refine (Hf.out _).mono ?_
          rintro e w1 ⟨rfl, rfl⟩
          go_wp2
          go_ret
          exact ⟨by rw [hr.out]; first | rfl | (simp; omega), hB _⟩
      · have hr := Lib.hid (HP.out false (show _ = _ by simp [fineF, hl]))
        go_enter Tryz.func102, Tryz.ntmps102
        go_wp2_with fail
        refine (Hf.out _).mono ?_
        rintro e w1 ⟨rfl, rfl⟩
        go_wp2
        go_ret
        exact ⟨by rw [hr.out]; first | rfl | (simp; omega), hB _⟩
    · have hr := Lib.hid (HP.out false (show _ = _ by simp [fineF, hl0]))
      go_enter Tryz.func102, Tryz.ntmps102
      go_wp2_with fail
      refine (Hf.out _).mono ?_
      rintro e w1 ⟨rfl, rfl⟩
      go_wp2
      go_ret
      exact ⟨by rw [hr.out]; first | rfl | (simp; omega), hB _⟩

end Go.Proofs.YtendnkpiidhogaaGreat.At

namespace Go.Proofs.YtendnkpiidhogaaGreat
open Go.RowKit

structure Keeps (B C m : Nat) (W W' : World) : Prop where
 size : W.heap.size ≤ W'.heap.size
 others : ∀ (k : Nat) (o : Obj), B ≤ k → W.heap[k]? = some o → o.isCells = false → W'.heap[k]? = some o
 cells : ∀ k, C ≤ k → k < C + m → k < W.heap.size → W'.heap[k]? = W.heap[k]?
theorem Keeps.refl (B C m : Nat) (W : World) : Keeps B C m W W := ⟨Nat.le_refl _, fun _ _ _ h _ => h, fun _ _ _ _ => rfl⟩
theorem Keeps.trans {B C m : Nat} {W W' W'' : World} (h : Keeps B C m W W') (k : Keeps B C m W' W'') : Keeps B C m W W'' :=
 ⟨Nat.le_trans h.size k.size, fun i o hb hi ho => k.others i o hb (h.others i o hb hi ho) ho, fun i hc hm hi => (k.cells i hc hm (Nat.lt_of_lt_of_le hi h.size)).trans (h.cells i hc hm hi)⟩
theorem Keeps.mono {B B' C C' m m' : Nat} {W W' : World} (h : Keeps B C m W W') (hB : B ≤ B') (hC : C ≤ C') (hm : C' + m' ≤ C + m) : Keeps B' C' m' W W' :=
 ⟨h.size, fun k o hb => h.others k o (Nat.le_trans hB hb), fun k hc hk => h.cells k (Nat.le_trans hC hc) (Nat.lt_of_lt_of_le hk hm)⟩
theorem Keeps.none {B C C' m : Nat} {W W' : World} (h : Keeps B C m W W') : Keeps B C' 0 W W' := ⟨h.size, h.others, fun k h1 h2 => absurd h2 (by omega)⟩
theorem Keeps.setCell (B C m : Nat) (W : World) {a : Addr} (ha : a.block < C ∨ C + m ≤ a.block) (v : Value) : Keeps B C m W (W.setCell a v) :=
 ⟨(KeepsOthers.setCell W a v).size, fun k o _ => (KeepsOthers.setCell W a v).same k o, fun k h1 h2 _ => Below.heap_setCell W a v k (by omega)⟩
theorem Keeps.alloc (B C m : Nat) (W : World) (o : Obj) : Keeps B C m W (W.alloc o) := ⟨by simp, fun k o' _ => (KeepsOthers.alloc W o).same k o', fun k _ _ hk => Below.heap_alloc W o k hk⟩
theorem Keeps.drew (B C m : Nat) (W : World) : Keeps B C m W W.drew := ⟨Nat.le_refl _, fun _ _ _ h _ => h, fun _ _ _ _ => rfl⟩
theorem Keeps.drewN (B C m : Nat) (W : World) (n : Nat) : Keeps B C m W (W.drewN n) := ⟨Nat.le_refl _, fun _ _ _ h _ => h, fun _ _ _ _ => rfl⟩
theorem Keeps.below {B C m D : Nat} {W W' : World} (h : Below D W W') (hD : W.heap.size ≤ D) : Keeps B C m W W' :=
 ⟨h.size, fun k _ _ hk _ => (h.block k (Nat.lt_of_lt_of_le (Array.getElem?_eq_some_iff.1 hk).1 hD)).trans hk, fun k _ _ hk => h.block k (Nat.lt_of_lt_of_le hk hD)⟩
theorem Keeps.putObj {B C m : Nat} {W : World} {l : Nat} {o : Obj} (hl : l < B) (hC : l < C) : Keeps B C m W (W.putObj l o) :=
 ⟨by simp, fun k _ hb hk _ => (World.putObj_heap_other (by omega)).trans hk, fun k hc _ _ => World.putObj_heap_other (by omega)⟩

def SeqAt (P : Program) (g : Nat) (lb : Array Value) (xs : Nat → Array Value) (Nd : Nat → World → Prop) (T : Nat → Nat → World → World → Prop) (Kp : World → World → Prop) (m N : Nat) (fin : Bool) (w : World) : Prop :=
  ∀ (n l : Nat) (J J' Jx : Nat → World → Prop) (W : World), 1 ≤ n → Below w.heap.size w W → l < W.heap.size → OwnFrom W.heap.size J → OwnFrom W.heap.size J' → OwnFrom W.heap.size Jx →
    (∀ k W1, k ≤ N → J k W1 → Nd k W1) → (∀ k W1 W2, k ≤ N → J k W1 → T W.heap.size k W1 W2 → J' k W2) → (fin = false → ∀ W', ¬ J' N W') →
    (∀ k W1, J' k W1 → k < N → W.heap.size + m ≤ W1.heap.size → YieldAt Fence.wide (n - 1) P l (xs k) W1 fun e W' =>
      (e = .returned (.bool true) ∧ J (k + 1) W' ∧ Kp W1 W' ∧ Keeps W.heap.size W.heap.size m W1 W') ∨ (e = .returned (.bool false) ∧ Jx (k + 1) W' ∧ Keeps W.heap.size W.heap.size m W1 W')) →
    J 0 W →
    CallsIn Fence.wide n P g (#[.func (.yield l) #[] #[]] ++ lb) W fun e W' => (∃ v, e = .returned v) ∧ (J' N W' ∨ ∃ k, 0 < k ∧ k ≤ N ∧ Jx k W')

def NoNeed (_ : Nat) (_ : World) : Prop := True
def TPlain (_B _k : Nat) (W W' : World) : Prop := W.grownBy W' none

def iterPost (B m : Nat) (Kp : World → World → Prop) (I : Nat → World → Prop) (Ix : Code → Nat → World → Prop) (k : Nat) (W : World) : Exit → Act → World → Prop
 | .normal, _, W' => Keeps B (B + 2) m W W' ∧ Kp W W' ∧ I k W'
 | .ret, _, W' => Keeps B (B + 2) m W W' ∧ Ix .ret k W'
 | .exit id, _, W' => Keeps B (B + 2) m W W' ∧ Ix (.exit id) k W'
 | .goto t, _, W' => Keeps B (B + 2) m W W' ∧ Ix (.goto t) k W'
 | .panic _, _, _ => False
 | .outgrown, _, _ => False

theorem ownFrom_mono {β : Type} {B C : Nat} {I : β → World → Prop} (h : OwnFrom B I) (hc : B ≤ C) : OwnFrom C I :=
 fun s W W' row hs hg hr => h s W W' row hs hg fun r e => ⟨Nat.le_trans hc (hr r e).1, (hr r e).2⟩
theorem ownFrom_block {β : Type} {B g : Nat} (o : Obj) (hg : g < B) : OwnFrom B (fun (_ : β) W => g < W.heap.size ∧ W.heap[g]? = some o) := fun _ W W' row hs hw hr =>
 ⟨Nat.lt_of_lt_of_le hs.1 hw.size, (hw.block g hs.1 fun e => by have := (hr g e.symm).1; omega).trans hs.2⟩

theorem wpIn_iter {n : Nat} {P : Program} {g : Operand} {ps : Array Tmp} {assign body : Code} {Q : Exit → Act → World → Prop} {a : Act} {w : World}
    (h2 : 2 ≤ n) {gf : Nat} {lb : Array Value} (hg : a.eval g = .func (.func gf) #[] lb) (eg : ∀ args w, (callFunc gf args).run P w = .ok (.enter gf args) w)
    {xs : Nat → Array Value} {Nd : Nat → World → Prop} {T : Nat → Nat → World → World → Prop} {Kp : World → World → Prop} {m N : Nat} {fin : Bool} {w0 : World} (hseq : SeqAt P gf lb xs Nd T Kp m N fin w0)
    (hKt : ∀ {A B C : World}, Kp A B → Kp B C → Kp A C) (hKb : ∀ (W : World) (l : Nat) (o o' : Obj), w.heap.size ≤ l → W.heap[l]? = some o → o.isCells = false → o.isWalk = false → Kp W (W.putObj l o'))
    (hT : ∀ B k W1 W2, T B k W1 W2 → W1.heap.size ≤ W2.heap.size ∧ ∀ b o, b < B → W1.heap[b]? = some o → o.isCells = false → W2.heap[b]? = some o)
    (hb0 : Below w0.heap.size w0 w) (hps : ∀ k, (xs k).size = ps.size)
    (I I' : Nat → World → Prop) (Ix : Code → Nat → World → Prop) (hI : OwnFrom w.heap.size I) (hI' : OwnFrom w.heap.size I') (hIx : ∀ c, OwnFrom w.heap.size (Ix c))
    (hNd : ∀ k W, k ≤ N → I k W → Nd k W) (hIT : ∀ B k W1 W2, w.heap.size ≤ B → k ≤ N → I k W1 → T B k W1 W2 → I' k W2) (hfin : fin = false → ∀ W', ¬ I' N W') (h0 : I 0 w) (a₁ : Nat → Act)
    (hassign : ∀ (l k : Nat) (W : World) (K : Act → World → Prop), K (a₁ k) W →
      assign.wpIn (Fence.wide.inRound l) (n - 1 - 1) P (Exit.then K (fun _ _ _ => False)) { tmps := (ps.zip (xs k)).foldl (fun t (p, v) => t.setIfInBounds p v) a.tmps, defers := [] } W)
    (hbody : ∀ (l k : Nat) (W : World), I' k W → k < N → w.heap.size + 2 + m ≤ W.heap.size → body.wpIn (Fence.wide.inRound l) (n - 1 - 1) P (iterPost w.heap.size m Kp I Ix (k + 1) W) (a₁ k) W)
    (hdone : ∀ (D : Nat) (W : World), w.heap.size ≤ D → I' N W → W.heap[D]? = some (.deferred (some [])) → Q .normal { a with defers := { target := .collected D, args := #[] } :: a.defers } W)
    (hstop : ∀ (D : Nat) (c : Code) (k : Nat) (W : World), w.heap.size ≤ D → 0 < k → k ≤ N → Ix c k W → W.heap[D]? = some (.deferred (some [])) → c.wpIn Fence.wide n P Q { a with defers := { target := .collected D, args := #[] } :: a.defers } W) :
    (Code.rangeFunc g ps assign body).wpIn Fence.wide n P Q a w := by
  refine wpIn_rangeFunc ?_
  intro fn hfn
  obtain ⟨rc, hrc⟩ : ∃ rc : LoopState → Option Code → Loop, rc = fun st pe => { state := st, pending := pe, fn, tmps := a.tmps, params := ps, assign, body, defers := w.heap.size } := ⟨_, rfl⟩
  obtain ⟨L, hL⟩ : ∃ L, w.heap.size + 1 = L := ⟨_, rfl⟩
  obtain ⟨D, hD⟩ : ∃ D, w.heap.size = D := ⟨_, rfl⟩
  obtain ⟨W1, hW1⟩ : ∃ W1, (w.alloc (.deferred (some []))).alloc (.loop (rc .ready none)) = W1 := ⟨_, rfl⟩
  have hz1 : W1.heap.size = D + 2 := by rw [← hW1, ← hD]; simp
  have hl1 : W1.heap[L]? = some (.loop (rc .ready none)) := by
    rw [← hW1, ← hL]; have := World.alloc_heap_new (w.alloc (.deferred (some []))) (.loop (rc .ready none)); rwa [World.size_alloc] at this
  have hd1 : W1.heap[D]? = some (.deferred (some [])) := by
    rw [← hW1, ← hD]; exact (Below.heap_alloc _ _ _ (by simp)).trans (World.alloc_heap_new w _)
  have hi1 : I 0 W1 := by rw [← hW1]; exact hI.alloc _ (hI.alloc _ h0)
  have hb1 : Below w0.heap.size w0 W1 := by rw [← hW1]; exact hb0.trans ((((Below.refl _ w).alloc (Nat.le_refl _) _).alloc (by simp) _).mono hb0.size)
  have hlD : L = D + 1 := by omega
  refine ⟨L, [{ target := .collected D, args := #[] }], W1, { target := .fn (.func gf) lb, args := #[.func (.yield L) #[] #[]] }, W1, gf,
    #[.func (.yield L) #[] #[]] ++ lb, W1, ?_, ?_, ?_, ?_, fun _ => by omega, ?_⟩
  · rw [← hW1, hrc, ← hL, ← hD]; exact run_enterLoop_outer _ _ _ _ _
  · simp only [resolve, hg]
    simp [go_sem]
  · exact fun _ _ => trivial
  · simp [invoke, go_sem, eg]
  -- the record's two blocks, beside what the caller holds
  have recs : ∀ (st : LoopState) (pe : Option Code), OwnFrom W1.heap.size (fun (_ : Nat) (W : World) => (L < W.heap.size ∧ W.heap[L]? = some (.loop (rc st pe))) ∧ D < W.heap.size ∧ W.heap[D]? = some (.deferred (some []))) := fun st pe =>
    OwnFrom.and (ownFrom_block _ (by omega)) (ownFrom_block _ (by omega))
  have lt : ∀ {W : World} {b : Nat} {o : Obj}, W.heap[b]? = some o → b < W.heap.size := fun h => (Array.getElem?_eq_some_iff.1 h).1
  refine (hseq (n - 1) L
    (fun k W => I k W ∧ (L < W.heap.size ∧ W.heap[L]? = some (.loop (rc .ready none))) ∧ D < W.heap.size ∧ W.heap[D]? = some (.deferred (some [])))
    (fun k W => I' k W ∧ (L < W.heap.size ∧ W.heap[L]? = some (.loop (rc .ready none))) ∧ D < W.heap.size ∧ W.heap[D]? = some (.deferred (some [])))
    (fun k W => ∃ c, Ix c k W ∧ (L < W.heap.size ∧ W.heap[L]? = some (.loop (rc .done (some c)))) ∧ D < W.heap.size ∧ W.heap[D]? = some (.deferred (some [])))
    W1 (by omega) hb1 (by omega) (OwnFrom.and (ownFrom_mono hI (by omega)) (recs _ _)) (OwnFrom.and (ownFrom_mono hI' (by omega)) (recs _ _))
    (fun k A B row hs hg' hr => by obtain ⟨c, hc, hr2⟩ := hs; exact ⟨c, ownFrom_mono (hIx c) (by omega) k A B row hc hg' hr, recs _ _ k A B row hr2 hg' hr⟩)
    (fun k A hk hs => hNd k A hk hs.1) ?_ (fun hf W' hs => hfin hf W' hs.1) ?_ ⟨hi1, ⟨lt hl1, hl1⟩, lt hd1, hd1⟩).mono ?_
  · rintro k A B hk ⟨hi, ⟨_, hl⟩, _, hd⟩ ht
    have hl' := (hT _ _ _ _ ht).2 L _ (by omega) hl rfl
    have hd' := (hT _ _ _ _ ht).2 D _ (by omega) hd rfl
    exact ⟨hIT _ k A B (by omega) hk hi ht, ⟨lt hl', hl'⟩, lt hd', hd'⟩
  · -- one round
    rintro k W ⟨hi, ⟨_, hl⟩, _, hd⟩ hlen hm
    have hlt : L < W.heap.size := lt hl
    have hy := run_yield (P := P) (args := xs k) hl (by rw [hrc]; exact hps k)
    rw [hrc] at hy
    refine ⟨fn, _, assign, body, hy, roundIn_of_wpIn hfn (hassign _ k W _ ⟨_, run_beginRound hl (by rw [hrc]), ?_⟩)⟩
    have hl2 : (W.putObj L (.loop { rc .ready none with state := .busy })).heap[L]? = some (.loop { rc .ready none with state := .busy }) := World.putObj_heap_same hlt
    have hd2 : (W.putObj L (.loop { rc .ready none with state := .busy })).heap[D]? = some (.deferred (some [])) := (World.putObj_heap_other (by omega)).trans hd
    have hw2 : Kp W (W.putObj L (.loop { rc .ready none with state := .busy })) := hKb _ _ _ _ (by omega) hl rfl rfl
    have hk2 : Keeps W1.heap.size W1.heap.size m W (W.putObj L (.loop { rc .ready none with state := .busy })) := Keeps.putObj (by omega) (by omega)
    refine wpIn_mono (hbody _ k _ (hI'.putObj _ hi (by omega) hl rfl) hlen (by simp; omega)) ?_
    have fin : ∀ (jump : Option Code) (W3 : World), Keeps w.heap.size (w.heap.size + 2) m (W.putObj L (.loop { rc .ready none with state := .busy })) W3 →
        (Instr.endRound L jump).run P W3 = .ok (.bool jump.isNone) (W3.putObj L (.loop (rc (if jump.isNone then .ready else .done) jump))) ∧
        W3.heap[L]? = some (.loop { rc .ready none with state := .busy }) ∧
        (W3.putObj L (.loop (rc (if jump.isNone then .ready else .done) jump))).heap[L]? = some (.loop (rc (if jump.isNone then .ready else .done) jump)) ∧
        (W3.putObj L (.loop (rc (if jump.isNone then .ready else .done) jump))).heap[D]? = some (.deferred (some [])) ∧
        Keeps W1.heap.size W1.heap.size m W (W3.putObj L (.loop (rc (if jump.isNone then .ready else .done) jump))) := fun jump W3 hk3 => by
      have hl3 := hk3.others L _ (by omega) hl2 rfl
      have hd3 := hk3.others D _ (by omega) hd2 rfl
      have := run_endRound (P := P) jump hl3
      rw [hrc] at this ⊢
      exact ⟨this, by rw [hrc] at hl3; exact hl3, World.putObj_heap_same (lt hl3), (World.putObj_heap_other (by omega)).trans hd3, by rw [hrc] at hk2 hk3; exact hk2.trans ((hk3.mono (by omega) (by omega) (by omega)).trans (Keeps.putObj (by omega) (by omega)))⟩
    rintro e a3 W3 hp
    cases e with
    | normal =>
      obtain ⟨hk3, hkp3, hi3⟩ := hp
      obtain ⟨hr, hl3, hl4, hd4, hk4⟩ := fin none W3 hk3
      exact ⟨_, _, hr, .inl ⟨rfl, ⟨hI.putObj _ hi3 (by omega) hl3 rfl, ⟨lt hl4, hl4⟩, lt hd4, hd4⟩, hKt (hKt hw2 hkp3) (hKb _ _ _ _ (by omega) hl3 rfl rfl), hk4⟩⟩
    | ret =>
      obtain ⟨hk3, hi3⟩ := hp
      obtain ⟨hr, hl3, hl4, hd4, hk4⟩ := fin (some .ret) W3 hk3
      exact ⟨_, _, hr, .inr ⟨rfl, ⟨.ret, (hIx _).putObj _ hi3 (by omega) hl3 rfl, ⟨lt hl4, hl4⟩, lt hd4, hd4⟩, hk4⟩⟩
    | exit id =>
      obtain ⟨hk3, hi3⟩ := hp
      obtain ⟨hr, hl3, hl4, hd4, hk4⟩ := fin (some (.exit id)) W3 hk3
      exact ⟨_, _, hr, .inr ⟨rfl, ⟨.exit id, (hIx _).putObj _ hi3 (by omega) hl3 rfl, ⟨lt hl4, hl4⟩, lt hd4, hd4⟩, hk4⟩⟩
    | goto t =>
      obtain ⟨hk3, hi3⟩ := hp
      obtain ⟨hr, hl3, hl4, hd4, hk4⟩ := fin (some (.goto t)) W3 hk3
      exact ⟨_, _, hr, .inr ⟨rfl, ⟨.goto t, (hIx _).putObj _ hi3 (by omega) hl3 rfl, ⟨lt hl4, hl4⟩, lt hd4, hd4⟩, hk4⟩⟩
    | panic ch => exact hp.elim
    | outgrown => exact hp.elim
  · -- behind the iterator
    rintro e W2 ⟨⟨v, rfl⟩, (⟨hi, ⟨_, hl⟩, _, hd⟩ | ⟨k, hk0, hk, c, hi, ⟨_, hl⟩, _, hd⟩)⟩
    · exact ⟨none, _, by have := run_endLoop (P := P) hl (by rw [hrc]; simp); rw [hrc] at this; exact this, hdone _ _ (by omega) (hI'.putObj _ hi (by omega) hl rfl) ((World.putObj_heap_other (by omega)).trans hd)⟩
    · exact ⟨some c, _, by have := run_endLoop (P := P) hl (by rw [hrc]; simp); rw [hrc] at this; exact this, hstop _ c k _ (by omega) hk0 hk ((hIx c).putObj _ hi (by omega) hl rfl) ((World.putObj_heap_other (by omega)).trans hd)⟩

theorem tplain_keeps : ∀ B k W1 W2, TPlain B k W1 W2 → W1.heap.size ≤ W2.heap.size ∧ ∀ b o, b < B → W1.heap[b]? = some o → o.isCells = false → W2.heap[b]? = some o := fun _ _ _ _ h =>
 ⟨h.size, fun b o _ hb _ => (h.block b (Array.getElem?_eq_some_iff.1 hb).1 (by simp)).trans hb⟩
theorem ownFrom_plain {B : Nat} {I : Nat → World → Prop} (h : OwnFrom B I) {C k : Nat} {W1 W2 : World} (hi : I k W1) (ht : TPlain C k W1 W2) : I k W2 := h k W1 W2 none hi ht (fun r e => by cases e)
end Go.Proofs.YtendnkpiidhogaaGreat

namespace Go.Proofs.YtendnkpiidhogaaGreat.At
open Go.RowKit

attribute [local go_sem] Oper.semAt_some

def formed (t : Nat) : Bool := decide (formOf (t : Int) ≠ 0)
def tysTo (n : Nat) : List Nat := (List.range n).filter formed
def cnt (n : Nat) : Nat := (tysTo n).length
theorem tysTo_succ (n : Nat) : tysTo (n + 1) = tysTo n ++ if formed n then [n] else [] := by
 simp only [tysTo, List.range_succ, List.filter_append, List.filter_cons, List.filter_nil]
theorem cnt_yes {n : Nat} (h : formed n = true) : cnt (n + 1) = cnt n + 1 := by simp [cnt, tysTo_succ, h]
theorem cnt_no {n : Nat} (h : formed n = false) : cnt (n + 1) = cnt n := by simp [cnt, tysTo_succ, h]
theorem tysTo_pre {n m : Nat} (h : n ≤ m) : ∃ l, tysTo m = tysTo n ++ l := by
  induction m with
  | zero => obtain rfl : n = 0 := by omega
            exact ⟨[], by simp⟩
  | succ m ih =>
    rcases Nat.lt_or_ge m n with h1 | h1
    · obtain rfl : n = m + 1 := by omega
      exact ⟨[], by simp⟩
    · obtain ⟨l, hl⟩ := ih h1
      rw [tysTo_succ, hl, List.append_assoc]
      exact ⟨_, rfl⟩
def tyAt (k : Nat) : Nat := (tysTo 386).getD k 0
theorem tyAt_cnt {t : Nat} (h : formed t = true) (ht : t < 386) : tyAt (cnt t) = t := by
 obtain ⟨l, hl⟩ := tysTo_pre (show t + 1 ≤ 386 by omega)
 rw [tysTo_succ t, if_pos h] at hl
 rw [tyAt, hl, cnt, List.getD_eq_getElem?_getD]
 simp
theorem cnt_mono {m n : Nat} (h : m ≤ n) : cnt m ≤ cnt n := by
 obtain ⟨l, hl⟩ := tysTo_pre h
 rw [cnt, cnt, hl]; simp
theorem cnt_lt {t : Nat} (h : formed t = true) (ht : t < 386) : cnt t < cnt 386 := by
 have h1 := cnt_yes h
 have h2 := cnt_mono (show t + 1 ≤ 386 by omega)
 omega

set_option maxRecDepth 100000 in
set_option maxHeartbeats 1000000 in
theorem types_seq (w : World) : SeqAt Tryz.prog 87 #[] (fun k => #[.int .i64 (tyAt k : Int)]) NoNeed TPlain (fun _ _ => True) 0 (cnt 386) true w := by
 intro n l J J' Jx W _ _ _ hJ hJ' hJx _ hT _ hY h0
 obtain ⟨N, hN⟩ : ∃ N, cnt 386 = N := ⟨_, rfl⟩
 have HN := Lib.hid hN
 rw [hN] at hT hY ⊢
 clear hN
 have hle : ∀ t, t ≤ 386 → cnt t ≤ N := fun t ht => by rw [← HN.out]; exact cnt_mono ht
 have hlt : ∀ t, formed t = true → t < 386 → cnt t < N := fun t h ht => by rw [← HN.out]; exact cnt_lt h ht
 have Hlt := Lib.hid hlt
 have Hle := Lib.hid hle
 have HT := Lib.hid hT
 have HY := Lib.hid hY
 clear hlt hle hT hY
 refine callsIn_of_wp Tryz.func87 rfl trivial ?_ rfl
 simp only [Tryz.ntmps87, List.size_toArray, List.length_cons, List.length_nil, Nat.reduceAdd, Nat.reduceSub, Array.replicate_succ, Array.replicate_zero, List.push_toArray, List.append_toArray, List.nil_append, List.cons_append]
 gi_wp2
 gi_loopw [3] (fun i wr => ∃ t : Nat, t ≤ 386 ∧ i = .int .i64 (t : Int) ∧ J (cnt t) wr ∧ W.heap.size ≤ wr.heap.size) (fun i _ => 386 - (intOf i).toNat)
 case atStart => exact ⟨0, by omega, rfl, h0, Nat.le_refl _⟩
 case round =>
  obtain ⟨t, ht, rfl, hj, hz⟩ := hrel
  by_cases hlt : t < 386
  · have hf := callsIn_wide (n := n - 1) |>.2 (form_any (t : Int) wr)
    have Hf := Lib.hid hf
    clear hf
    by_cases h : formed t = true
    · have h1 : (formOf (t : Int) != 0) = true := by simpa [formed] using h
      obtain ⟨fn, tmps, assign, body, hy, hRo⟩ := HY.out (cnt t) wr (HT.out _ _ _ (by have := Hlt.out t h hlt; omega) hj (World.grownBy.refl wr none)) (Hlt.out t h hlt) hz
      rw [tyAt_cnt h hlt] at hy
      have hc := Lib.hid (cnt_yes h)
      generalize formOf (t : Int) = f at *
      gi_wp2
      refine ⟨trivial, Hf.out.mono ?_⟩
      rintro e w' ⟨rfl, rfl⟩
      gi_wp2
      refine hRo.mono ?_
      rintro e W3 (⟨rfl, hJ3, _, hz3⟩ | ⟨rfl, hJx3, _⟩)
      · gi_wp2
        go_roundw
        case rel => exact ⟨t + 1, by omega, by go_num, by rw [hc.out]; exact hJ3, Nat.le_trans hz hz3.size⟩
        case measure => simp [intOf]; omega
      · gi_wp2
        refine bodyPost_ret (results_none rfl _ _ _) rfl ?_
        exact ⟨⟨_, rfl⟩, .inr ⟨cnt t + 1, by omega, by have := Hlt.out t h hlt; omega, hJx3⟩⟩
    · have h1 : formOf (t : Int) = 0 := by simpa [formed] using h
      rw [h1] at Hf
      have hc := Lib.hid (cnt_no (Bool.not_eq_true _ ▸ h))
      clear h1
      gi_wp2
      refine ⟨trivial, Hf.out.mono ?_⟩
      rintro e w' ⟨rfl, rfl⟩
      gi_wp2
      refine ⟨fun _ _ => trivial, ?_⟩
      gi_wp2
      go_roundw
      case rel => exact ⟨t + 1, by omega, by go_num, by rw [hc.out]; exact hj, hz⟩
      case measure => simp [intOf]; omega
  · obtain rfl : t = 386 := by omega
    have hN := HN.out
    rw [hN] at hj
    have hj' := HT.out _ _ _ (Nat.le_refl _) hj (World.grownBy.refl wr none)
    clear hN
    gi_wp2
    go_end0
    exact ⟨⟨_, rfl⟩, .inl hj'⟩
end Go.Proofs.YtendnkpiidhogaaGreat.At

namespace Go.Proofs.YtendnkpiidhogaaGreat.At

abbrev Attrs := List (Int × List Nat)

def together (c k : Int) : Bool :=
 if c = 0 then true else if c = 4 then k == 16 || k == 31 else if c = 2 ∨ c = 3 then k == 0 || k == 3 else false
def ownRow (c k : Int) : List Int :=
 if c = 4 then [17, 353, 260, 261, 264, 266, 262, 263, 268]
 else if c = 2 then (if k = 0 then [260, 266, 262, 288, 289, 290] else [260, 266, 262, 384, 385])
 else if k = 0 then [261, 264, 263, 268, 288, 290, 291, 292, 293] else [261, 264, 263, 268, 384, 17]
def rowsOf (c k : Int) : List (List Int) :=
 if together c k = false then [] else if c = 0 then [[0, 1, 2, 3, 368, 369], [17]]
 else if c = 2 then [[0, 1, 2, 3, 368, 369], [256, 258, 355], ownRow c k]
 else [[0, 1, 2, 3, 368, 369], [256, 258, 355], ownRow c k, [259, 354, 357, 356]]
def hasOf (c k t : Int) : Bool := (rowsOf c k).any fun r => decide (t ∈ r)

def came (l : Attrs) (t : Int) : Bool := (seek l t).isSome

def kindsOf (l : Attrs) (class_ key : Int) : Int × Int × Int :=
 if class_ = -1 then
  if !came l 0 || (!(intOf' l 0 == some 0) && !came l 256) then (0, 0, 208)
  else if intOf' l 0 = some 0 then (0, 0, 0)
  else match intOf' l 0, intOf' l 256 with
   | some c, some k => if together c k then (c, k, 0) else (0, 0, 19)
   | _, _ => (0, 0, 19)
 else
  if came l 0 && !((intOf' l 0).map (fun n : Nat => (n : Int)) == some class_) || came l 256 && !((intOf' l 256).map (fun n : Nat => (n : Int)) == some (if class_ = 0 then 0 else key)) then (0, 0, 209)
  else (class_, if class_ = 0 then 0 else key, 0)

def unreadOf (how class_ t : Int) : Bool :=
 if t = 355 ∨ t = 356 ∨ t = 357 then true
 else if t = 353 then how == 1 || how == 3
 else if t = 289 then how == 1
 else if t = 17 ∨ t = 291 ∨ t = 292 ∨ t = 293 ∨ t = 288 then decide (1 < how) && decide (how ≤ 4)
 else if t = 385 then how == 2
 else if t = 290 ∨ t = 384 then how == 3 || how == 4 || (how == 2 && class_ == 3)
 else false

def twice : Attrs → Attrs → Bool
 | _, [] => false
 | p, x :: r => came p x.1 || twice (p ++ [x]) r
def formsOf (l : Attrs) : Int :=
 if l.any (fun x => formOf x.1 == 0) then 18 else if twice [] l then 209 else if l.any (fun x => !fineOf x) then 19 else 0

def checkOf (how : Int) (l : Attrs) (class_ key : Int) : Int :=
 if how < 1 ∨ 4 < how then 7
 else if formsOf l ≠ 0 then formsOf l
 else if (kindsOf l class_ key).2.2 ≠ 0 then (kindsOf l class_ key).2.2
 else if l.any (fun x => !hasOf (kindsOf l class_ key).1 (kindsOf l class_ key).2.1 x.1) then 209
 else if l.any (fun x => unreadOf how (kindsOf l class_ key).1 x.1) then 16
 else 0

def standardOf (class_ t : Int) : Int × List Nat :=
 if formOf t = 1 then
  (t, [(if t = 2 then class_ == 4 || class_ == 3 else if t = 368 ∨ t = 369 then true else if t = 259 then class_ == 3 else if t = 354 then class_ == 4 else false).toNat])
 else (t, [])
def flagD (l : Attrs) (class_ t : Int) : Bool := if came l t then flagOf l t else flagOf [standardOf class_ t] t
def mustOf (class_ t : Int) : Bool := if t = 17 then !(class_ == 0) else decide (t ∈ [288, 290, 291, 292, 293, 384, 385])

def joinOn : Attrs → Attrs → Option Attrs
 | out, [] => some out
 | out, a :: r => if came out a.1 && !((seek out a.1).getD [] == a.2) then none else joinOn (putOf out a) r
def joinedOf (t extra : Attrs) : Option Attrs := (joinOn [] t).bind fun o => joinOn o extra

def layOn (c k : Int) (all : Attrs) : Attrs → List Int → Option Attrs
  | o, [] => some o
  | o, t :: r =>
    if hasOf c k t = false then layOn c k all o r
    else match seek all t with
      | some b => layOn c k all (o ++ [(t, b)]) r
      | none => if mustOf c t then none else layOn c k all (o ++ [standardOf c t]) r

def putIf (o : Attrs) (a : Int × List Nat) : Attrs := if came o a.1 then putOf o a else o

def changesOf (o : Attrs) (a : Int × List Nat) (copying : Bool) : Int :=
 let was := flagOf o a.1; let now := flagOf [a] a.1
 if (if a.1 ∈ [3, 258, 260, 261, 262, 263, 264, 266, 268] then true
  else if a.1 = 259 then now || !was
  else if a.1 = 354 then was || !now
  else if a.1 = 1 then copying
  else if a.1 = 2 then copying && (now || !was)
  else if a.1 = 368 ∨ a.1 = 369 then copying && (was || !now)
  else false) then 0 else 16
def withOn (o : Attrs) (copying : Bool) : Attrs → Attrs → Attrs → Attrs ⊕ Int
  | _, out, [] => .inl out
  | p, out, a :: r =>
    if formOf a.1 = 0 then .inr 18
    else if came p a.1 || !came o a.1 then .inr 209
    else if fineOf a = false then .inr 19
    else if changesOf o a copying ≠ 0 then .inr (changesOf o a copying)
    else withOn o copying (p ++ [a]) (putOf out a) r
def hiddenOf (o : Attrs) (t : Int) : Bool :=
 let class_ : Nat := (intOf' o 0).getD 0
 if t = 17 then (if class_ ≠ 4 ∧ class_ ≠ 3 then false else flagOf o 259 || !flagOf o 354)
 else if t = 291 ∨ t = 292 ∨ t = 293 then (if class_ ≠ 3 then false else flagOf o 259 || !flagOf o 354)
 else false

end Go.Proofs.YtendnkpiidhogaaGreat.At

namespace Go.Proofs.YtendnkpiidhogaaGreat.At
open Go.RowKit Go.Shelf

attribute [local go_sem] Oper.semAt_some

def its (l : List Int) : List Value := l.map fun x => .int .i64 x
def RI (w : World) (P : Nat → Prop) (A : Option Addr) (c : Nat) (l : List Int) : Prop := RS w P 1 A l.length c (its l) ∧ l.length ≤ 17592186044416
section
variable {w w' : World} {P P' : Nat → Prop} {A : Option Addr} {c : Nat} {l : List Int}
theorem RI.keep (h : RI w P A c l) (hk : ∀ p : Addr, P p.block → w'.cell? p = w.cell? p) : RI w' P A c l := ⟨h.1.keep hk, h.2⟩
theorem RI.mono (h : RI w P A c l) (hp : ∀ b, P b → P' b) : RI w P' A c l := ⟨h.1.mono hp, h.2⟩
theorem RI.below {B : Nat} (h : RI w P A c l) (hb : Below B w w') (hB : ∀ b, P b → b < B) : RI w' P A c l := ⟨h.1.below hb hB, h.2⟩
theorem RI.cap (h : RI w P A c l) : l.length ≤ c ∧ c ≤ 9223372036854775807 := ⟨h.1.1, h.1.2.1⟩
theorem RI.at_ (h : RI w P A c l) {i : Nat} (hi' : i < l.length) : ∃ ad, A = some ad ∧ P ad.block ∧ w.cell? (ad.add i) = some (.int .i64 (l.getD i 0)) := by
 obtain ⟨⟨h1, h2, h3, h4⟩, _⟩ := h
 obtain ⟨ad, rfl, hb, hc⟩ := h4 (by omega)
 exact ⟨ad, rfl, hb, hc _ _ (by simp [its, List.getD_eq_getElem?_getD, List.getElem?_eq_getElem hi'])⟩
end

def RAA (w : World) (P : Nat → Prop) (A : Option Addr) (c : Nat) (ls : List (List (Int × List Nat))) (cs : List Value) : Prop :=
 RS w P 1 A ls.length c cs ∧ ∀ (j : Nat) x, ls[j]? = some x → ∃ A' c', cs[j]? = some (.slice A' x.length c') ∧ RA w P A' c' x
section
variable {w w' : World} {P P' : Nat → Prop} {A : Option Addr} {c : Nat} {ls : List (List (Int × List Nat))} {cs : List Value}
theorem RAA.keep (h : RAA w P A c ls cs) (hk : ∀ p : Addr, P p.block → w'.cell? p = w.cell? p) : RAA w' P A c ls cs :=
 ⟨h.1.keep hk, fun j x hx => by obtain ⟨A', c', h1, h2⟩ := h.2 j x hx; exact ⟨A', c', h1, h2.keep hk⟩⟩
theorem RAA.mono (h : RAA w P A c ls cs) (hp : ∀ b, P b → P' b) : RAA w P' A c ls cs :=
 ⟨h.1.mono hp, fun j x hx => by obtain ⟨A', c', h1, h2⟩ := h.2 j x hx; exact ⟨A', c', h1, h2.mono hp⟩⟩
theorem RAA.below {B : Nat} (h : RAA w P A c ls cs) (hb : Below B w w') (hB : ∀ b, P b → b < B) : RAA w' P A c ls cs := h.keep fun _ hp => hb.cell (hB _ hp)
theorem RAA.cap (h : RAA w P A c ls cs) : ls.length ≤ c ∧ c ≤ 9223372036854775807 := ⟨h.1.1, h.1.2.1⟩
theorem RAA.at_ (h : RAA w P A c ls cs) {i : Nat} (hi' : i < ls.length) : ∃ ad A' c', A = some ad ∧ P ad.block ∧ w.cell? (ad.add i) = some (.slice A' ls[i].length c') ∧ cs.getD i undef = .slice A' ls[i].length c' ∧ RA w P A' c' ls[i] := by
 obtain ⟨⟨h1, h2, h3, h4⟩, h5⟩ := h
 obtain ⟨ad, rfl, hb, hc⟩ := h4 (by omega)
 obtain ⟨A', c', h6, h7⟩ := h5 i _ (List.getElem?_eq_getElem hi')
 exact ⟨ad, A', c', rfl, hb, hc _ _ h6, by rw [List.getD_eq_getElem?_getD, h6]; rfl, h7⟩
end

structure BelowBut (n₀ cb : Nat) (w w' : World) : Prop where
 os : w'.os = w.os
 tape : w'.tape = w.tape
 output : w'.output = w.output
 size : w.heap.size ≤ w'.heap.size
 block : ∀ b, b < n₀ → b ≠ cb → w'.heap[b]? = w.heap[b]?
theorem BelowBut.refl (n₀ cb : Nat) (w : World) : BelowBut n₀ cb w w := ⟨rfl, rfl, rfl, Nat.le_refl _, fun _ _ _ => rfl⟩
theorem BelowBut.trans {n₀ cb : Nat} {a b c : World} (h : BelowBut n₀ cb a b) (k : BelowBut n₀ cb b c) : BelowBut n₀ cb a c :=
 ⟨k.os.trans h.os, k.tape.trans h.tape, k.output.trans h.output, Nat.le_trans h.size k.size, fun i hi hn => (k.block i hi hn).trans (h.block i hi hn)⟩
theorem BelowBut.set {n₀ cb : Nat} {a b : World} (h : BelowBut n₀ cb a b) (v : Value) : BelowBut n₀ cb a (b.setCell ⟨cb, 0, none⟩ v) :=
 ⟨h.os, h.tape, h.output, by simpa [World.setCell] using h.size, fun i hi hn => (Below.heap_setCell _ _ _ _ (by exact hn)).trans (h.block i hi hn)⟩
theorem BelowBut.cell {n₀ cb : Nat} {w w' : World} (h : BelowBut n₀ cb w w') {p : Addr} (hp : p.block < n₀) (hn : p.block ≠ cb) : w'.cell? p = w.cell? p := World.cell?_of_block (h.block _ hp hn)
end Go.Proofs.YtendnkpiidhogaaGreat.At

namespace Go.Proofs.YtendnkpiidhogaaGreat.At
open Go.RowKit

set_option maxHeartbeats 1000000 in
theorem together_any (c k : Int) (w : World) :
 Calls Tryz.prog 72 #[.int .i64 c, .int .i64 k] w fun e w' => e = .returned (.bool (together c k)) ∧ w = w' := by
 go_enter Tryz.func72, Tryz.ntmps72
 go_wp2
 all_goals (go_ret; exact ⟨ret_bool (by simp_all [together]), rfl⟩)
def noInt (l : List Int) (t : Int) (k : Nat) : Prop := ∀ j, j < k → l.getD j 0 ≠ t
theorem noInt_succ {l : List Int} {t : Int} {k : Nat} (h : noInt l t k) (hne : l.getD k 0 ≠ t) : noInt l t (k + 1) := fun j hj => by
 rcases Nat.lt_or_ge j k with h1 | h1
 · exact h j h1
 · obtain rfl : j = k := by omega
   exact hne
theorem noInt_all {l : List Int} {t : Int} (h : noInt l t l.length) : t ∉ l := fun hm => by
 obtain ⟨i, hi, he⟩ := List.getElem_of_mem hm
 refine h i hi ?_
 rw [List.getD_eq_getElem?_getD, List.getElem?_eq_getElem hi]
 exact he
theorem int_mem {l : List Int} {t : Int} {k : Nat} (hk : k < l.length) (h : l.getD k 0 = t) : t ∈ l := by
 rw [List.getD_eq_getElem?_getD, List.getElem?_eq_getElem hk] at h
 exact h ▸ List.getElem_mem hk

set_option maxHeartbeats 1000000 in
theorem index_any (P : Nat → Prop) (A : Option Addr) (c : Nat) (l : List Int) (t : Int) (w : World) (h : RI w P A c l) :
 Calls Tryz.prog 78 #[.slice A l.length c, .int .i64 t] w fun e w' => (∃ i : Int, e = .returned (.int .i64 i) ∧ (t ∈ l ↔ 0 ≤ i)) ∧ ∃ d, w' = w.drewN d := by
 obtain ⟨hlc, hc⟩ := h.cap
 go_enter Tryz.func78, Tryz.ntmps78
 go_wp2
 go_loopw [8] (fun i wr => ∃ k : Nat, k ≤ l.length ∧ i = .int .i64 k ∧ noInt l t k ∧ ∃ d, wr = w.drewN d) (fun i _ => l.length - (intOf i).toNat)
 case atStart => exact ⟨0, Nat.zero_le _, rfl, fun j hj => absurd hj (by omega), 0, rfl⟩
 case round =>
  obtain ⟨k, hk, rfl, hno, d, rfl⟩ := hrel
  by_cases hlt : k < l.length
  · obtain ⟨ad, rfl, hb, hx⟩ := h.at_ hlt
    have hx' : (w.drewN d).cell? (ad.add k) = some (.int .i64 (l.getD k 0)) := hx
    obtain ⟨x, hxe⟩ : ∃ x, l.getD k 0 = x := ⟨_, rfl⟩
    rw [hxe] at hx'
    have Hx := Lib.hid hxe
    clear hxe hx
    by_cases he : x = t
    · subst he
      have ht := Lib.hid (int_mem hlt Hx.out)
      go_wp2
      go_ret
      exact ⟨⟨_, rfl, by simp [ht.out]⟩, _, rfl⟩
    · have he' : (t == x) = false := by simpa using fun h => he h.symm
      have hn := Lib.hid (noInt_succ hno (by rw [Hx.out]; exact he))
      clear he
      go_wp2
      go_roundw
      case rel => exact ⟨k + 1, by omega, by go_num, hn.out, _, rfl⟩
      case measure => simp [intOf]; omega
  · have ht := Lib.hid (noInt_all ((show k = l.length by omega) ▸ hno))
    go_wp2
    go_ret
    exact ⟨⟨_, rfl, by simp [ht.out]⟩, _, rfl⟩
set_option maxHeartbeats 1000000 in
theorem contains_any (P : Nat → Prop) (A : Option Addr) (c : Nat) (l : List Int) (t : Int) (w : World) (h : RI w P A c l) :
 Calls Tryz.prog 37 #[.slice A l.length c, .int .i64 t] w fun e w' => e = .returned (.bool (decide (t ∈ l))) ∧ ∃ d, w' = w.drewN d := by
 go_enter Tryz.func37, Tryz.ntmps37
 go_wp2_with fail
 refine (index_any P A c l t w h).mono ?_
 rintro e w1 ⟨⟨i, rfl, hi⟩, d, rfl⟩
 have hI := Lib.hid hi
 clear hi
 go_wp2
 go_ret
 exact ⟨ret_bool (by rw [Bool.eq_iff_iff]; simp [hI.out]), _, rfl⟩
end Go.Proofs.YtendnkpiidhogaaGreat.At

namespace Go.Proofs.YtendnkpiidhogaaGreat
open Go.RowKit

def SeqRel (P : Program) (g : Nat) (lb : Array Value) (xs : Nat → World → Array Value → Prop) (Nd : Nat → World → Prop) (T : Nat → Nat → World → World → Prop) (Kp : World → World → Prop) (m N : Nat) (fin : Bool) (w : World) : Prop :=
  ∀ (n l : Nat) (J J' Jx : Nat → World → Prop) (W : World), 1 ≤ n → Below w.heap.size w W → l < W.heap.size → OwnFrom W.heap.size J → OwnFrom W.heap.size J' → OwnFrom W.heap.size Jx →
    (∀ k W1, k ≤ N → J k W1 → Nd k W1) → (∀ k W1 W2, k ≤ N → J k W1 → T W.heap.size k W1 W2 → J' k W2) → (fin = false → ∀ W', ¬ J' N W') →
    (∀ k W1 v, J' k W1 → k < N → W.heap.size + m ≤ W1.heap.size → xs k W1 v → YieldAt Fence.wide (n - 1) P l v W1 fun e W' =>
      (e = .returned (.bool true) ∧ J (k + 1) W' ∧ Kp W1 W' ∧ Keeps W.heap.size W.heap.size m W1 W') ∨ (e = .returned (.bool false) ∧ Jx (k + 1) W' ∧ Keeps W.heap.size W.heap.size m W1 W')) →
    J 0 W →
    CallsIn Fence.wide n P g (#[.func (.yield l) #[] #[]] ++ lb) W fun e W' => (∃ v, e = .returned v) ∧ (J' N W' ∨ ∃ k, 0 < k ∧ k ≤ N ∧ Jx k W')

theorem wpIn_iterR {n : Nat} {P : Program} {g : Operand} {ps : Array Tmp} {assign body : Code} {Q : Exit → Act → World → Prop} {a : Act} {w : World}
    (h2 : 2 ≤ n) {gf : Nat} {lb : Array Value} (hg : a.eval g = .func (.func gf) #[] lb) (eg : ∀ args w, (callFunc gf args).run P w = .ok (.enter gf args) w)
    {xs : Nat → World → Array Value → Prop} {Nd : Nat → World → Prop} {T : Nat → Nat → World → World → Prop} {Kp : World → World → Prop} {m N : Nat} {fin : Bool} {w0 : World} (hseq : SeqRel P gf lb xs Nd T Kp m N fin w0)
    (hKt : ∀ {A B C : World}, Kp A B → Kp B C → Kp A C) (hKb : ∀ (W : World) (l : Nat) (o o' : Obj), w.heap.size ≤ l → W.heap[l]? = some o → o.isCells = false → o.isWalk = false → Kp W (W.putObj l o'))
    (hT : ∀ B k W1 W2, T B k W1 W2 → W1.heap.size ≤ W2.heap.size ∧ ∀ b o, b < B → W1.heap[b]? = some o → o.isCells = false → W2.heap[b]? = some o)
    (hb0 : Below w0.heap.size w0 w) (hps : ∀ k W v, xs k W v → v.size = ps.size) (hxs : ∀ k (W : World) v (l : Nat) (o o' : Obj), xs k W v → W.heap[l]? = some o → o.isCells = false → o'.isCells = false → xs k (W.putObj l o') v)
    (I I' : Nat → World → Prop) (Ix : Code → Nat → World → Prop) (hI : OwnFrom w.heap.size I) (hI' : OwnFrom w.heap.size I') (hIx : ∀ c, OwnFrom w.heap.size (Ix c))
    (hNd : ∀ k W, k ≤ N → I k W → Nd k W) (hIT : ∀ B k W1 W2, w.heap.size ≤ B → k ≤ N → I k W1 → T B k W1 W2 → I' k W2) (hfin : fin = false → ∀ W', ¬ I' N W') (h0 : I 0 w)
    (hround : ∀ (l k : Nat) (v : Array Value) (W0 : World), xs k W0 v → ∃ a₁ : Act,
      (∀ (W : World) (K : Act → World → Prop), K a₁ W →
        assign.wpIn (Fence.wide.inRound l) (n - 1 - 1) P (Exit.then K (fun _ _ _ => False)) { tmps := (ps.zip v).foldl (fun t (p, x) => t.setIfInBounds p x) a.tmps, defers := [] } W) ∧
      ∀ W : World, I' k W → xs k W v → k < N → w.heap.size + 2 + m ≤ W.heap.size → body.wpIn (Fence.wide.inRound l) (n - 1 - 1) P (iterPost w.heap.size m Kp I Ix (k + 1) W) a₁ W)
    (hdone : ∀ (D : Nat) (W : World), w.heap.size ≤ D → I' N W → W.heap[D]? = some (.deferred (some [])) → Q .normal { a with defers := { target := .collected D, args := #[] } :: a.defers } W)
    (hstop : ∀ (D : Nat) (c : Code) (k : Nat) (W : World), w.heap.size ≤ D → 0 < k → k ≤ N → Ix c k W → W.heap[D]? = some (.deferred (some [])) → c.wpIn Fence.wide n P Q { a with defers := { target := .collected D, args := #[] } :: a.defers } W) :
    (Code.rangeFunc g ps assign body).wpIn Fence.wide n P Q a w := by
  refine wpIn_rangeFunc ?_
  intro fn hfn
  obtain ⟨rc, hrc⟩ : ∃ rc : LoopState → Option Code → Loop, rc = fun st pe => { state := st, pending := pe, fn, tmps := a.tmps, params := ps, assign, body, defers := w.heap.size } := ⟨_, rfl⟩
  obtain ⟨L, hL⟩ : ∃ L, w.heap.size + 1 = L := ⟨_, rfl⟩
  obtain ⟨D, hD⟩ : ∃ D, w.heap.size = D := ⟨_, rfl⟩
  obtain ⟨W1, hW1⟩ : ∃ W1, (w.alloc (.deferred (some []))).alloc (.loop (rc .ready none)) = W1 := ⟨_, rfl⟩
  have hz1 : W1.heap.size = D + 2 := by rw [← hW1, ← hD]; simp
  have hl1 : W1.heap[L]? = some (.loop (rc .ready none)) := by
    rw [← hW1, ← hL]; have := World.alloc_heap_new (w.alloc (.deferred (some []))) (.loop (rc .ready none)); rwa [World.size_alloc] at this
  have hd1 : W1.heap[D]? = some (.deferred (some [])) := by
    rw [← hW1, ← hD]; exact (Below.heap_alloc _ _ _ (by simp)).trans (World.alloc_heap_new w _)
  have hi1 : I 0 W1 := by rw [← hW1]; exact hI.alloc _ (hI.alloc _ h0)
  have hb1 : Below w0.heap.size w0 W1 := by rw [← hW1]; exact hb0.trans ((((Below.refl _ w).alloc (Nat.le_refl _) _).alloc (by simp) _).mono hb0.size)
  have hlD : L = D + 1 := by omega
  refine ⟨L, [{ target := .collected D, args := #[] }], W1, { target := .fn (.func gf) lb, args := #[.func (.yield L) #[] #[]] }, W1, gf,
    #[.func (.yield L) #[] #[]] ++ lb, W1, ?_, ?_, ?_, ?_, fun _ => by omega, ?_⟩
  · rw [← hW1, hrc, ← hL, ← hD]; exact run_enterLoop_outer _ _ _ _ _
  · simp only [resolve, hg]
    simp [go_sem]
  · exact fun _ _ => trivial
  · simp [invoke, go_sem, eg]
  -- the record's two blocks, beside what the caller holds
  have recs : ∀ (st : LoopState) (pe : Option Code), OwnFrom W1.heap.size (fun (_ : Nat) (W : World) => (L < W.heap.size ∧ W.heap[L]? = some (.loop (rc st pe))) ∧ D < W.heap.size ∧ W.heap[D]? = some (.deferred (some []))) := fun st pe =>
    OwnFrom.and (ownFrom_block _ (by omega)) (ownFrom_block _ (by omega))
  have lt : ∀ {W : World} {b : Nat} {o : Obj}, W.heap[b]? = some o → b < W.heap.size := fun h => (Array.getElem?_eq_some_iff.1 h).1
  refine (hseq (n - 1) L
    (fun k W => I k W ∧ (L < W.heap.size ∧ W.heap[L]? = some (.loop (rc .ready none))) ∧ D < W.heap.size ∧ W.heap[D]? = some (.deferred (some [])))
    (fun k W => I' k W ∧ (L < W.heap.size ∧ W.heap[L]? = some (.loop (rc .ready none))) ∧ D < W.heap.size ∧ W.heap[D]? = some (.deferred (some [])))
    (fun k W => ∃ c, Ix c k W ∧ (L < W.heap.size ∧ W.heap[L]? = some (.loop (rc .done (some c)))) ∧ D < W.heap.size ∧ W.heap[D]? = some (.deferred (some [])))
    W1 (by omega) hb1 (by omega) (OwnFrom.and (ownFrom_mono hI (by omega)) (recs _ _)) (OwnFrom.and (ownFrom_mono hI' (by omega)) (recs _ _))
    (fun k A B row hs hg' hr => by obtain ⟨c, hc, hr2⟩ := hs; exact ⟨c, ownFrom_mono (hIx c) (by omega) k A B row hc hg' hr, recs _ _ k A B row hr2 hg' hr⟩)
    (fun k A hk hs => hNd k A hk hs.1) ?_ (fun hf W' hs => hfin hf W' hs.1) ?_ ⟨hi1, ⟨lt hl1, hl1⟩, lt hd1, hd1⟩).mono ?_
  · rintro k A B hk ⟨hi, ⟨_, hl⟩, _, hd⟩ ht
    have hl' := (hT _ _ _ _ ht).2 L _ (by omega) hl rfl
    have hd' := (hT _ _ _ _ ht).2 D _ (by omega) hd rfl
    exact ⟨hIT _ k A B (by omega) hk hi ht, ⟨lt hl', hl'⟩, lt hd', hd'⟩
  · -- one round
    rintro k W v ⟨hi, ⟨_, hl⟩, _, hd⟩ hlen hm hv
    have hlt : L < W.heap.size := lt hl
    have hy := run_yield (P := P) (args := v) hl (by rw [hrc]; exact hps k W v hv)
    rw [hrc] at hy
    obtain ⟨a₁, hassign, hbody⟩ := hround L k v W hv
    refine ⟨fn, _, assign, body, hy, roundIn_of_wpIn hfn (hassign W _ ⟨_, run_beginRound hl (by rw [hrc]), ?_⟩)⟩
    have hl2 : (W.putObj L (.loop { rc .ready none with state := .busy })).heap[L]? = some (.loop { rc .ready none with state := .busy }) := World.putObj_heap_same hlt
    have hd2 : (W.putObj L (.loop { rc .ready none with state := .busy })).heap[D]? = some (.deferred (some [])) := (World.putObj_heap_other (by omega)).trans hd
    have hw2 : Kp W (W.putObj L (.loop { rc .ready none with state := .busy })) := hKb _ _ _ _ (by omega) hl rfl rfl
    have hk2 : Keeps W1.heap.size W1.heap.size m W (W.putObj L (.loop { rc .ready none with state := .busy })) := Keeps.putObj (by omega) (by omega)
    refine wpIn_mono (hbody _ (hI'.putObj _ hi (by omega) hl rfl) (hxs k W v _ _ _ hv hl rfl rfl) hlen (by simp; omega)) ?_
    have fin : ∀ (jump : Option Code) (W3 : World), Keeps w.heap.size (w.heap.size + 2) m (W.putObj L (.loop { rc .ready none with state := .busy })) W3 →
        (Instr.endRound L jump).run P W3 = .ok (.bool jump.isNone) (W3.putObj L (.loop (rc (if jump.isNone then .ready else .done) jump))) ∧
        W3.heap[L]? = some (.loop { rc .ready none with state := .busy }) ∧
        (W3.putObj L (.loop (rc (if jump.isNone then .ready else .done) jump))).heap[L]? = some (.loop (rc (if jump.isNone then .ready else .done) jump)) ∧
        (W3.putObj L (.loop (rc (if jump.isNone then .ready else .done) jump))).heap[D]? = some (.deferred (some [])) ∧
        Keeps W1.heap.size W1.heap.size m W (W3.putObj L (.loop (rc (if jump.isNone then .ready else .done) jump))) := fun jump W3 hk3 => by
      have hl3 := hk3.others L _ (by omega) hl2 rfl
      have hd3 := hk3.others D _ (by omega) hd2 rfl
      have := run_endRound (P := P) jump hl3
      rw [hrc] at this ⊢
      exact ⟨this, by rw [hrc] at hl3; exact hl3, World.putObj_heap_same (lt hl3), (World.putObj_heap_other (by omega)).trans hd3, by rw [hrc] at hk2 hk3; exact hk2.trans ((hk3.mono (by omega) (by omega) (by omega)).trans (Keeps.putObj (by omega) (by omega)))⟩
    rintro e a3 W3 hp
    cases e with
    | normal =>
      obtain ⟨hk3, hkp3, hi3⟩ := hp
      obtain ⟨hr, hl3, hl4, hd4, hk4⟩ := fin none W3 hk3
      exact ⟨_, _, hr, .inl ⟨rfl, ⟨hI.putObj _ hi3 (by omega) hl3 rfl, ⟨lt hl4, hl4⟩, lt hd4, hd4⟩, hKt (hKt hw2 hkp3) (hKb _ _ _ _ (by omega) hl3 rfl rfl), hk4⟩⟩
    | ret =>
      obtain ⟨hk3, hi3⟩ := hp
      obtain ⟨hr, hl3, hl4, hd4, hk4⟩ := fin (some .ret) W3 hk3
      exact ⟨_, _, hr, .inr ⟨rfl, ⟨.ret, (hIx _).putObj _ hi3 (by omega) hl3 rfl, ⟨lt hl4, hl4⟩, lt hd4, hd4⟩, hk4⟩⟩
    | exit id =>
      obtain ⟨hk3, hi3⟩ := hp
      obtain ⟨hr, hl3, hl4, hd4, hk4⟩ := fin (some (.exit id)) W3 hk3
      exact ⟨_, _, hr, .inr ⟨rfl, ⟨.exit id, (hIx _).putObj _ hi3 (by omega) hl3 rfl, ⟨lt hl4, hl4⟩, lt hd4, hd4⟩, hk4⟩⟩
    | goto t =>
      obtain ⟨hk3, hi3⟩ := hp
      obtain ⟨hr, hl3, hl4, hd4, hk4⟩ := fin (some (.goto t)) W3 hk3
      exact ⟨_, _, hr, .inr ⟨rfl, ⟨.goto t, (hIx _).putObj _ hi3 (by omega) hl3 rfl, ⟨lt hl4, hl4⟩, lt hd4, hd4⟩, hk4⟩⟩
    | panic ch => exact hp.elim
    | outgrown => exact hp.elim
  · -- behind the iterator
    rintro e W2 ⟨⟨v, rfl⟩, (⟨hi, ⟨_, hl⟩, _, hd⟩ | ⟨k, hk0, hk, c, hi, ⟨_, hl⟩, _, hd⟩)⟩
    · exact ⟨none, _, by have := run_endLoop (P := P) hl (by rw [hrc]; simp); rw [hrc] at this; exact this, hdone _ _ (by omega) (hI'.putObj _ hi (by omega) hl rfl) ((World.putObj_heap_other (by omega)).trans hd)⟩
    · exact ⟨some c, _, by have := run_endLoop (P := P) hl (by rw [hrc]; simp); rw [hrc] at this; exact this, hstop _ c k _ (by omega) hk0 hk ((hIx c).putObj _ hi (by omega) hl rfl) ((World.putObj_heap_other (by omega)).trans hd)⟩

end Go.Proofs.YtendnkpiidhogaaGreat

namespace Go.Proofs.YtendnkpiidhogaaGreat.At
open Go.RowKit Go.Shelf

attribute [local go_sem] Oper.semAt_some

theorem RI.fresh {P : Nat → Prop} (w : World) (cs : Array Value) (t : TypeId) (l : List Int) (n : Nat) (h : cs.toList = its l) (hn : l.length = n) (hs : n ≤ 1000) (hP : P w.heap.size) : RI (w.alloc (.cells cs t)) P (some ⟨w.heap.size, 0, none⟩) n l := by
 have h1 := congrArg List.length h
 simp [its] at h1
 have := RS.fresh (w := w) (P := P) cs t 1 n (by omega) (by unfold maxLen; omega) hP
 rw [h] at this
 subst hn
 exact ⟨this, by omega⟩
theorem grown_alloc (w : World) (o : Obj) : w.grownBy (w.alloc o) none := ⟨rfl, rfl, rfl, by simp, fun b hb _ => Below.heap_alloc w o b hb⟩

set_option maxHeartbeats 1000000 in
theorem own_any (c k : Int) (w : World) (h : c = 4 ∨ c = 2 ∨ c = 3) :
 Calls Tryz.prog 77 #[.int .i64 c, .int .i64 k] w fun e w' => ∃ A n cc, e = .returned (.slice A n cc) ∧ n = (ownRow c k).length ∧ RI w' (fun b => b < w'.heap.size) A cc (ownRow c k) ∧ w.grownBy w' none := by
 rcases h with rfl | rfl | rfl
 · go_enter Tryz.func77, Tryz.ntmps77
   go_wp2
   go_ret
   exact ⟨_, _, _, rfl, rfl, RI.fresh w _ _ _ 9 rfl rfl (by omega) (by simp), grown_alloc w _⟩
 all_goals
  by_cases hk : k = 0
  · subst hk
    go_enter Tryz.func77, Tryz.ntmps77
    go_wp2
    go_ret
    exact ⟨_, _, _, rfl, rfl, RI.fresh w _ _ _ _ rfl rfl (by simp []) (by simp), grown_alloc w _⟩
  · have hk' : (k == 0) = false := by simpa using hk
    have hr2 := Lib.hid (show ownRow 2 k = [260, 266, 262, 384, 385] by simp [ownRow, hk])
    have hr3 := Lib.hid (show ownRow 3 k = [261, 264, 263, 268, 384, 17] by simp [ownRow, hk])
    clear hk
    go_enter Tryz.func77, Tryz.ntmps77
    go_wp2
    go_ret
    first
    | (rw [hr2.out]; exact ⟨_, _, _, rfl, rfl, RI.fresh w _ _ _ _ rfl rfl (by simp) (by simp), grown_alloc w _⟩)
    | (rw [hr3.out]; exact ⟨_, _, _, rfl, rfl, RI.fresh w _ _ _ _ rfl rfl (by simp) (by simp), grown_alloc w _⟩)

set_option maxHeartbeats 1000000 in
theorem has_of (c k : Int) (w : World) :
 Calls Tryz.prog 36 #[.int .i64 c, .int .i64 k] w fun e w' => e = .returned (.func (.func 76) #[] #[.pointer (some ⟨w.heap.size, 0, none⟩), .pointer (some ⟨w.heap.size + 1, 0, none⟩)]) ∧ w' = (w.alloc (.cells #[.int .i64 c] 3)).alloc (.cells #[.int .i64 k] 3) := by
 go_enter Tryz.func36, Tryz.ntmps36
 go_wp2
 go_ret
 exact ⟨rfl, rfl⟩
end Go.Proofs.YtendnkpiidhogaaGreat.At

namespace Go.Proofs.YtendnkpiidhogaaGreat.At
open Go.RowKit Go.Shelf

attribute [local go_sem] Oper.semAt_some

def rowIs (c k : Int) (j : Nat) (W : World) (v : Array Value) : Prop :=
 ∃ A n cc, v = #[.slice A n cc] ∧ n = ((rowsOf c k).getD j []).length ∧ RI W (fun b => b < W.heap.size) A cc ((rowsOf c k).getD j [])

set_option maxRecDepth 100000 in
set_option maxHeartbeats 1000000 in
theorem has_seq (Bs n₀ : Nat) (c k : Int) (w : World) (hBs : Bs + 1 < n₀) (hn₀ : n₀ ≤ w.heap.size) (h1 : w.cell? ⟨Bs, 0, none⟩ = some (.int .i64 c)) (h2 : w.cell? ⟨Bs + 1, 0, none⟩ = some (.int .i64 k)) :
 SeqRel Tryz.prog 76 #[.pointer (some ⟨Bs, 0, none⟩), .pointer (some ⟨Bs + 1, 0, none⟩)] (rowIs c k) NoNeed TPlain (Below n₀) 0 (rowsOf c k).length true w := by
 intro n l' J J' Jx W hn hW hl hO hO' hOx _ hT _ hY h0
 have c1 := (hW.cell (p := ⟨Bs, 0, none⟩) (by show Bs < _; omega)).trans h1
 have c2 := (hW.cell (p := ⟨Bs + 1, 0, none⟩) (by show Bs + 1 < _; omega)).trans h2
 have HT := Lib.hid hT
 have HY := Lib.hid hY
 clear hT hY h1 h2
 have Ht := Lib.hid (callsIn_wide (n := n - 1) |>.2 (together_any c k W))
 by_cases hw : together c k = false
 · rw [hw] at Ht
   have hr : rowsOf c k = [] := by simp [rowsOf, hw]
   rw [hr] at HT HY ⊢
   have hj' := HT.out 0 W W (by simp) h0 (World.grownBy.refl W none)
   refine callsIn_of_wp Tryz.func76 rfl trivial ?_ rfl
   simp only [Tryz.ntmps76, List.size_toArray, List.length_cons, List.length_nil, Nat.reduceAdd, Nat.reduceSub, Array.replicate_succ, Array.replicate_zero, List.push_toArray, List.append_toArray, List.nil_append, List.cons_append]
   gi_wp2
   refine ⟨trivial, Ht.out.mono ?_⟩
   rintro e W3 ⟨rfl, rfl⟩
   gi_wp2
   refine ⟨fun _ _ => trivial, ?_⟩
   gi_wp2
   refine bodyPost_ret (results_none rfl _ _ _) rfl ?_
   exact ⟨⟨_, rfl⟩, .inl hj'⟩
 · have hc : c = 0 ∨ c = 4 ∨ c = 2 ∨ c = 3 := by unfold together at hw; split at hw <;> (try split at hw) <;> (try split at hw) <;> simp_all
   rw [Bool.not_eq_false] at hw
   rw [hw] at Ht
   have hr0 : (rowsOf c k).getD 0 [] = [0, 1, 2, 3, 368, 369] := by rcases hc with rfl | rfl | rfl | rfl <;> simp [rowsOf, hw]
   have hr1 : 0 < (rowsOf c k).length := by rcases hc with rfl | rfl | rfl | rfl <;> simp [rowsOf, hw]
   obtain ⟨f1, tm1, as1, bo1, y1, R1⟩ := HY.out 0 (W.alloc (.cells #[.int .i64 0, .int .i64 1, .int .i64 2, .int .i64 3, .int .i64 368, .int .i64 369] 3)) #[.slice (some ⟨W.heap.size, 0, none⟩) 6 6]
    (HT.out 0 W _ (by omega) h0 (grown_alloc W _)) hr1 (by simp) ⟨_, _, _, rfl, by rw [hr0]; rfl, by rw [hr0]; exact RI.fresh W _ _ _ 6 rfl rfl (by omega) (by simp)⟩
   have HR1 := Lib.hid R1
   clear R1 hr0
   refine callsIn_of_wp Tryz.func76 rfl trivial ?_ rfl
   simp only [Tryz.ntmps76, List.size_toArray, List.length_cons, List.length_nil, Nat.reduceAdd, Nat.reduceSub, Array.replicate_succ, Array.replicate_zero, List.push_toArray, List.append_toArray, List.nil_append, List.cons_append]
   gi_wp2
   refine ⟨trivial, Ht.out.mono ?_⟩
   rintro e W3 ⟨rfl, rfl⟩
   gi_wp2
   refine HR1.out.mono ?_
   rintro e X1 (⟨rfl, hJ1, hk1, hz1⟩ | ⟨rfl, hJx, _⟩)
   rotate_left
   · gi_wp2
     refine bodyPost_ret (results_none rfl _ _ _) rfl ?_
     exact ⟨⟨_, rfl⟩, .inr ⟨1, by omega, by omega, hJx⟩⟩
   have z1 : W.heap.size ≤ X1.heap.size := by have := hz1.size; simp at this; omega
   have hB1 : Below n₀ W X1 := (((Below.refl _ W).alloc (by have := hW.size; omega) _)).trans hk1
   have d1 := (hB1.cell (p := ⟨Bs, 0, none⟩) (by show Bs < _; omega)).trans c1
   have d2 := (hB1.cell (p := ⟨Bs + 1, 0, none⟩) (by show Bs + 1 < _; omega)).trans c2
   clear y1 HR1 c1 c2 hk1 hz1 Ht
   rcases hc with rfl | hc
   · have hN : (rowsOf 0 k).length = 2 := by simp [rowsOf, hw]
     have hr : (rowsOf 0 k).getD 1 [] = [17] := by simp [rowsOf, hw]
     obtain ⟨f2, tm2, as2, bo2, y2, R2⟩ := HY.out 1 (X1.alloc (.cells #[.int .i64 17] 3)) #[.slice (some ⟨X1.heap.size, 0, none⟩) 1 1]
      (HT.out 1 X1 _ (by omega) hJ1 (grown_alloc X1 _)) (by omega) (by simp; omega) ⟨_, _, _, rfl, by rw [hr]; rfl, by rw [hr]; exact RI.fresh X1 _ _ _ 1 rfl rfl (by omega) (by simp)⟩
     have HR2 := Lib.hid R2
     have HN := Lib.hid hN
     clear R2 hr hN hr1
     gi_wp2
     refine HR2.out.mono ?_
     rintro e X2 (⟨rfl, hJ2, _, _⟩ | ⟨rfl, hJx, _⟩)
     · have hj := HT.out 2 X2 X2 (by have := HN.out; omega) hJ2 (World.grownBy.refl X2 none)
       gi_wp2
       refine bodyPost_ret (results_none rfl _ _ _) rfl ?_
       exact ⟨⟨_, rfl⟩, .inl (by rw [HN.out]; exact hj)⟩
     · gi_wp2
       refine bodyPost_ret (results_none rfl _ _ _) rfl ?_
       exact ⟨⟨_, rfl⟩, .inr ⟨2, by omega, by rw [HN.out]; omega, hJx⟩⟩
   have hc0 : (c == 0) = false := by rcases hc with rfl | rfl | rfl <;> rfl
   have hN : 3 ≤ (rowsOf c k).length := by rcases hc with rfl | rfl | rfl <;> simp [rowsOf, hw]
   have hr : (rowsOf c k).getD 1 [] = [256, 258, 355] := by rcases hc with rfl | rfl | rfl <;> simp [rowsOf, hw]
   have hr2 : (rowsOf c k).getD 2 [] = ownRow c k := by rcases hc with rfl | rfl | rfl <;> simp [rowsOf, hw]
   obtain ⟨f2, tm2, as2, bo2, y2, R2⟩ := HY.out 1 (X1.alloc (.cells #[.int .i64 256, .int .i64 258, .int .i64 355] 3)) #[.slice (some ⟨X1.heap.size, 0, none⟩) 3 3]
    (HT.out 1 X1 _ (by omega) hJ1 (grown_alloc X1 _)) (by omega) (by simp; omega) ⟨_, _, _, rfl, by rw [hr]; rfl, by rw [hr]; exact RI.fresh X1 _ _ _ 3 rfl rfl (by omega) (by simp)⟩
   have HR2 := Lib.hid R2
   have HN := Lib.hid hN
   have Hr2 := Lib.hid hr2
   have Hc := Lib.hid hc
   have Hw := Lib.hid hw
   clear R2 hr hr2 hN hr1 hc hw
   gi_wp2
   refine HR2.out.mono ?_
   rintro e X2 (⟨rfl, hJ2, hk2, hz2⟩ | ⟨rfl, hJx, _⟩)
   rotate_left
   · gi_wp2
     refine ⟨trivial, ?_⟩
     gi_wp2
     refine ⟨fun _ _ => trivial, ?_⟩
     gi_wp2
     refine bodyPost_ret (results_none rfl _ _ _) rfl ?_
     exact ⟨⟨_, rfl⟩, .inr ⟨2, by omega, by have := HN.out; omega, hJx⟩⟩
   have z2 : W.heap.size ≤ X2.heap.size := by have := hz2.size; simp at this; omega
   have hB2 : Below n₀ W X2 := (hB1.alloc (by have := hW.size; omega) _).trans hk2
   have hB2' : Below n₀ X1 X2 := ((Below.refl _ X1).alloc (by have := hW.size; omega) _).trans hk2
   have e1 := (hB2'.cell (p := ⟨Bs, 0, none⟩) (by show Bs < _; omega)).trans d1
   have e2 := (hB2'.cell (p := ⟨Bs + 1, 0, none⟩) (by show Bs + 1 < _; omega)).trans d2
   have Ho := Lib.hid (callsIn_wide (n := n - 1) |>.2 (own_any c k X2 Hc.out))
   clear y2 HR2 d1 d2 hk2 hz2 hB2' hB1
   gi_wp2
   refine ⟨trivial, Ho.out.mono ?_⟩
   rintro e X3 ⟨A, m, cc, rfl, hm, hRI, hg⟩
   have hB3 : Below X2.heap.size X2 X3 := ⟨hg.os, hg.tape, hg.output, hg.size, fun b hb => hg.block b hb (by simp)⟩
   have g1 := (hB3.cell (p := ⟨Bs, 0, none⟩) (by show Bs < _; have := hW.size; omega)).trans e1
   obtain ⟨f3, tm3, as3, bo3, y3, R3⟩ := HY.out 2 X3 #[.slice A m cc] (HT.out 2 X2 X3 (by have := HN.out; omega) hJ2 hg) HN.out (by have := hB3.size; omega) ⟨_, _, _, rfl, by rw [Hr2.out]; exact hm, by rw [Hr2.out]; exact hRI⟩
   have HR3 := Lib.hid R3
   clear R3 e1 e2 hm
   gi_wp2
   refine HR3.out.mono ?_
   rintro e X4 (⟨rfl, hJ3, hk3, hz3⟩ | ⟨rfl, hJx, _⟩)
   rotate_left
   · gi_wp2
     refine bodyPost_ret (results_none rfl _ _ _) rfl ?_
     exact ⟨⟨_, rfl⟩, .inr ⟨3, by omega, by have := HN.out; omega, hJx⟩⟩
   have g2 := (hk3.cell (p := ⟨Bs, 0, none⟩) (by show Bs < _; omega)).trans g1
   have z4 : W.heap.size ≤ X4.heap.size := by have := hz3.size; have := hB3.size; omega
   clear y3 HR3 g1 hRI
   by_cases h2 : c = 2
   · subst h2
     have HN' := Lib.hid (show (rowsOf 2 k).length = 3 by simp [rowsOf, Hw.out])
     have hj := HT.out 3 X4 X4 (by have := HN'.out; omega) hJ3 (World.grownBy.refl X4 none)
     gi_wp2
     refine bodyPost_ret (results_none rfl _ _ _) rfl ?_
     exact ⟨⟨_, rfl⟩, .inl (by rw [HN'.out]; exact hj)⟩
   · have hc2 : (c == 2) = false := by simpa using h2
     have HN' := Lib.hid (show (rowsOf c k).length = 4 by rcases Hc.out with rfl | rfl | rfl <;> simp_all [rowsOf, Hw.out])
     have hr : (rowsOf c k).getD 3 [] = [259, 354, 357, 356] := by rcases Hc.out with rfl | rfl | rfl <;> simp_all [rowsOf, Hw.out]
     obtain ⟨f4, tm4, as4, bo4, y4, R4⟩ := HY.out 3 (X4.alloc (.cells #[.int .i64 259, .int .i64 354, .int .i64 357, .int .i64 356] 3)) #[.slice (some ⟨X4.heap.size, 0, none⟩) 4 4]
      (HT.out 3 X4 _ (by rw [HN'.out]; omega) hJ3 (grown_alloc X4 _)) (by rw [HN'.out]; omega) (by simp; omega) ⟨_, _, _, rfl, by rw [hr]; rfl, by rw [hr]; exact RI.fresh X4 _ _ _ 4 rfl rfl (by omega) (by simp)⟩
     have HR4 := Lib.hid R4
     clear R4 hr h2
     gi_wp2
     refine HR4.out.mono ?_
     rintro e X5 (⟨rfl, hJ4, _, _⟩ | ⟨rfl, hJx, _⟩)
     · have hj := HT.out 4 X5 X5 (by have := HN'.out; omega) hJ4 (World.grownBy.refl X5 none)
       gi_wp2
       go_end0
       exact ⟨⟨_, rfl⟩, .inl (by rw [HN'.out]; exact hj)⟩
     · gi_wp2
       go_end0
       exact ⟨⟨_, rfl⟩, .inr ⟨4, by omega, by rw [HN'.out]; omega, hJx⟩⟩
end Go.Proofs.YtendnkpiidhogaaGreat.At

namespace Go.Proofs.YtendnkpiidhogaaGreat.At
open Go.RowKit Go.Shelf

theorem of_b {p : Prop} [Decidable p] {b : Bool} (h : Hid (decide p = b)) : p ↔ b = true := by rw [← h.out]; simp

end Go.Proofs.YtendnkpiidhogaaGreat.At

namespace Go.Proofs.YtendnkpiidhogaaGreat.At
open Go.RowKit Go.Shelf

attribute [local go_sem] Oper.semAt_some

theorem cell_putObj {W : World} {l : Nat} {o o' : Obj} (h : W.heap[l]? = some o) (ho : o.isCells = false) (ho' : o'.isCells = false) (p : Addr) : (W.putObj l o').cell? p = W.cell? p := by
 by_cases hp : p.block = l
 · have h1 : (W.putObj l o').heap[p.block]? = some o' := by rw [hp]; exact World.putObj_heap_same (Array.getElem?_eq_some_iff.1 h).1
   have h2 : W.heap[p.block]? = some o := by rw [hp]; exact h
   cases o <;> cases o' <;> simp_all [World.cell?, Obj.isCells]
 · exact World.cell?_of_block (World.putObj_heap_other hp)
theorem own_box {β : Type} (g : Nat) (cs : Array Value) (t : TypeId) : Own (fun (_ : β) W => W.heap[g]? = some (.cells cs t (0, 0))) := fun _ _ _ _ hs hg hr => (grownBy_keeps_cells hg hr hs rfl).trans hs
theorem rowIs_putObj {c k : Int} (j : Nat) (W : World) (v : Array Value) (l : Nat) (o o' : Obj) (hv : rowIs c k j W v) (h : W.heap[l]? = some o) (ho : o.isCells = false) (ho' : o'.isCells = false) : rowIs c k j (W.putObj l o') v := by
 obtain ⟨A, n, cc, rfl, hn, hr⟩ := hv
 exact ⟨A, n, cc, rfl, hn, (hr.keep fun p _ => cell_putObj h ho ho' p).mono fun b hb => by simpa using hb⟩
theorem bset {w : World} {g : Nat} {t : TypeId} {cs : Array Value} (h : w.heap[g]? = some (.cells cs t (0, 0))) (i : Nat) (u : Value) : (w.setCell ⟨g, i, none⟩ u).heap[g]? = some (.cells (cs.setIfInBounds i u) t (0, 0)) := by
 simp [World.setCell, Array.getElem?_modify, h]
def noRow (c k t : Int) (j : Nat) : Prop := ∀ i, i < j → t ∉ (rowsOf c k).getD i []
theorem noRow_succ {c k t : Int} {j : Nat} (h : noRow c k t j) (hn : t ∉ (rowsOf c k).getD j []) : noRow c k t (j + 1) := fun i hi => by
 rcases Nat.lt_or_ge i j with h1 | h1
 · exact h i h1
 · obtain rfl : i = j := by omega
   exact hn
theorem noRow_all {c k t : Int} (h : noRow c k t (rowsOf c k).length) : hasOf c k t = false := by
 unfold hasOf
 rw [List.any_eq_false]
 intro r hr
 obtain ⟨i, hi, he⟩ := List.getElem_of_mem hr
 have := h i hi
 rw [List.getD_eq_getElem?_getD, List.getElem?_eq_getElem hi] at this
 simp at this ⊢
 rwa [← he]
theorem row_hit {c k t : Int} {j : Nat} (hj : j < (rowsOf c k).length) (h : t ∈ (rowsOf c k).getD j []) : hasOf c k t = true := by
 rw [List.getD_eq_getElem?_getD, List.getElem?_eq_getElem hj] at h
 unfold hasOf
 rw [List.any_eq_true]
 exact ⟨_, List.getElem_mem hj, by simpa using h⟩

theorem contains_b (P : Nat → Prop) (A : Option Addr) (c n : Nat) (l : List Int) (t : Int) (b : Bool) (w : World) (h : RI w P A c l) (hn : n = l.length) (hb : decide (t ∈ l) = b) :
 Calls Tryz.prog 37 #[.slice A n c, .int .i64 t] w fun e w' => e = .returned (.bool b) ∧ ∃ d, w' = w.drewN d := by
 subst hn hb; exact contains_any P A c l t w h

set_option maxRecDepth 100000 in
set_option maxHeartbeats 4000000 in
theorem has_any (c k t : Int) (w : World) : Calls Tryz.prog 10 #[.int .i64 c, .int .i64 k, .int .i64 t] w fun e w' => e = .returned (.bool (hasOf c k t)) ∧ Below w.heap.size w w' := by
 refine (callsIn_wide (n := 6)).1 ?_
 refine callsIn_of_wp_marks Tryz.func10 rfl trivial ?_ rfl
 simp only [Tryz.ntmps10, List.size_toArray, List.length_cons, List.length_nil, Nat.reduceAdd, Nat.reduceSub, Array.replicate_succ, Array.replicate_zero, List.push_toArray, List.append_toArray, List.nil_append, List.cons_append]
 gi_wp2
 obtain ⟨s, hs⟩ : ∃ s, w.heap.size = s := ⟨_, rfl⟩
 have hw0 : Below s w ((w.alloc (.cells #[.int .i64 t] 3)).alloc (.cells #[.bool false] 4)) := ((Below.refl _ w).alloc (by omega) _).alloc (by simp; omega) _
 have hm0 : ((w.alloc (.cells #[.int .i64 t] 3)).alloc (.cells #[.bool false] 4)).heap[s]? = some (.cells #[.int .i64 t] 3 (0, 0)) := by
  rw [← hs]; exact (Below.heap_alloc _ _ _ (by simp)).trans (heap_alloc_new w _)
 have hr0 : ((w.alloc (.cells #[.int .i64 t] 3)).alloc (.cells #[.bool false] 4)).heap[s + 1]? = some (.cells #[.bool false] 4 (0, 0)) := by
  have := heap_alloc_new (w.alloc (.cells #[.int .i64 t] 3)) (.cells #[.bool false] 4)
  rw [← hs]; simpa using this
 have hz0 : ((w.alloc (.cells #[.int .i64 t] 3)).alloc (.cells #[.bool false] 4)).heap.size = s + 2 := by simp; omega
 rw [hs]
 generalize ((w.alloc (.cells #[.int .i64 t] 3)).alloc (.cells #[.bool false] 4)) = W0 at *
 refine ⟨trivial, (callsIn_wide.2 (has_of c k W0)).mono ?_⟩
 rintro e W1 ⟨rfl, hW1⟩
 have hw1 : Below s w W1 := by rw [hW1]; exact (hw0.alloc (by omega) _).alloc (by simp; omega) _
 have hm1 : W1.heap[s]? = some (.cells #[.int .i64 t] 3 (0, 0)) := by
  rw [hW1]; exact (Below.heap_alloc _ _ _ (by simp; omega)).trans ((Below.heap_alloc _ _ _ (by omega)).trans hm0)
 have hr1 : W1.heap[s + 1]? = some (.cells #[.bool false] 4 (0, 0)) := by
  rw [hW1]; exact (Below.heap_alloc _ _ _ (by simp; omega)).trans ((Below.heap_alloc _ _ _ (by omega)).trans hr0)
 have hc1 : W1.heap[s + 2]? = some (.cells #[.int .i64 c] 3 (0, 0)) := by
  rw [hW1]; exact (Below.heap_alloc _ _ _ (by simp; omega)).trans (by have := heap_alloc_new W0 (.cells #[.int .i64 c] 3); rwa [hz0] at this)
 have hk1 : W1.heap[s + 2 + 1]? = some (.cells #[.int .i64 k] 3 (0, 0)) := by
  rw [hW1]; have := heap_alloc_new (W0.alloc (.cells #[.int .i64 c] 3)) (.cells #[.int .i64 k] 3); rwa [World.size_alloc, hz0] at this
 have hz1 : W1.heap.size = s + 4 := by rw [hW1]; simp; omega
 rw [hz0]
 clear hW1 hw0 hm0 hr0 hz0
 have c1 := blk_cell hc1 0
 have c2 := blk_cell hk1 0
 simp only [List.getElem?_toArray, List.getElem?_cons_zero] at c1 c2
 have hseq := has_seq (s + 2) (s + 4) c k W1 (by omega) (by omega) c1 c2
 have Hseq := Lib.hid hseq
 have Hs := Lib.hid hs
 have Hz1 := Lib.hid hz1
 clear hseq hs hz1 c1 c2 hc1 hk1
 gi_wp2
 refine' wpIn_iterR (by omega) (gf := 76) (lb := #[.pointer (some ⟨s + 2, 0, none⟩), .pointer (some ⟨s + 2 + 1, 0, none⟩)]) rfl (enters_of Tryz.func76 (by kernel_rfl) rfl)
  Hseq.out (fun h1 h2 => Below.trans h1 h2) (fun W l o o' hl h h1 h2 => belowK_b (n₀ := s + 4) (w := W1) (by rw [Hz1.out]; omega) W l o o' hl h h1 h2) tplain_keeps (Below.refl _ _) (fun _ _ _ h => by obtain ⟨A, n, cc, rfl, _⟩ := h; rfl) rowIs_putObj
  (fun j W => (W.heap[s]? = some (.cells #[.int .i64 t] 3 (0, 0)) ∧ W.heap[s + 1]? = some (.cells #[.bool false] 4 (0, 0)) ∧ noRow c k t j) ∧ Below s w W)
  (fun j W => (W.heap[s]? = some (.cells #[.int .i64 t] 3 (0, 0)) ∧ W.heap[s + 1]? = some (.cells #[.bool false] 4 (0, 0)) ∧ noRow c k t j) ∧ Below s w W)
  (fun cd _ W => (cd = .ret ∧ W.heap[s + 1]? = some (.cells #[.bool true] 4 (0, 0)) ∧ hasOf c k t = true) ∧ Below s w W)
  ?hI ?hI ?hIx (fun _ _ _ _ => trivial) (fun B j A C _ _ hi ht => ?hIT) (fun h => by cases h) ⟨⟨hm1, hr1, fun i hi => absurd hi (by omega)⟩, hw1⟩ ?round ?done ?stop
 case hI => exact OwnFrom.and (Own.from (fun j A B row hs hg hr => ⟨own_box _ _ _ j A B row hs.1 hg hr, own_box _ _ _ j A B row hs.2.1 hg hr, hs.2.2⟩) _) (ownFrom_below (Nat.le_of_eq Hs.out.symm) (by rw [Hz1.out]; omega))
 case hIx => exact fun cd => OwnFrom.and (Own.from (fun j A B row hs hg hr => ⟨hs.1, own_box _ _ _ j A B row hs.2.1 hg hr, hs.2.2⟩) _) (ownFrom_below (Nat.le_of_eq Hs.out.symm) (by rw [Hz1.out]; omega))
 case hIT =>
  refine ownFrom_plain (I := fun j W => (W.heap[s]? = some (.cells #[.int .i64 t] 3 (0, 0)) ∧ W.heap[s + 1]? = some (.cells #[.bool false] 4 (0, 0)) ∧ noRow c k t j) ∧ Below s w W) (B := W1.heap.size) ?_ hi ht
  exact OwnFrom.and (Own.from (fun j A B row hs hg hr => ⟨own_box _ _ _ j A B row hs.1 hg hr, own_box _ _ _ j A B row hs.2.1 hg hr, hs.2.2⟩) _) (ownFrom_below (Nat.le_of_eq Hs.out.symm) (by rw [Hz1.out]; omega))
 case round =>
  rintro l j v W0 ⟨A, n, cc, rfl, -, -⟩
  refine' Exists.intro _ (And.intro ?asg ?bd)
  case asg =>
   intro W K hK
   gi_wp2
   exact hK
  rintro W ⟨⟨hm, hr, hno⟩, hB⟩ ⟨A', n', cc', e, hn, hRI⟩ hlt hz
  injection e with e
  injection e with e _
  injection e with e1 e2 e3
  subst e1 e2 e3
  have m0 := blk_cell hm 0
  have r0 := blk_cell hr 0
  have r1 := blk_free hr 0
  simp only [List.getElem?_toArray, List.getElem?_cons_zero] at m0 r0
  obtain ⟨b, hb⟩ : ∃ b, decide (t ∈ (rowsOf c k).getD j []) = b := ⟨_, rfl⟩
  have Hc := Lib.hid (contains_b _ A cc n _ t b W hRI hn hb)
  have Hb := Lib.hid hb
  have Hlt := Lib.hid hlt
  have HR := Lib.hid hr
  have HM := Lib.hid hm
  clear hb hlt hRI hn hm hr
  gi_wp2
  refine ⟨trivial, (callsIn_wide.2 Hc.out).mono ?_⟩
  rintro e w' ⟨rfl, d, rfl⟩
  cases b
  · gi_wp2
    refine ⟨Keeps.drewN _ _ _ W d, below_drewN (Below.refl _ W) d, ⟨HM.out, HR.out, noRow_succ hno (by simpa using Hb.out)⟩, below_drewN hB d⟩
  · gi_wp2
    refine ⟨(Keeps.drewN _ _ _ W d).trans (Keeps.setCell _ _ 0 _ (.inl (by have := Hz1.out; show s + 1 < _; omega)) _), ⟨rfl, by simpa using bset (show (W.drewN d).heap[s + 1]? = _ from HR.out) 0 (.bool true), row_hit Hlt.out (by simpa using Hb.out)⟩, (below_drewN hB d).setCell (p := ⟨s + 1, 0, none⟩) (by simp) _⟩
 case done =>
  rintro D W hD ⟨⟨hm, hr, hno⟩, hB⟩ hK
  have r0 := blk_cell hr 0
  have r1 := blk_free hr 0
  simp only [List.getElem?_toArray, List.getElem?_cons_zero] at r0
  have hh := noRow_all hno
  have Hh := Lib.hid hh
  clear hh
  gi_wp2
  have hK' := (KeepsOthers.setCell W ⟨s + 1, 0, none⟩ (.bool false)).same D _ hK rfl
  have hc4 : (W.setCell ⟨s + 1, 0, none⟩ (.bool false)).cell? ⟨s + 1, 0, none⟩ = some (.bool false) := World.cell?_setCell_same' W ⟨s + 1, 0, none⟩ (.bool false) (by rw [r0]; rfl)
  have hc5 := cell_kept hc4 (grownBy_putObj' _ D (.deferred none)) (fun r e => by cases e; exact ⟨_, hK', rfl⟩)
  refine ⟨by simp, .inl ⟨_, _, rfl, run_takeDeferred hK', .bool false, ?_, by rw [Hh.out], ?_⟩⟩
  · simp [results, Tryz.f10, go_sem, hc5]
  · have := (hB.setCell (p := ⟨s + 1, 0, none⟩) (by simp) (.bool false)).trans (belowK_b (n₀ := s) (w := W1) (by rw [Hz1.out]; omega) _ D _ (.deferred none) hD hK' rfl rfl)
    rw [Hs.out]; exact this
 case stop =>
  rintro D cd j W hD _ _ ⟨⟨rfl, hr, hh⟩, hB⟩ hK
  have hc1 := blk_cell hr 0
  simp only [List.getElem?_toArray, List.getElem?_cons_zero] at hc1
  gi_wp2
  have hc5 := cell_kept hc1 (grownBy_putObj' _ D (.deferred none)) (fun r e => by cases e; exact ⟨_, hK, rfl⟩)
  refine ⟨by simp, .inl ⟨_, _, rfl, run_takeDeferred hK, .bool true, ?_, by rw [hh], ?_⟩⟩
  · simp [results, Tryz.f10, go_sem, hc5]
  · have := hB.trans (belowK_b (n₀ := s) (w := W1) (by rw [Hz1.out]; omega) W D _ (.deferred none) hD hK rfl rfl)
    rw [Hs.out]; exact this
end Go.Proofs.YtendnkpiidhogaaGreat.At

namespace Go.Proofs.YtendnkpiidhogaaGreat.At
open Go.RowKit

theorem ret_3 {k1 k2 k3 : IntKind} {a b c a' b' c' : Int} (h : (a, b, c) = (a', b', c')) : Ending.returned (.tuple #[.int k1 a, .int k2 b, .int k3 c]) = .returned (.tuple #[.int k1 a', .int k2 b', .int k3 c']) := by cases h; rfl

theorem any_no {p : Int × List Nat → Bool} {l : Attrs} (h : ∀ j (hj : j < l.length), p l[j] = false) : l.any p = false := by
 rw [List.any_eq_false]
 intro x hx
 obtain ⟨i, hi, rfl⟩ := List.getElem_of_mem hx
 simp [h i hi]
theorem any_yes {p : Int × List Nat → Bool} {l : Attrs} {j : Nat} (hj : j < l.length) (h : p l[j] = true) : l.any p = true := List.any_eq_true.2 ⟨_, List.getElem_mem hj, h⟩
theorem twice_no : ∀ (l p : Attrs), (∀ j (h : j < l.length), came (p ++ l.take j) l[j].1 = false) → twice p l = false
  | [], _, _ => rfl
  | x :: r, p, h => by
    have h0 := h 0 (by simp)
    simp at h0
    have h1 := twice_no r (p ++ [x]) fun j hj => by
      have := h (j + 1) (by simp; omega)
      simpa using this
    simp [twice, h0, h1]
theorem twice_yes : ∀ (l p : Attrs) (j : Nat) (h : j < l.length), came (p ++ l.take j) l[j].1 = true → twice p l = true
  | [], _, j, h, _ => by simp at h
  | x :: r, p, 0, _, hc => by simp at hc; simp [twice, hc]
  | x :: r, p, j + 1, h, hc => by
    have := twice_yes r (p ++ [x]) j (by simpa using h) (by simpa using hc)
    simp [twice, this]

def badAt (row : Int) (l : Attrs) (x : Int × List Nat) (k : Nat) : Bool := if row = 0 then formOf x.1 == 0 else if row = 1 then came (l.take k) x.1 else if row = 2 then !fineOf x else false
def cleanTo (row : Int) (l : Attrs) (k : Nat) : Prop := ∀ j (h : j < l.length), j < k → badAt row l l[j] j = false
theorem cleanTo_zero (row : Int) (l : Attrs) : cleanTo row l 0 := fun _ _ h => absurd h (by omega)
theorem cleanTo_succ {row : Int} {l : Attrs} {k : Nat} (h : cleanTo row l k) (hk : k < l.length) (he : badAt row l l[k] k = false) : cleanTo row l (k + 1) := fun j hj hlt => by
 rcases Nat.lt_or_ge j k with h1 | h1
 · exact h j hj h1
 · obtain rfl : j = k := by omega
   exact he
def cleanRows (l : Attrs) (r : Nat) : Prop := ∀ j, j < r → cleanTo j l l.length
theorem cleanRows_succ {l : Attrs} {r : Nat} (h : cleanRows l r) (hn : cleanTo r l l.length) : cleanRows l (r + 1) := fun j hj => by
 rcases Nat.lt_or_ge j r with h1 | h1
 · exact h j h1
 · obtain rfl : j = r := by omega
   exact hn
theorem no0 {l : Attrs} (h : cleanTo 0 l l.length) : l.any (fun x => formOf x.1 == 0) = false := any_no fun j hj => by simpa [badAt] using h j hj hj
theorem no1 {l : Attrs} (h : cleanTo 1 l l.length) : twice [] l = false := twice_no l [] fun j hj => by simpa [badAt] using h j hj hj
theorem no2 {l : Attrs} (h : cleanTo 2 l l.length) : l.any (fun x => !fineOf x) = false := any_no fun j hj => by simpa [badAt] using h j hj hj
theorem forms_clean {l : Attrs} (h : cleanRows l 3) : formsOf l = 0 := by simp [formsOf, no0 (h 0 (by omega)), no1 (h 1 (by omega)), no2 (h 2 (by omega))]
theorem forms_hit0 {l : Attrs} {j : Nat} (hj : j < l.length) (h : badAt 0 l l[j] j = true) : formsOf l = 18 := by
 have : l.any (fun x => formOf x.1 == 0) = true := any_yes hj (by simpa [badAt] using h)
 simp [formsOf, this]
theorem forms_hit1 {l : Attrs} {j : Nat} (hr : cleanRows l 1) (hj : j < l.length) (h : badAt 1 l l[j] j = true) : formsOf l = 209 := by
 have : twice [] l = true := twice_yes l [] j hj (by simpa [badAt] using h)
 simp [formsOf, no0 (hr 0 (by omega)), this]
theorem forms_hit2 {l : Attrs} {j : Nat} (hr : cleanRows l 2) (hj : j < l.length) (h : badAt 2 l l[j] j = true) : formsOf l = 19 := by
 have : l.any (fun x => !fineOf x) = true := any_yes hj (by simpa [badAt] using h)
 simp [formsOf, no0 (hr 0 (by omega)), no1 (hr 1 (by omega)), this]

def lastOf (how c k : Int) (l : Attrs) : Int := if l.any (fun x => !hasOf c k x.1) then 209 else if l.any (fun x => unreadOf how c x.1) then 16 else 0
def badC (how c k : Int) (row : Int) (t : Int) : Bool := if row = 0 then !hasOf c k t else if row = 1 then unreadOf how c t else false
def cleanC (how c k row : Int) (l : Attrs) (n : Nat) : Prop := ∀ j (h : j < l.length), j < n → badC how c k row l[j].1 = false
theorem cleanC_zero (how c k row : Int) (l : Attrs) : cleanC how c k row l 0 := fun _ _ h => absurd h (by omega)
theorem cleanC_succ {how c k row : Int} {l : Attrs} {n : Nat} (h : cleanC how c k row l n) (hk : n < l.length) (he : badC how c k row l[n].1 = false) : cleanC how c k row l (n + 1) := fun j hj hlt => by
 rcases Nat.lt_or_ge j n with h1 | h1
 · exact h j hj h1
 · obtain rfl : j = n := by omega
   exact he
def cleanCs (how c k : Int) (l : Attrs) (r : Nat) : Prop := ∀ j, j < r → cleanC how c k j l l.length
theorem cleanCs_succ {how c k : Int} {l : Attrs} {r : Nat} (h : cleanCs how c k l r) (hn : cleanC how c k r l l.length) : cleanCs how c k l (r + 1) := fun j hj => by
 rcases Nat.lt_or_ge j r with h1 | h1
 · exact h j h1
 · obtain rfl : j = r := by omega
   exact hn
theorem last_clean {how c k : Int} {l : Attrs} (h : cleanCs how c k l 2) : lastOf how c k l = 0 := by
 have h0 : l.any (fun x => !hasOf c k x.1) = false := any_no fun j hj => by simpa [badC] using h 0 (by omega) j hj hj
 have h1 : l.any (fun x => unreadOf how c x.1) = false := any_no fun j hj => by simpa [badC] using h 1 (by omega) j hj hj
 simp [lastOf, h0, h1]
theorem last_hit0 {how c k : Int} {l : Attrs} {j : Nat} (hj : j < l.length) (h : badC how c k 0 l[j].1 = true) : lastOf how c k l = 209 := by
 have : l.any (fun x => !hasOf c k x.1) = true := any_yes hj (by simpa [badC] using h)
 simp [lastOf, this]
theorem last_hit1 {how c k : Int} {l : Attrs} {j : Nat} (hr : cleanCs how c k l 1) (hj : j < l.length) (h : badC how c k 1 l[j].1 = true) : lastOf how c k l = 16 := by
 have h0 : l.any (fun x => !hasOf c k x.1) = false := any_no fun j hj => by simpa [badC] using hr 0 (by omega) j hj hj
 have : l.any (fun x => unreadOf how c x.1) = true := any_yes hj (by simpa [badC] using h)
 simp [lastOf, h0, this]
theorem check_last {how : Int} {l : Attrs} {class_ key : Int} (hh : ¬ (how < 1 ∨ 4 < how)) (hf : formsOf l = 0) (hk : (kindsOf l class_ key).2.2 = 0) : checkOf how l class_ key = lastOf how (kindsOf l class_ key).1 (kindsOf l class_ key).2.1 l := by
 simp [checkOf, if_neg hh, hf, hk, lastOf]

theorem RA.take {w : World} {P : Nat → Prop} {A : Option Addr} {c : Nat} {l : Attrs} (h : RA w P A c l) {m : Nat} (hm : m ≤ l.length) : RA w P A c (l.take m) := by
 obtain ⟨cs, h1, h2⟩ := h
 refine ⟨cs.take (m * 2), by rw [List.length_take, Nat.min_eq_left hm]; exact h1.pre hm, fun j x hx => ?_⟩
 rw [List.getElem?_take] at hx
 split at hx
 · rw [List.getElem?_take, List.getElem?_take, if_pos (by omega), if_pos (by omega)]
   exact h2 j x hx
 · cases hx
theorem RA.lit {w : World} {V P : Nat → Prop} (cs : Array Value) (t : TypeId) (l : Attrs) (n H : Nat) (h : CA w V l cs.toList) (hn : l.length = n) (hc : cs.size = n * 2) (hs : n ≤ 1000) (hH : w.heap.size = H) (hV : ∀ b, V b → b < H) (hP : P H) (hVP : ∀ b, V b → P b) :
 RA (w.alloc (.cells cs t)) P (some ⟨H, 0, none⟩) n l := by
 subst hn hH
 refine ⟨cs.toList, RS.fresh cs t 2 l.length hc (by unfold maxLen; omega) hP, fun j x hx => ?_⟩
 obtain ⟨h1, A', c', h2, h3⟩ := h j x hx
 exact ⟨h1, A', c', h2, (h3.keep fun p hp => World.cell?_alloc_lt w _ p (hV _ hp)).mono hVP⟩
end Go.Proofs.YtendnkpiidhogaaGreat.At

namespace Go.Proofs.YtendnkpiidhogaaGreat.At
open Go.RowKit Go.Shelf

section
variable {W W' : World} {row : Option Nat} {P : Nat → Prop} {A : Option Addr} {c : Nat}
theorem RS.grown {size n : Nat} {cs : List Value} (h : RS W P size A n c cs) (hg : W.grownBy W' row) (hr : ∀ r, row = some r → ∃ o : Obj, W.heap[r]? = some o ∧ o.isCells = false) : RS W' P size A n c cs := by
 obtain ⟨h1, h2, h3, h4⟩ := h
 refine ⟨h1, h2, h3, fun hn => ?_⟩
 obtain ⟨ad, e, hp, hc⟩ := h4 hn
 exact ⟨ad, e, hp, fun j u hu => cell_kept (hc j u hu) hg hr⟩
theorem RB.grown {bs : List Nat} (h : RB W P A c bs) (hg : W.grownBy W' row) (hr : ∀ r, row = some r → ∃ o : Obj, W.heap[r]? = some o ∧ o.isCells = false) : RB W' P A c bs := ⟨RS.grown h.1 hg hr, h.2⟩
theorem RA.grown {l : Attrs} (h : RA W P A c l) (hg : W.grownBy W' row) (hr : ∀ r, row = some r → ∃ o : Obj, W.heap[r]? = some o ∧ o.isCells = false) : RA W' P A c l := by
 obtain ⟨cs, h1, h2⟩ := h
 exact ⟨cs, RS.grown h1 hg hr, fun j x hx => let ⟨h3, A', c', h4, h5⟩ := h2 j x hx; ⟨h3, A', c', h4, RB.grown h5 hg hr⟩⟩
theorem OA.grown {base : Nat} {l : Attrs} {cs : List Value} (h : OA W base A c l cs) (hg : W.grownBy W' row) (hr : ∀ r, row = some r → ∃ o : Obj, W.heap[r]? = some o ∧ o.isCells = false) : OA W' base A c l cs := by
 obtain ⟨h1, h2⟩ := h
 refine ⟨h1.kept hg ?_, fun j x hx => let ⟨h3, A', c', h4, h5⟩ := h2 j x hx; ⟨h3, A', c', h4, (RB.grown h5 hg hr).mono fun b hb => ⟨hb.1, Nat.lt_of_lt_of_le hb.2.1 hg.size, hb.2.2⟩⟩⟩
 rcases h1.2 with ⟨e, _⟩ | ⟨g, cap, cur, e, _, hh, _⟩
 · rw [e]; exact .inl rfl
 · refine .inr fun e' => ?_
   rw [e] at e'
   simp [Value.ownBlock] at e'
   obtain ⟨o, ho, hc⟩ := hr g e'.symm
   rw [hh] at ho
   cases ho
   cases hc
end
def tys : List Int := (List.range (cnt 386)).map fun k => (tyAt k : Int)
theorem tys_get {k : Nat} (h : k < cnt 386) : tys.drop k = (tyAt k : Int) :: tys.drop (k + 1) := by
 rw [List.drop_eq_getElem_cons (by simp [tys]; exact h)]
 simp [tys]
set_option maxHeartbeats 400000 in
theorem types_any (w : World) : Calls Tryz.prog 50 #[] w fun e w' => e = .returned (.func (.func 87) #[] #[]) ∧ w = w' := by
 go_enter Tryz.func50, Tryz.ntmps50
 go_wp2
 go_ret
 exact ⟨rfl, rfl⟩
end Go.Proofs.YtendnkpiidhogaaGreat.At
