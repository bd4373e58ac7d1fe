/- What attrs.Encode and the reference's Encode compute. -/
import Derived.Test.YtpikikaoelnheaaForm
namespace Go.Proofs.Ytpikikaoelnheaa
open Go.RowKit

/-- An owned row lies in no block of another element type. -/
theorem own_ne_blk {w : World} {base B : Nat} {e t : TypeId} {size n : Nat} {v : Value} {xs : List Value} {cs : Array Value} {fr : Nat × Nat} (h : w.ownsRow base e size v n xs) (hb : w.heap[B]? = some (.cells cs t fr)) (hne : e ≠ t) : v.ownBlock ≠ some B := by
  rcases h.2 with ⟨rfl, _⟩ | ⟨g, cap, cur, rfl, _, hh, _⟩
  · simp [Value.ownBlock]
  · intro he
    have : g = B := by simpa [Value.ownBlock] using he
    subst this
    rw [hb] at hh
    injection hh with hh
    injection hh with _ h2
    exact hne h2.symm

def okEnc (x : Int × List Nat) : Bool := decide (0 ≤ x.1 ∧ x.1 ≤ 65535 ∧ x.2.length ≤ 16384)
def encOne (x : Int × List Nat) : List Nat := num2 x.1 ++ num2 (x.2.length : Nat) ++ x.2
def encOf (l : List (Int × List Nat)) : Option (List Nat) := if l.length ≤ 64 ∧ l.all okEnc = true then some (l.flatMap encOne) else none
def encTo (l : List (Int × List Nat)) (k : Nat) : List Nat := (l.take k).flatMap encOne
theorem encTo_succ {l : List (Int × List Nat)} {k : Nat} (hk : k < l.length) : encTo l (k + 1) = encTo l k ++ num2 l[k].1 ++ num2 (l[k].2.length : Nat) ++ l[k].2 := by
  rw [encTo, List.take_succ_eq_append_getElem hk, List.flatMap_append, encTo]; simp [encOne]
def encOk (l : List (Int × List Nat)) (k : Nat) : Prop := ∀ x ∈ l.take k, okEnc x = true
theorem encOk_succ {l : List (Int × List Nat)} {k : Nat} (h : encOk l k) (hk : k < l.length) (he : okEnc l[k] = true) : encOk l (k + 1) := by
  intro x hx
  rw [List.take_succ_eq_append_getElem hk] at hx
  rcases List.mem_append.1 hx with hx | hx
  · exact h x hx
  · obtain rfl := List.mem_singleton.1 hx
    exact he
theorem encOf_no {l : List (Int × List Nat)} {k : Nat} (hk : k < l.length) (he : okEnc l[k] = false) : encOf l = none := by
  rw [encOf, if_neg]
  rintro ⟨_, h⟩
  rw [List.all_eq_true] at h
  have := h l[k] (List.getElem_mem hk)
  rw [he] at this
  cases this
theorem encOf_yes {l : List (Int × List Nat)} {k : Nat} (hl : l.length ≤ 64) (h : encOk l k) (hk : ¬ k < l.length) : encOf l = some (encTo l k) := by
  have e : l.take k = l := List.take_of_length_le (by omega)
  have ha : l.all okEnc = true := by
    rw [List.all_eq_true]
    intro x hx
    exact h x (by rw [e]; exact hx)
  rw [encOf, if_pos ⟨hl, ha⟩, encTo, e]
theorem encTo_lt {l : List (Int × List Nat)} {k : Nat} (hv : ∀ x ∈ l, ∀ b ∈ x.2, b < 256) : ∀ b ∈ encTo l k, b < 256 := by
  intro b hb
  simp only [encTo, List.mem_flatMap] at hb
  obtain ⟨x, hx, hb⟩ := hb
  simp only [encOne, List.mem_append] at hb
  rcases hb with (hb | hb) | hb
  · exact num2_lt _ _ hb
  · exact num2_lt _ _ hb
  · exact hv x (List.mem_of_mem_take hx) b hb
theorem RA.lt {w : World} {P : Nat → Prop} {A : Option Addr} {c : Nat} {l : List (Int × List Nat)} (h : RA w P A c l) : ∀ x ∈ l, ∀ b ∈ x.2, b < 256 := by
  intro x hx
  obtain ⟨i, hi, rfl⟩ := List.getElem_of_mem hx
  obtain ⟨ad, A', c', _, _, _, _, hu⟩ := h.at_ hi
  exact hu.2.1
theorem num2_length (v : Int) : (num2 v).length = 2 := rfl

def EncPost (w : World) (l : List (Int × List Nat)) (e : Ending) (w' : World) : Prop :=
  ∃ A' c', e = .returned (.tuple #[.slice A' ((encOf l).getD []).length c', .bool (encOf l).isSome]) ∧ RB w' (In w.heap.size w'.heap.size) A' c' ((encOf l).getD []) ∧ Below w.heap.size w w'
theorem EncPost.no {w w' : World} {l : List (Int × List Nat)} (h : encOf l = none) (hb : Below w.heap.size w w') : EncPost w l (.returned (.tuple #[.slice none 0 0, .bool false])) w' := by
  refine ⟨none, 0, ?_, ?_, hb⟩ <;> rw [h]
  · rfl
  · exact RB.nil_ _ _
theorem EncPost.yes {w w' : World} {l : List (Int × List Nat)} {k n : Nat} {A : Option Addr} {c : Nat} (hl : l.length ≤ 64) (ho : encOk l k) (hk : ¬ k < l.length) (hn : (encTo l k).length = n) (hn2 : n ≤ 1000000000)
    (hv : ∀ x ∈ l, ∀ b ∈ x.2, b < 256) (hown : w'.ownsRow w.heap.size 5 1 (.slice A n c) n (bys (encTo l k))) (hb : Below w.heap.size w w') : EncPost w l (.returned (.tuple #[.slice A n c, .bool true])) w' := by
  have h := encOf_yes hl ho hk
  refine ⟨A, c, ?_, ?_, hb⟩ <;> rw [h]
  · rw [← hn]; rfl
  · exact RB.of_own' hown hn (encTo_lt hv) (by omega)

set_option maxRecDepth 100000 in
set_option maxHeartbeats 2000000 in
theorem enc_any (P : Nat → Prop) (A : Option Addr) (c : Nat) (l : List (Int × List Nat)) (w : World) (hv : RA w P A c l) (hP : ∀ b, P b → b < w.heap.size) :
    Calls Try.prog 42 #[.slice A l.length c] w (EncPost w l) := by
  obtain ⟨hlc, hc⟩ := hv.cap
  by_cases hl : l.length ≤ 64
  · go_enter Try.func42, Try.ntmps42
    go_wp2
    go_loopw [4, 12] (fun v i wr => ∃ (k : Nat) (A' : Option Addr) (c' n : Nat), k ≤ l.length ∧ i = .int .i64 k ∧ v = .slice A' n c' ∧ (encTo l k).length = n ∧ n ≤ k * 16388 ∧ wr.ownsRow w.heap.size 5 1 (.slice A' n c') n (bys (encTo l k)) ∧ Below w.heap.size w wr ∧ encOk l k) (fun _ i _ => l.length - (intOf i).toNat)
    case atStart => exact ⟨0, none, 0, 0, Nat.zero_le _, rfl, rfl, rfl, by omega, World.ownsRow_nil _ _ _ _, Below.refl _ _, by intro x hx; simp at hx⟩
    case round =>
      obtain ⟨k, A', c', n, hk, rfl, rfl, hlen, hn, hown, hB, hok⟩ := hrel
      have Hlen := Lib.hid hlen
      have hs := hB.size
      clear hlen
      by_cases hlt : k < l.length
      · obtain ⟨ad, Au, cu, rfl, hb, hc1, hc2, hu⟩ := (hv.below hB hP).at_ hlt
        obtain ⟨x, hx⟩ : ∃ x, l[k] = x := ⟨_, rfl⟩
        rw [hx] at hc1 hc2 hu
        have Hx := Lib.hid hx
        have hul := hu.cap
        clear hx
        by_cases h1 : x.1 < 0
        · have hno := Lib.hid (encOf_no hlt (by rw [Hx.out]; simp [okEnc]; omega))
          go_wp2
          go_ret2
          exact EncPost.no hno.out (hB.alloc hs _)
        · by_cases h2 : 65535 < x.1
          · have hno := Lib.hid (encOf_no hlt (by rw [Hx.out]; simp [okEnc]; omega))
            go_wp2
            go_ret2
            exact EncPost.no hno.out (hB.alloc hs _)
          · by_cases h3 : 16384 < x.2.length
            · have hno := Lib.hid (encOf_no hlt (by rw [Hx.out]; simp [okEnc]; omega))
              go_wp2
              go_ret2
              exact EncPost.no hno.out (hB.alloc hs _)
            · have hyes := Lib.hid (encOk_succ hok hlt (by rw [Hx.out]; simp [okEnc]; omega))
              have hsucc := Lib.hid (encTo_succ hlt)
              rw [Hx.out] at hsucc
              have hlt0 : ∀ g, (Value.slice A' n c').ownBlock = some g → w.heap.size ≤ g ∧ g < wr.heap.size := hown.lt
              have Hown := Lib.hid hown
              clear hown
              go_wp2_with fail
              refine (append16_any x.1 w.heap.size A' c' n (encTo l k) _ (by omega) (Hown.out.alloc _) (by simp; omega) (by omega)).mono ?_
              rintro e w2 ⟨A2, c2, rfl, hown2, hg2⟩
              have hb2 := (hg2.block wr.heap.size (by simp) (fun e => by have := (hlt0 _ e.symm).2; omega)).trans (heap_alloc_new wr _)
              have hB2 : Below w.heap.size w w2 := (hB.alloc hs _).grown hg2 (by simp; omega) (fun g hg => (hlt0 g hg).1)
              have y1 := blk_cell hb2 1
              simp at y1
              have hs2 := blk_lt hb2
              have hlt2 := hown2.lt
              have hne2 := own_ne_blk hown2 hb2 (by decide)
              clear hg2
              go_wp2_with fail
              refine (append16_any (x.2.length : Nat) w.heap.size A2 c2 (n + 2) (encTo l k ++ num2 x.1) w2 (by omega) hown2 (by omega) (by omega)).mono ?_
              rintro e w3 ⟨A3, c3, rfl, hown3, hg3⟩
              have hb3 := (hg3.block wr.heap.size hs2 (fun e => hne2 e.symm)).trans hb2
              have hB3 : Below w.heap.size w w3 := hB2.grown hg3 (by omega) (fun g hg => (hlt2 g hg).1)
              have z1 := blk_cell hb3 1
              simp at z1
              have hs3 := blk_lt hb3
              have hu3 : RB w3 P Au cu x.2 := by
                have h0 : RB w P Au cu x.2 := hu.keep fun p hp => (hB.cell (hP _ hp)).symm
                exact h0.below hB3 hP
              clear hg3 hb2 y1 hown2
              go_wp2_with (at_builtin; refine app5 rfl (.tmp 41) (.tmp 43) rfl w.heap.size (.slice A3 (n + 2 + 2) c3) (n + 2 + 2) _ rfl hown3 P Au x.2.length cu x.2 rfl hu3.1 (n + 2 + 2 + x.2.length) rfl (by omega) (by omega) ?_; intro A4 c4 w4 hown4 hg4 hor4)
              have hB4 : Below w.heap.size w w4 := hB3.grown hg4 (by omega) (fun g hg => (hown3.lt g hg).1)
              have hown5 : w4.ownsRow w.heap.size 5 1 (.slice A4 (n + 2 + 2 + x.2.length) c4) (n + 2 + 2 + x.2.length) (bys (encTo l (k + 1))) := by
                rw [hsucc.out, bys, List.map_append]
                exact hown4
              have hl4 := Lib.hid (show (encTo l (k + 1)).length = n + 2 + 2 + x.2.length by rw [hsucc.out]; simp [num2_length, Hlen.out]; omega)
              clear hg4 hor4 hown4 hown3 hb3 z1
              go_roundw
              case rel => exact ⟨k + 1, A4, c4, _, by omega, by go_num, rfl, hl4.out, by omega, hown5, hB4, hyes.out⟩
              case measure => simp [intOf]; omega
      · go_wp2
        go_ret2
        exact EncPost.yes hl hok hlt Hlen.out (by omega) hv.lt hown hB
  · have hno := Lib.hid (show encOf l = none by rw [encOf, if_neg (fun h => hl h.1)])
    go_enter Try.func42, Try.ntmps42
    go_wp2
    go_ret2
    exact EncPost.no hno.out (Below.refl _ _)
end Go.Proofs.Ytpikikaoelnheaa
