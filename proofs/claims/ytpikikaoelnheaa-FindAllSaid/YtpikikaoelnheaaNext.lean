/- find.Search's Next and Left. -/
import Derived.Test.YtpikikaoelnheaaNew
namespace Go.Proofs.Ytpikikaoelnheaa
open Go.RowKit Go.Shelf

/-- A search that has l left: block g; the numbers lie in a block of which P holds. -/
def SrchR (w : World) (g : Nat) (P : Nat → Prop) (l : List Int) : Prop := ∃ A c, w.heap[g]? = some (.cells #[.slice A l.length c] 71 (0, 0)) ∧ RI w P A c l
theorem Srch.read {w : World} {g base : Nat} {l : List Int} (h : Srch w g base l) (hl : l.length ≤ 1000000) : SrchR w g (In base w.heap.size) l := by
  obtain ⟨A, c, h1, h2⟩ := h
  exact ⟨A, c, h1, RS.of_own h2, by omega⟩

set_option maxRecDepth 100000 in
set_option maxHeartbeats 1000000 in
theorem left_any (g : Nat) (P : Nat → Prop) (l : List Int) (w : World) (h : SrchR w g P l) :
    Calls Try.prog 21 #[.pointer (some ⟨g, 0, none⟩)] w fun e w' => e = .returned (.int .i64 (l.length : Int)) ∧ w = w' := by
  obtain ⟨A, c, h1, h2⟩ := h
  have c0 := blk_cell h1 0
  simp only [List.getElem?_toArray, List.getElem?_cons_zero] at c0
  go_enter Try.func21, Try.ntmps21
  go_wp2
  go_ret
  exact ⟨rfl, rfl⟩
theorem left_nil (w : World) : Calls Try.prog 21 #[.pointer none] w fun e w' => e = .returned (.int .i64 0) ∧ w = w' := by
  go_enter Try.func21, Try.ntmps21
  go_wp2
  go_ret
  exact ⟨rfl, rfl⟩
theorem next_nil (n : Int) (w : World) : Calls Try.prog 20 #[.pointer none, .int .i64 n] w fun e w' => e = .returned (.tuple #[.slice none 0 0, .int .i64 145]) ∧ w = w' := by
  go_enter Try.func20, Try.ntmps20
  go_wp2
  go_ret2
  exact ⟨rfl, rfl⟩
set_option maxRecDepth 100000 in
set_option maxHeartbeats 1000000 in
theorem next_bad (g : Nat) (n : Int) (w : World) (hn : n < 0 ∨ 1024 < n) : Calls Try.prog 20 #[.pointer (some ⟨g, 0, none⟩), .int .i64 n] w fun e w' => e = .returned (.tuple #[.slice none 0 0, .int .i64 7]) ∧ w = w' := by
  by_cases h0 : n < 0
  · go_enter Try.func20, Try.ntmps20
    go_wp2
    go_ret2
    exact ⟨rfl, rfl⟩
  · have h1 : 1024 < n := by omega
    go_enter Try.func20, Try.ntmps20
    go_wp2
    go_ret2
    exact ⟨rfl, rfl⟩

theorem its_take (l : List Int) (m : Nat) : (its l).take (m * 1) = its (l.take m) := by simp [its, List.map_take]
theorem its_drop (l : List Int) (m : Nat) : its (l.drop m) = ((its l).drop (m * 1)).take ((l.length - m) * 1) := by
  rw [List.take_of_length_le (by simp [its])]
  simp [its, List.map_drop]

/-- What Next leaves. -/
def NextPost (w : World) (g : Nat) (P : Nat → Prop) (l : List Int) (m : Nat) (e : Ending) (w' : World) : Prop :=
  ∃ A c, e = .returned (.tuple #[.slice A m c, .int .i64 0]) ∧ RI w' (In w.heap.size w'.heap.size) A c (l.take m) ∧ SrchR w' g P (l.drop m) ∧ BelowBut w.heap.size g w w'
theorem NextPost.of {w w2 : World} {g : Nat} {P : Nat → Prop} {l : List Int} {m c c2 : Nat} {A A2 A3 : Option Addr} (hP : ∀ b, P b → b < w.heap.size) (hPg : ¬ P g) (hml : m ≤ l.length) (h2 : RI w P A c l)
    (hown2 : w2.ownsRow w.heap.size 3 1 (.slice A2 m c2) m (its (l.take m))) (hgr : w.grownBy w2 none) (hg2 : w2.heap[g]? = some (.cells #[.slice A l.length c] 71 (0, 0))) (hA : m < l.length → A3 = A.map (·.add m)) (hgw : g < w.heap.size) :
    NextPost w g P l m (.returned (.tuple #[.slice A2 m c2, .int .i64 0])) (w2.setCell ⟨g, 0, none⟩ (.slice A3 (l.length - m) (c - m))) := by
  have hlt : (l.take m).length = m := by rw [List.length_take]; omega
  have hcap := h2.cap
  refine ⟨A2, c2, rfl, ⟨?_, by rw [hlt]; have := h2.2; omega⟩, ?_, ?_⟩
  · rw [hlt]
    refine (RS.of_own hown2).keep (w' := w2.setCell _ _) (P := In w.heap.size w2.heap.size) (fun p hp => ?_) |>.mono fun b hb => ⟨hb.1, by simpa [World.setCell] using hb.2⟩
    exact World.cell?_of_block (Below.heap_setCell _ _ _ _ (by have := hp.1; show p.block ≠ g; omega))
  · refine ⟨A3, c - m, ?_, ?_⟩
    · have := blk_set hg2 0 (.slice A3 (l.length - m) (c - m))
      rw [List.length_drop]
      simpa using this
    · refine ⟨?_, by rw [List.length_drop]; have := h2.2; omega⟩
      have hs := RS.sub (k := m) (m := l.length) (c' := c - m) (A' := A3) h2.1 hml (Nat.le_refl _) (by omega) (by unfold maxLen; omega) (fun h => by rw [hA h]; simp)
      rw [← its_drop] at hs
      rw [List.length_drop]
      refine hs.keep fun p hp => ?_
      have h1 := hP _ hp
      exact (World.cell?_of_block (Below.heap_setCell _ _ _ _ (by show p.block ≠ g; intro e; exact hPg (e ▸ hp)))).trans (World.cell?_of_block (hgr.block _ h1 (by simp)))
  · exact (BelowBut.set ⟨hgr.os, hgr.tape, hgr.output, hgr.size, fun b hb _ => hgr.block b hb (by simp)⟩ _)

set_option maxRecDepth 100000 in
set_option maxHeartbeats 2000000 in
theorem next_m (g : Nat) (P : Nat → Prop) (l : List Int) (n m : Nat) (w : World) (h : SrchR w g P l) (hP : ∀ b, P b → b < w.heap.size) (hPg : ¬ P g) (hn : n ≤ 1024) (hm : n ≤ l.length ∧ m = n ∨ l.length < n ∧ m = l.length) :
    Calls Try.prog 20 #[.pointer (some ⟨g, 0, none⟩), .int .i64 (n : Int)] w (NextPost w g P l m) := by
  obtain ⟨A, c, h1, h2⟩ := h
  have c0 := blk_cell h1 0
  have c1 := blk_free h1 0
  simp only [List.getElem?_toArray, List.getElem?_cons_zero] at c0
  obtain ⟨i1, hj, hy0, hy1, hy2⟩ := info_parts info3
  have hcap := h2.cap
  have hl0 := h2.2
  have hml : m ≤ l.length := by omega
  have hRS : RS w P 1 A m c (its (l.take m)) := by rw [← its_take]; exact h2.1.pre hml
  have hzg := blk_lt h1
  have hfin := Lib.hid (fun A2 c2 A3 w2 hown2 hgr hg2 hA => NextPost.of (w := w) (w2 := w2) (A2 := A2) (c2 := c2) (A3 := A3) hP hPg hml h2 hown2 hgr hg2 hA hzg)
  have H1 := Lib.hid h1
  have HRS := Lib.hid hRS
  clear h1 h2 hRS
  by_cases hmc : m = c
  · have hlm : l.length = m := by omega
    have hnm : m ≤ n := by omega
    have Hlm := Lib.hid hlm
    have hA : ∀ A3 : Option Addr, m < l.length → A3 = A.map (·.add m) := fun _ h => by omega
    have HA := Lib.hid hA
    subst hmc
    rw [hlm] at c0 H1 hcap hl0
    clear hlm hm hml hA
    rcases Nat.eq_or_lt_of_le hnm with rfl | hlt
    all_goals
      go_enter Try.func20, Try.ntmps20
      go_wp2_with (at_builtin; refine wpList_append_rs _ rfl (.const (.slice none 0 0)) (.tmp 29) 22 rfl w.heap.size 3 i1 _ 1 8 Try.underlying22 hj hy0 hy1 hy2 rfl (by omega) (.slice none 0 0) 0 [] rfl (World.ownsRow_nil _ _ _ _) P A m _ (its (l.take m)) rfl HRS.out (oneCell_its _) m (by omega) (by unfold maxLen; omega) (by omega) (by simp) ?_; intro A2 c2 w2 hown2 hgr2 _; have hg2 := (hgr2.block g hzg (by simp [Value.ownBlock])).trans H1.out; have d0 := blk_cell hg2 0; have d1 := blk_free hg2 0; simp only [List.getElem?_toArray, List.getElem?_cons_zero] at d0)
      go_ret2
      have h9 := hfin.out A2 c2 A w2 (by simpa using hown2) (by simpa [Value.ownBlock] using hgr2) (by rw [Hlm.out]; exact hg2) (HA.out A)
      rw [Hlm.out, Nat.sub_self] at h9
      exact h9
  · have hmc' : m < c := by omega
    clear hmc
    rcases hm with ⟨hm1, rfl⟩ | ⟨hm1, rfl⟩
    · go_enter Try.func20, Try.ntmps20
      go_wp2_with (at_builtin; refine wpList_append_rs _ rfl (.const (.slice none 0 0)) (.tmp 29) 22 rfl w.heap.size 3 i1 _ 1 8 Try.underlying22 hj hy0 hy1 hy2 rfl (by omega) (.slice none 0 0) 0 [] rfl (World.ownsRow_nil _ _ _ _) P A m c (its (l.take m)) rfl HRS.out (oneCell_its _) m (by omega) (by unfold maxLen; omega) (by omega) (by simp) ?_; intro A2 c2 w2 hown2 hgr2 _; have hg2 := (hgr2.block g hzg (by simp [Value.ownBlock])).trans H1.out; have d0 := blk_cell hg2 0; have d1 := blk_free hg2 0; simp only [List.getElem?_toArray, List.getElem?_cons_zero] at d0)
      go_ret2
      exact hfin.out A2 c2 _ w2 (by simpa using hown2) (by simpa [Value.ownBlock] using hgr2) hg2 (fun _ => rfl)
    · go_enter Try.func20, Try.ntmps20
      go_wp2_with (at_builtin; refine wpList_append_rs _ rfl (.const (.slice none 0 0)) (.tmp 29) 22 rfl w.heap.size 3 i1 _ 1 8 Try.underlying22 hj hy0 hy1 hy2 rfl (by omega) (.slice none 0 0) 0 [] rfl (World.ownsRow_nil _ _ _ _) P A l.length c (its (l.take l.length)) rfl HRS.out (oneCell_its _) l.length (by omega) (by unfold maxLen; omega) (by omega) (by simp) ?_; intro A2 c2 w2 hown2 hgr2 _; have hg2 := (hgr2.block g hzg (by simp [Value.ownBlock])).trans H1.out; have d0 := blk_cell hg2 0; have d1 := blk_free hg2 0; simp only [List.getElem?_toArray, List.getElem?_cons_zero] at d0)
      go_ret2
      have h9 := hfin.out A2 c2 (A.map (·.add l.length)) w2 (by simpa using hown2) (by simpa [Value.ownBlock] using hgr2) hg2 (fun h => absurd h (Nat.lt_irrefl _))
      rw [Nat.sub_self] at h9
      exact h9

theorem next_any (g : Nat) (P : Nat → Prop) (l : List Int) (n : Nat) (w : World) (h : SrchR w g P l) (hP : ∀ b, P b → b < w.heap.size) (hPg : ¬ P g) (hn : n ≤ 1024) :
    Calls Try.prog 20 #[.pointer (some ⟨g, 0, none⟩), .int .i64 (n : Int)] w fun e w' => ∃ A c, e = .returned (.tuple #[.slice A (l.take n).length c, .int .i64 0]) ∧ RI w' (In w.heap.size w'.heap.size) A c (l.take n) ∧ SrchR w' g P (l.drop n) ∧ BelowBut w.heap.size g w w' := by
  have key : ∀ m, n ≤ l.length ∧ m = n ∨ l.length < n ∧ m = l.length → l.take n = l.take m ∧ l.drop n = l.drop m ∧ (l.take m).length = m := by
    rintro m (⟨h1, rfl⟩ | ⟨h1, rfl⟩)
    · exact ⟨rfl, rfl, by rw [List.length_take]; omega⟩
    · exact ⟨by rw [List.take_of_length_le (by omega), List.take_of_length_le (Nat.le_refl _)], by rw [List.drop_of_length_le (by omega), List.drop_of_length_le (Nat.le_refl _)], by rw [List.length_take]; omega⟩
  obtain ⟨m, hm⟩ : ∃ m, n ≤ l.length ∧ m = n ∨ l.length < n ∧ m = l.length := by
    rcases Nat.lt_or_ge l.length n with h | h
    · exact ⟨_, .inr ⟨h, rfl⟩⟩
    · exact ⟨_, .inl ⟨h, rfl⟩⟩
  obtain ⟨k1, k2, k3⟩ := key m hm
  rw [k1, k2, k3]
  exact next_m g P l n m w h hP hPg hn hm
end Go.Proofs.Ytpikikaoelnheaa
