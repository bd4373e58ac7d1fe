/- baileylaw23.begun: one search is told: true. -/
import Derived.Test.YtpikikaoelnheaaNext
import Derived.Test.YtpikikaoelnheaaBegun
namespace Go.Proofs.Ytpikikaoelnheaa
open Go.RowKit Go.Shelf

attribute [local go_sem] Oper.semAt_some

theorem SeqAt.congr {P : Program} {g : Nat} {lb : Array Value} {xs ys : Nat → Array Value} {Nd : Nat → World → Prop} {T : Nat → Nat → World → World → Prop} {Kp : World → World → Prop} {m N : Nat} {fin : Bool} {w : World}
    (h : SeqAt P g lb xs Nd T Kp m N fin w) (he : ∀ k, k < N → xs k = ys k) : SeqAt P g lb ys Nd T Kp m N fin w :=
  fun n l J J' Jx W h1 h2 h3 h4 h5 h6 h7 h8 h9 hY h0 => h n l J J' Jx W h1 h2 h3 h4 h5 h6 h7 h8 h9 (fun k W1 hj hk hm => by rw [he k hk]; exact hY k W1 hj hk hm) h0
theorem SeqAt.later {P : Program} {g : Nat} {lb : Array Value} {xs : Nat → Array Value} {Nd : Nat → World → Prop} {T : Nat → Nat → World → World → Prop} {Kp : World → World → Prop} {m N : Nat} {fin : Bool} {w w' : World}
    (h : SeqAt P g lb xs Nd T Kp m N fin w) (hb : Below w.heap.size w w') : SeqAt P g lb xs Nd T Kp m N fin w' :=
  fun n l J J' Jx W h1 h2 => h n l J J' Jx W h1 (hb.trans (h2.mono hb.size))
/-- The hits themselves. -/
def hitsOf (p : Nat → Bool) (N : Nat) (hs : List Int) : List Int := (selTo p N).map fun i => hs.getD i 0
theorem hitsOf_length (p : Nat → Bool) (N : Nat) (hs : List Int) : (hitsOf p N hs).length = sc p N := by simp [hitsOf, sc]
theorem hitsOf_get {p : Nat → Bool} {N : Nat} {hs : List Int} {k : Nat} (h : k < sc p N) : (hitsOf p N hs).getD k 0 = hs.getD ((selTo p N).getD k 0) 0 := by
  have h' : k < (selTo p N).length := h
  simp [hitsOf, List.getD_eq_getElem?_getD, List.getElem?_eq_getElem h']
theorem toHit_succ {p : Nat → Bool} {N k : Nat} (h : k < sc p N) : toHit p N k = atHit p N (k + 1) := by
  rw [toHit, if_pos h, atHit, if_neg (by omega), Nat.add_sub_cancel]
theorem Loose.but {cb B n₀ : Nat} {W W' : World} (h : Loose cb B W W') (hn : n₀ ≤ W.heap.size) (hB : n₀ ≤ B) : BelowBut n₀ cb W W' :=
  ⟨h.os, h.tape, h.output, h.size, fun b hb hc => by
    have hlt : b < W.heap.size := by omega
    have := h.same b _ (Array.getElem?_eq_getElem hlt) hc (.inl (by omega))
    rw [this, Array.getElem?_eq_getElem hlt]⟩

theorem alloc3 (w : World) (o1 o2 o3 : Obj) : (((w.alloc o1).alloc o2).alloc o3).heap[w.heap.size]? = some o1 ∧ (((w.alloc o1).alloc o2).alloc o3).heap[w.heap.size + 1]? = some o2 ∧ (((w.alloc o1).alloc o2).alloc o3).heap[w.heap.size + 1 + 1]? = some o3 ∧
    (((w.alloc o1).alloc o2).alloc o3).heap.size = w.heap.size + 3 ∧ Below w.heap.size w (((w.alloc o1).alloc o2).alloc o3) := by
  refine ⟨?_, ?_, ?_, by simp, (((Below.refl _ w).alloc (Nat.le_refl _) _).alloc (by simp) _).alloc (by simp; omega) _⟩
  · exact (Below.heap_alloc _ _ _ (by simp; omega)).trans ((Below.heap_alloc _ _ _ (by simp)).trans (heap_alloc_new w o1))
  · have := heap_alloc_new (w.alloc o1) o2
    rw [World.size_alloc] at this
    exact (Below.heap_alloc _ _ _ (by simp)).trans this
  · have := heap_alloc_new ((w.alloc o1).alloc o2) o3
    rwa [World.size_alloc, World.size_alloc] at this

theorem alloc4 (w : World) (o1 o2 o3 o4 : Obj) : ((((w.alloc o1).alloc o2).alloc o3).alloc o4).heap[w.heap.size]? = some o1 ∧ ((((w.alloc o1).alloc o2).alloc o3).alloc o4).heap[w.heap.size + 1]? = some o2 ∧ ((((w.alloc o1).alloc o2).alloc o3).alloc o4).heap[w.heap.size + 1 + 1]? = some o3 ∧
    ((((w.alloc o1).alloc o2).alloc o3).alloc o4).heap[w.heap.size + 1 + 1 + 1]? = some o4 ∧ ((((w.alloc o1).alloc o2).alloc o3).alloc o4).heap.size = w.heap.size + 4 ∧ Below w.heap.size w ((((w.alloc o1).alloc o2).alloc o3).alloc o4) := by
  obtain ⟨h1, h2, h3, h4, h5⟩ := alloc3 w o1 o2 o3
  have h6 := heap_alloc_new (((w.alloc o1).alloc o2).alloc o3) o4
  rw [h4] at h6
  have hb := fun (k : Nat) (hk : k < w.heap.size + 3) => Below.heap_alloc (((w.alloc o1).alloc o2).alloc o3) o4 k (by omega)
  exact ⟨(hb _ (by omega)).trans h1, (hb _ (by omega)).trans h2, (hb _ (by omega)).trans h3, h6, by rw [World.size_alloc, h4], h5.alloc (by omega) _⟩

theorem RS.of_blk {w : World} {P : Nat → Prop} {g : Nat} {cs : Array Value} {t : TypeId} (h : w.heap[g]? = some (.cells cs t (0, 0))) (size n : Nat) (hs : cs.size = n * size) (hn : n ≤ maxLen) (hP : P g) : RS w P size (some ⟨g, 0, none⟩) n n cs.toList :=
  ⟨Nat.le_refl _, hn, by simpa using hs, fun _ => ⟨_, rfl, hP, World.news_of_block h⟩⟩

/-- New over Filter over objects that are counted: what a search has kept, and the count. -/
theorem new_filter (Bf n₀ cb gf : Nat) (lb : Array Value) (P P' : Nat → Prop) (A A' : Option Addr) (c c' : Nat) (u : Bool) (t : List (Int × List Nat)) (hs : List Int) (ls : List (List (Int × List Nat))) (cs : List Value) (w : World)
    (hP : ∀ b, P b → b < n₀) (hPc : ¬ P cb) (hP' : ∀ b, P' b → b < n₀) (hPc' : ¬ P' cb) (hBf : Bf + 1 + 1 < n₀) (hcb : cb < Bf) (hn₀ : n₀ ≤ w.heap.size)
    (h1 : w.cell? ⟨Bf, 0, none⟩ = some (.func (.func gf) #[] lb)) (h2 : w.cell? ⟨Bf + 1, 0, none⟩ = some (.slice A' t.length c')) (h3 : w.cell? ⟨Bf + 1 + 1, 0, none⟩ = some (.bool u))
    (hR : RAA w P A c ls cs) (hR' : RA w P' A' c' t) (eg : ∀ args w, (callFunc gf args).run Try.prog w = .ok (.enter gf args) w)
    (hin : ∀ w', Below w.heap.size w w' → SeqAt Try.prog gf lb (fun k => #[.int .i64 (hs.getD k 0), cs.getD k undef]) (Counted cb) (TCount cb (min hs.length ls.length)) (BelowBut n₀ cb) 0 (min hs.length ls.length) true w')
    (hc0 : Counted cb 0 w) (hl : (hitsOf (hitOf u t ls) (min hs.length ls.length) hs).length ≤ 65536) :
    Calls Try.prog 18 #[.func (.func 47) #[] #[.pointer (some ⟨Bf, 0, none⟩), .pointer (some ⟨Bf + 1 + 1, 0, none⟩), .pointer (some ⟨Bf + 1, 0, none⟩)]] w fun e w' =>
      e = .returned (.pointer (some ⟨w.heap.size, 0, none⟩)) ∧ Srch w' w.heap.size (w.heap.size + 2 + 2 + 1) (hitsOf (hitOf u t ls) (min hs.length ls.length) hs) ∧ BelowBut n₀ cb w w' := by
  have hseq := filter_seq Bf n₀ cb gf lb P P' A A' c c' u t hs ls cs w hP hPc hP' hPc' hBf hcb hn₀ h1 h2 h3 hR hR' eg hin
  generalize hitOf u t ls = p at *
  generalize min hs.length ls.length = N at *
  have hbut : ∀ X X', Below w.heap.size X X' → BelowBut n₀ cb X X' := fun X X' h => below_but (h.mono hn₀) cb
  have hzc : cb < w.heap.size := by omega
  have h := new_any 47 #[.pointer (some ⟨Bf, 0, none⟩), .pointer (some ⟨Bf + 1 + 1, 0, none⟩), .pointer (some ⟨Bf + 1, 0, none⟩)] (hitsOf p N hs) (fun j => Counted cb (atHit p N j)) (THit cb p N) (BelowBut n₀ cb) 1
    (fun k X => BelowBut n₀ cb w X ∧ Counted cb (atHit p N k) X) (fun k X => BelowBut n₀ cb w X ∧ Counted cb (toHit p N k) X) w (by omega)
    (fun w' hb => by
      rw [hitsOf_length]
      exact (hseq.later hb).congr fun k hk => by rw [hitsOf_get hk])
    (enters_of Try.func47 (by kernel_rfl) rfl) (fun h k => h.trans k) hbut (thit_keeps cb p N)
    (fun B k W1 W2 ht b o hb ho hc => ht.1.same b o ho (by omega) (.inr hc))
    (fun k X X' h hb => ⟨h.1.trans (hbut _ _ hb), (hb.block cb hzc).trans h.2⟩) (fun k X X' h hb => ⟨h.1.trans (hbut _ _ hb), (hb.block cb hzc).trans h.2⟩)
    (fun k X _ h => h.2) (fun B k W1 W2 hB _ h ht => ⟨h.1.trans (ht.1.but (by have := h.1.size; omega) (by omega)), ht.2.2⟩)
    (fun k X hk h => ⟨h.1, by rw [hitsOf_length] at hk; rw [← toHit_succ hk]; exact h.2⟩) ⟨BelowBut.refl _ _ _, hc0⟩
  refine h.mono ?_
  rintro e w' ⟨rfl, hS, hE⟩
  rw [List.take_of_length_le hl] at hS
  refine ⟨rfl, hS, ?_⟩
  rcases hE with ⟨k, hE⟩ | hE
  · exact hE.1
  · exact hE.1

theorem bg_hits : hitsOf (hitOf true [] [[((2 : Int), ([1] : List Nat))]]) (min ([5] : List Int).length [[((2 : Int), ([1] : List Nat))]].length) ([5] : List Int) = [5] := by decide
theorem bg_flag2 : flagOf [((2 : Int), ([1] : List Nat))] 2 = true := by decide

set_option maxRecDepth 100000 in
set_option maxHeartbeats 4000000 in
theorem findBegun_any (w : World) : Calls Try.prog 11 #[] w fun e w' => e = .returned (.bool true) ∧ Below w.heap.size w w' := by
  go_enter Try.func11, Try.ntmps11
  go_wp2_with fail
  refine (refBool_any 2 true _).mono ?_
  rintro e w1 ⟨A1, c1, rfl, hr1, hB1⟩
  go_wp2_with fail
  obtain ⟨o0, o1, o2, o3, z2, hB2⟩ := alloc4 w1 (.cells #[.int .i64 2, .slice A1 1 c1] 48) (.cells #[.int .i64 0] 3) (.cells #[.int .i64 5] 3) (.cells #[.slice (some ⟨w1.heap.size, 0, none⟩) 1 1] 24)
  obtain ⟨s, hs⟩ : ∃ s, w1.heap.size = s := ⟨_, rfl⟩
  have hs1 : w.heap.size ≤ s := by rw [← hs]; exact hB1.size
  rw [hs] at o0 o1 o2 o3 z2 hB2 hr1 ⊢
  generalize (((w1.alloc (.cells #[.int .i64 2, .slice A1 1 c1] 48)).alloc (.cells #[.int .i64 0] 3)).alloc (.cells #[.int .i64 5] 3)).alloc (.cells #[.slice (some ⟨s, 0, none⟩) 1 1] 24) = W2 at *
  have hw2 : Below w.heap.size w W2 := hB1.trans (hB2.mono hs1)
  have hr2 : RB W2 (In w.heap.size s) A1 c1 [1] := hr1.below hB2 fun b hb => hb.2
  have Hs := Lib.hid hs
  have Hz2 := Lib.hid z2
  clear hs hr1 hB2 hB1 z2
  refine (given_any _ _ _ _ _ _ _ W2).mono ?_
  rintro e w' ⟨rfl, rfl⟩
  obtain ⟨p0, p1, p2, z3, hB3⟩ := alloc3 W2 (.cells #[.slice (some ⟨s + 1 + 1, 0, none⟩) 1 1] 22) (.cells #[.slice (some ⟨s + 1 + 1 + 1, 0, none⟩) 1 1] 23) (.cells #[.pointer (some ⟨s + 1, 0, none⟩)] 36)
  rw [Hz2.out] at p0 p1 p2 z3 hB3 ⊢
  generalize ((W2.alloc (.cells #[.slice (some ⟨s + 1 + 1, 0, none⟩) 1 1] 22)).alloc (.cells #[.slice (some ⟨s + 1 + 1 + 1, 0, none⟩) 1 1] 23)).alloc (.cells #[.pointer (some ⟨s + 1, 0, none⟩)] 36) = W3 at *
  have Hz3 := Lib.hid z3
  have hw3 : Below w.heap.size w W3 := hw2.trans (hB3.mono (by omega))
  replace o0 := (hB3.block _ (by omega)).trans o0
  replace o1 := (hB3.block _ (by omega)).trans o1
  replace o2 := (hB3.block _ (by omega)).trans o2
  replace o3 := (hB3.block _ (by omega)).trans o3
  have hr3 := hr2.below hB3 fun b hb => by have := hb.2; omega
  clear z3 hB3 hw2 hr2
  go_wp2_with fail
  refine (filter_fn _ _ none 0 0 true W3).mono ?_
  rintro e w' ⟨rfl, rfl⟩
  obtain ⟨q0, q1, q2, z4, hB4⟩ := alloc3 W3 (.cells #[.func (.func 48) #[] #[.pointer (some ⟨s + 4, 0, none⟩), .pointer (some ⟨s + 4 + 1, 0, none⟩), .pointer (some ⟨s + 4 + 1 + 1, 0, none⟩)]] 34) (.cells #[.slice none 0 0] 24) (.cells #[.bool true] 4)
  rw [Hz3.out] at q0 q1 q2 z4 hB4 ⊢
  generalize ((W3.alloc (.cells #[.func (.func 48) #[] #[.pointer (some ⟨s + 4, 0, none⟩), .pointer (some ⟨s + 4 + 1, 0, none⟩), .pointer (some ⟨s + 4 + 1 + 1, 0, none⟩)]] 34)).alloc (.cells #[.slice none 0 0] 24)).alloc (.cells #[.bool true] 4) = W4 at *
  have hw4 : Below w.heap.size w W4 := hw3.trans (hB4.mono (by omega))
  have hb := fun b (hb : b < s + 4 + 3) => hB4.block b hb
  replace o0 := (hb _ (by omega)).trans o0
  replace o1 := (hb _ (by omega)).trans o1
  replace o2 := (hb _ (by omega)).trans o2
  replace o3 := (hb _ (by omega)).trans o3
  replace p0 := (hb _ (by omega)).trans p0
  replace p1 := (hb _ (by omega)).trans p1
  replace p2 := (hb _ (by omega)).trans p2
  have hr4 : RB W4 (fun b => b < s + 10 ∧ b ≠ s + 1) A1 c1 [1] := (hr3.below hB4 fun b hb => by have := hb.2; omega).mono fun b hb => by have := hb.2; omega
  have hI : RI W4 (fun b => b < s + 10 ∧ b ≠ s + 1) (some ⟨s + 1 + 1, 0, none⟩) 1 [5] := ⟨RS.of_blk o2 1 1 rfl (by unfold maxLen; omega) ⟨by omega, by omega⟩, by simp⟩
  have hA : RA W4 (fun b => b < s + 10 ∧ b ≠ s + 1) (some ⟨s, 0, none⟩) 1 [(2, [1])] := by
    refine ⟨_, RS.of_blk o0 2 1 rfl (by unfold maxLen; omega) ⟨by omega, by omega⟩, fun j x hx => ?_⟩
    have hj : j = 0 := by have := (List.getElem?_eq_some_iff.1 hx).1; simp at this; exact this
    subst hj
    simp at hx
    subst hx
    exact ⟨rfl, A1, c1, rfl, hr4⟩
  have hAA : RAA W4 (fun b => b < s + 10 ∧ b ≠ s + 1) (some ⟨s + 1 + 1 + 1, 0, none⟩) 1 [[(2, [1])]] [.slice (some ⟨s, 0, none⟩) 1 1] := by
    refine ⟨RS.of_blk o3 1 1 rfl (by unfold maxLen; omega) ⟨by omega, by omega⟩, fun j x hx => ?_⟩
    have hj : j = 0 := by have := (List.getElem?_eq_some_iff.1 hx).1; simp at this; exact this
    subst hj
    simp at hx
    subst hx
    exact ⟨_, _, rfl, hA⟩
  have g0 := blk_cell p0 0
  have g1 := blk_cell p1 0
  have g2 := blk_cell p2 0
  have g3 := blk_cell q0 0
  have g4 := blk_cell q1 0
  have g5 := blk_cell q2 0
  simp only [List.getElem?_toArray, List.getElem?_cons_zero] at g0 g1 g2 g3 g4 g5
  have hgs := given_seq (s + 4) (s + 10) (s + 1) (fun b => b < s + 10 ∧ b ≠ s + 1) _ _ 1 1 [5] [[(2, [1])]] _ W4 (fun b hb => hb.1) (fun h => h.2 rfl) (by omega) (by omega) (by omega) g0 g1 g2 hI hAA
  have hnw := new_filter (s + 4 + 3) (s + 10) (s + 1) 48 _ (fun b => b < s + 10 ∧ b ≠ s + 1) (fun b => b < s + 10 ∧ b ≠ s + 1) _ none 1 0 true [] [5] [[(2, [1])]] _ W4 (fun b hb => hb.1) (fun h => h.2 rfl) (fun b hb => hb.1) (fun h => h.2 rfl) (by omega) (by omega) (by omega)
    g3 g4 g5 hAA (RA.nil_ _ _) (enters_of Try.func48 (by kernel_rfl) rfl) (fun w' hb => hgs.later hb) o1 (by rw [bg_hits]; decide)
  rw [bg_hits] at hnw
  have Hnw := Lib.hid hnw
  have hnil := fun w => eql_nil w (.func 47) #[] #[.pointer (some ⟨s + 4 + 3, 0, none⟩), .pointer (some ⟨s + 4 + 3 + 1 + 1, 0, none⟩), .pointer (some ⟨s + 4 + 3 + 1, 0, none⟩)]
  have Hz4 := Lib.hid z4
  clear hnw hgs hAA hI hr4 g0 g1 g2 g3 g4 g5 o0 o1 o2 o3 p0 p1 p2 q0 q1 q2 z4 hb hB4 hw3 hr3
  go_wp2_with fail
  refine Hnw.out.mono ?_
  rintro e w5 ⟨rfl, hS, hB5⟩
  have zW := hB5.size
  have hnx : Calls Try.prog 20 #[.pointer (some ⟨W4.heap.size, 0, none⟩), .int .i64 3] w5 fun e w' => ∃ A c, e = .returned (.tuple #[.slice A 1 c, .int .i64 0]) ∧ RI w' (In w5.heap.size w'.heap.size) A c [5] ∧ SrchR w' W4.heap.size (In (W4.heap.size + 2 + 2 + 1) w5.heap.size) [] ∧ BelowBut w5.heap.size W4.heap.size w5 w' :=
    next_any W4.heap.size _ [5] 3 w5 (hS.read (by simp)) (fun b hb => hb.2) (fun h => by have := h.1; omega) (by omega)
  have Hnx := Lib.hid hnx
  clear hnx hS
  go_wp2_with fail
  refine Hnx.out.mono ?_
  rintro e w6 ⟨A6, c6, rfl, hI6, hS6, hB6⟩
  obtain ⟨ad6, rfl, _, x6⟩ := hI6.at_ (i := 0) (by simp)
  simp [Addr.add] at x6
  have hB56 : BelowBut (s + 10) (s + 1) W4 w6 := hB5.trans ⟨hB6.os, hB6.tape, hB6.output, hB6.size, fun b hb _ => hB6.block b (by have := Hz4.out; omega) (by have := Hz4.out; omega)⟩
  have hA6 : RA w6 (fun b => b < s + 10 ∧ b ≠ s + 1) (some ⟨s, 0, none⟩) 1 [(2, [1])] := hA.keep fun p hp => hB56.cell hp.1 hp.2
  have hleft := left_any W4.heap.size _ [] w6 hS6
  have hseen := fun W h hP u => seen_any (fun b => b < s + 10 ∧ b ≠ s + 1) (some ⟨s, 0, none⟩) 1 [(2, [1])] u W h hP
  simp only [bg_flag2] at hseen
  have Hleft := Lib.hid hleft
  have Hseen := Lib.hid hseen
  have z6 := hB56.size
  have hw6 : Below w.heap.size w w6 := hw4.trans ⟨hB56.os, hB56.tape, hB56.output, hB56.size, fun b hb => hB56.block b (by omega) (by omega)⟩
  clear hleft hseen hA hI6 hS6 hB6 hB5 hnil
  go_wp2_with fail
  refine Hleft.out.mono ?_
  rintro e w' ⟨rfl, rfl⟩
  go_wp2_with fail
  refine (Hseen.out w6 hA6 (fun b hb => by have := Hz4.out; have := hb.1; omega) true).mono ?_
  rintro e w7 ⟨rfl, hB7⟩
  have hA7 := hA6.below hB7 fun b hb => by have := Hz4.out; have := hb.1; omega
  have z7 := hB7.size
  go_wp2_with fail
  refine (Hseen.out w7 hA7 (fun b hb => by have := Hz4.out; have := hb.1; omega) false).mono ?_
  rintro e w8 ⟨rfl, hB8⟩
  go_wp2
  go_ret
  exact ⟨by simp, (hw6.trans (hB7.mono hw6.size)).trans (hB8.mono (by have := hw6.size; omega))⟩
end Go.Proofs.Ytpikikaoelnheaa
