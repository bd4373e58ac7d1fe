/- find.Filter: an iterator over those that are seen and match. -/
import Derived.Test.YtpikikaoelnheaaFindIt
import Derived.Test.YtpikikaoelnheaaUp
import Derived.RangeFuncCalls
namespace Go.Proofs.Ytpikikaoelnheaa
open Go.RowKit Go.Shelf

attribute [local go_sem] Oper.semAt_some

/-! Numbers below n of which p holds -/
def selTo (p : Nat → Bool) (n : Nat) : List Nat := (List.range n).filter p
def sc (p : Nat → Bool) (n : Nat) : Nat := (selTo p n).length
section
variable {p : Nat → Bool}
theorem selTo_succ (p : Nat → Bool) (n : Nat) : selTo p (n + 1) = selTo p n ++ if p n then [n] else [] := by simp only [selTo, List.range_succ, List.filter_append, List.filter_cons, List.filter_nil]
theorem sc_yes {n : Nat} (h : p n = true) : sc p (n + 1) = sc p n + 1 := by simp [sc, selTo_succ, h]
theorem sc_no {n : Nat} (h : p n = false) : sc p (n + 1) = sc p n := by simp [sc, selTo_succ, h]
theorem selTo_pre {n m : Nat} (h : n ≤ m) : ∃ l, selTo p m = selTo p n ++ l := by
  induction m with
  | zero => obtain rfl : n = 0 := by omega
            exact ⟨[], by simp⟩
  | succ m ih =>
    rcases Nat.lt_or_ge m n with h1 | h1
    · obtain rfl : n = m + 1 := by omega
      exact ⟨[], by simp⟩
    · obtain ⟨l, hl⟩ := ih h1
      rw [selTo_succ, hl, List.append_assoc]
      exact ⟨_, rfl⟩
theorem sc_mono {m n : Nat} (h : m ≤ n) : sc p m ≤ sc p n := by
  obtain ⟨l, hl⟩ := selTo_pre (p := p) h
  rw [sc, sc, hl]; simp
theorem sel_at {N t : Nat} (h : p t = true) (ht : t < N) : (selTo p N).getD (sc p t) 0 = t := by
  obtain ⟨l, hl⟩ := selTo_pre (p := p) (show t + 1 ≤ N by omega)
  rw [selTo_succ p t, if_pos h] at hl
  rw [hl, sc, List.getD_eq_getElem?_getD]
  simp
theorem sc_lt {N t : Nat} (h : p t = true) (ht : t < N) : sc p t < sc p N := by
  have h1 := sc_yes h
  have h2 := sc_mono (p := p) (show t + 1 ≤ N by omega)
  omega
theorem sc_zero (p : Nat → Bool) : sc p 0 = 0 := by simp [sc, selTo]
end
/-- How many were counted when the j-th hit had come. -/
def atHit (p : Nat → Bool) (N j : Nat) : Nat := if j = 0 then 0 else (selTo p N).getD (j - 1) 0 + 1
/-- How many are counted when the j-th hit is about to come, or none does. -/
def toHit (p : Nat → Bool) (N j : Nat) : Nat := if j < sc p N then (selTo p N).getD j 0 + 1 else N

/-- Of what lay, cells lie as they lay but for block cb, and all does below B. -/
structure Loose (cb B : Nat) (W W' : World) : Prop where
  os : W'.os = W.os
  tape : W'.tape = W.tape
  output : W'.output = W.output
  size : W.heap.size ≤ W'.heap.size
  same : ∀ (b : Nat) (o : Obj), W.heap[b]? = some o → b ≠ cb → (b < B ∨ o.isCells = true) → W'.heap[b]? = some o
theorem Loose.refl (cb B : Nat) (W : World) : Loose cb B W W := ⟨rfl, rfl, rfl, Nat.le_refl _, fun _ _ h _ _ => h⟩
theorem Loose.trans {cb B : Nat} {a b c : World} (h : Loose cb B a b) (k : Loose cb B b c) : Loose cb B a c :=
  ⟨k.os.trans h.os, k.tape.trans h.tape, k.output.trans h.output, Nat.le_trans h.size k.size, fun i o hi hn hc => k.same i o (h.same i o hi hn hc) hn hc⟩
theorem Loose.of_below {cb B : Nat} {W W' : World} (h : Below W.heap.size W W') : Loose cb B W W' :=
  ⟨h.os, h.tape, h.output, h.size, fun b _ hb _ _ => (h.block b (blk_lt hb)).trans hb⟩
theorem Loose.set (cb B : Nat) (W : World) (v : Value) : Loose cb B W (W.setCell ⟨cb, 0, none⟩ v) :=
  ⟨rfl, rfl, rfl, by simp [World.setCell], fun b _ hb hn _ => (Below.heap_setCell _ _ _ _ (by exact hn)).trans hb⟩
theorem Loose.turn {cb B : Nat} {W W' : World} {row : Option Nat} (hg : W.grownBy W' row) (hr : ∀ r, row = some r → B ≤ r ∧ ∃ o : Obj, W.heap[r]? = some o ∧ o.isCells = false) : Loose cb B W W' :=
  ⟨hg.os, hg.tape, hg.output, hg.size, fun b o hb _ hc => by
    refine (hg.block b (blk_lt hb) fun e => ?_).trans hb
    obtain ⟨h1, o', h2, h3⟩ := hr b e.symm
    rw [hb] at h2
    cases h2
    rcases hc with hc | hc
    · omega
    · rw [hc] at h3; cases h3⟩
/-- What Filter's own doing is: it goes on over some objects. -/
def THit (cb : Nat) (p : Nat → Bool) (N B j : Nat) (W W' : World) : Prop := Loose cb B W W' ∧ Counted cb (atHit p N j) W ∧ Counted cb (toHit p N j) W'
theorem thit_keeps (cb : Nat) (p : Nat → Bool) (N : Nat) : ∀ B k W1 W2, THit cb p N B k W1 W2 → W1.heap.size ≤ W2.heap.size ∧ ∀ b o, b < B → W1.heap[b]? = some o → o.isCells = false → W2.heap[b]? = some o := fun B k W1 W2 h =>
  ⟨h.1.size, fun b o hb ho hc => h.1.same b o ho (fun e => by subst e; have := h.2.1; unfold Counted at this; rw [this] at ho; cases ho; cases hc) (.inl hb)⟩
theorem tcount_keeps (cb N : Nat) : ∀ B k W1 W2, TCount cb N B k W1 W2 → W1.heap.size ≤ W2.heap.size ∧ ∀ b o, b < B → W1.heap[b]? = some o → o.isCells = false → W2.heap[b]? = some o := fun B k W1 W2 ⟨hz, h1, h2⟩ => by
  by_cases hk : k < N
  · rw [h1 hk]
    refine ⟨by simp [World.setCell], fun b o _ ho hc => (Below.heap_setCell _ _ _ _ (fun e => ?_)).trans ho⟩
    have e' : b = cb := e
    subst e'
    unfold Counted at hz
    rw [hz] at ho
    cases ho
    cases hc
  · rw [h2 hk]
    exact ⟨Nat.le_refl _, fun _ _ _ ho _ => ho⟩

set_option maxRecDepth 100000 in
set_option maxHeartbeats 1000000 in
theorem filter_fn (g : Nat) (lb : Array Value) (A : Option Addr) (c n : Nat) (u : Bool) (w : World) :
    Calls Try.prog 16 #[Value.func (.func g) #[] lb, .slice A n c, .bool u] w fun e w' => e = .returned (.func (.func 47) #[] #[.pointer (some ⟨w.heap.size, 0, none⟩), .pointer (some ⟨w.heap.size + 1 + 1, 0, none⟩), .pointer (some ⟨w.heap.size + 1, 0, none⟩)]) ∧
      w' = ((w.alloc (.cells #[Value.func (.func g) #[] lb] 34)).alloc (.cells #[.slice A n c] 24)).alloc (.cells #[.bool u] 4) := by
  go_enter Try.func16, Try.ntmps16
  go_wp2
  go_ret
  exact ⟨rfl, rfl⟩
set_option maxRecDepth 100000 in
set_option maxHeartbeats 1000000 in
theorem filter_none (A : Option Addr) (c n : Nat) (u : Bool) (w : World) :
    Calls Try.prog 16 #[Value.nilFunc, .slice A n c, .bool u] w fun e w' => e = .returned (.func (.func 47) #[] #[.pointer (some ⟨w.heap.size, 0, none⟩), .pointer (some ⟨w.heap.size + 1 + 1, 0, none⟩), .pointer (some ⟨w.heap.size + 1, 0, none⟩)]) ∧
      w' = ((w.alloc (.cells #[Value.nilFunc] 34)).alloc (.cells #[.slice A n c] 24)).alloc (.cells #[.bool u] 4) := by
  go_enter Try.func16, Try.ntmps16
  go_wp2
  go_ret
  exact ⟨rfl, rfl⟩

/-- An object is a hit. -/
def hitOf (u : Bool) (t : List (Int × List Nat)) (ls : List (List (Int × List Nat))) (i : Nat) : Bool := (u || !flagOf (ls.getD i []) 2) && matchOf (ls.getD i []) t
theorem eqlSeq2 (w : World) (f : Fn) (a b : Array Value) : (binOp .eql 34 (.func f a b) .nilFunc).run Try.prog w = .ok (.bool false) w := by kernel_rfl
theorem eqlSeq2n (w : World) : (binOp .eql 34 .nilFunc .nilFunc).run Try.prog w = .ok (.bool true) w := by kernel_rfl

set_option maxRecDepth 100000 in
set_option maxHeartbeats 1000000 in
theorem filter_nil_seq (Bf : Nat) (w : World) (hBf : Bf < w.heap.size) (h1 : w.cell? ⟨Bf, 0, none⟩ = some .nilFunc) (xs : Nat → Array Value) (Kp : World → World → Prop) :
    SeqAt Try.prog 47 #[.pointer (some ⟨Bf, 0, none⟩), .pointer (some ⟨Bf + 1 + 1, 0, none⟩), .pointer (some ⟨Bf + 1, 0, none⟩)] xs NoNeed TPlain Kp 1 0 true w := by
  intro n l' J J' Jx W _ hW _ hOJ _ _ _ hT _ hY h0
  have k1 := (hW.cell (p := ⟨Bf, 0, none⟩) hBf).trans h1
  have hj := hT 0 W _ (Nat.le_refl _) h0 (World.grownBy_alloc W (.cells #[.func (.yield l') #[] #[]] 55) none)
  have hn := eqlSeq2n
  replace k1 := (World.cell?_alloc_lt W (.cells #[.func (.yield l') #[] #[]] 55) ⟨Bf, 0, none⟩ (Nat.lt_of_lt_of_le hBf hW.size)).trans k1
  clear hT hY h0 h1 hOJ
  refine callsIn_of_wp Try.func47 rfl trivial ?_ rfl
  simp only [Try.ntmps47, List.size_toArray, List.length_cons, List.length_nil, Nat.reduceAdd, Nat.reduceSub, Array.replicate_succ, Array.replicate_zero, List.push_toArray, List.append_toArray, List.nil_append, List.cons_append]
  gi_wp2
  refine bodyPost_ret (v := .tuple #[]) ?_ ?_ ⟨⟨_, rfl⟩, .inl hj⟩
  · exact results_none rfl _ _ _
  · rfl

set_option maxRecDepth 100000 in
set_option maxHeartbeats 4000000 in
theorem filter_seq (Bf n₀ cb gf : Nat) (lb : Array Value) (P P' : Nat → Prop) (A A' : Option Addr) (c c' : Nat) (u : Bool) (t : List (Int × List Nat)) (hs : List Int) (ls : List (List (Int × List Nat))) (cs : List Value) (w : World)
    (hP : ∀ b, P b → b < n₀) (hPc : ¬ P cb) (hP' : ∀ b, P' b → b < n₀) (hPc' : ¬ P' cb) (hBf : Bf + 1 + 1 < n₀) (hcb : cb < Bf) (hn₀ : n₀ ≤ w.heap.size)
    (h1 : w.cell? ⟨Bf, 0, none⟩ = some (.func (.func gf) #[] lb)) (h2 : w.cell? ⟨Bf + 1, 0, none⟩ = some (.slice A' t.length c')) (h3 : w.cell? ⟨Bf + 1 + 1, 0, none⟩ = some (.bool u))
    (hR : RAA w P A c ls cs) (hR' : RA w P' A' c' t) (eg : ∀ args w, (callFunc gf args).run Try.prog w = .ok (.enter gf args) w)
    (hin : ∀ w', Below w.heap.size w w' → SeqAt Try.prog gf lb (fun k => #[.int .i64 (hs.getD k 0), cs.getD k undef]) (Counted cb) (TCount cb (min hs.length ls.length)) (BelowBut n₀ cb) 0 (min hs.length ls.length) true w') :
    SeqAt Try.prog 47 #[.pointer (some ⟨Bf, 0, none⟩), .pointer (some ⟨Bf + 1 + 1, 0, none⟩), .pointer (some ⟨Bf + 1, 0, none⟩)]
      (fun j => #[.int .i64 (hs.getD ((selTo (hitOf u t ls) (min hs.length ls.length)).getD j 0) 0)]) (fun j => Counted cb (atHit (hitOf u t ls) (min hs.length ls.length) j))
      (THit cb (hitOf u t ls) (min hs.length ls.length)) (BelowBut n₀ cb) 1 (sc (hitOf u t ls) (min hs.length ls.length)) true w := by
  intro n l' J J' Jx W hn hW hl' hOJ hOJ' hOx hNd hT _ hY h0
  have k1 := (hW.cell (p := ⟨Bf, 0, none⟩) (by show Bf < _; omega)).trans h1
  have k2 := (hW.cell (p := ⟨Bf + 1, 0, none⟩) (by show Bf + 1 < _; omega)).trans h2
  have k3 := (hW.cell (p := ⟨Bf + 1 + 1, 0, none⟩) (by show Bf + 1 + 1 < _; omega)).trans h3
  have r1 := hR.below hW fun b hb => Nat.lt_of_lt_of_le (hP b hb) hn₀
  have r2 := hR'.below hW fun b hb => Nat.lt_of_lt_of_le (hP' b hb) hn₀
  have hin' := hin (W.alloc (.cells #[.func (.yield l') #[] #[]] 55)) (hW.alloc hW.size _)
  have hWs := hW.size
  obtain ⟨N, hN⟩ : ∃ N, min hs.length ls.length = N := ⟨_, rfl⟩
  have hN2 : N ≤ ls.length := by omega
  rw [hN] at hT hY hNd hin' ⊢
  obtain ⟨p, hp⟩ : ∃ p, hitOf u t ls = p := ⟨_, rfl⟩
  have hpi := fun i => congrFun hp i
  rw [hp] at hT hY hNd ⊢
  have Hp := Lib.hid hpi
  have HT := Lib.hid hT
  have HY := Lib.hid hY
  have HNd := Lib.hid hNd
  have HO := Lib.hid hOJ
  have HO' := Lib.hid hOJ'
  have HOx := Lib.hid hOx
  have Hin := Lib.hid hin'
  have hnil := fun w => eqlSeq2 w (.func gf) #[] lb
  replace k1 := (World.cell?_alloc_lt W (.cells #[.func (.yield l') #[] #[]] 55) ⟨Bf, 0, none⟩ (by show Bf < _; omega)).trans k1
  replace k2 := (World.cell?_alloc_lt W (.cells #[.func (.yield l') #[] #[]] 55) ⟨Bf + 1, 0, none⟩ (by show Bf + 1 < _; omega)).trans k2
  replace k3 := (World.cell?_alloc_lt W (.cells #[.func (.yield l') #[] #[]] 55) ⟨Bf + 1 + 1, 0, none⟩ (by show Bf + 1 + 1 < _; omega)).trans k3
  have hAl : Below W.heap.size W (W.alloc (.cells #[.func (.yield l') #[] #[]] 55)) := (Below.refl _ W).alloc (Nat.le_refl _) _
  replace r1 := r1.below hAl fun b hb => by have := hP b hb; omega
  replace r2 := r2.below hAl fun b hb => by have := hP' b hb; omega
  have ky := heap_alloc_new W (.cells #[.func (.yield l') #[] #[]] 55)
  have h0' := HO.out 0 W _ none h0 (World.grownBy_alloc W (.cells #[.func (.yield l') #[] #[]] 55) none) (fun r e => by cases e)
  clear hT hY hNd hN hR hR' h1 h2 h3 hOJ hOJ' hOx hin hin' hp hpi h0
  have hy0 : (W.alloc (.cells #[.func (.yield l') #[] #[]] 55)).heap.size = W.heap.size + 1 := by simp
  refine callsIn_wide.2 ((callsIn_wide (n := n + 2)).1 ?_)
  refine callsIn_of_wp_marks Try.func47 rfl trivial ?_ rfl
  simp only [Try.ntmps47, List.size_toArray, List.length_cons, List.length_nil, Nat.reduceAdd, Nat.reduceSub, Array.replicate_succ, Array.replicate_zero, List.push_toArray, List.append_toArray, List.nil_append, List.cons_append]
  gi_wp2
  obtain ⟨B, hB⟩ : ∃ B, W.heap.size = B := ⟨_, rfl⟩
  have HB := Lib.hid hB
  rw [hB] at hy0 ky hAl HT HY hWs hl' HO HO' HOx ⊢
  generalize W.alloc (.cells #[.func (.yield l') #[] #[]] 55) = W1 at *
  have Hy0 := Lib.hid hy0
  have zB : n₀ ≤ B := by omega
  clear hy0 hB
  have hInv : ∀ q : Nat → Nat, OwnFrom W1.heap.size (fun (i : Nat) X => (∃ W0, J (sc p i) W0 ∧ Loose cb B W0 X ∧ Counted cb (atHit p N (sc p i)) W0) ∧ Counted cb (q i) X ∧ BelowBut n₀ cb W1 X ∧ X.heap[B]? = some (.cells #[.func (.yield l') #[] #[]] 55 (0, 0))) := by
    rintro q i X X' row ⟨⟨W0, a1, a2, a3⟩, a4, a5, a6⟩ hg hr
    have hr' := fun r e => (hr r e).2
    refine ⟨⟨W0, a1, a2.trans (Loose.turn hg fun r e => ⟨by have := (hr r e).1; rw [Hy0.out] at this; omega, hr' r e⟩), a3⟩, (grownBy_keeps_cells hg hr' a4 rfl).trans a4, ?_, (grownBy_keeps_cells hg hr' a6 rfl).trans a6⟩
    refine a5.trans ⟨hg.os, hg.tape, hg.output, hg.size, fun b hb _ => hg.block b ?_ fun e => ?_⟩
    · have := a5.size; rw [Hy0.out] at this; omega
    · have := (hr b e.symm).1; rw [Hy0.out] at this; omega
  have HInv := Lib.hid hInv
  clear hInv
  have zcb : cb ≠ B := by omega
  refine' wpIn_iter (by omega) (gf := gf) (lb := lb) rfl eg
    Hin.out (fun h k => BelowBut.trans h k) (fun X l o o' hl ho _ _ => ?hKb) (tcount_keeps cb N) (Below.refl _ _) (fun _ => rfl)
    (fun i X => (∃ W0, J (sc p i) W0 ∧ Loose cb B W0 X ∧ Counted cb (atHit p N (sc p i)) W0) ∧ Counted cb i X ∧ BelowBut n₀ cb W1 X ∧ X.heap[B]? = some (.cells #[.func (.yield l') #[] #[]] 55 (0, 0)))
    (fun i X => (∃ W0, J (sc p i) W0 ∧ Loose cb B W0 X ∧ Counted cb (atHit p N (sc p i)) W0) ∧ Counted cb (if i < N then i + 1 else N) X ∧ BelowBut n₀ cb W1 X ∧ X.heap[B]? = some (.cells #[.func (.yield l') #[] #[]] 55 (0, 0)))
    (fun c _ X => c = .ret ∧ ∃ j, 0 < j ∧ j ≤ sc p N ∧ Jx j X)
    (HInv.out fun i => i) (HInv.out fun i => if i < N then i + 1 else N) ?hIx (fun k X _ h => h.2.1) ?hIT (fun h => by cases h) ?h0 _ ?assign ?body ?done ?stop
  case hKb => exact ⟨rfl, rfl, rfl, by simp, fun b hb _ => World.putObj_heap_other (by have := Hy0.out; omega)⟩
  case hIx =>
    intro c s X X' row hs hg hr
    obtain ⟨h1, j, h2, h3, h4⟩ := hs
    exact ⟨h1, j, h2, h3, ownFrom_mono HOx.out (by rw [Hy0.out]; omega) j X X' row h4 hg hr⟩
  case hIT =>
    rintro C i X X' _ hi ⟨⟨W0, a1, a2, a3⟩, a4, a5, a6⟩ ht
    by_cases hlt : i < N
    · rw [if_pos hlt, ht.2.1 hlt]
      exact ⟨⟨W0, a1, a2.trans (Loose.set _ _ _ _), a3⟩, by have := blk_set a4 0 (.int .i64 ((i : Int) + 1)); unfold Counted; rw [this]; simp, a5.set _, (Below.heap_setCell _ _ _ _ (by exact Ne.symm zcb)).trans a6⟩
    · have hiN : i = N := by omega
      rw [if_neg hlt, ht.2.2 hlt]
      exact ⟨⟨W0, a1, a2, a3⟩, hiN ▸ a4, a5, a6⟩
  case h0 =>
    refine ⟨⟨W1, by rw [sc_zero]; exact h0', Loose.refl _ _ _, by rw [sc_zero]; exact HNd.out 0 W1 (by omega) h0'⟩, ?_, BelowBut.refl _ _ _, ky⟩
    have := HNd.out 0 W1 (by omega) h0'
    simpa [atHit] using this
  case assign =>
    intro l k X K hK
    gi_wp2
    exact hK
  case body =>
    rintro l i X ⟨⟨W0, a1, a2, a3⟩, a4, a5, a6⟩ hlt _
    rw [if_pos hlt] at a4
    obtain ⟨ad, Ao, co, _, _, _, hcs, ro⟩ := (r1.keep fun q hq => a5.cell (by have := hP _ hq; omega) (fun e => hPc (e ▸ hq))).at_ (show i < ls.length by omega)
    have rt := r2.keep (w' := X) fun q hq => a5.cell (by have := hP' _ hq; omega) (fun e => hPc' (e ▸ hq))
    have q2 := (a5.cell (p := ⟨Bf + 1, 0, none⟩) (by show Bf + 1 < _; omega) (by show Bf + 1 ≠ _; omega)).trans k2
    have q3 := (a5.cell (p := ⟨Bf + 1 + 1, 0, none⟩) (by show Bf + 1 + 1 < _; omega) (by show Bf + 1 + 1 ≠ _; omega)).trans k3
    have zX := a5.size
    rw [Hy0.out] at zX
    have hpi := Hp.out i
    have hi2 : i < ls.length := by omega
    rw [hitOf, List.getD_eq_getElem?_getD, List.getElem?_eq_getElem hi2, Option.getD_some] at hpi
    rw [List.getD_eq_getElem?_getD] at hcs
    rw [hcs]
    obtain ⟨ob, hob⟩ : ∃ ob, ls[i] = ob := ⟨_, rfl⟩
    rw [hob] at ro hpi ⊢
    have hseen := fun W h h' => seen_any P Ao co ob u W h h'
    have hmatch := fun W h h' h1 h2 => match_any P P' Ao A' co c' ob t W h h' h1 h2
    have Hseen := Lib.hid hseen
    have Hmatch := Lib.hid hmatch
    have Hpi := Lib.hid hpi
    have zP : ∀ b, P b → b < X.heap.size := fun b hb => by have := hP b hb; omega
    have zP' : ∀ b, P' b → b < X.heap.size := fun b hb => by have := hP' b hb; omega
    have zS : W1.heap.size ≤ X.heap.size := a5.size
    have q4 := blk_cell a6 0
    simp only [List.getElem?_toArray, List.getElem?_cons_zero] at q4
    -- what a round keeps that makes memory at most
    have keeps : ∀ X', Below X.heap.size X X' → p i = false → iterPost W1.heap.size 0 (BelowBut n₀ cb)
        (fun i X => (∃ W0, J (sc p i) W0 ∧ Loose cb B W0 X ∧ Counted cb (atHit p N (sc p i)) W0) ∧ Counted cb i X ∧ BelowBut n₀ cb W1 X ∧ X.heap[B]? = some (.cells #[.func (.yield l') #[] #[]] 55 (0, 0)))
        (fun c _ X => c = .ret ∧ ∃ j, 0 < j ∧ j ≤ sc p N ∧ Jx j X) (i + 1) X .normal ⟨#[], []⟩ X' := by
      intro X' hB' hno
      rw [iterPost, sc_no hno]
      exact ⟨Keeps.below hB' (Nat.le_refl _), below_but (hB'.mono (by omega)) cb, ⟨W0, a1, a2.trans (Loose.of_below hB'), a3⟩, (hB'.block _ (blk_lt a4)).trans a4, a5.trans (below_but (hB'.mono (by omega)) cb), (hB'.block _ (blk_lt a6)).trans a6⟩
    have KeepIt := Lib.hid keeps
    have A4 := Lib.hid a4
    have A6 := Lib.hid a6
    clear hpi hseen hmatch hob hcs keeps a4 a6 r1 r2
    gi_wp2
    refine ⟨trivial, (callsIn_wide.2 (Hseen.out X ro zP)).mono ?_⟩
    rintro e X1 ⟨rfl, hB1⟩
    have q21 := (hB1.cell (p := ⟨Bf + 1, 0, none⟩) (by show Bf + 1 < _; omega)).trans q2
    have q41 := (hB1.cell (p := ⟨B, 0, none⟩) (blk_lt A6.out)).trans q4
    cases hs1 : (u || !flagOf ob 2)
    · rw [hs1] at Hpi
      have hno : p i = false := by rw [← Hpi.out]; rfl
      have Hno := Lib.hid hno
      have Hs1 := Lib.hid hs1
      clear hno hs1 Hseen Hmatch
      gi_wp2
      refine ⟨trivial, ?_⟩
      gi_wp2
      refine ⟨fun _ _ => trivial, ?_⟩
      gi_wp2
      exact KeepIt.out X1 hB1 Hno.out
    · rw [hs1] at Hpi
      have Hs1 := Lib.hid hs1
      have zX1 := hB1.size
      have hmt := Lib.hid (Hmatch.out X1 (ro.below hB1 zP) (fun b hb => Nat.lt_of_lt_of_le (zP b hb) zX1) (rt.below hB1 zP') (fun b hb => Nat.lt_of_lt_of_le (zP' b hb) zX1))
      clear hs1 Hseen Hmatch
      gi_wp2
      refine ⟨trivial, (callsIn_wide.2 hmt.out).mono ?_⟩
      rintro e X2 ⟨rfl, hB2⟩
      have hB12 := hB1.trans (hB2.mono zX1)
      have q42 := (hB12.cell (p := ⟨B, 0, none⟩) (blk_lt A6.out)).trans q4
      cases hs2 : matchOf ob t
      · rw [hs2] at Hpi
        have hno : p i = false := by rw [← Hpi.out]; rfl
        have Hno := Lib.hid hno
        clear hno hs2 hmt
        gi_wp2
        refine ⟨fun _ _ => trivial, ?_⟩
        gi_wp2
        exact KeepIt.out X2 hB12 Hno.out
      · rw [hs2] at Hpi
        have hyes : p i = true := by rw [← Hpi.out]; rfl
        have hto : toHit p N (sc p i) = i + 1 := by rw [toHit, if_pos (sc_lt hyes hlt), sel_at hyes hlt]
        have hj := HT.out (sc p i) W0 X2 (Nat.le_of_lt (sc_lt hyes hlt)) a1 ⟨a2.trans (Loose.of_below hB12), a3, by rw [hto]; exact (hB12.block _ (blk_lt A4.out)).trans A4.out⟩
        obtain ⟨fn, tmps, assign, body, hy, hRo⟩ := HY.out (sc p i) X2 hj (sc_lt hyes hlt) (by have := hB12.size; omega)
        rw [sel_at hyes hlt, List.getD_eq_getElem?_getD] at hy
        have hRo' := roundIn_any (l' := l) (m := n + 2 - 1 - 1 - 1) hRo
        have hat : atHit p N (sc p (i + 1)) = i + 1 := by rw [sc_yes hyes, atHit, if_neg (by omega), Nat.add_sub_cancel, sel_at hyes hlt]
        have HRo := Lib.hid hRo'
        have Hyes := Lib.hid hyes
        have Hat := Lib.hid hat
        generalize hs[i]?.getD 0 = x at *
        clear hs2 hmt hyes hto hj hRo hRo' hat
        gi_wp2
        refine HRo.out.mono ?_
        rintro e X3 (⟨rfl, hJ3, hk3, hf3⟩ | ⟨rfl, hJx3, hf3⟩)
        · gi_wp2
          have hcn := HNd.out (sc p i + 1) X3 (by have := sc_lt Hyes.out hlt; omega) hJ3
          have hcn' := hcn
          rw [← sc_yes Hyes.out] at hcn'
          rw [← sc_yes Hyes.out, Hat.out] at hcn
          have zX12 := hB12.size
          exact ⟨(Keeps.below hB12 (Nat.le_refl _)).trans (hf3.none.mono (by rw [Hy0.out]; omega) (Nat.le_refl _) (Nat.le_refl _)), (below_but (hB12.mono (by omega)) cb).trans hk3, ⟨X3, by rw [sc_yes Hyes.out]; exact hJ3, Loose.refl _ _ _, hcn'⟩, hcn,
            (a5.trans (below_but (hB12.mono (by omega)) cb)).trans hk3, (hf3.cells B (Nat.le_refl _) (by omega) (by have := blk_lt A6.out; omega)).trans ((hB12.block _ (blk_lt A6.out)).trans A6.out)⟩
        · gi_wp2
          exact ⟨(Keeps.below hB12 (Nat.le_refl _)).trans (hf3.none.mono (by rw [Hy0.out]; omega) (Nat.le_refl _) (Nat.le_refl _)), rfl, sc p i + 1, by omega, sc_lt Hyes.out hlt, hJx3⟩
  case done =>
    rintro D X hD ⟨⟨W0, a1, a2, a3⟩, a4, a5, a6⟩ hK
    rw [if_neg (Nat.lt_irrefl _)] at a4
    have hj := HT.out (sc p N) W0 X (Nat.le_refl _) a1 ⟨a2, a3, by rw [toHit, if_neg (Nat.lt_irrefl _)]; exact a4⟩
    have hj' := HO'.out _ X _ (some D) hj (grownBy_putObj' X D (.deferred none)) (fun r e => by cases e; exact ⟨by have := Hy0.out; omega, _, hK, rfl⟩)
    clear hj a1 a2 a3 a4 a5 a6 r1 r2
    gi_wp2
    exact ⟨by simp, .inl ⟨_, _, rfl, run_takeDeferred hK, _, results_none rfl _ _ _, ⟨_, rfl⟩, .inl hj'⟩⟩
  case stop =>
    rintro D c k X hD _ _ ⟨rfl, j, hj0, hj1, hj⟩ hK
    have hj' := HOx.out j X _ (some D) hj (grownBy_putObj' X D (.deferred none)) (fun r e => by cases e; exact ⟨by have := Hy0.out; omega, _, hK, rfl⟩)
    clear hj r1 r2
    gi_wp2
    exact ⟨by simp, .inl ⟨_, _, rfl, run_takeDeferred hK, _, results_none rfl _ _ _, ⟨_, rfl⟩, .inr ⟨j, hj0, hj1, hj'⟩⟩⟩
end Go.Proofs.Ytpikikaoelnheaa
