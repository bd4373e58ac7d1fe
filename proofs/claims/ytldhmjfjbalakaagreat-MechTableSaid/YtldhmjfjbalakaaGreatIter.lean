/- A range over an iterator that hands over a known row of values: what the iterator owes, what the statement gives. Nothing here speaks of the program. -/
import Derived.RangeFuncFrom
import Derived.RangeFuncLeaves
import Derived.OwnWalkIn
import Derived.Deep.Draws
namespace Go.Proofs.YtldhmjfjbalakaaGreat
open Go.RowKit

/-- What is no cells and lies from block B on, and the m blocks from C on, lie as they lay. -/
structure Keeps (B C m : Nat) (W W' : World) : Prop where
  size : W.heap.size ≤ W'.heap.size
  others : ∀ (k : Nat) (o : Obj), B ≤ k → W.heap[k]? = some o → o.isCells = false → W'.heap[k]? = some o
  cells : ∀ k, C ≤ k → k < C + m → k < W.heap.size → W'.heap[k]? = W.heap[k]?
theorem Keeps.refl (B C m : Nat) (W : World) : Keeps B C m W W := ⟨Nat.le_refl _, fun _ _ _ h _ => h, fun _ _ _ _ => rfl⟩
theorem Keeps.trans {B C m : Nat} {W W' W'' : World} (h : Keeps B C m W W') (k : Keeps B C m W' W'') : Keeps B C m W W'' :=
  ⟨Nat.le_trans h.size k.size, fun i o hb hi ho => k.others i o hb (h.others i o hb hi ho) ho, fun i hc hm hi => (k.cells i hc hm (Nat.lt_of_lt_of_le hi h.size)).trans (h.cells i hc hm hi)⟩
theorem Keeps.mono {B B' C C' m m' : Nat} {W W' : World} (h : Keeps B C m W W') (hB : B ≤ B') (hC : C ≤ C') (hm : C' + m' ≤ C + m) : Keeps B' C' m' W W' :=
  ⟨h.size, fun k o hb => h.others k o (Nat.le_trans hB hb), fun k hc hk => h.cells k (Nat.le_trans hC hc) (Nat.lt_of_lt_of_le hk hm)⟩
theorem Keeps.none {B C C' m : Nat} {W W' : World} (h : Keeps B C m W W') : Keeps B C' 0 W W' := ⟨h.size, h.others, fun k h1 h2 => absurd h2 (by omega)⟩
theorem Keeps.setCell (B C m : Nat) (W : World) {a : Addr} (ha : a.block < C ∨ C + m ≤ a.block) (v : Value) : Keeps B C m W (W.setCell a v) :=
  ⟨(KeepsOthers.setCell W a v).size, fun k o _ => (KeepsOthers.setCell W a v).same k o, fun k h1 h2 _ => Below.heap_setCell W a v k (by omega)⟩
theorem Keeps.alloc (B C m : Nat) (W : World) (o : Obj) : Keeps B C m W (W.alloc o) := ⟨by simp, fun k o' _ => (KeepsOthers.alloc W o).same k o', fun k _ _ hk => Below.heap_alloc W o k hk⟩
theorem Keeps.drew (B C m : Nat) (W : World) : Keeps B C m W W.drew := ⟨Nat.le_refl _, fun _ _ _ h _ => h, fun _ _ _ _ => rfl⟩
theorem Keeps.drewN (B C m : Nat) (W : World) (n : Nat) : Keeps B C m W (W.drewN n) := ⟨Nat.le_refl _, fun _ _ _ h _ => h, fun _ _ _ _ => rfl⟩
theorem Keeps.below {B C m D : Nat} {W W' : World} (h : Below D W W') (hD : W.heap.size ≤ D) : Keeps B C m W W' :=
  ⟨h.size, fun k _ _ hk _ => (h.block k (Nat.lt_of_lt_of_le (Array.getElem?_eq_some_iff.1 hk).1 hD)).trans hk, fun k _ _ hk => h.block k (Nat.lt_of_lt_of_le hk hD)⟩
theorem Keeps.putObj {B C m : Nat} {W : World} {l : Nat} {o : Obj} (hl : l < B) (hC : l < C) : Keeps B C m W (W.putObj l o) :=
  ⟨by simp, fun k _ hb hk _ => (World.putObj_heap_other (by omega)).trans hk, fun k hc _ _ => World.putObj_heap_other (by omega)⟩

/-- An iterator that hands over xs 0, xs 1 and so on, N of them; before the k-th, and behind the last, it may do T to the world (B: how many blocks there were when it began).
    Between two rounds the caller holds J, at a round's head J', where a round has left Jx. Nd: what the iterator needs of the world then. Kp: what a round that goes on must keep; m: how many blocks, the first that it lays, are the iterator's own. 'fin' false: it has no end of its own before N. -/
def SeqAt (P : Program) (g : Nat) (lb : Array Value) (xs : Nat → Array Value) (Nd : Nat → World → Prop) (T : Nat → Nat → World → World → Prop) (Kp : World → World → Prop) (m N : Nat) (fin : Bool) (w : World) : Prop :=
  ∀ (n l : Nat) (J J' Jx : Nat → World → Prop) (W : World), 1 ≤ n → Below w.heap.size w W → l < W.heap.size → OwnFrom W.heap.size J → OwnFrom W.heap.size J' → OwnFrom W.heap.size Jx →
    (∀ k W1, k ≤ N → J k W1 → Nd k W1) → (∀ k W1 W2, k ≤ N → J k W1 → T W.heap.size k W1 W2 → J' k W2) → (fin = false → ∀ W', ¬ J' N W') →
    (∀ k W1, J' k W1 → k < N → W.heap.size + m ≤ W1.heap.size → YieldAt Fence.wide (n - 1) P l (xs k) W1 fun e W' =>
      (e = .returned (.bool true) ∧ J (k + 1) W' ∧ Kp W1 W' ∧ Keeps W.heap.size W.heap.size m W1 W') ∨ (e = .returned (.bool false) ∧ Jx (k + 1) W' ∧ Keeps W.heap.size W.heap.size m W1 W')) →
    J 0 W →
    CallsIn Fence.wide n P g (#[.func (.yield l) #[] #[]] ++ lb) W fun e W' => (∃ v, e = .returned v) ∧ (J' N W' ∨ ∃ k, 0 < k ∧ k ≤ N ∧ Jx k W')

/-- An iterator that needs nothing of its caller. -/
def NoNeed (_ : Nat) (_ : World) : Prop := True
/-- An iterator that of itself makes memory at most. -/
def TPlain (_B _k : Nat) (W W' : World) : Prop := W.grownBy W' none

/-- How the body of a round may be left. -/
def iterPost (B m : Nat) (Kp : World → World → Prop) (I : Nat → World → Prop) (Ix : Code → Nat → World → Prop) (k : Nat) (W : World) : Exit → Act → World → Prop
  | .normal, _, W' => Keeps B (B + 2) m W W' ∧ Kp W W' ∧ I k W'
  | .ret, _, W' => Keeps B (B + 2) m W W' ∧ Ix .ret k W'
  | .exit id, _, W' => Keeps B (B + 2) m W W' ∧ Ix (.exit id) k W'
  | .goto t, _, W' => Keeps B (B + 2) m W W' ∧ Ix (.goto t) k W'
  | .panic _, _, _ => False
  | .outgrown, _, _ => False

theorem ownFrom_mono {β : Type} {B C : Nat} {I : β → World → Prop} (h : OwnFrom B I) (hc : B ≤ C) : OwnFrom C I :=
  fun s W W' row hs hg hr => h s W W' row hs hg fun r e => ⟨Nat.le_trans hc (hr r e).1, (hr r e).2⟩
/-- The record of a loop that was laid before abides. -/
theorem ownFrom_block {β : Type} {B g : Nat} (o : Obj) (hg : g < B) : OwnFrom B (fun (_ : β) W => g < W.heap.size ∧ W.heap[g]? = some o) := fun _ W W' row hs hw hr =>
  ⟨Nat.lt_of_lt_of_le hs.1 hw.size, (hw.block g hs.1 fun e => by have := (hr g e.symm).1; omega).trans hs.2⟩

theorem wpIn_iter {n : Nat} {P : Program} {g : Operand} {ps : Array Tmp} {assign body : Code} {Q : Exit → Act → World → Prop} {a : Act} {w : World}
    (h2 : 2 ≤ n) {gf : Nat} {lb : Array Value} (hg : a.eval g = .func (.func gf) #[] lb) (eg : ∀ args w, (callFunc gf args).run P w = .ok (.enter gf args) w)
    {xs : Nat → Array Value} {Nd : Nat → World → Prop} {T : Nat → Nat → World → World → Prop} {Kp : World → World → Prop} {m N : Nat} {fin : Bool} {w0 : World} (hseq : SeqAt P gf lb xs Nd T Kp m N fin w0)
    (hKt : ∀ {A B C : World}, Kp A B → Kp B C → Kp A C) (hKb : ∀ (W : World) (l : Nat) (o o' : Obj), w.heap.size ≤ l → W.heap[l]? = some o → o.isCells = false → o.isWalk = false → Kp W (W.putObj l o'))
    (hT : ∀ B k W1 W2, T B k W1 W2 → W1.heap.size ≤ W2.heap.size ∧ ∀ b o, b < B → W1.heap[b]? = some o → o.isCells = false → W2.heap[b]? = some o)
    (hb0 : Below w0.heap.size w0 w) (hps : ∀ k, (xs k).size = ps.size)
    (I I' : Nat → World → Prop) (Ix : Code → Nat → World → Prop) (hI : OwnFrom w.heap.size I) (hI' : OwnFrom w.heap.size I') (hIx : ∀ c, OwnFrom w.heap.size (Ix c))
    (hNd : ∀ k W, k ≤ N → I k W → Nd k W) (hIT : ∀ B k W1 W2, w.heap.size ≤ B → k ≤ N → I k W1 → T B k W1 W2 → I' k W2) (hfin : fin = false → ∀ W', ¬ I' N W') (h0 : I 0 w) (a₁ : Nat → Act)
    (hassign : ∀ (l k : Nat) (W : World) (K : Act → World → Prop), K (a₁ k) W →
      assign.wpIn (Fence.wide.inRound l) (n - 1 - 1) P (Exit.then K (fun _ _ _ => False)) { tmps := (ps.zip (xs k)).foldl (fun t (p, v) => t.setIfInBounds p v) a.tmps, defers := [] } W)
    (hbody : ∀ (l k : Nat) (W : World), I' k W → k < N → w.heap.size + 2 + m ≤ W.heap.size → body.wpIn (Fence.wide.inRound l) (n - 1 - 1) P (iterPost w.heap.size m Kp I Ix (k + 1) W) (a₁ k) W)
    (hdone : ∀ (D : Nat) (W : World), w.heap.size ≤ D → I' N W → W.heap[D]? = some (.deferred (some [])) → Q .normal { a with defers := { target := .collected D, args := #[] } :: a.defers } W)
    (hstop : ∀ (D : Nat) (c : Code) (k : Nat) (W : World), w.heap.size ≤ D → 0 < k → k ≤ N → Ix c k W → W.heap[D]? = some (.deferred (some [])) → c.wpIn Fence.wide n P Q { a with defers := { target := .collected D, args := #[] } :: a.defers } W) :
    (Code.rangeFunc g ps assign body).wpIn Fence.wide n P Q a w := by
  refine wpIn_rangeFunc ?_
  intro fn hfn
  obtain ⟨rc, hrc⟩ : ∃ rc : LoopState → Option Code → Loop, rc = fun st pe => { state := st, pending := pe, fn, tmps := a.tmps, params := ps, assign, body, defers := w.heap.size } := ⟨_, rfl⟩
  obtain ⟨L, hL⟩ : ∃ L, w.heap.size + 1 = L := ⟨_, rfl⟩
  obtain ⟨D, hD⟩ : ∃ D, w.heap.size = D := ⟨_, rfl⟩
  obtain ⟨W1, hW1⟩ : ∃ W1, (w.alloc (.deferred (some []))).alloc (.loop (rc .ready none)) = W1 := ⟨_, rfl⟩
  have hz1 : W1.heap.size = D + 2 := by rw [← hW1, ← hD]; simp
  have hl1 : W1.heap[L]? = some (.loop (rc .ready none)) := by
    rw [← hW1, ← hL]; have := World.alloc_heap_new (w.alloc (.deferred (some []))) (.loop (rc .ready none)); rwa [World.size_alloc] at this
  have hd1 : W1.heap[D]? = some (.deferred (some [])) := by
    rw [← hW1, ← hD]; exact (Below.heap_alloc _ _ _ (by simp)).trans (World.alloc_heap_new w _)
  have hi1 : I 0 W1 := by rw [← hW1]; exact hI.alloc _ (hI.alloc _ h0)
  have hb1 : Below w0.heap.size w0 W1 := by rw [← hW1]; exact hb0.trans ((((Below.refl _ w).alloc (Nat.le_refl _) _).alloc (by simp) _).mono hb0.size)
  have hlD : L = D + 1 := by omega
  refine ⟨L, [{ target := .collected D, args := #[] }], W1, { target := .fn (.func gf) lb, args := #[.func (.yield L) #[] #[]] }, W1, gf,
    #[.func (.yield L) #[] #[]] ++ lb, W1, ?_, ?_, ?_, ?_, fun _ => by omega, ?_⟩
  · rw [← hW1, hrc, ← hL, ← hD]; exact run_enterLoop_outer _ _ _ _ _
  · simp only [resolve, hg]
    simp [go_sem]
  · exact fun _ _ => trivial
  · simp [invoke, go_sem, eg]
  -- the record's two blocks, beside what the caller holds
  have recs : ∀ (st : LoopState) (pe : Option Code), OwnFrom W1.heap.size (fun (_ : Nat) (W : World) => (L < W.heap.size ∧ W.heap[L]? = some (.loop (rc st pe))) ∧ D < W.heap.size ∧ W.heap[D]? = some (.deferred (some []))) := fun st pe =>
    OwnFrom.and (ownFrom_block _ (by omega)) (ownFrom_block _ (by omega))
  have lt : ∀ {W : World} {b : Nat} {o : Obj}, W.heap[b]? = some o → b < W.heap.size := fun h => (Array.getElem?_eq_some_iff.1 h).1
  refine (hseq (n - 1) L
    (fun k W => I k W ∧ (L < W.heap.size ∧ W.heap[L]? = some (.loop (rc .ready none))) ∧ D < W.heap.size ∧ W.heap[D]? = some (.deferred (some [])))
    (fun k W => I' k W ∧ (L < W.heap.size ∧ W.heap[L]? = some (.loop (rc .ready none))) ∧ D < W.heap.size ∧ W.heap[D]? = some (.deferred (some [])))
    (fun k W => ∃ c, Ix c k W ∧ (L < W.heap.size ∧ W.heap[L]? = some (.loop (rc .done (some c)))) ∧ D < W.heap.size ∧ W.heap[D]? = some (.deferred (some [])))
    W1 (by omega) hb1 (by omega) (OwnFrom.and (ownFrom_mono hI (by omega)) (recs _ _)) (OwnFrom.and (ownFrom_mono hI' (by omega)) (recs _ _))
    (fun k A B row hs hg' hr => by obtain ⟨c, hc, hr2⟩ := hs; exact ⟨c, ownFrom_mono (hIx c) (by omega) k A B row hc hg' hr, recs _ _ k A B row hr2 hg' hr⟩)
    (fun k A hk hs => hNd k A hk hs.1) ?_ (fun hf W' hs => hfin hf W' hs.1) ?_ ⟨hi1, ⟨lt hl1, hl1⟩, lt hd1, hd1⟩).mono ?_
  · rintro k A B hk ⟨hi, ⟨_, hl⟩, _, hd⟩ ht
    have hl' := (hT _ _ _ _ ht).2 L _ (by omega) hl rfl
    have hd' := (hT _ _ _ _ ht).2 D _ (by omega) hd rfl
    exact ⟨hIT _ k A B (by omega) hk hi ht, ⟨lt hl', hl'⟩, lt hd', hd'⟩
  · -- one round
    rintro k W ⟨hi, ⟨_, hl⟩, _, hd⟩ hlen hm
    have hlt : L < W.heap.size := lt hl
    have hy := run_yield (P := P) (args := xs k) hl (by rw [hrc]; exact hps k)
    rw [hrc] at hy
    refine ⟨fn, _, assign, body, hy, roundIn_of_wpIn hfn (hassign _ k W _ ⟨_, run_beginRound hl (by rw [hrc]), ?_⟩)⟩
    have hl2 : (W.putObj L (.loop { rc .ready none with state := .busy })).heap[L]? = some (.loop { rc .ready none with state := .busy }) := World.putObj_heap_same hlt
    have hd2 : (W.putObj L (.loop { rc .ready none with state := .busy })).heap[D]? = some (.deferred (some [])) := (World.putObj_heap_other (by omega)).trans hd
    have hw2 : Kp W (W.putObj L (.loop { rc .ready none with state := .busy })) := hKb _ _ _ _ (by omega) hl rfl rfl
    have hk2 : Keeps W1.heap.size W1.heap.size m W (W.putObj L (.loop { rc .ready none with state := .busy })) := Keeps.putObj (by omega) (by omega)
    refine wpIn_mono (hbody _ k _ (hI'.putObj _ hi (by omega) hl rfl) hlen (by simp; omega)) ?_
    have fin : ∀ (jump : Option Code) (W3 : World), Keeps w.heap.size (w.heap.size + 2) m (W.putObj L (.loop { rc .ready none with state := .busy })) W3 →
        (Instr.endRound L jump).run P W3 = .ok (.bool jump.isNone) (W3.putObj L (.loop (rc (if jump.isNone then .ready else .done) jump))) ∧
        W3.heap[L]? = some (.loop { rc .ready none with state := .busy }) ∧
        (W3.putObj L (.loop (rc (if jump.isNone then .ready else .done) jump))).heap[L]? = some (.loop (rc (if jump.isNone then .ready else .done) jump)) ∧
        (W3.putObj L (.loop (rc (if jump.isNone then .ready else .done) jump))).heap[D]? = some (.deferred (some [])) ∧
        Keeps W1.heap.size W1.heap.size m W (W3.putObj L (.loop (rc (if jump.isNone then .ready else .done) jump))) := fun jump W3 hk3 => by
      have hl3 := hk3.others L _ (by omega) hl2 rfl
      have hd3 := hk3.others D _ (by omega) hd2 rfl
      have := run_endRound (P := P) jump hl3
      rw [hrc] at this ⊢
      exact ⟨this, by rw [hrc] at hl3; exact hl3, World.putObj_heap_same (lt hl3), (World.putObj_heap_other (by omega)).trans hd3, by rw [hrc] at hk2 hk3; exact hk2.trans ((hk3.mono (by omega) (by omega) (by omega)).trans (Keeps.putObj (by omega) (by omega)))⟩
    rintro e a3 W3 hp
    cases e with
    | normal =>
      obtain ⟨hk3, hkp3, hi3⟩ := hp
      obtain ⟨hr, hl3, hl4, hd4, hk4⟩ := fin none W3 hk3
      exact ⟨_, _, hr, .inl ⟨rfl, ⟨hI.putObj _ hi3 (by omega) hl3 rfl, ⟨lt hl4, hl4⟩, lt hd4, hd4⟩, hKt (hKt hw2 hkp3) (hKb _ _ _ _ (by omega) hl3 rfl rfl), hk4⟩⟩
    | ret =>
      obtain ⟨hk3, hi3⟩ := hp
      obtain ⟨hr, hl3, hl4, hd4, hk4⟩ := fin (some .ret) W3 hk3
      exact ⟨_, _, hr, .inr ⟨rfl, ⟨.ret, (hIx _).putObj _ hi3 (by omega) hl3 rfl, ⟨lt hl4, hl4⟩, lt hd4, hd4⟩, hk4⟩⟩
    | exit id =>
      obtain ⟨hk3, hi3⟩ := hp
      obtain ⟨hr, hl3, hl4, hd4, hk4⟩ := fin (some (.exit id)) W3 hk3
      exact ⟨_, _, hr, .inr ⟨rfl, ⟨.exit id, (hIx _).putObj _ hi3 (by omega) hl3 rfl, ⟨lt hl4, hl4⟩, lt hd4, hd4⟩, hk4⟩⟩
    | goto t =>
      obtain ⟨hk3, hi3⟩ := hp
      obtain ⟨hr, hl3, hl4, hd4, hk4⟩ := fin (some (.goto t)) W3 hk3
      exact ⟨_, _, hr, .inr ⟨rfl, ⟨.goto t, (hIx _).putObj _ hi3 (by omega) hl3 rfl, ⟨lt hl4, hl4⟩, lt hd4, hd4⟩, hk4⟩⟩
    | panic ch => exact hp.elim
    | outgrown => exact hp.elim
  · -- behind the iterator
    rintro e W2 ⟨⟨v, rfl⟩, (⟨hi, ⟨_, hl⟩, _, hd⟩ | ⟨k, hk0, hk, c, hi, ⟨_, hl⟩, _, hd⟩)⟩
    · exact ⟨none, _, by have := run_endLoop (P := P) hl (by rw [hrc]; simp); rw [hrc] at this; exact this, hdone _ _ (by omega) (hI'.putObj _ hi (by omega) hl rfl) ((World.putObj_heap_other (by omega)).trans hd)⟩
    · exact ⟨some c, _, by have := run_endLoop (P := P) hl (by rw [hrc]; simp); rw [hrc] at this; exact this, hstop _ c k _ (by omega) hk0 hk ((hIx c).putObj _ hi (by omega) hl rfl) ((World.putObj_heap_other (by omega)).trans hd)⟩

theorem tplain_keeps : ∀ B k W1 W2, TPlain B k W1 W2 → W1.heap.size ≤ W2.heap.size ∧ ∀ b o, b < B → W1.heap[b]? = some o → o.isCells = false → W2.heap[b]? = some o := fun _ _ _ _ h =>
  ⟨h.size, fun b o _ hb _ => (h.block b (Array.getElem?_eq_some_iff.1 hb).1 (by simp)).trans hb⟩
/-- The law where the iterator of itself makes memory at most: one invariant. -/
theorem ownFrom_plain {B : Nat} {I : Nat → World → Prop} (h : OwnFrom B I) {C k : Nat} {W1 W2 : World} (hi : I k W1) (ht : TPlain C k W1 W2) : I k W2 := h k W1 W2 none hi ht (fun r e => by cases e)
/-- A round's own call of the yield that a caller handed over, in whatever frame and at whatever room. -/
theorem roundIn_any {n m l l' : Nat} {P : Program} {f : FuncId} {tmps : Array Value} {assign body : Code} {w : World} {R : Ending → World → Prop} (h : RoundIn Fence.wide n P l f tmps assign body w R) :
    RoundIn (Fence.wide.inRound l') m P l f tmps assign body w R :=
  ⟨trivial, fun c cs _ => h.2 c cs (room_wide _)⟩
end Go.Proofs.YtldhmjfjbalakaaGreat
