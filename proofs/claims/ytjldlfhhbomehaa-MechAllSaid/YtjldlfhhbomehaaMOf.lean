/- mechs.of: the mechanism of a kind. -/
import Derived.Test.YtjldlfhhbomehaaMVals
import Derived.Test.YtjldlfhhbomehaaIterA
import Derived.RangeFuncCalls
namespace Go.Proofs.Ytjldlfhhbomehaa
open Go.RowKit Go.Shelf

attribute [local go_sem] Oper.semAt_some

theorem blk_set {w : World} {g : Nat} {t : TypeId} {cs : Array Value} (h : w.heap[g]? = some (.cells cs t (0, 0))) (i : Nat) (u : Value) : (w.setCell ⟨g, i, none⟩ u).heap[g]? = some (.cells (cs.setIfInBounds i u) t (0, 0)) := by
  simp [World.setCell, Array.getElem?_modify, h]
def mechOf (kind : Int) : MRow := (mtab.find? fun x => x.kind == kind).getD ⟨0, 0, -1, false, none⟩
def noneTo (kind : Int) (k : Nat) : Prop := ∀ i, i < k → (mrow i).kind ≠ kind
theorem find_at (kind : Int) (l : List MRow) : ∀ (k : Nat) r, l[k]? = some r → r.kind = kind → (∀ i, i < k → ∀ q, l[i]? = some q → q.kind ≠ kind) → l.find? (fun x => x.kind == kind) = some r := by
  induction l with
  | nil => intro k r h; simp at h
  | cons a l ih =>
    intro k r h hr hn
    cases k with
    | zero =>
      simp at h
      subst h
      simp [hr]
    | succ k =>
      have h0 := hn 0 (by omega) a (by simp)
      rw [List.find?_cons_of_neg (by simpa using h0)]
      exact ih k r (by simpa using h) hr fun i hi q hq => hn (i + 1) (by omega) q (by simpa using hq)
theorem mechOf_at {kind : Int} {k : Nat} (hk : k < 24) (hn : noneTo kind k) (h : (mrow k).kind = kind) : mechOf kind = mrow k := by
  rw [mechOf, find_at kind mtab k _ (mrow_at hk) h fun i hi q hq => by
    rw [mrow_at (by omega)] at hq
    injection hq with hq
    rw [← hq]
    exact hn i hi]
  rfl
theorem find_none (kind : Int) (l : List MRow) : (∀ (i : Nat) q, l[i]? = some q → q.kind ≠ kind) → l.find? (fun x => x.kind == kind) = none := by
  intro h
  rw [List.find?_eq_none]
  intro x hx
  obtain ⟨i, hi⟩ := List.getElem?_of_mem hx
  simpa using h i x hi
theorem mechOf_none {kind : Int} (hn : noneTo kind 24) : mechOf kind = ⟨0, 0, -1, false, none⟩ := by
  rw [mechOf, find_none kind mtab fun i q hq => by
    have hi : i < 24 := (List.getElem?_eq_some_iff.1 hq).1
    rw [mrow_at hi] at hq
    injection hq with hq
    rw [← hq]
    exact hn i hi]
  rfl
theorem alloc4 (w : World) (o1 o2 o3 o4 : Obj) : ((((w.alloc o1).alloc o2).alloc o3).alloc o4).heap[w.heap.size]? = some o1 ∧ ((((w.alloc o1).alloc o2).alloc o3).alloc o4).heap[w.heap.size + 1]? = some o2 ∧ ((((w.alloc o1).alloc o2).alloc o3).alloc o4).heap[w.heap.size + 2]? = some o3 ∧
    ((((w.alloc o1).alloc o2).alloc o3).alloc o4).heap[w.heap.size + 3]? = some o4 ∧ ((((w.alloc o1).alloc o2).alloc o3).alloc o4).heap.size = w.heap.size + 4 ∧ Below w.heap.size w ((((w.alloc o1).alloc o2).alloc o3).alloc o4) := by
  have h1 := heap_alloc_new w o1
  have h2 := heap_alloc_new (w.alloc o1) o2
  have h3 := heap_alloc_new ((w.alloc o1).alloc o2) o3
  have h4 := heap_alloc_new (((w.alloc o1).alloc o2).alloc o3) o4
  simp only [World.size_alloc] at h2 h3 h4
  refine ⟨?_, ?_, ?_, h4, by simp, ((((Below.refl _ w).alloc (Nat.le_refl _) _).alloc (by simp) _).alloc (by simp; omega) _).alloc (by simp; omega) _⟩
  · exact (Below.heap_alloc _ _ _ (by simp; omega)).trans ((Below.heap_alloc _ _ _ (by simp <;> omega)).trans ((Below.heap_alloc _ _ _ (by simp)).trans h1))
  · exact (Below.heap_alloc _ _ _ (by simp <;> omega)).trans ((Below.heap_alloc _ _ _ (by simp)).trans h2)
  · exact (Below.heap_alloc _ _ _ (by simp)).trans h3

def OfI (w : World) (s : Nat) (kind : Int) (k : Nat) (X : World) : Prop := noneTo kind k ∧ X.heap[s]? = some (.cells #[.int .i64 kind] 3 (0, 0)) ∧ X.heap[s + 1]? = some (.cells #[.int .i64 0, .int .i64 0, .int .i64 0, .bool false, .nilFunc] 43 (0, 0)) ∧ Below s w X
theorem OfI.own {w : World} {s : Nat} {kind : Int} {B : Nat} (hs : s ≤ w.heap.size) (hB : s ≤ B) : OwnFrom B (OfI w s kind) := fun k X X' row h hg hr => by
  obtain ⟨h0, h1, h2, h3⟩ := h
  have hr' := fun r e => (hr r e).2
  exact ⟨h0, (grownBy_keeps_cells hg hr' h1 rfl).trans h1, (grownBy_keeps_cells hg hr' h2 rfl).trans h2, ownFrom_below hs hB k X X' row h3 hg hr⟩
def OfX (s : Nat) (kind : Int) (X : World) : Prop := X.heap[s + 1]? = some (.cells (mechOf kind).cells.toArray 43 (0, 0))
/-- The values in a block. -/
def InBlk (B : Nat) (r : MRow) (q : Nat) (X : World) : Prop := B ≤ q ∧ X.heap[q]? = some (.cells r.cells.toArray 43 (0, 0))
theorem InBlk.own {B : Nat} {r : Nat → MRow} {q B' : Nat} : OwnFrom B' (fun k X => InBlk B (r k) q X) := fun _ _ _ _ h hg hr => ⟨h.1, (grownBy_keeps_cells hg (fun r e => (hr r e).2) h.2 rfl).trans h.2⟩

set_option maxRecDepth 100000 in
set_option maxHeartbeats 4000000 in
theorem of_any (kind : Int) (w : World) : Calls Try.prog 14 #[.int .i64 kind] w fun e w' => e = .returned (mechOf kind).val ∧ Below w.heap.size w w' := by
  refine (callsIn_wide (n := 6)).1 ?_
  refine callsIn_of_wp_marks Try.func14 rfl trivial ?_ rfl
  simp only [Try.ntmps14, List.size_toArray, List.length_cons, List.length_nil, Nat.reduceAdd, Nat.reduceSub, Array.replicate_succ, Array.replicate_zero, List.push_toArray, List.append_toArray, List.nil_append, List.cons_append]
  gi_wp2
  refine ⟨trivial, (callsIn_wide.2 (all_any _)).mono ?_⟩
  rintro e w' ⟨rfl, rfl⟩
  have ez : ((w.alloc (.cells #[.int .i64 kind] 3)).alloc (.cells #[.int .i64 0, .int .i64 0, .int .i64 0, .bool false, .nilFunc] 43)).heap.size = w.heap.size + 2 := by simp
  rw [ez]
  obtain ⟨m0, m1, m2, m3, z, hB⟩ := alloc4 w (.cells #[.int .i64 kind] 3) (.cells #[.int .i64 0, .int .i64 0, .int .i64 0, .bool false, .nilFunc] 43) (.cells mcells.toArray 43) (.cells #[.slice (some ⟨w.heap.size + 2, 0, none⟩) 24 24] 51)
  obtain ⟨s, hs⟩ : ∃ s, w.heap.size = s := ⟨_, rfl⟩
  rw [hs] at m0 m1 m2 m3 z hB ⊢
  generalize (((w.alloc (.cells #[.int .i64 kind] 3)).alloc (.cells #[.int .i64 0, .int .i64 0, .int .i64 0, .bool false, .nilFunc] 43)).alloc (.cells mcells.toArray 43)).alloc (.cells #[.slice (some ⟨s + 2, 0, none⟩) 24 24] 51) = W1 at *
  have Hs := Lib.hid hs
  clear hs ez
  gi_wp2
  have hseq := values_seq (s + 2) W1 m2 m3
  clear m2 m3
  have hzs : s ≤ w.heap.size := by have := Hs.out; omega
  refine' wpIn_iterA (by omega) (gf := 31) (lb := #[.pointer (some ⟨s + 2 + 1, 0, none⟩)]) rfl (enters_of Try.func31 (by kernel_rfl) rfl)
    hseq (fun h k => Stay.trans h k) (fun X l o o' hl ho _ _ => ⟨by simp, fun i _ hi => World.putObj_heap_other (by omega)⟩) tplain_keeps (Below.refl _ _) (fun _ => rfl)
    (OfI w s kind) (OfI w s kind) (fun c _ X => c = .ret ∧ OfX s kind X ∧ Below s w X)
    (OfI.own hzs (by omega)) (OfI.own hzs (by omega)) ?hIx (fun _ _ _ _ => trivial) (fun B k A C _ _ hi ht => ownFrom_plain (OfI.own (B := s) hzs (Nat.le_refl _)) hi ht) (fun h => by cases h) ⟨fun i hi => absurd hi (by omega), m0, m1, hB⟩
    (fun k a X => ∃ q, a = { tmps := #[.int .i64 kind, .pointer (some ⟨s, 0, none⟩), .pointer (some ⟨s + 1, 0, none⟩), .pointer (some ⟨q, 0, none⟩), .func (.func 31) #[] #[.pointer (some ⟨s + 2 + 1, 0, none⟩)], (mrow k).val, undef, undef, undef, undef, undef, undef], defers := [] } ∧ InBlk W1.heap.size (mrow k) q X ∧ OfI w s kind k X)
    (fun a k X X' row h hg hr => by
      obtain ⟨q, e, h1, h2⟩ := h
      exact ⟨q, e, InBlk.own (r := mrow) k X X' row h1 hg hr, OfI.own hzs (by omega) k X X' row h2 hg hr⟩) ?assign ?body ?done ?stop
  case hIx =>
    rintro c k X X' row ⟨h0, h1, h3⟩ hg hr
    have hr' := fun r e => (hr r e).2
    exact ⟨h0, (grownBy_keeps_cells hg hr' h1 rfl).trans h1, ownFrom_below hzs (by omega) k X X' row h3 hg hr⟩
  case assign =>
    intro l k X K hi hk hz hK
    have hK' := fun q a' (e : a' = _) h1 => hK a' (X.alloc (.cells (mrow k).cells.toArray 43)) ⟨q, e, h1, OfI.own (B := s) hzs (Nat.le_refl _) k X _ none hi (World.grownBy_alloc X _ none) (fun r e => by cases e)⟩ (Keeps.alloc _ _ _ _ _) ⟨by simp, fun i _ h => Below.heap_alloc _ _ _ (by omega)⟩
    have hn := heap_alloc_new X (.cells (mrow k).cells.toArray 43)
    have hk' := hK' X.heap.size _ rfl ⟨by omega, hn⟩
    have HK := Lib.hid hk'
    clear hK hK' hn hk'
    obtain ⟨⟨z0, z1, z2, b, f⟩, hr⟩ : ∃ r, mrow k = r := ⟨_, rfl⟩
    rw [hr] at HK ⊢
    simp only [MRow.val, MRow.cells] at HK ⊢
    clear hr hi
    cases f
    · simp only [fnv] at HK ⊢
      gi_wp2
      exact HK.out
    · simp only [fnv] at HK ⊢
      gi_wp2
      exact HK.out
  case body =>
    rintro l k a X ⟨q, rfl, ⟨hq, hblk⟩, hn, h1, h2, h3⟩ hlt hlen
    have c0 := blk_cell h1 0
    have r0 := blk_cell h2 0
    have r1 := blk_cell h2 1
    have r2 := blk_cell h2 2
    have r3 := blk_cell h2 3
    have r4 := blk_cell h2 4
    have f0 := blk_free h2 0
    have f1 := blk_free h2 1
    have f2 := blk_free h2 2
    have f3 := blk_free h2 3
    have f4 := blk_free h2 4
    simp at c0 r0 r1 r2 r3 r4
    have hat := fun h => mechOf_at hlt hn h
    have hns : (mrow k).kind ≠ kind → noneTo kind (k + 1) := fun h i hi => by
      rcases Nat.lt_or_ge i k with h' | h'
      · exact hn i h'
      · obtain rfl : i = k := by omega
        exact h
    obtain ⟨⟨z0, z1, z2, b, f⟩, hr⟩ : ∃ r, mrow k = r := ⟨_, rfl⟩
    rw [hr] at hat hns hblk ⊢
    simp only [MRow.val, MRow.cells] at hat hns hblk ⊢
    have q0 := blk_cell hblk 0
    have q1 := blk_cell hblk 1
    have q2 := blk_cell hblk 2
    have q3 := blk_cell hblk 3
    have q4 := blk_cell hblk 4
    simp at q0 q1 q2 q3 q4
    have zX := h3.size
    have hs5 : ∀ v0 v1 v2 v3 v4, (((((X.setCell ⟨s + 1, 0, none⟩ v0).setCell ⟨s + 1, 1, none⟩ v1).setCell ⟨s + 1, 2, none⟩ v2).setCell ⟨s + 1, 3, none⟩ v3).setCell ⟨s + 1, 4, none⟩ v4).heap[s + 1]? = some (.cells #[v0, v1, v2, v3, v4] 43 (0, 0)) := fun v0 v1 v2 v3 v4 => by
      have := blk_set (blk_set (blk_set (blk_set (blk_set h2 0 v0) 1 v1) 2 v2) 3 v3) 4 v4
      simpa using this
    have hK5 : ∀ v0 v1 v2 v3 v4, Keeps W1.heap.size (W1.heap.size + 2) 0 X (((((X.setCell ⟨s + 1, 0, none⟩ v0).setCell ⟨s + 1, 1, none⟩ v1).setCell ⟨s + 1, 2, none⟩ v2).setCell ⟨s + 1, 3, none⟩ v3).setCell ⟨s + 1, 4, none⟩ v4) := fun v0 v1 v2 v3 v4 =>
      ((((Keeps.setCell _ _ 0 _ (.inl (by show s + 1 < _; omega)) _).trans (Keeps.setCell _ _ 0 _ (.inl (by show s + 1 < _; omega)) _)).trans (Keeps.setCell _ _ 0 _ (.inl (by show s + 1 < _; omega)) _)).trans (Keeps.setCell _ _ 0 _ (.inl (by show s + 1 < _; omega)) _)).trans (Keeps.setCell _ _ 0 _ (.inl (by show s + 1 < _; omega)) _)
    have hB5 : ∀ v0 v1 v2 v3 v4, Below s w (((((X.setCell ⟨s + 1, 0, none⟩ v0).setCell ⟨s + 1, 1, none⟩ v1).setCell ⟨s + 1, 2, none⟩ v2).setCell ⟨s + 1, 3, none⟩ v3).setCell ⟨s + 1, 4, none⟩ v4) := fun v0 v1 v2 v3 v4 =>
      ((((h3.setCell (p := ⟨s + 1, 0, none⟩) (by show s ≤ s + 1; omega) _).setCell (p := ⟨s + 1, 1, none⟩) (by show s ≤ s + 1; omega) _).setCell (p := ⟨s + 1, 2, none⟩) (by show s ≤ s + 1; omega) _).setCell (p := ⟨s + 1, 3, none⟩) (by show s ≤ s + 1; omega) _).setCell (p := ⟨s + 1, 4, none⟩) (by show s ≤ s + 1; omega) _
    have Hs5 := Lib.hid hs5
    have HK5 := Lib.hid hK5
    have HB5 := Lib.hid hB5
    have Hat := Lib.hid hat
    have Hns := Lib.hid hns
    have H1 := Lib.hid h1
    have H2 := Lib.hid h2
    clear hat hns hr h1 h2 hn hs5 hK5 hB5 hblk
    by_cases hz' : z0 = kind
    · have hm := Lib.hid (Hat.out hz')
      have t1 : (z0 == kind) = true := by simp [hz']
      clear hz'
      cases f
      · simp only [fnv] at q4 ⊢
        gi_wp2
        exact ⟨HK5.out _ _ _ _ _, rfl, by rw [OfX, hm.out]; exact Hs5.out _ _ _ _ _, HB5.out _ _ _ _ _⟩
      · simp only [fnv] at q4 ⊢
        gi_wp2
        exact ⟨HK5.out _ _ _ _ _, rfl, by rw [OfX, hm.out]; exact Hs5.out _ _ _ _ _, HB5.out _ _ _ _ _⟩
    · have hm := Lib.hid (Hns.out hz')
      have t1 : (z0 == kind) = false := by simp [hz']
      clear hz'
      gi_wp2
      exact ⟨Keeps.refl _ _ _ _, Stay.refl _ _ _, hm.out, H1.out, H2.out, h3⟩
  case done =>
    rintro D X hD ⟨hn, h1, h2, h3⟩ hK
    have r0 := blk_cell h2 0
    have r1 := blk_cell h2 1
    have r2 := blk_cell h2 2
    have r3 := blk_cell h2 3
    have r4 := blk_cell h2 4
    have f0 := blk_free h2 0
    have f1 := blk_free h2 1
    have f2 := blk_free h2 2
    have f3 := blk_free h2 3
    have f4 := blk_free h2 4
    simp at r0 r1 r2 r3 r4
    have Hm := Lib.hid (mechOf_none hn)
    clear h1 hn
    have hs5 : ∀ v0 v1 v2 v3 v4, (((((X.setCell ⟨s + 1, 0, none⟩ v0).setCell ⟨s + 1, 1, none⟩ v1).setCell ⟨s + 1, 2, none⟩ v2).setCell ⟨s + 1, 3, none⟩ v3).setCell ⟨s + 1, 4, none⟩ v4).heap[s + 1]? = some (.cells #[v0, v1, v2, v3, v4] 43 (0, 0)) := fun v0 v1 v2 v3 v4 => by
      have := blk_set (blk_set (blk_set (blk_set (blk_set h2 0 v0) 1 v1) 2 v2) 3 v3) 4 v4
      simpa using this
    have hK5 : ∀ v0 v1 v2 v3 v4, (((((X.setCell ⟨s + 1, 0, none⟩ v0).setCell ⟨s + 1, 1, none⟩ v1).setCell ⟨s + 1, 2, none⟩ v2).setCell ⟨s + 1, 3, none⟩ v3).setCell ⟨s + 1, 4, none⟩ v4).heap[D]? = some (.deferred (some [])) := fun v0 v1 v2 v3 v4 => by
      have e : ∀ (Y : World) (i : Nat) (v : Value), (Y.setCell ⟨s + 1, i, none⟩ v).heap[D]? = Y.heap[D]? := fun Y i v => Below.heap_setCell _ _ _ _ (by show D ≠ s + 1; omega)
      rw [e, e, e, e, e]
      exact hK
    have hB5 : ∀ v0 v1 v2 v3 v4, Below s w (((((X.setCell ⟨s + 1, 0, none⟩ v0).setCell ⟨s + 1, 1, none⟩ v1).setCell ⟨s + 1, 2, none⟩ v2).setCell ⟨s + 1, 3, none⟩ v3).setCell ⟨s + 1, 4, none⟩ v4) := fun v0 v1 v2 v3 v4 =>
      ((((h3.setCell (p := ⟨s + 1, 0, none⟩) (by show s ≤ s + 1; omega) _).setCell (p := ⟨s + 1, 1, none⟩) (by show s ≤ s + 1; omega) _).setCell (p := ⟨s + 1, 2, none⟩) (by show s ≤ s + 1; omega) _).setCell (p := ⟨s + 1, 3, none⟩) (by show s ≤ s + 1; omega) _).setCell (p := ⟨s + 1, 4, none⟩) (by show s ≤ s + 1; omega) _
    have x1 := Lib.hid (hs5 (.int .i64 0) (.int .i64 0) (.int .i64 (-1)) (.bool false) .nilFunc)
    have x2 := Lib.hid (hK5 (.int .i64 0) (.int .i64 0) (.int .i64 (-1)) (.bool false) .nilFunc)
    have x3 := Lib.hid (hB5 (.int .i64 0) (.int .i64 0) (.int .i64 (-1)) (.bool false) .nilFunc)
    clear hs5 hK5 hB5 h2
    gi_wp2
    clear r0 r1 r2 r3 r4 f0 f1 f2 f3 f4
    generalize ((((X.setCell ⟨s + 1, 0, none⟩ (.int .i64 0)).setCell ⟨s + 1, 1, none⟩ (.int .i64 0)).setCell ⟨s + 1, 2, none⟩ (.int .i64 (-1))).setCell ⟨s + 1, 3, none⟩ (.bool false)).setCell ⟨s + 1, 4, none⟩ .nilFunc = Y at *
    have hc : ∀ (i : Nat) v, (#[.int .i64 0, .int .i64 0, .int .i64 (-1), .bool false, .nilFunc] : Array Value)[i]? = some v → (Y.putObj D (.deferred none)).cell? ⟨s + 1, i, none⟩ = some v := fun i v h =>
      cell_kept ((blk_cell x1.out i).trans h) (grownBy_putObj' _ D (.deferred none)) (fun r e => by cases e; exact ⟨_, x2.out, rfl⟩)
    have k0 := hc 0 _ rfl
    have k1 := hc 1 _ rfl
    have k2 := hc 2 _ rfl
    have k3 := hc 3 _ rfl
    have k4 := hc 4 _ rfl
    refine ⟨by simp, .inl ⟨_, _, rfl, run_takeDeferred x2.out, (mechOf kind).val, ?_, rfl, ?_⟩⟩
    · rw [Hm.out]
      simp [results, Try.f14, go_sem, k0, k1, k2, k3, k4, MRow.val, fnv]
    · rw [Hs.out]
      exact x3.out.trans (belowK_b (w := w) hzs _ D _ _ (by have := Hs.out; omega) x2.out rfl rfl)
  case stop =>
    rintro D c k X hD _ _ ⟨rfl, h1, h3⟩ hK
    obtain ⟨⟨z0, z1, z2, b, f⟩, hr⟩ : ∃ r, mechOf kind = r := ⟨_, rfl⟩
    rw [OfX, hr] at h1
    simp only [MRow.cells] at h1
    have zX := h3.size
    gi_wp2
    have hc : ∀ (i : Nat) v, (#[.int .i64 z0, .int .i64 z1, .int .i64 z2, .bool b, fnv f] : Array Value)[i]? = some v → (X.putObj D (.deferred none)).cell? ⟨s + 1, i, none⟩ = some v := fun i v h =>
      cell_kept ((blk_cell h1 i).trans h) (grownBy_putObj' _ D (.deferred none)) (fun r e => by cases e; exact ⟨_, hK, rfl⟩)
    have k0 := hc 0 _ rfl
    have k1 := hc 1 _ rfl
    have k2 := hc 2 _ rfl
    have k3 := hc 3 _ rfl
    have k4 := hc 4 _ rfl
    refine ⟨by simp, .inl ⟨_, _, rfl, run_takeDeferred hK, (mechOf kind).val, ?_, rfl, ?_⟩⟩
    · rw [hr]
      simp [results, Try.f14, go_sem, k0, k1, k2, k3, k4, MRow.val]
    · rw [Hs.out]
      exact h3.trans (belowK_b (w := w) hzs _ D _ _ (by have := Hs.out; omega) hK rfl rfl)
end Go.Proofs.Ytjldlfhhbomehaa
