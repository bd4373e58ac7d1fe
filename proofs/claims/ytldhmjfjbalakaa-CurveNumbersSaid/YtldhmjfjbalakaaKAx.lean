/- curve: the inner functions, for a curve's record and for points as numbers. A table of sixteen points by three elements, in memory. curve: Add. -/
import Derived.Test.YtldhmjfjbalakaaAddJ
import Derived.Test.YtldhmjfjbalakaaKAw
namespace Go.Proofs.Ytldhmjfjbalakaa
open Go.RowKit

/-- The value is a point: whether it is nowhere, and two numbers. -/
def APt (w : World) (v : Value) (inf : Bool) (x y : Nat) : Prop := ∃ (A A' : Option Addr) (c c' : Nat) (a b : List Nat), v = .agg #[.bool inf, .slice A a.length c, .slice A' b.length c'] ∧ RU w A c a ∧ RU w A' c' b ∧ val 18446744073709551616 a = x ∧ val 18446744073709551616 b = y
theorem APt.ext {w X : World} {v : Value} {inf : Bool} {x y : Nat} (h : APt w v inf x y) (hE : Ext w X) : APt X v inf x y := by
  obtain ⟨A, A', c, c', a, b, rfl, ha, hb, hx, hy⟩ := h
  exact ⟨A, A', c, c', a, b, rfl, RN.up ha hE, RN.up hb hE, hx, hy⟩
theorem APt.inf_ (w : World) : APt w infV true 0 0 := ⟨none, none, 0, 0, [], [], rfl, RN.nil_ _ _, RN.nil_ _ _, rfl, rfl⟩
theorem PtV.pt {w : World} {base : Nat} {v : Value} {o : Option (Nat × Nat)} (h : PtV w base v o) : APt w v o.isNone (o.elim 0 (·.1)) (o.elim 0 (·.2)) := by
  cases o with
  | none => cases h; exact APt.inf_ w
  | some p =>
    obtain ⟨A, c, A', c', rfl, h1, h2⟩ := h
    exact ⟨A, A', c, c', _, _, rfl, h1.ru, h2.ru, val_digs (by omega) _, val_digs (by omega) _⟩
theorem PtV.ext {w X : World} {base : Nat} {v : Value} {o : Option (Nat × Nat)} (h : PtV w base v o) (hE : Ext w X) : PtV X base v o := by
  cases o with
  | none => exact h
  | some p =>
    obtain ⟨A, c, A', c', rfl, h1, h2⟩ := h
    exact ⟨A, c, A', c', rfl, h1.below hE (Nat.le_refl _), h2.below hE (Nat.le_refl _)⟩
theorem PtV.mono {w : World} {base base' : Nat} {v : Value} {o : Option (Nat × Nat)} (h : PtV w base v o) (hb : base' ≤ base) : PtV w base' v o := by
  cases o with
  | none => exact h
  | some p =>
    obtain ⟨A, c, A', c', rfl, h1, h2⟩ := h
    exact ⟨A, c, A', c', rfl, h1.mono hb, h2.mono hb⟩
/-- The value is three elements with those numbers. -/
def JAt (C : Crv) (v : Value) (p : Nat × Nat × Nat) : Prop := ∃ lx ly lz, v = JV lx ly lz ∧ FJ C.M C.n lx ly lz p.1 p.2.1 p.2.2
def upP (inf : Bool) (x y : Nat) : Nat × Nat × Nat := if inf then (1, 1, 0) else (x, y, 1)
def addT (M : Nat) (p q : Nat × Nat × Nat) : Nat × Nat × Nat := addP M p.1 p.2.1 p.2.2 q.1 q.2.1 q.2.2
def dblT (M : Nat) (p : Nat × Nat × Nat) : Nat × Nat × Nat := dblP M p.1 p.2.1 p.2.2
def downT (M : Nat) (p : Nat × Nat × Nat) : Option (Nat × Nat) := downP M p.1 p.2.1 p.2.2
def onQ (C : Crv) (inf : Bool) (x y : Nat) : Bool := inf || onB C.M C.bb x y
theorem onB_lt {M bb x y : Nat} (h : onB M bb x y = true) : x < M ∧ y < M := by
  simp only [onB, Bool.and_eq_true, decide_eq_true_eq] at h
  exact h.1
theorem onQ_lt {C : Crv} {inf : Bool} {x y : Nat} (h : onQ C inf x y = true) (hi : inf = false) : x < C.M ∧ y < C.M := by
  subst hi
  exact onB_lt h
section
variable {C : Crv} {w : World} {k : Nat} {v u : Value}
theorem on_j (h : OfC C w k) (hC : C.Fine) {inf : Bool} {x y : Nat} (hv : APt w v inf x y) : Calls Try.prog 43 #[.pointer (some ⟨k, 0, none⟩), v] w fun e w' => e = .returned (.bool (onQ C inf x y)) ∧ Ext w w' := by
  obtain ⟨A, A', c, c', a, b, rfl, ha, hb, rfl, rfl⟩ := hv
  exact on_c h hC _ _ A A' c c' a b inf ha hb (fun _ h => h) (fun _ h => h)
theorem up_j (h : OfC C w k) {inf : Bool} {x y : Nat} (hv : APt w v inf x y) (ho : onQ C inf x y = true) : Calls Try.prog 46 #[.pointer (some ⟨k, 0, none⟩), v] w fun e w' => ∃ o, e = .returned o ∧ JAt C o (upP inf x y) ∧ Ext w w' := by
  obtain ⟨A, A', c, c', a, b, rfl, ha, hb, rfl, rfl⟩ := hv
  obtain ⟨P0, g, inv, ml, ol, rl, tl, fl, Ap, An, Ab, Ax, Ay, cp, cn, cb, cx, cy, hn, hP⟩ := h
  refine (up_any _ _ A A' c c' a b inf w hn hP ha hb (fun _ h => h) (fun _ h => h) (fun hi => (onQ_lt ho hi).1) (fun hi => (onQ_lt ho hi).2)).mono ?_
  rintro e w' ⟨ox, oy, oz, rfl, hf, hE⟩
  refine ⟨_, rfl, ⟨ox, oy, oz, rfl, ?_⟩, hE⟩
  cases inf <;> exact hf
theorem double_j (h : OfC C w k) {p : Nat × Nat × Nat} (hv : JAt C v p) : Calls Try.prog 49 #[.pointer (some ⟨k, 0, none⟩), v] w fun e w' => ∃ o, e = .returned o ∧ JAt C o (dblT C.M p) ∧ Ext w w' := by
  obtain ⟨lx, ly, lz, rfl, hf⟩ := hv
  obtain ⟨P0, g, inv, ml, ol, rl, tl, fl, Ap, An, Ab, Ax, Ay, cp, cn, cb, cx, cy, hn, hP⟩ := h
  refine (double_any w hn hP hf).mono ?_
  rintro e w' ⟨ox, oy, oz, rfl, hf', hE⟩
  exact ⟨_, rfl, ⟨ox, oy, oz, rfl, hf'⟩, hE⟩
theorem add_j (h : OfC C w k) {p q : Nat × Nat × Nat} (hv : JAt C v p) (hu : JAt C u q) : Calls Try.prog 47 #[.pointer (some ⟨k, 0, none⟩), v, u] w fun e w' => ∃ o, e = .returned o ∧ JAt C o (addT C.M p q) ∧ Ext w w' := by
  obtain ⟨lx, ly, lz, rfl, hf⟩ := hv
  obtain ⟨mx, my, mz, rfl, hg⟩ := hu
  obtain ⟨P0, g, inv, ml, ol, rl, tl, fl, Ap, An, Ab, Ax, Ay, cp, cn, cb, cx, cy, hn, hP⟩ := h
  refine (add_any w hn hP hf hg).mono ?_
  rintro e w' ⟨ox, oy, oz, rfl, hf', hE⟩
  exact ⟨_, rfl, ⟨ox, oy, oz, rfl, hf'⟩, hE⟩
theorem down_j (h : OfC C w k) {p : Nat × Nat × Nat} (hpl : C.pl.length < 100000) (hv : JAt C v p) : Calls Try.prog 50 #[.pointer (some ⟨k, 0, none⟩), v] w fun e w' => ∃ o, e = .returned o ∧ PtV w' w.heap.size o (downT C.M p) ∧ Ext w w' := by
  obtain ⟨lx, ly, lz, rfl, hf⟩ := hv
  obtain ⟨P0, g, inv, ml, ol, rl, tl, fl, Ap, An, Ab, Ax, Ay, cp, cn, cb, cx, cy, hn, hP⟩ := h
  exact down_any w hn hP hpl hf
end
theorem IsC.plen {c : Int} {C : Crv} (h : IsC c C) : C.pl.length < 100000 := by
  rcases h with ⟨_, rfl⟩ | ⟨_, rfl⟩ <;> decide
end Go.Proofs.Ytldhmjfjbalakaa

namespace Go.Proofs.Ytldhmjfjbalakaa
open Go.RowKit

def z85 : Array Value := Array.replicate 288 (.int .u64 0)
theorem info85 : (Try.prog.info? 85).map (fun i => (i.zero, i.size, i.bytes)) = some (some (.agg z85), 288, 2304) := by kernel_rfl
theorem info85s : (Try.prog.info? 85).map (·.size) = some 288 := by kernel_rfl
theorem z85_size : z85.size = 288 := by kernel_rfl
theorem run_alloc85 (X : World) : (Instr.alloc 85 true (.tuple #[])).run Try.prog X = .ok (.pointer (some ⟨X.heap.size, 0, none⟩)) (X.alloc (.cells z85 85)) := by
  obtain ⟨i0, hi, hz0, hz1, hz2⟩ := info_parts info85
  simp [Instr.alloc, zeroValue, typeInfo, hi, hz0, newVar]
  rfl
theorem wp_alloc85 {op : Oper} {a : Act} {X : World} {K : Act → World → Prop} {Q : Exit → Act → World → Prop} (ho : op.op = .alloc 85) (hK : K (a.put op.dst (.pointer (some ⟨X.heap.size, 0, none⟩))) (X.alloc (.cells z85 85))) : op.wp Try.prog a X K Q := by
  unfold Oper.wp execOp
  simp only [ho, Sem.run_bind, run_alloc85, Result.andThen_ok]
  exact hK
/-- Cells 18 i and on read as a point. -/
def JRow (C : Crv) (X : World) (b i : Nat) (p : Nat × Nat × Nat) : Prop := ∃ x y z, X.rangeAt b (18 * i) (nts (x ++ y ++ z)) ∧ FJ C.M C.n x y z p.1 p.2.1 p.2.2
/-- The block is a table whose first n rows are t's. -/
structure TabAt (C : Crv) (X : World) (b : Nat) (t : Nat → Nat × Nat × Nat) (n : Nat) : Prop where
  blk : ∃ cs : Array Value, X.heap[b]? = some (.cells cs 85 (0, 0)) ∧ cs.size = 288
  row : ∀ i, i < n → JRow C X b i (t i)
section
variable {C : Crv} {X Y : World} {b n : Nat} {t : Nat → Nat × Nat × Nat}
theorem TabAt.lt (h : TabAt C X b t n) : b < X.heap.size := by
  obtain ⟨cs, hb, _⟩ := h.blk
  exact blk_lt hb
theorem TabAt.same (h : TabAt C X b t n) (hb : Y.heap[b]? = X.heap[b]?) : TabAt C Y b t n := by
  obtain ⟨cs, h1, h2⟩ := h.blk
  refine ⟨⟨cs, hb.trans h1, h2⟩, fun i hi => ?_⟩
  obtain ⟨x, y, z, hr, hf⟩ := h.row i hi
  exact ⟨x, y, z, fun j v hv => (World.cell?_of_block hb).trans (hr j v hv), hf⟩
theorem TabAt.ext (h : TabAt C X b t n) (hE : Ext X Y) : TabAt C Y b t n := h.same (Below.block hE b h.lt)
theorem TabAt.just {g : Nat} (h : TabAt C X b t n) (hj : Just g X Y) (hg : b ≠ g) : TabAt C Y b t n := h.same (hj.block b h.lt hg)
theorem len18 {x y z : List Nat} {M m : Nat} {p : Nat × Nat × Nat} (h : FJ M m x y z p.1 p.2.1 p.2.2) : (nts (x ++ y ++ z)).length = 18 := by
  rw [nts_length, List.length_append, List.length_append, h.x.elt.six, h.y.elt.six, h.z.elt.six]
/-- A row is read. -/
theorem wp_loadT {op : Oper} {a : Act} {K : Act → World → Prop} {Q : Exit → Act → World → Prop} (x : Operand) (ho : op.op = .load 83 x) {i : Nat} (h : TabAt C X b t n) (hi : i < n) {o : Nat} (hoi : 18 * i = o) (hx : a.eval x = .pointer (some ⟨b, o, none⟩)) (hK : ∀ v, JAt C v (t i) → K (a.put op.dst v) X) : op.wp Try.prog a X K Q := by
  obtain ⟨lx, ly, lz, hr, hf⟩ := h.row i hi
  subst hoi
  exact wp_load_mid 83 x ho b (18 * i) hx _ _ hr Try.underlying83 rfl (by rw [len18 hf]; exact infoJ) (hK _ ⟨lx, ly, lz, rfl, hf⟩)
theorem set_blk {T : TypeId} (b : Nat) : ∀ (vs : List Value) (o : Nat) (X : World) (cs : Array Value), X.heap[b]? = some (.cells cs T (0, 0)) → ∃ ds : Array Value, (X.setCells b o vs).heap[b]? = some (.cells ds T (0, 0)) ∧ ds.size = cs.size
  | [], _, X, cs, h => ⟨cs, h, rfl⟩
  | v :: vs, o, X, cs, h => by
    obtain ⟨ds, h1, h2⟩ := set_blk b vs (o + 1) (X.setCell ⟨b, o, none⟩ v) _ (blk_set h o v)
    exact ⟨ds, h1, by rw [h2]; simp⟩
theorem setCells_just (b : Nat) : ∀ (vs : List Value) (o : Nat) (X : World), Just b X (X.setCells b o vs) ∧ (X.setCells b o vs).heap.size = X.heap.size
  | [], _, X => ⟨Just.refl b X, rfl⟩
  | v :: vs, o, X => by
    obtain ⟨h1, h2⟩ := setCells_just b vs (o + 1) (X.setCell ⟨b, o, none⟩ v)
    exact ⟨((Just.refl b X).set o v).trans h1, h2.trans (by simp [World.setCell])⟩
/-- A row is written. -/
theorem wp_storeT {op : Oper} {a : Act} {K : Act → World → Prop} {Q : Exit → Act → World → Prop} (x y : Operand) (ho : op.op = .store 83 x y) (hd : op.dst = none) (h : TabAt C X b t n) (hn : n < 16) {v : Value} (hv : JAt C v (t n)) {o : Nat} (hoi : 18 * n = o) (hx : a.eval x = .pointer (some ⟨b, o, none⟩)) (hy : a.eval y = v)
    (hK : ∀ Y, TabAt C Y b t (n + 1) → Just b X Y → Y.heap.size = X.heap.size → K a Y) : op.wp Try.prog a X K Q := by
  obtain ⟨lx, ly, lz, rfl, hf⟩ := hv
  obtain ⟨cs, hb, hs⟩ := h.blk
  subst hoi
  have hl := len18 hf
  have ht : X.there b (18 * n) (nts (lx ++ ly ++ lz)).toArray.size := fun j hj => by
    rw [List.size_toArray, hl] at hj
    refine ⟨?_, blk_free hb _⟩
    rw [blk_cell hb]
    simp [hs]
    omega
  refine wp_store_mid 83 x y ho b (18 * n) _ hx hy ht (by rw [List.size_toArray, hl]; exact infoJ) (all_one _) ?_
  rw [hd]
  obtain ⟨h1, h2⟩ := setCells_just b (nts (lx ++ ly ++ lz)) (18 * n) X
  refine hK _ ⟨?_, fun i hi => ?_⟩ h1 h2
  · obtain ⟨ds, h3, h4⟩ := set_blk b (nts (lx ++ ly ++ lz)) (18 * n) X cs hb
    exact ⟨ds, h3, h4.trans hs⟩
  · rcases Nat.lt_or_ge i n with hlt | hge
    · obtain ⟨mx, my, mz, hr, hg⟩ := h.row i hlt
      exact ⟨mx, my, mz, World.rangeAt_setCells_apart hr _ _ _ (.inr (.inl (by rw [len18 hg]; omega))), hg⟩
    · obtain rfl : i = n := by omega
      exact ⟨lx, ly, lz, World.rangeAt_setCells_same _ _ _ _ (by rwa [List.size_toArray] at ht), hf⟩
end
theorem six3 {l : List Nat} (h : l.length = 18) : ∃ a0 a1 a2 a3 a4 a5 a6 a7 a8 a9 b0 b1 b2 b3 b4 b5 b6 b7, l = [a0, a1, a2, a3, a4, a5, a6, a7, a8, a9, b0, b1, b2, b3, b4, b5, b6, b7] := by
  match l, h with
  | [a0, a1, a2, a3, a4, a5, a6, a7, a8, a9, b0, b1, b2, b3, b4, b5, b6, b7], _ => exact ⟨_, _, _, _, _, _, _, _, _, _, _, _, _, _, _, _, _, _, rfl⟩
theorem built85 {x y : List Nat} (hx : x.length = 18) (hy : y.length = 18) : Try.prog.built 85 [(0, .agg (nts x).toArray), (1, .agg (nts y).toArray)] = some (nts (x ++ y ++ List.replicate 252 0)).toArray := by
  obtain ⟨a0, a1, a2, a3, a4, a5, a6, a7, a8, a9, b0, b1, b2, b3, b4, b5, b6, b7, rfl⟩ := six3 hx
  obtain ⟨c0, c1, c2, c3, c4, c5, c6, c7, c8, c9, d0, d1, d2, d3, d4, d5, d6, d7, rfl⟩ := six3 hy
  kernel_rfl
theorem wp_build85 {C : Crv} {op : Oper} {a : Act} {X : World} {K : Act → World → Prop} {Q : Exit → Act → World → Prop} (p q : Operand) (ho : op.op = .build 85 #[(0, p), (1, q)]) {v u : Value} {x y : Nat × Nat × Nat} (hp : a.eval p = v) (hq : a.eval q = u) (hv : JAt C v x) (hu : JAt C u y)
    (hK : ∀ cs : Array Value, cs.size = 288 → cs.all (·.oneCell') = true → (∀ W b, W.heap[b]? = some (.cells cs 85 (0, 0)) → ∀ t : Nat → Nat × Nat × Nat, t 0 = x → t 1 = y → TabAt C W b t 2) → K (a.put op.dst (.agg cs)) X) : op.wp Try.prog a X K Q := by
  obtain ⟨x1, x2, x3, rfl, hf⟩ := hv
  obtain ⟨y1, y2, y3, rfl, hg⟩ := hu
  have hlx : (x1 ++ x2 ++ x3).length = 18 := by have := len18 hf; rwa [nts_length] at this
  have hly : (y1 ++ y2 ++ y3).length = 18 := by have := len18 hg; rwa [nts_length] at this
  have hb : (#[(0, p), (1, q)].map fun (i, x) => (i, a.eval x)).toList = [(0, .agg (nts (x1 ++ x2 ++ x3)).toArray), (1, .agg (nts (y1 ++ y2 ++ y3)).toArray)] := by simp [hp, hq, JV]
  have hs : (x1 ++ x2 ++ x3 ++ (y1 ++ y2 ++ y3) ++ List.replicate 252 0).length = 288 := by rw [List.length_append, List.length_append, hlx, hly, List.length_replicate]
  refine wp_build 85 #[(0, p), (1, q)] ho (by rw [hb, built85 hlx hly]; rfl) ?_
  rw [hb, built85 hlx hly, Option.getD_some]
  refine hK _ (by rw [List.size_toArray, nts_length, hs]) (all_one _) fun W b h t h0 h1 => ⟨⟨_, h, by rw [List.size_toArray, nts_length, hs]⟩, fun i hi => ?_⟩
  have key : ∀ pre l post : List Nat, x1 ++ x2 ++ x3 ++ (y1 ++ y2 ++ y3) ++ List.replicate 252 0 = pre ++ l ++ post → W.rangeAt b pre.length (nts l) := fun pre l post e j v hv => by
    rw [blk_cell h, e, List.getElem?_toArray, nts_append, nts_append, List.append_assoc, List.getElem?_append_right (by rw [nts_length]; omega), nts_length, Nat.add_sub_cancel_left, List.getElem?_append_left, hv]
    exact (List.getElem?_eq_some_iff.1 hv).1
  rcases (show i = 0 ∨ i = 1 by omega) with rfl | rfl
  · rw [h0]
    exact ⟨x1, x2, x3, by have := key [] (x1 ++ x2 ++ x3) _ (by rw [List.nil_append, List.append_assoc]); simpa using this, hf⟩
  · rw [h1]
    exact ⟨y1, y2, y3, by have := key (x1 ++ x2 ++ x3) (y1 ++ y2 ++ y3) _ rfl; rwa [hlx] at this, hg⟩
end Go.Proofs.Ytldhmjfjbalakaa

namespace Go.Proofs.Ytldhmjfjbalakaa
open Go.RowKit

/-- What Add answers. -/
def addC (C : Crv) (bi : Bool) (x y : Nat) (bj : Bool) (u v : Nat) : Option (Option (Nat × Nat)) :=
 if onQ C bi x y = true then (if onQ C bj u v = true then some (downT C.M (addT C.M (upP bi x y) (upP bj u v))) else none) else none
theorem ptv_store {X : World} {base b : Nat} {v : Value} {o : Option (Nat × Nat)} (h : PtV X base v o) : ∃ x0 x1 x2, v = .agg #[x0, x1, x2] ∧ (#[x0, x1, x2] : Array Value).all (·.oneCell') = true ∧ ∀ Y, Just b X Y → (∃ cs, X.heap[b]? = some (.cells cs 27 (0, 0))) → PtV Y base v o := by
 cases o with
 | none => cases h; exact ⟨_, _, _, rfl, pt_one _ _ _ _ _ _ _, fun _ _ _ => rfl⟩
 | some p =>
  obtain ⟨A, c, A', c', rfl, h1, h2⟩ := h
  exact ⟨_, _, _, rfl, pt_one _ _ _ _ _ _ _, fun Y hj ⟨cs, hb⟩ => ⟨A, c, A', c', rfl, h1.just hj hb (by decide), h2.just hj hb (by decide)⟩⟩
theorem apt_agg {w : World} {v : Value} {i : Bool} {x y : Nat} (h : APt w v i x y) : ∃ x1 x2, v = .agg #[.bool i, x1, x2] := by
 obtain ⟨A, A', c, c', a, b, rfl, _⟩ := h
 exact ⟨_, _, rfl⟩
theorem three_p (w : World) (o1 o2 o3 : Obj) : (((w.alloc o1).alloc o2).alloc o3).heap[w.heap.size]? = some o1 ∧ (((w.alloc o1).alloc o2).alloc o3).heap[w.heap.size + 1]? = some o2 ∧ (((w.alloc o1).alloc o2).alloc o3).heap[w.heap.size + 2]? = some o3 ∧ (((w.alloc o1).alloc o2).alloc o3).heap.size = w.heap.size + 3 := three_at w o1 o2 o3
set_option maxRecDepth 100000 in
set_option maxHeartbeats 8000000 in
theorem add_c {c : Int} {C : Crv} (hC : IsC c C) {p r : Value} {bi bj : Bool} {x y u v : Nat} (w : World) (hp : APt w p bi x y) (hr : APt w r bj u v) :
 Calls Try.prog 21 #[.int .i64 c, p, r] w fun e w' => ∃ o, e = .returned (.tuple #[o, .bool (addC C bi x y bj u v).isSome]) ∧ PtV w' w.heap.size o (addC C bi x y bj u v).join ∧ Ext w w' := by
 obtain ⟨p1, p2, rfl⟩ := apt_agg hp
 obtain ⟨r1, r2, rfl⟩ := apt_agg hr
 obtain ⟨W0, hW0⟩ : ∃ W0, W0 = ((w.alloc (.cells #[.bool bi, p1, p2] 27)).alloc (.cells #[.bool bj, r1, r2] 27)).alloc (.cells #[.bool false, .slice none 0 0, .slice none 0 0] 27) := ⟨_, rfl⟩
 obtain ⟨q, hq⟩ : ∃ q, w.heap.size = q := ⟨_, rfl⟩
 have hE0 : Ext w W0 := by rw [hW0]; exact ((Ext.alloc _ _).trans (Ext.alloc _ _)).trans (Ext.alloc _ _)
 obtain ⟨h1, h2, h3, hz0⟩ := three_p w (.cells #[.bool bi, p1, p2] 27) (.cells #[.bool bj, r1, r2] 27) (.cells #[.bool false, .slice none 0 0, .slice none 0 0] 27)
 rw [← hW0, hq] at h1 h2 h3 hz0
 have hp0 := Lib.hid (hp.ext hE0)
 have hr0 := Lib.hid (hr.ext hE0)
 have HE0 := Lib.hid hE0
 have Hz0 := Lib.hid hz0
 have HC := Lib.hid hC
 rw [hq]
 obtain ⟨res, hres⟩ : ∃ o, addC C bi x y bj u v = o := ⟨_, rfl⟩
 rw [hres]
 have Hres := Lib.hid hres
 clear hp hr hE0 hz0 hC hres
 go_enter Try.func21, Try.ntmps21
 go_upto_region 1 with fail
 rw [← hW0]
 have Hq := Lib.hid hq
 clear hW0 hq
 obtain ⟨o1, ho1⟩ : ∃ o, onQ C bi x y = o := ⟨_, rfl⟩
 obtain ⟨o2, ho2⟩ : ∃ o, onQ C bj u v = o := ⟨_, rfl⟩
 have Ho1 := Lib.hid ho1
 have Ho2 := Lib.hid ho2
 clear ho1 ho2
 go_upto_region 2 with (go_at_call 42; refine (of_c HC.out _).mono ?_; rintro e wa ⟨k, rfl, hk, hE1⟩)
 have HE1 := Lib.hid hE1
 replace h1 := hE1.at_ h1
 replace h2 := hE1.at_ h2
 replace h3 := hE1.at_ h3
 clear hE1
 cases o1
 case false =>
  obtain rfl : res = none := by rw [← Hres.out, addC, if_neg (by rw [Ho1.out]; decide)]
  refine Par.region_txt 10 [0, 0, 3, 7, 15, 31, 31, 127, 255, 511] [] (fun j f X => match j with
   | 0 => f 0 = .pointer (some ⟨k, 0, none⟩)
   | 1 => f 1 = .agg #[.bool bi, p1, p2]
   | 2 => f 2 = .bool false
   | 3 => f 3 = .bool true
   | 4 => f 4 = .bool true
   | 5 => f 5 = undef
   | 6 => f 6 = undef
   | 7 => f 7 = undef
   | 8 => f 8 = undef
   | 9 => f 9 = .bool true
   | _ => True) (by kernel_rfl) [(11, 0), (12, 1), (13, 2), (14, 3), (15, 4), (16, 5), (17, 6), (18, 7), (19, 8), (20, 9)] (by kernel_rfl) ?_
  refine Par.S 1 9 [(12, 1)] (fun f X hX hR K hK => ?_) ?_
  · simp only [yA, yB, yC, yD, yE]
    refine ⟨?_⟩
    go_simp
    exact Par.k hK (s := by simp only [yA, yB, yC, yD, yE])
  refine Par.S 2 8 [(11, 0)] (fun f X hX hR K hK => ?_) ?_
  · simp only [yA, yB, yC, yD, yE]
    refine ⟨Par.want (by kernel_rfl) (wp_loadV (v := .agg #[.bool bi, p1, p2]) (t := 27) 27 (.tmp 4) rfl rfl (hX.at_ h1) Try.underlying27 rfl infoP rfl ?_)⟩
    exact Par.k hK (s := by simp only [yA, yB, yC, yD, yE])
  refine Par.S 3 7 [(11, 0), (12, 1)] (fun f X hX hR K hK => ?_) ?_
  · have e0 : f 0 = _ := hR.out 0 rfl
    have e1 : f 1 = _ := hR.out 1 rfl
    simp only [yA, yB, yC, yD, yE, e0, e1]
    refine ⟨?_⟩
    go_simp
    refine (on_j (hk.ext hX) HC.out.fine (hp0.out.ext (HE1.out.trans hX))).mono ?_
    rw [Ho1.out]
    rintro e w2 ⟨rfl, hB⟩
    exact hK.out _ _ _ (by simp only [yA, yB, yC, yD, yE, e0, e1]) hB trivial (fun _ _ => rfl)
  refine Par.S 4 6 [(11, 0), (12, 1), (13, 2)] (fun f X hX hR K hK => ?_) ?_
  · have e2 : f 2 = _ := hR.out 2 rfl
    simp only [yA, yB, yC, yD, yE, e2]
    refine ⟨?_⟩
    go_simp
    exact Par.k hK (s := by simp only [yA, yB, yC, yD, yE, e2])
  refine Par.S 5 5 [(11, 0), (12, 1), (13, 2), (14, 3)] (fun f X hX hR K hK => ?_) ?_
  · have e3 : f 3 = _ := hR.out 3 rfl
    simp only [yA, yB, yC, yD, yE, e3]
    refine ⟨?_⟩
    go_simp
    exact Par.k hK (s := by simp only [yA, yB, yC, yD, yE, e3])
  refine Par.S 6 4 [(11, 0), (12, 1), (13, 2), (14, 3), (15, 4), (17, 6)] (fun f X hX hR K hK => ?_) ?_
  · have e4 : f 4 = _ := hR.out 4 rfl
    simp only [yA, yB, yC, yD, yE, e4]
    refine ⟨Par.unwant (by kernel_rfl) ?_⟩
    exact hK.out _ (undef) _ (by simp only [yA, yB, yC, yD, yE, e4]) (Ext.refl _) trivial (fun _ _ => rfl)
  refine Par.S 7 3 [(11, 0), (12, 1), (13, 2), (14, 3), (15, 4), (16, 5)] (fun f X hX hR K hK => ?_) ?_
  · have e4 : f 4 = _ := hR.out 4 rfl
    simp only [yA, yB, yC, yD, yE, e4]
    refine ⟨Par.unwant (by kernel_rfl) ?_⟩
    exact hK.out _ (undef) _ (by simp only [yA, yB, yC, yD, yE, e4]) (Ext.refl _) trivial (fun _ _ => rfl)
  refine Par.S 8 2 [(11, 0), (12, 1), (13, 2), (14, 3), (15, 4), (16, 5), (17, 6)] (fun f X hX hR K hK => ?_) ?_
  · have e4 : f 4 = _ := hR.out 4 rfl
    have e5 : f 5 = _ := hR.out 5 rfl
    have e6 : f 6 = _ := hR.out 6 rfl
    simp only [yA, yB, yC, yD, yE, e4, e5, e6]
    refine ⟨Par.unwant (by kernel_rfl) ?_⟩
    exact hK.out _ (undef) _ (by simp only [yA, yB, yC, yD, yE, e4, e5, e6]) (Ext.refl _) trivial (fun _ _ => rfl)
  refine Par.S 9 1 [(11, 0), (12, 1), (13, 2), (14, 3), (15, 4), (16, 5), (17, 6), (18, 7)] (fun f X hX hR K hK => ?_) ?_
  · have e4 : f 4 = _ := hR.out 4 rfl
    have e7 : f 7 = _ := hR.out 7 rfl
    simp only [yA, yB, yC, yD, yE, e4, e7]
    refine ⟨Par.unwant (by kernel_rfl) ?_⟩
    exact hK.out _ (undef) _ (by simp only [yA, yB, yC, yD, yE, e4, e7]) (Ext.refl _) trivial (fun _ _ => rfl)
  refine Par.S 10 0 [(11, 0), (12, 1), (13, 2), (14, 3), (15, 4), (16, 5), (17, 6), (18, 7), (19, 8)] (fun f X hX hR K hK => ?_) ?_
  · have e4 : f 4 = _ := hR.out 4 rfl
    have e8 : f 8 = _ := hR.out 8 rfl
    simp only [yA, yB, yC, yD, yE, e4, e8]
    refine ⟨?_⟩
    go_simp
    exact Par.k hK (s := by simp only [yA, yB, yC, yD, yE, e4, e8])
  refine Par.AllOps.fin ⟨fun f X hX hR hal hap => ?_⟩
  have e0 : f 0 = _ := hR 0 (by decide)
  have e1 : f 1 = _ := hR 1 (by decide)
  have e2 : f 2 = _ := hR 2 (by decide)
  have e3 : f 3 = _ := hR 3 (by decide)
  have e4 : f 4 = _ := hR 4 (by decide)
  have e5 : f 5 = _ := hR 5 (by decide)
  have e6 : f 6 = _ := hR 6 (by decide)
  have e7 : f 7 = _ := hR 7 (by decide)
  have e8 : f 8 = _ := hR 8 (by decide)
  have e9 : f 9 = _ := hR 9 (by decide)
  simp only [yA, yB, yC, yD, yE, e0, e1, e2, e3, e4, e5, e6, e7, e8, e9]
  clear hR hal hap e0 e1 e2 e3 e4 e5 e6 e7 e8 e9
  refine Par.Chain.done ?_
  have hb1 := hX.at_ h3
  go_wp2_with (go_at_call 45; refine (none_any _).mono ?_; rintro e wb ⟨rfl, hE2⟩; have hrb2 := hE2.at_ hb1; obtain ⟨z0, z1, z2, f0, f1, f2⟩ := pt_facts hrb2)
  exact end_pt rfl rfl rfl rfl (pt_set hrb2 _ _ _) ⟨_, by rfl, by rfl, pt_ext (((HE0.out.trans HE1.out).trans hX).trans hE2) (by have := Hq.out; omega) _ _ _⟩
 case true =>
  cases o2
  case false =>
   obtain rfl : res = none := by rw [← Hres.out, addC, if_pos Ho1.out, if_neg (by rw [Ho2.out]; decide)]
   refine Par.region_txt 10 [0, 0, 3, 7, 15, 31, 31, 127, 255, 511] [] (fun j f X => match j with
    | 0 => f 0 = .pointer (some ⟨k, 0, none⟩)
    | 1 => f 1 = .agg #[.bool bi, p1, p2]
    | 2 => f 2 = .bool true
    | 3 => f 3 = .bool false
    | 4 => f 4 = .bool false
    | 5 => f 5 = .pointer (some ⟨k, 0, none⟩)
    | 6 => f 6 = .agg #[.bool bj, r1, r2]
    | 7 => f 7 = .bool false
    | 8 => f 8 = .bool true
    | 9 => f 9 = .bool true
    | _ => True) (by kernel_rfl) [(11, 0), (12, 1), (13, 2), (14, 3), (15, 4), (16, 5), (17, 6), (18, 7), (19, 8), (20, 9)] (by kernel_rfl) ?_
   refine Par.S 1 9 [(12, 1)] (fun f X hX hR K hK => ?_) ?_
   · simp only [yA, yB, yC, yD, yE]
     refine ⟨?_⟩
     go_simp
     exact Par.k hK (s := by simp only [yA, yB, yC, yD, yE])
   refine Par.S 2 8 [(11, 0)] (fun f X hX hR K hK => ?_) ?_
   · simp only [yA, yB, yC, yD, yE]
     refine ⟨Par.want (by kernel_rfl) (wp_loadV (v := .agg #[.bool bi, p1, p2]) (t := 27) 27 (.tmp 4) rfl rfl (hX.at_ h1) Try.underlying27 rfl infoP rfl ?_)⟩
     exact Par.k hK (s := by simp only [yA, yB, yC, yD, yE])
   refine Par.S 3 7 [(11, 0), (12, 1)] (fun f X hX hR K hK => ?_) ?_
   · have e0 : f 0 = _ := hR.out 0 rfl
     have e1 : f 1 = _ := hR.out 1 rfl
     simp only [yA, yB, yC, yD, yE, e0, e1]
     refine ⟨?_⟩
     go_simp
     refine (on_j (hk.ext hX) HC.out.fine (hp0.out.ext (HE1.out.trans hX))).mono ?_
     rw [Ho1.out]
     rintro e w2 ⟨rfl, hB⟩
     exact hK.out _ _ _ (by simp only [yA, yB, yC, yD, yE, e0, e1]) hB trivial (fun _ _ => rfl)
   refine Par.S 4 6 [(11, 0), (12, 1), (13, 2)] (fun f X hX hR K hK => ?_) ?_
   · have e2 : f 2 = _ := hR.out 2 rfl
     simp only [yA, yB, yC, yD, yE, e2]
     refine ⟨?_⟩
     go_simp
     exact Par.k hK (s := by simp only [yA, yB, yC, yD, yE, e2])
   refine Par.S 5 5 [(11, 0), (12, 1), (13, 2), (14, 3)] (fun f X hX hR K hK => ?_) ?_
   · have e3 : f 3 = _ := hR.out 3 rfl
     simp only [yA, yB, yC, yD, yE, e3]
     refine ⟨?_⟩
     go_simp
     exact Par.k hK (s := by simp only [yA, yB, yC, yD, yE, e3])
   refine Par.S 6 4 [(11, 0), (12, 1), (13, 2), (14, 3), (15, 4), (17, 6)] (fun f X hX hR K hK => ?_) ?_
   · have e4 : f 4 = _ := hR.out 4 rfl
     simp only [yA, yB, yC, yD, yE, e4]
     refine ⟨Par.want (by kernel_rfl) ?_⟩
     go_simp
     exact Par.k hK (s := by simp only [yA, yB, yC, yD, yE, e4])
   refine Par.S 7 3 [(11, 0), (12, 1), (13, 2), (14, 3), (15, 4), (16, 5)] (fun f X hX hR K hK => ?_) ?_
   · have e4 : f 4 = _ := hR.out 4 rfl
     simp only [yA, yB, yC, yD, yE, e4]
     refine ⟨Par.want (by kernel_rfl) (wp_loadV (v := .agg #[.bool bj, r1, r2]) (t := 27) 27 (.tmp 5) rfl rfl (hX.at_ h2) Try.underlying27 rfl infoP rfl ?_)⟩
     exact Par.k hK (s := by simp only [yA, yB, yC, yD, yE, e4])
   refine Par.S 8 2 [(11, 0), (12, 1), (13, 2), (14, 3), (15, 4), (16, 5), (17, 6)] (fun f X hX hR K hK => ?_) ?_
   · have e4 : f 4 = _ := hR.out 4 rfl
     have e5 : f 5 = _ := hR.out 5 rfl
     have e6 : f 6 = _ := hR.out 6 rfl
     simp only [yA, yB, yC, yD, yE, e4, e5, e6]
     refine ⟨Par.want (by kernel_rfl) ?_⟩
     go_simp
     refine (on_j (hk.ext hX) HC.out.fine (hr0.out.ext (HE1.out.trans hX))).mono ?_
     rw [Ho2.out]
     rintro e w2 ⟨rfl, hB⟩
     exact hK.out _ _ _ (by simp only [yA, yB, yC, yD, yE, e4, e5, e6]) hB trivial (fun _ _ => rfl)
   refine Par.S 9 1 [(11, 0), (12, 1), (13, 2), (14, 3), (15, 4), (16, 5), (17, 6), (18, 7)] (fun f X hX hR K hK => ?_) ?_
   · have e4 : f 4 = _ := hR.out 4 rfl
     have e7 : f 7 = _ := hR.out 7 rfl
     simp only [yA, yB, yC, yD, yE, e4, e7]
     refine ⟨Par.want (by kernel_rfl) ?_⟩
     go_simp
     exact Par.k hK (s := by simp only [yA, yB, yC, yD, yE, e4, e7])
   refine Par.S 10 0 [(11, 0), (12, 1), (13, 2), (14, 3), (15, 4), (16, 5), (17, 6), (18, 7), (19, 8)] (fun f X hX hR K hK => ?_) ?_
   · have e4 : f 4 = _ := hR.out 4 rfl
     have e8 : f 8 = _ := hR.out 8 rfl
     simp only [yA, yB, yC, yD, yE, e4, e8]
     refine ⟨?_⟩
     go_simp
     exact Par.k hK (s := by simp only [yA, yB, yC, yD, yE, e4, e8])
   refine Par.AllOps.fin ⟨fun f X hX hR hal hap => ?_⟩
   have e0 : f 0 = _ := hR 0 (by decide)
   have e1 : f 1 = _ := hR 1 (by decide)
   have e2 : f 2 = _ := hR 2 (by decide)
   have e3 : f 3 = _ := hR 3 (by decide)
   have e4 : f 4 = _ := hR 4 (by decide)
   have e5 : f 5 = _ := hR 5 (by decide)
   have e6 : f 6 = _ := hR 6 (by decide)
   have e7 : f 7 = _ := hR 7 (by decide)
   have e8 : f 8 = _ := hR 8 (by decide)
   have e9 : f 9 = _ := hR 9 (by decide)
   simp only [yA, yB, yC, yD, yE, e0, e1, e2, e3, e4, e5, e6, e7, e8, e9]
   clear hR hal hap e0 e1 e2 e3 e4 e5 e6 e7 e8 e9
   refine Par.Chain.done ?_
   have hb1 := hX.at_ h3
   go_wp2_with (go_at_call 45; refine (none_any _).mono ?_; rintro e wb ⟨rfl, hE2⟩; have hrb2 := hE2.at_ hb1; obtain ⟨z0, z1, z2, f0, f1, f2⟩ := pt_facts hrb2)
   exact end_pt rfl rfl rfl rfl (pt_set hrb2 _ _ _) ⟨_, by rfl, by rfl, pt_ext (((HE0.out.trans HE1.out).trans hX).trans hE2) (by have := Hq.out; omega) _ _ _⟩
  case true =>
   obtain rfl : res = some (downT C.M (addT C.M (upP bi x y) (upP bj u v))) := by rw [← Hres.out, addC, if_pos Ho1.out, if_pos Ho2.out]
   refine Par.region_txt 10 [0, 0, 3, 7, 15, 31, 31, 127, 255, 511] [] (fun j f X => match j with
    | 0 => f 0 = .pointer (some ⟨k, 0, none⟩)
    | 1 => f 1 = .agg #[.bool bi, p1, p2]
    | 2 => f 2 = .bool true
    | 3 => f 3 = .bool false
    | 4 => f 4 = .bool false
    | 5 => f 5 = .pointer (some ⟨k, 0, none⟩)
    | 6 => f 6 = .agg #[.bool bj, r1, r2]
    | 7 => f 7 = .bool true
    | 8 => f 8 = .bool false
    | 9 => f 9 = .bool false
    | _ => True) (by kernel_rfl) [(11, 0), (12, 1), (13, 2), (14, 3), (15, 4), (16, 5), (17, 6), (18, 7), (19, 8), (20, 9)] (by kernel_rfl) ?_
   refine Par.S 1 9 [(12, 1)] (fun f X hX hR K hK => ?_) ?_
   · simp only [yA, yB, yC, yD, yE]
     refine ⟨?_⟩
     go_simp
     exact Par.k hK (s := by simp only [yA, yB, yC, yD, yE])
   refine Par.S 2 8 [(11, 0)] (fun f X hX hR K hK => ?_) ?_
   · simp only [yA, yB, yC, yD, yE]
     refine ⟨Par.want (by kernel_rfl) (wp_loadV (v := .agg #[.bool bi, p1, p2]) (t := 27) 27 (.tmp 4) rfl rfl (hX.at_ h1) Try.underlying27 rfl infoP rfl ?_)⟩
     exact Par.k hK (s := by simp only [yA, yB, yC, yD, yE])
   refine Par.S 3 7 [(11, 0), (12, 1)] (fun f X hX hR K hK => ?_) ?_
   · have e0 : f 0 = _ := hR.out 0 rfl
     have e1 : f 1 = _ := hR.out 1 rfl
     simp only [yA, yB, yC, yD, yE, e0, e1]
     refine ⟨?_⟩
     go_simp
     refine (on_j (hk.ext hX) HC.out.fine (hp0.out.ext (HE1.out.trans hX))).mono ?_
     rw [Ho1.out]
     rintro e w2 ⟨rfl, hB⟩
     exact hK.out _ _ _ (by simp only [yA, yB, yC, yD, yE, e0, e1]) hB trivial (fun _ _ => rfl)
   refine Par.S 4 6 [(11, 0), (12, 1), (13, 2)] (fun f X hX hR K hK => ?_) ?_
   · have e2 : f 2 = _ := hR.out 2 rfl
     simp only [yA, yB, yC, yD, yE, e2]
     refine ⟨?_⟩
     go_simp
     exact Par.k hK (s := by simp only [yA, yB, yC, yD, yE, e2])
   refine Par.S 5 5 [(11, 0), (12, 1), (13, 2), (14, 3)] (fun f X hX hR K hK => ?_) ?_
   · have e3 : f 3 = _ := hR.out 3 rfl
     simp only [yA, yB, yC, yD, yE, e3]
     refine ⟨?_⟩
     go_simp
     exact Par.k hK (s := by simp only [yA, yB, yC, yD, yE, e3])
   refine Par.S 6 4 [(11, 0), (12, 1), (13, 2), (14, 3), (15, 4), (17, 6)] (fun f X hX hR K hK => ?_) ?_
   · have e4 : f 4 = _ := hR.out 4 rfl
     simp only [yA, yB, yC, yD, yE, e4]
     refine ⟨Par.want (by kernel_rfl) ?_⟩
     go_simp
     exact Par.k hK (s := by simp only [yA, yB, yC, yD, yE, e4])
   refine Par.S 7 3 [(11, 0), (12, 1), (13, 2), (14, 3), (15, 4), (16, 5)] (fun f X hX hR K hK => ?_) ?_
   · have e4 : f 4 = _ := hR.out 4 rfl
     simp only [yA, yB, yC, yD, yE, e4]
     refine ⟨Par.want (by kernel_rfl) (wp_loadV (v := .agg #[.bool bj, r1, r2]) (t := 27) 27 (.tmp 5) rfl rfl (hX.at_ h2) Try.underlying27 rfl infoP rfl ?_)⟩
     exact Par.k hK (s := by simp only [yA, yB, yC, yD, yE, e4])
   refine Par.S 8 2 [(11, 0), (12, 1), (13, 2), (14, 3), (15, 4), (16, 5), (17, 6)] (fun f X hX hR K hK => ?_) ?_
   · have e4 : f 4 = _ := hR.out 4 rfl
     have e5 : f 5 = _ := hR.out 5 rfl
     have e6 : f 6 = _ := hR.out 6 rfl
     simp only [yA, yB, yC, yD, yE, e4, e5, e6]
     refine ⟨Par.want (by kernel_rfl) ?_⟩
     go_simp
     refine (on_j (hk.ext hX) HC.out.fine (hr0.out.ext (HE1.out.trans hX))).mono ?_
     rw [Ho2.out]
     rintro e w2 ⟨rfl, hB⟩
     exact hK.out _ _ _ (by simp only [yA, yB, yC, yD, yE, e4, e5, e6]) hB trivial (fun _ _ => rfl)
   refine Par.S 9 1 [(11, 0), (12, 1), (13, 2), (14, 3), (15, 4), (16, 5), (17, 6), (18, 7)] (fun f X hX hR K hK => ?_) ?_
   · have e4 : f 4 = _ := hR.out 4 rfl
     have e7 : f 7 = _ := hR.out 7 rfl
     simp only [yA, yB, yC, yD, yE, e4, e7]
     refine ⟨Par.want (by kernel_rfl) ?_⟩
     go_simp
     exact Par.k hK (s := by simp only [yA, yB, yC, yD, yE, e4, e7])
   refine Par.S 10 0 [(11, 0), (12, 1), (13, 2), (14, 3), (15, 4), (16, 5), (17, 6), (18, 7), (19, 8)] (fun f X hX hR K hK => ?_) ?_
   · have e4 : f 4 = _ := hR.out 4 rfl
     have e8 : f 8 = _ := hR.out 8 rfl
     simp only [yA, yB, yC, yD, yE, e4, e8]
     refine ⟨?_⟩
     go_simp
     exact Par.k hK (s := by simp only [yA, yB, yC, yD, yE, e4, e8])
   refine Par.AllOps.fin ⟨fun f X hX hR hal hap => ?_⟩
   have e0 : f 0 = _ := hR 0 (by decide)
   have e1 : f 1 = _ := hR 1 (by decide)
   have e2 : f 2 = _ := hR 2 (by decide)
   have e3 : f 3 = _ := hR 3 (by decide)
   have e4 : f 4 = _ := hR 4 (by decide)
   have e5 : f 5 = _ := hR 5 (by decide)
   have e6 : f 6 = _ := hR 6 (by decide)
   have e7 : f 7 = _ := hR 7 (by decide)
   have e8 : f 8 = _ := hR 8 (by decide)
   have e9 : f 9 = _ := hR 9 (by decide)
   simp only [yA, yB, yC, yD, yE, e0, e1, e2, e3, e4, e5, e6, e7, e8, e9]
   clear hR hal hap e0 e1 e2 e3 e4 e5 e6 e7 e8 e9
   refine Par.Chain.done ?_
   have HX := Lib.hid hX
   rename World => X2
   replace h1 := HX.out.at_ h1
   replace h2 := HX.out.at_ h2
   replace h3 := HX.out.at_ h3
   have HEX := Lib.hid ((HE0.out.trans HE1.out).trans HX.out)
   clear hX
   go_upto_region 4 with fail
   refine Par.region_ext (by kernel_rfl) 10 [0, 0, 0, 0, 12, 0, 0, 124, 254, 511, 1023, 2047] [] (fun j f X => match j with
    | 0 => f 0 = .pointer (some ⟨k, 0, none⟩)
    | 1 => f 1 = .pointer (some ⟨k, 0, none⟩)
    | 2 => f 2 = .pointer (some ⟨k, 0, none⟩)
    | 3 => f 3 = .agg #[.bool bi, p1, p2]
    | 4 => ∃ o, f 4 = o ∧ JAt C o (upP bi x y)
    | 5 => f 5 = .pointer (some ⟨k, 0, none⟩)
    | 6 => f 6 = .agg #[.bool bj, r1, r2]
    | 7 => ∃ o, f 7 = o ∧ JAt C o (upP bj u v)
    | 8 => ∃ o, f 8 = o ∧ JAt C o (addT C.M (upP bi x y) (upP bj u v))
    | 9 => ∃ o, f 9 = o ∧ PtV X q o (downT C.M (addT C.M (upP bi x y) (upP bj u v)))
    | _ => True) (by kernel_rfl) [(22, 0), (23, 1), (24, 2), (25, 3), (26, 4), (27, 5), (28, 6), (29, 7), (30, 8), (31, 9)] (by kernel_rfl) ?_
   refine Par.S 1 9 [(23, 1), (24, 2), (25, 3), (26, 4), (27, 5), (28, 6), (29, 7), (30, 8)] (fun f X hX hR K hK => ?_) ?_
   · simp only [yA, yB, yC, yD, yE]
     refine ⟨?_⟩
     go_simp
     exact Par.k hK (s := by simp only [yA, yB, yC, yD, yE])
   refine Par.S 2 8 [(22, 0), (24, 2), (25, 3), (26, 4), (27, 5), (28, 6), (29, 7)] (fun f X hX hR K hK => ?_) ?_
   · simp only [yA, yB, yC, yD, yE]
     refine ⟨?_⟩
     go_simp
     exact Par.k hK (s := by simp only [yA, yB, yC, yD, yE])
   refine Par.S 3 7 [(22, 0), (23, 1), (25, 3), (27, 5), (28, 6)] (fun f X hX hR K hK => ?_) ?_
   · simp only [yA, yB, yC, yD, yE]
     refine ⟨?_⟩
     go_simp
     exact Par.k hK (s := by simp only [yA, yB, yC, yD, yE])
   refine Par.S 4 6 [(22, 0), (23, 1), (24, 2), (27, 5), (28, 6)] (fun f X hX hR K hK => ?_) ?_
   · simp only [yA, yB, yC, yD, yE]
     refine ⟨Par.want (by kernel_rfl) (wp_loadV (v := .agg #[.bool bi, p1, p2]) (t := 27) 27 (.tmp 4) rfl rfl (hX.at_ h1) Try.underlying27 rfl infoP rfl ?_)⟩
     exact Par.k hK (s := by simp only [yA, yB, yC, yD, yE])
   refine Par.S 5 5 [(22, 0), (23, 1), (24, 2), (25, 3), (27, 5), (28, 6)] (fun f X hX hR K hK => ?_) ?_
   · have e2 : f 2 = _ := hR.out 2 rfl
     have e3 : f 3 = _ := hR.out 3 rfl
     simp only [yA, yB, yC, yD, yE, e2, e3]
     refine ⟨?_⟩
     go_simp
     refine (up_j (hk.ext (HX.out.trans hX)) (hp0.out.ext ((HE1.out.trans HX.out).trans hX)) Ho1.out).mono ?_
     rintro e w2 ⟨o, rfl, hj, hB⟩
     exact hK.out _ _ _ (by simp only [yA, yB, yC, yD, yE, e2, e3]) hB trivial (fun _ _ => ⟨_, rfl, hj⟩)
   refine Par.S 6 4 [(22, 0), (23, 1), (24, 2), (25, 3), (26, 4), (28, 6)] (fun f X hX hR K hK => ?_) ?_
   · simp only [yA, yB, yC, yD, yE]
     refine ⟨?_⟩
     go_simp
     exact Par.k hK (s := by simp only [yA, yB, yC, yD, yE])
   refine Par.S 7 3 [(22, 0), (23, 1), (24, 2), (25, 3), (26, 4), (27, 5)] (fun f X hX hR K hK => ?_) ?_
   · simp only [yA, yB, yC, yD, yE]
     refine ⟨Par.want (by kernel_rfl) (wp_loadV (v := .agg #[.bool bj, r1, r2]) (t := 27) 27 (.tmp 5) rfl rfl (hX.at_ h2) Try.underlying27 rfl infoP rfl ?_)⟩
     exact Par.k hK (s := by simp only [yA, yB, yC, yD, yE])
   refine Par.S 8 2 [(22, 0), (23, 1), (24, 2), (25, 3), (26, 4), (27, 5), (28, 6)] (fun f X hX hR K hK => ?_) ?_
   · have e5 : f 5 = _ := hR.out 5 rfl
     have e6 : f 6 = _ := hR.out 6 rfl
     simp only [yA, yB, yC, yD, yE, e5, e6]
     refine ⟨?_⟩
     go_simp
     refine (up_j (hk.ext (HX.out.trans hX)) (hr0.out.ext ((HE1.out.trans HX.out).trans hX)) Ho2.out).mono ?_
     rintro e w2 ⟨o, rfl, hj, hB⟩
     exact hK.out _ _ _ (by simp only [yA, yB, yC, yD, yE, e5, e6]) hB trivial (fun _ _ => ⟨_, rfl, hj⟩)
   refine Par.S 9 1 [(22, 0), (23, 1), (24, 2), (25, 3), (26, 4), (27, 5), (28, 6), (29, 7)] (fun f X hX hR K hK => ?_) ?_
   · have e1 : f 1 = _ := hR.out 1 rfl
     obtain ⟨v4, (e4 : f 4 = _), j4⟩ := hR.out 4 rfl
     obtain ⟨v7, (e7 : f 7 = _), j7⟩ := hR.out 7 rfl
     simp only [yA, yB, yC, yD, yE, e1, e4, e7]
     refine ⟨?_⟩
     go_simp
     refine (add_j (hk.ext (HX.out.trans hX)) j4 j7).mono ?_
     rintro e w2 ⟨o, rfl, hj, hB⟩
     exact hK.out _ _ _ (by simp only [yA, yB, yC, yD, yE, e1, e4, e7]) hB trivial (fun _ _ => ⟨_, rfl, hj⟩)
   refine Par.S 10 0 [(22, 0), (23, 1), (24, 2), (25, 3), (26, 4), (27, 5), (28, 6), (29, 7), (30, 8)] (fun f X hX hR K hK => ?_) ?_
   · have e0 : f 0 = _ := hR.out 0 rfl
     obtain ⟨v8, (e8 : f 8 = _), j8⟩ := hR.out 8 rfl
     simp only [yA, yB, yC, yD, yE, e0, e8]
     refine ⟨?_⟩
     go_simp
     refine (down_j (hk.ext (HX.out.trans hX)) HC.out.plen j8).mono ?_
     rintro e w2 ⟨o, rfl, hj, hB⟩
     exact hK.out _ _ _ (by simp only [yA, yB, yC, yD, yE, e0, e8]) hB trivial (fun Y hY => ⟨_, rfl, (hj.mono (by have := HEX.out.bsize; have := hX.bsize; have := Hq.out; omega)).ext hY⟩)
   refine Par.AllOps.fin ⟨fun f X hX hR hal hap => ?_⟩
   have e0 : f 0 = _ := hR 0 (by decide)
   have e1 : f 1 = _ := hR 1 (by decide)
   have e2 : f 2 = _ := hR 2 (by decide)
   have e3 : f 3 = _ := hR 3 (by decide)
   obtain ⟨v4, (e4 : f 4 = _), j4⟩ := hR 4 (by decide)
   have e5 : f 5 = _ := hR 5 (by decide)
   have e6 : f 6 = _ := hR 6 (by decide)
   obtain ⟨v7, (e7 : f 7 = _), j7⟩ := hR 7 (by decide)
   obtain ⟨v8, (e8 : f 8 = _), j8⟩ := hR 8 (by decide)
   obtain ⟨v9, (e9 : f 9 = _), j9⟩ := hR 9 (by decide)
   simp only [yA, yB, yC, yD, yE, e0, e1, e2, e3, e4, e5, e6, e7, e8, e9]
   clear hR hal hap e0 e1 e2 e3 e4 e5 e6 e7 e8 e9
   obtain ⟨x0, x1, x2, ev, hone, hst⟩ := ptv_store (b := q + 1 + 1) j9
   subst ev
   refine Par.Chain.next (fun K hK => ⟨Par.want (by kernel_rfl) (wp_storeV (cs' := #[x0, x1, x2]) (t := 27) 27 (.tmp 6) (.tmp 31) rfl rfl rfl rfl (hX.at_ h3) infoP rfl hone (fun Y hY1 hY2 hY3 => hK.out _ _ ?_))⟩)
   refine Par.Chain.next (fun K hK => ⟨Par.want (by kernel_rfl) ?_⟩)
   go_simp
   refine hK.out _ _ ?_
   refine Par.Chain.done ?_
   go_wp2
   exact end_pt rfl rfl rfl rfl hY1 ⟨_, rfl, hst Y hY2 ⟨_, hX.at_ h3⟩, hY2.ext (HEX.out.trans hX) (by have := Hq.out; omega)⟩
set_option maxRecDepth 100000 in
set_option maxHeartbeats 4000000 in
theorem add_nil {c : Int} (h1 : c ≠ 1) (h2 : c ≠ 2) {p r : Value} {bi bj : Bool} {x y u v : Nat} (w : World) (hp : APt w p bi x y) (hr : APt w r bj u v) :
 Calls Try.prog 21 #[.int .i64 c, p, r] w fun e w' => e = .returned (.tuple #[infV, .bool false]) ∧ Ext w w' := by
 obtain ⟨p1, p2, rfl⟩ := apt_agg hp
 obtain ⟨r1, r2, rfl⟩ := apt_agg hr
 obtain ⟨W0, hW0⟩ : ∃ W0, W0 = ((w.alloc (.cells #[.bool bi, p1, p2] 27)).alloc (.cells #[.bool bj, r1, r2] 27)).alloc (.cells #[.bool false, .slice none 0 0, .slice none 0 0] 27) := ⟨_, rfl⟩
 obtain ⟨q, hq⟩ : ∃ q, w.heap.size = q := ⟨_, rfl⟩
 have hE0 : Ext w W0 := by rw [hW0]; exact ((Ext.alloc _ _).trans (Ext.alloc _ _)).trans (Ext.alloc _ _)
 obtain ⟨g1, g2, g3, hz0⟩ := three_p w (.cells #[.bool bi, p1, p2] 27) (.cells #[.bool bj, r1, r2] 27) (.cells #[.bool false, .slice none 0 0, .slice none 0 0] 27)
 rw [← hW0, hq] at g1 g2 g3 hz0
 have HE0 := Lib.hid hE0
 clear hp hr hE0 hz0 g2
 go_enter Try.func21, Try.ntmps21
 go_upto_region 1 with fail
 rw [← hW0]
 have Hq := Lib.hid hq
 clear hW0 hq
 go_upto_region 2 with (go_at_call 42; refine (of_nil h1 h2 _).mono ?_; rintro e wa ⟨rfl, hE1⟩)
 refine Par.region_txt 10 [0, 0, 3, 7, 15, 31, 31, 127, 255, 511] [] (fun j f X => match j with
  | 0 => f 0 = .pointer none
  | 1 => f 1 = .agg #[.bool bi, p1, p2]
  | 2 => f 2 = .bool false
  | 3 => f 3 = .bool true
  | 4 => f 4 = .bool true
  | 5 => f 5 = undef
  | 6 => f 6 = undef
  | 7 => f 7 = undef
  | 8 => f 8 = undef
  | 9 => f 9 = .bool true
  | _ => True) (by kernel_rfl) [(11, 0), (12, 1), (13, 2), (14, 3), (15, 4), (16, 5), (17, 6), (18, 7), (19, 8), (20, 9)] (by kernel_rfl) ?_
 refine Par.S 1 9 [(12, 1)] (fun f X hX hR K hK => ?_) ?_
 · simp only [yA, yB, yC, yD, yE]
   refine ⟨?_⟩
   go_simp
   exact Par.k hK (s := by simp only [yA, yB, yC, yD, yE])
 refine Par.S 2 8 [(11, 0)] (fun f X hX hR K hK => ?_) ?_
 · simp only [yA, yB, yC, yD, yE]
   refine ⟨Par.want (by kernel_rfl) (wp_loadV (v := .agg #[.bool bi, p1, p2]) (t := 27) 27 (.tmp 4) rfl rfl ((hE1.trans hX).at_ g1) Try.underlying27 rfl infoP rfl ?_)⟩
   exact Par.k hK (s := by simp only [yA, yB, yC, yD, yE])
 refine Par.S 3 7 [(11, 0), (12, 1)] (fun f X hX hR K hK => ?_) ?_
 · have e0 : f 0 = _ := hR.out 0 rfl
   have e1 : f 1 = _ := hR.out 1 rfl
   simp only [yA, yB, yC, yD, yE, e0, e1]
   refine ⟨?_⟩
   go_simp
   refine (on_nil _ _ _ _).mono ?_
   rintro e w2 ⟨rfl, hB⟩
   exact hK.out _ _ _ (by simp only [yA, yB, yC, yD, yE, e0, e1]) hB trivial (fun _ _ => rfl)
 refine Par.S 4 6 [(11, 0), (12, 1), (13, 2)] (fun f X hX hR K hK => ?_) ?_
 · have e2 : f 2 = _ := hR.out 2 rfl
   simp only [yA, yB, yC, yD, yE, e2]
   refine ⟨?_⟩
   go_simp
   exact Par.k hK (s := by simp only [yA, yB, yC, yD, yE, e2])
 refine Par.S 5 5 [(11, 0), (12, 1), (13, 2), (14, 3)] (fun f X hX hR K hK => ?_) ?_
 · have e3 : f 3 = _ := hR.out 3 rfl
   simp only [yA, yB, yC, yD, yE, e3]
   refine ⟨?_⟩
   go_simp
   exact Par.k hK (s := by simp only [yA, yB, yC, yD, yE, e3])
 refine Par.S 6 4 [(11, 0), (12, 1), (13, 2), (14, 3), (15, 4), (17, 6)] (fun f X hX hR K hK => ?_) ?_
 · have e4 : f 4 = _ := hR.out 4 rfl
   simp only [yA, yB, yC, yD, yE, e4]
   refine ⟨Par.unwant (by kernel_rfl) ?_⟩
   exact hK.out _ (undef) _ (by simp only [yA, yB, yC, yD, yE, e4]) (Ext.refl _) trivial (fun _ _ => rfl)
 refine Par.S 7 3 [(11, 0), (12, 1), (13, 2), (14, 3), (15, 4), (16, 5)] (fun f X hX hR K hK => ?_) ?_
 · have e4 : f 4 = _ := hR.out 4 rfl
   simp only [yA, yB, yC, yD, yE, e4]
   refine ⟨Par.unwant (by kernel_rfl) ?_⟩
   exact hK.out _ (undef) _ (by simp only [yA, yB, yC, yD, yE, e4]) (Ext.refl _) trivial (fun _ _ => rfl)
 refine Par.S 8 2 [(11, 0), (12, 1), (13, 2), (14, 3), (15, 4), (16, 5), (17, 6)] (fun f X hX hR K hK => ?_) ?_
 · have e4 : f 4 = _ := hR.out 4 rfl
   have e5 : f 5 = _ := hR.out 5 rfl
   have e6 : f 6 = _ := hR.out 6 rfl
   simp only [yA, yB, yC, yD, yE, e4, e5, e6]
   refine ⟨Par.unwant (by kernel_rfl) ?_⟩
   exact hK.out _ (undef) _ (by simp only [yA, yB, yC, yD, yE, e4, e5, e6]) (Ext.refl _) trivial (fun _ _ => rfl)
 refine Par.S 9 1 [(11, 0), (12, 1), (13, 2), (14, 3), (15, 4), (16, 5), (17, 6), (18, 7)] (fun f X hX hR K hK => ?_) ?_
 · have e4 : f 4 = _ := hR.out 4 rfl
   have e7 : f 7 = _ := hR.out 7 rfl
   simp only [yA, yB, yC, yD, yE, e4, e7]
   refine ⟨Par.unwant (by kernel_rfl) ?_⟩
   exact hK.out _ (undef) _ (by simp only [yA, yB, yC, yD, yE, e4, e7]) (Ext.refl _) trivial (fun _ _ => rfl)
 refine Par.S 10 0 [(11, 0), (12, 1), (13, 2), (14, 3), (15, 4), (16, 5), (17, 6), (18, 7), (19, 8)] (fun f X hX hR K hK => ?_) ?_
 · have e4 : f 4 = _ := hR.out 4 rfl
   have e8 : f 8 = _ := hR.out 8 rfl
   simp only [yA, yB, yC, yD, yE, e4, e8]
   refine ⟨?_⟩
   go_simp
   exact Par.k hK (s := by simp only [yA, yB, yC, yD, yE, e4, e8])
 refine Par.AllOps.fin ⟨fun f X hX hR hal hap => ?_⟩
 have e0 : f 0 = _ := hR 0 (by decide)
 have e1 : f 1 = _ := hR 1 (by decide)
 have e2 : f 2 = _ := hR 2 (by decide)
 have e3 : f 3 = _ := hR 3 (by decide)
 have e4 : f 4 = _ := hR 4 (by decide)
 have e5 : f 5 = _ := hR 5 (by decide)
 have e6 : f 6 = _ := hR 6 (by decide)
 have e7 : f 7 = _ := hR 7 (by decide)
 have e8 : f 8 = _ := hR 8 (by decide)
 have e9 : f 9 = _ := hR 9 (by decide)
 simp only [yA, yB, yC, yD, yE, e0, e1, e2, e3, e4, e5, e6, e7, e8, e9]
 clear hR hal hap e0 e1 e2 e3 e4 e5 e6 e7 e8 e9
 refine Par.Chain.done ?_
 have hb1 := (hE1.trans hX).at_ g3
 go_wp2_with (go_at_call 45; refine (none_any _).mono ?_; rintro e wb ⟨rfl, hE2⟩; have hrb2 := hE2.at_ hb1; obtain ⟨z0, z1, z2, f0, f1, f2⟩ := pt_facts hrb2)
 exact end_pt rfl rfl rfl rfl (pt_set hrb2 _ _ _) ⟨rfl, pt_ext (((HE0.out.trans hE1).trans hX).trans hE2) (by have := Hq.out; omega) _ _ _⟩
end Go.Proofs.Ytldhmjfjbalakaa
