/- AttrOwn: answers are the caller's own, and nothing that is handed in is changed: the walk of the law. -/
import Derived.Test.YtpikikaoelnheaaPutF
import Derived.Test.YtpikikaoelnheaaListsLaw
import Derived.BigQuiet
import Derived.Deep.QuietTactic
namespace Go.Proofs.Ytpikikaoelnheaa
open Go.RowKit

/-- The row that was put together, whatever its types and its bytes are by now: n attributes, the j-th one's value lies at L j. -/
structure Rowed (w : World) (base : Nat) (ad : Addr) (n : Nat) (L : Nat → Option Addr × Nat × Nat) : Prop where
  row : base ≤ ad.block
  typ : ∀ j, j < n → ∃ z, w.cell? (ad.add (j * 2)) = some (.int .i64 z) ∧ w.frozen? (ad.add (j * 2)) = false
  val : ∀ j, j < n → w.cell? (ad.add (j * 2 + 1)) = some (.slice (L j).1 (L j).2.1 (L j).2.2)
  byt : ∀ j, j < n → ∀ k, k < (L j).2.1 → ∃ (ae : Addr) (v : Int), (L j).1 = some ae ∧ ae.block ≠ ad.block ∧ base ≤ ae.block ∧ w.cell? (ae.add k) = some (.int .u8 v) ∧ w.frozen? (ae.add k) = false
theorem add0 (g j : Nat) : (⟨g, 0, none⟩ : Addr).add j = ⟨g, j, none⟩ := by
  unfold Addr.add; split <;> simp_all
theorem add_inj (a : Addr) {i j : Nat} (h : a.add i = a.add j) : i = j := by
  unfold Addr.add at h
  split at h <;> split at h
  · omega
  · have := congrArg Addr.off h; simp at this; omega
  · have := congrArg Addr.off h; simp at this; omega
  · have := congrArg Addr.off h; simp at this; omega
theorem Rowed.put {w : World} {base : Nat} {ad : Addr} {n : Nat} {L : Nat → Option Addr × Nat × Nat} (h : Rowed w base ad n L) (i : Nat) (z : Int) : Rowed (w.setCell (ad.add (i * 2)) (.int .i64 z)) base ad n L := by
  refine ⟨h.row, fun j hj => ?_, fun j hj => ?_, fun j hj k hk => ?_⟩
  · obtain ⟨y, h1, h2⟩ := h.typ j hj
    by_cases e : ad.add (i * 2) = ad.add (j * 2)
    · rw [e]
      exact ⟨z, World.cell?_setCell_same _ _ _ h1, by rw [World.frozen?_setCell]; exact h2⟩
    · exact ⟨y, by rw [World.cell?_setCell_other (h := e)]; exact h1, by rw [World.frozen?_setCell]; exact h2⟩
  · rw [World.cell?_setCell_other (h := fun e => by have := add_inj ad e; omega)]
    exact h.val j hj
  · obtain ⟨ae, v, h1, h3, h4, h5, h6⟩ := h.byt j hj k hk
    refine ⟨ae, v, h1, h3, h4, ?_, by rw [World.frozen?_setCell]; exact h6⟩
    rw [World.cell?_setCell_other (h := fun e => h3 (by have := congrArg Addr.block e; simpa [block_of_add] using this.symm))]
    exact h5
theorem Rowed.write {w : World} {base : Nat} {ad ae : Addr} {n k : Nat} {L : Nat → Option Addr × Nat × Nat} (h : Rowed w base ad n L) (hne : ae.block ≠ ad.block) (v : Int) : Rowed (w.setCell (ae.add k) (.int .u8 v)) base ad n L := by
  refine ⟨h.row, fun j hj => ?_, fun j hj => ?_, fun j hj k' hk => ?_⟩
  · obtain ⟨y, h1, h2⟩ := h.typ j hj
    refine ⟨y, ?_, by rw [World.frozen?_setCell]; exact h2⟩
    rw [World.cell?_setCell_other (h := fun e => hne (by have := congrArg Addr.block e; simpa [block_of_add] using this))]
    exact h1
  · rw [World.cell?_setCell_other (h := fun e => hne (by have := congrArg Addr.block e; simpa [block_of_add] using this))]
    exact h.val j hj
  · obtain ⟨ag, y, h1, h3, h4, h5, h6⟩ := h.byt j hj k' hk
    by_cases e : ae.add k = ag.add k'
    · exact ⟨ag, v, h1, h3, h4, by rw [e]; exact World.cell?_setCell_same _ _ _ h5, by rw [World.frozen?_setCell]; exact h6⟩
    · exact ⟨ag, y, h1, h3, h4, by rw [World.cell?_setCell_other (h := e)]; exact h5, by rw [World.frozen?_setCell]; exact h6⟩
theorem Rowed.drewN {w : World} {base : Nat} {ad : Addr} {n : Nat} {L : Nat → Option Addr × Nat × Nat} (h : Rowed w base ad n L) (d : Nat) : Rowed (w.drewN d) base ad n L := ⟨h.row, h.typ, h.val, h.byt⟩

/-- A list of attributes of one's own whose values can be written is such a row. -/
theorem Rowed.of_own {w : World} {base : Nat} {A : Option Addr} {c : Nat} {l : List (Int × List Nat)} {cs : List Value} (h : OA w base A c l cs) (hf : FV w cs (Value.slice A l.length c).ownBlock) (hl : 0 < l.length) :
    ∃ (g : Nat) (L : Nat → Option Addr × Nat × Nat), A = some ⟨g, 0, none⟩ ∧ Rowed w base ⟨g, 0, none⟩ l.length L ∧ (∀ j, j < l.length → (L j).2.1 ≤ 140737488355328) := by
  obtain ⟨h1, h2⟩ := h
  have hcell := fun g => h1.cells (g := g)
  have hlt := h1.lt
  obtain ⟨h0, ⟨e1, e0⟩ | ⟨g, cap, cur, e1, hg, hh, h5, h6, h7, h8⟩⟩ := h1
  · omega
  · injection e1 with e1 e2 e3
    subst e1 e3
    have hv := fun j (hj : j < l.length) => h2 j _ (List.getElem?_eq_getElem hj)
    have hcc := hcell g rfl
    have hL : ∃ L : Nat → Option Addr × Nat × Nat, ∀ j (hj : j < l.length), cs[j * 2 + 1]? = some (.slice (L j).1 (L j).2.1 (L j).2.2) ∧ (L j).2.1 = l[j].2.length ∧ RB w (fun b => base ≤ b ∧ b < w.heap.size ∧ (Value.slice (some ⟨g, 0, none⟩) l.length c).ownBlock ≠ some b) (L j).1 (L j).2.2 l[j].2 := by
      refine ⟨fun j => if hj : j < l.length then ((hv j hj).2.choose, l[j].2.length, (hv j hj).2.choose_spec.choose) else (none, 0, 0), fun j hj => ?_⟩
      have hs := (hv j hj).2.choose_spec.choose_spec
      simp only [hj, dite_true]
      exact ⟨hs.1, trivial, hs.2⟩
    obtain ⟨L, hL⟩ := hL
    refine ⟨g, L, rfl, ⟨hg, fun j hj => ?_, fun j hj => ?_, fun j hj k hk => ?_⟩, fun j hj => by rw [(hL j hj).2.1]; exact (hL j hj).2.2.2.2⟩
    · refine ⟨_, hcc _ _ (hv j hj).1, ?_⟩
      simp [World.frozen?, block_of_add, hh]
    · exact hcc _ _ (hL j hj).1
    · obtain ⟨a1, a2, a3⟩ := hL j hj
      obtain ⟨ae, e1, hb, hx, _⟩ := a3.at_ (i := k) (by omega)
      have hmem : Value.slice (some ae) (L j).2.1 (L j).2.2 ∈ cs := by rw [← e1]; exact List.mem_of_getElem? a1
      obtain ⟨f1, f2, f3⟩ := hf ae _ _ hmem (by omega)
      exact ⟨ae, _, e1, fun e => hb.2.2 (by simp [Value.ownBlock, e]), hb.1, hx, f3 _ (by rw [block_of_add])⟩

set_option maxRecDepth 100000 in
set_option maxHeartbeats 4000000 in
theorem attrOwn_any (P P'' : Nat → Prop) (A A'' : Option Addr) (c c'' : Nat) (l : List (Int × List Nat)) (a : Int × List Nat) (w : World) (hv : RA w P A c l) (hP : ∀ b, P b → b < w.heap.size) (ha : RB w P'' A'' c'' a.2) (hP'' : ∀ b, P'' b → b < w.heap.size) :
    Calls Try.prog 10 #[.slice A l.length c, .agg #[.int .i64 a.1, .slice A'' a.2.length c'']] w fun e w' => e = .returned (.bool true) ∧ Below w.heap.size w w' := by
  go_enter Try.func10, Try.ntmps10
  go_wp2_with fail
  obtain ⟨W0, hW0⟩ : ∃ W0, w.alloc (.cells #[.int .i64 a.1, .slice A'' a.2.length c''] 48) = W0 := ⟨_, rfl⟩
  have hz0 : W0.heap.size = w.heap.size + 1 := by rw [← hW0]; simp
  have hbx : W0.heap[w.heap.size]? = some (.cells #[.int .i64 a.1, .slice A'' a.2.length c''] 48 (0, 0)) := by rw [← hW0]; exact heap_alloc_new w _
  have hB0 : Below w.heap.size w W0 := by rw [← hW0]; exact (Below.refl _ w).alloc (Nat.le_refl _) _
  rw [hW0]
  have Hz0 := Lib.hid hz0
  clear hW0 hz0
  refine (begun_any _).mono ?_
  rintro e w1 ⟨rfl, hB1⟩
  have hs1 := hB1.size
  have hl1 : w.heap.size < W0.heap.size := by have := Hz0.out; omega
  have hw1 : Below w.heap.size w w1 := hB0.trans (hB1.mono (by omega))
  go_wp2_with fail
  refine (cut_any P A c l 10 20 _ (hv.below hw1 hP) (fun b hb => by have := hP b hb; omega) (by omega) (by omega)).mono ?_
  rintro e w2 ⟨A2, c2, cs2, rfl, hO2, hB2⟩
  have hs2 := hB2.size
  have hlL : (cutOf l 10 20).length ≤ 10 := by rw [cutOf_length]; omega
  obtain ⟨L, hL⟩ : ∃ L, cutOf l 10 20 = L := ⟨_, rfl⟩
  rw [hL] at hO2 hlL ⊢
  have hw2 : Below w.heap.size w w2 := hw1.trans (hB2.mono (by omega))
  go_wp2_with fail
  refine (refClone_any (In w1.heap.size w2.heap.size) A2 c2 L _ hO2.ra (fun b hb => hb.2) (by omega)).mono ?_
  rintro e w3 ⟨A3, c3, cs3, rfl, hO3, hB3⟩
  have hs3 := hB3.size
  have hw3 : Below w.heap.size w w3 := hw2.trans (hB3.mono (by omega))
  have hb03 : Below W0.heap.size W0 w3 := (hB1.trans (hB2.mono hs1)).trans (hB3.mono (by omega))
  have hbx3 := (hb03.block w.heap.size hl1).trans hbx
  have hl3 : w.heap.size < w3.heap.size := by omega
  have x0 := blk_cell hbx3 0
  have x1 := blk_cell hbx3 1
  simp at x0 x1
  have r2 : RA w3 (fun b => b < w3.heap.size) A2 c2 L := (hO2.ra.below hB3 fun b hb => hb.2).mono fun b hb => by have := hb.2; omega
  have r3 : RA w3 (fun b => b < w3.heap.size) A3 c3 L := hO3.ra.mono fun b hb => hb.2
  have ha3 : RB w3 P'' A'' c'' a.2 := ha.below hw3 hP''
  have hput := putF_any (fun b => b < w3.heap.size) A2 c2 L a A'' c'' w3 r2 (ha3.mono fun b hb => by have := hP'' b hb; omega) (fun b hb => hb) (by omega)
  have Hput := Lib.hid hput
  clear hput hB0 hB1 hB2 hB3 hb03 hbx hw1 hw2 hO2 hO3 hL
  go_wp2_with fail
  refine Hput.out.mono ?_
  rintro e w4 ⟨A4, c4, cs4, rfl, hO4, hF4, hB4⟩
  obtain ⟨q, hq⟩ : ∃ q, putOf L a = q := ⟨_, rfl⟩
  rw [hq] at hO4 hF4 ⊢
  have hql : q.length ≤ 11 := by rw [← hq]; have := length_putOf L a; omega
  have hrow : 0 < q.length → ∃ (g : Nat) (V : Nat → Option Addr × Nat × Nat), A4 = some ⟨g, 0, none⟩ ∧ Rowed w4 (w3.heap.size + 1) ⟨g, 0, none⟩ q.length V ∧ ∀ j, j < q.length → (V j).2.1 ≤ 140737488355328 := fun h => Rowed.of_own hO4 hF4 h
  have hz4 : 0 < q.length := by rw [← hq, putOf, length_ins]; omega
  obtain ⟨g, V, rfl, hR, hV⟩ := hrow hz4
  have hcap := hO4.ra.cap
  have heq := fun W (h : Below w3.heap.size w3 W) => eq_same _ _ A2 A3 c2 c3 L W (r2.below h fun b hb => hb) (r3.below h fun b hb => hb)
  have Heq := Lib.hid heq
  have HV := Lib.hid hV
  have Hbx := Lib.hid hbx3
  clear hO4 hF4 Hput hrow heq hq hV r2 r3 hv ha ha3 hbx3 x0 x1
  go_wp2_with fail
  go_loopw [8] (fun i wr => ∃ j : Nat, j ≤ q.length ∧ i = .int .i64 (j : Int) ∧ Rowed wr (w3.heap.size + 1) ⟨g, 0, none⟩ q.length V ∧ Below w3.heap.size w3 wr) (fun i _ => q.length - (intOf i).toNat)
  case atStart => exact ⟨0, by omega, rfl, hR, hB4⟩
  case round =>
    clear hR hB4
    obtain ⟨j, hj, rfl, hR, hB⟩ := hrel
    by_cases hlt : j < q.length
    · go_wp2_with fail
      go_loopw [9] (fun i wx => ∃ k : Nat, k ≤ (V j).2.1 ∧ i = .int .i64 (k : Int) ∧ Rowed wx (w3.heap.size + 1) ⟨g, 0, none⟩ q.length V ∧ Below w3.heap.size w3 wx) (fun i _ => (V j).2.1 - (intOf i).toNat)
      case atStart => exact ⟨0, by omega, rfl, hR, hB⟩
      case round =>
        clear hR hB
        obtain ⟨k, hk, rfl, hR, hB⟩ := hrel
        obtain ⟨z, c0, c1⟩ := hR.typ j hlt
        have c2 := hR.val j hlt
        have hbx := (hB.block w.heap.size hl3).trans Hbx.out
        have x0 := blk_cell hbx 0
        simp only [List.getElem?_toArray, List.getElem?_cons_zero] at x0
        have hvl := HV.out j hlt
        have hbyt := hR.byt j hlt
        obtain ⟨⟨Av, nv, cv⟩, hVj⟩ : ∃ v, V j = v := ⟨_, rfl⟩
        rw [hVj] at c2 hk hvl hbyt ⊢
        simp only [] at c2 hk hvl hbyt ⊢
        have c0b := c0
        have c2b := c2
        have c1b := c1
        rw [add0] at c0b c2b c1b
        have c2c : wr.cell? ⟨((⟨g, 0, none⟩ : Addr).add (j * 2)).block, ((⟨g, 0, none⟩ : Addr).add (j * 2)).off + 1, none⟩ = some (.slice Av nv cv) := by rw [add0]; exact c2b
        have HR := Lib.hid hR
        have hjq : (j : Int) < (q.length : Int) := by omega
        by_cases hkn : k < nv
        · obtain ⟨ae, v, rfl, hne, hbe, hx, hfz⟩ := hbyt k hkn
          have t0 : decide ((k : Int) < (nv : Int)) = true := decide_eq_true (by omega)
          by_cases hza : z = a.1
          · subst hza
            clear hbyt hR
            go_wp2_with fail
            go_quiet (fail)
            go_wp2_with fail
            go_roundw
            case rel => exact ⟨j + 1, by omega, by go_num, by have := (HR.out.drewN nq).put j (-1); rwa [add0] at this, (below_drewN hB nq).setCell (p := ⟨g, j * 2, none⟩) (by have := HR.out.row; show w3.heap.size ≤ g; simp at this; omega) _⟩
            case measure => simp [intOf]; omega
          · have t1 : (z != a.1) = true := by simp [hza]
            clear hbyt hR hza
            go_wp2_with fail
            go_quiet (fail)
            go_wp2_with fail
            go_roundw
            case rel => exact ⟨k + 1, by omega, by go_num, (HR.out.drewN nq).write hne _, (below_drewN hB nq).setCell (p := ae.add k) (by rw [block_of_add]; omega) _⟩
            case measure => simp [intOf]; omega
        · have t0 : decide ((k : Int) < (nv : Int)) = false := decide_eq_false (by omega)
          clear hbyt hR
          go_wp2_with fail
          go_quiet (fail)
          go_wp2_with fail
          go_roundw
          case rel => exact ⟨j + 1, by omega, by go_num, by have := (HR.out.drewN nq).put j (-1); rwa [add0] at this, (below_drewN hB nq).setCell (p := ⟨g, j * 2, none⟩) (by have := HR.out.row; show w3.heap.size ≤ g; simp at this; omega) _⟩
          case measure => simp [intOf]; omega
    · go_wp2_with fail
      refine (Heq.out wr hB).mono ?_
      rintro e w5 ⟨rfl, n, rfl⟩
      go_wp2_with fail
      go_ret
      exact ⟨by simp, below_drewN (hw3.trans (hB.mono (by omega))) n⟩
end Go.Proofs.Ytpikikaoelnheaa
