/- Arguments opened: slices of numbers and of lists of attributes. -/
import Derived.Test.YtpikikaoelnheaaOpen
import Derived.Test.YtpikikaoelnheaaFindIt
namespace Go.Proofs.Ytpikikaoelnheaa
open Go.ChangeShapes Go.WideShapes Go.ChangeAt Go.RowKit Go.Deep Go.Joins

section
variable {H : Type} {enc : TypeId × Value → H} {w : World}
theorem cells3 : Try.prog.cellsOf 3 = 1 := by kernel_rfl
theorem bytes3 : Try.prog.bytesOf 3 = 8 := by kernel_rfl
theorem cells24 : Try.prog.cellsOf 24 = 1 := by kernel_rfl

theorem open_intl {fuel : Nat} {v : Value} {x : DataW H × List MemPlace} (h : DataW.trod enc Try.prog w 0 (fun _ => true) true fuel 22 [v] = some x) (hw : Fits 22 x.1) :
    ∃ A c l, v = .slice A (List.length l) c ∧ RI w (fun b => b < w.heap.size) A c l := by
  rcases open_ints Try.underlying22 Try.underlying3 cells3 h with ⟨hcs, _⟩ | ⟨a, len, cap, zs, hcs, _, hl, hm, hz, hx, hcell, _⟩
  · simp at hcs
    exact ⟨none, 0, [], by simpa using hcs, ⟨Nat.le_refl _, by unfold maxLen; omega, rfl, fun h => absurd h (by simp)⟩, by simp⟩
  · simp at hcs hz
    have hb : zs.length * 8 ≤ reachBytes := by
      subst hx
      have := hw (((lits (H := H) .i64 (zs.take len)).length + (lits (H := H) .i64 (zs.drop len)).length) * 8) (by simp [DataW.weights, Try.underlying22, bytes3])
      simp [lits] at this
      omega
    unfold reachBytes at hb
    refine ⟨some a, cap, zs.take len, ?_, ⟨by simp; omega, hm, by simp [its], fun hn => ⟨a, rfl, ?_, fun j u hu => ?_⟩⟩, by simp; omega⟩
    · rw [hcs]; simp; omega
    · have h0 := hcell 0 (by simp at hn; omega)
      have := World.block_lt_of_cell? w _ h0
      rwa [block_of_add] at this
    · have hj : j < len := by
        have := (List.getElem?_eq_some_iff.1 hu).1
        simp [its] at this
        omega
      have hjz : j < zs.length := by omega
      rw [hcell j hjz]
      simp [its, hj, List.getElem?_eq_getElem hjz] at hu
      rw [← hu]
      simp [List.getD, List.getElem?_eq_getElem hjz]

theorem RAA.nil_ (w : World) (P : Nat → Prop) : RAA w P none 0 [] [] := ⟨⟨Nat.le_refl _, by unfold maxLen; omega, rfl, fun h => absurd h (by simp)⟩, by simp⟩

theorem open_attrls {fuel : Nat} {v : Value} {x : DataW H × List MemPlace} (h : DataW.trod enc Try.prog w 0 (fun _ => true) true fuel 23 [v] = some x) (hw : Fits 23 x.1) :
    ∃ A c ls cs, v = .slice A (List.length ls) c ∧ RAA w (fun b => b < w.heap.size) A c ls cs := by
  rcases open_slice Try.underlying23 h with ⟨hcs, _⟩ | ⟨a, len, cap, m, n, D, Pl, hcs, _, hl, hm, hmm, hx, hi⟩
  · simp at hcs
    exact ⟨none, 0, [], [], by simpa using hcs, RAA.nil_ _ _⟩
  · simp at hcs hmm
    subst hmm
    have each : ∀ i, i < len → ∃ (y : List (Int × List Nat)) (A : Option Addr) (c : Nat), w.cell? (a.add i) = some (.slice A y.length c) ∧ RA w (fun b => b < w.heap.size) A c y := by
      intro i hil
      obtain ⟨cs', hc, ht'⟩ := hi i (by omega)
      rw [cells24] at hc
      obtain ⟨_, hcl, hat⟩ := World.cells?_some hc
      obtain ⟨u, rfl⟩ : ∃ u, cs' = [u] := by
        match cs', hcl with
        | [u], _ => exact ⟨u, rfl⟩
      have hfit : Fits 24 (D i) := by
        intro q hq
        apply hw
        rw [hx]
        have hmem : D i ∈ (List.range len).map D := List.mem_map.2 ⟨i, List.mem_range.2 hil, rfl⟩
        have hall : ∀ (ds : List (DataW H)) (d : DataW H), d ∈ ds → q ∈ DataW.weights Try.prog 24 d → q ∈ DataW.weightsAll Try.prog 24 ds := by
          intro ds
          induction ds with
          | nil => intro d hd; cases hd
          | cons e r ih =>
            intro d hd hq
            simp only [DataW.weightsAll, List.mem_append]
            rcases List.mem_cons.1 hd with rfl | hd
            · exact .inl hq
            · exact .inr (ih d hd hq)
        simp only [DataW.weights, Try.underlying23, List.mem_cons, List.mem_append]
        exact .inr (.inl (hall _ _ hmem hq))
      obtain ⟨A, c, l, hv, hr⟩ := open_attrs (x := (D i, Pl i)) ht' hfit
      refine ⟨l, A, c, ?_, hr⟩
      have := hat (i := 0) (by simp)
      simpa [hv, Addr.add] using this
    obtain ⟨F, hF⟩ : ∃ F : Nat → List (Int × List Nat) × Option Addr × Nat, ∀ i, i < len → w.cell? (a.add i) = some (.slice (F i).2.1 (F i).1.length (F i).2.2) ∧ RA w (fun b => b < w.heap.size) (F i).2.1 (F i).2.2 (F i).1 := by
      refine ⟨fun i => if h : i < len then ((each i h).choose, (each i h).choose_spec.choose, (each i h).choose_spec.choose_spec.choose) else ([], none, 0), fun i h => ?_⟩
      simp only [h, dite_true]
      exact (each i h).choose_spec.choose_spec.choose_spec
    refine ⟨some a, m, (List.range len).map fun i => (F i).1, (List.range len).map fun i => .slice (F i).2.1 (F i).1.length (F i).2.2, by rw [hcs]; simp, ⟨by simpa using hl, hm, by simp, fun hn => ⟨a, rfl, ?_, fun j u hu => ?_⟩⟩, fun j y hy => ?_⟩
    · have h0 := (hF 0 (by simp at hn; omega)).1
      have := World.block_lt_of_cell? w _ h0
      rwa [block_of_add] at this
    · obtain ⟨hj, hu⟩ := List.getElem?_eq_some_iff.1 hu
      simp at hj hu
      rw [← hu]
      exact (hF j hj).1
    · obtain ⟨hj, hu⟩ := List.getElem?_eq_some_iff.1 hy
      simp at hj hu
      subst hu
      exact ⟨_, _, by simp [hj], (hF j hj).2⟩
end
end Go.Proofs.Ytpikikaoelnheaa
