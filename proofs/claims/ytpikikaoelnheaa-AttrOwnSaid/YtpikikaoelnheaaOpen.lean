/- Arguments opened: bytes and lists of attributes that came in, as the walks want them. -/
import Derived.Test.YtpikikaoelnheaaBegun
import Derived.ProofKit
import Derived.OpenShut
import Derived.ShutString
import Derived.ChangeOld
import Derived.ChangeSame
import Derived.Deep.Slices
import Derived.Deep.Fields
import Derived.SizedLaws
import Derived.Lib.SmallJoins
namespace Go.Proofs.Ytpikikaoelnheaa
open Go.ChangeShapes Go.WideShapes Go.ChangeAt Go.RowKit Go.Deep Go.Joins

section
variable {H : Type} {enc : TypeId × Value → H} {P : Program} {w : World} {base : Nat} {spare : Nat → Bool} {held : Bool}
/-- A slice of structs of one-cell fields, opened to its cells. -/
theorem open_slice_fields {t e : TypeId} {fs : Array Field} {fuel : Nat} {cs : List Value} {x : DataW H × List MemPlace} (ht : P.underlying t = some (.slice e)) (he : P.underlying e = some (.struct fs))
    (hone : oneCellFields P fs = true) (hC : P.cellsOf e = fs.size) (h : DataW.trod enc P w base spare held fuel t cs = some x) :
    (cs = [.slice none 0 0] ∧ x = (.nil, [])) ∨
    ∃ (a : Addr) (len cap m : Nat) (D : Nat → DataW H) (Pl : Nat → List MemPlace), cs = [.slice (some a) len cap] ∧ base ≤ a.block ∧ len ≤ cap ∧ cap ≤ maxLen ∧ m = (if spare a.block then cap else len) ∧
      x = (.slice ((List.range len).map D) ((List.range (m - len)).map fun j => D (len + j)), MemPlace.row a (m * fs.size) ++ (List.range m).flatMap Pl) ∧
      ∀ i, i < m → ∃ (ys : List (DataW H × List MemPlace)) (n : Nat), D i = .agg (ys.map (·.1)) ∧ Pl i = ys.flatMap (·.2) ∧ ys.length = fs.size ∧
        ∀ (j : Nat) (f : Field), fs[j]? = some f → ∃ (v : Value) (y : DataW H × List MemPlace), w.cell? (a.add (i * fs.size + j)) = some v ∧ ys[j]? = some y ∧ DataW.trod enc P w base spare held n f.type [v] = some y := by
  rcases open_slice ht h with h0 | ⟨a, len, cap, m, n, D, Pl, hcs, hb, hl, hm, hmm, hx, hi⟩
  · exact .inl h0
  · refine .inr ⟨a, len, cap, m, D, Pl, hcs, hb, hl, hm, hmm, by rw [hC] at hx; exact hx, fun i him => ?_⟩
    obtain ⟨cs', hc, ht'⟩ := hi i him
    rw [hC] at hc
    obtain ⟨ys, n', hn', hy, hlen, hyl, hf⟩ := DataW.trod_struct he ht'
    obtain ⟨_, hcl, hat⟩ := World.cells?_some hc
    simp only [Prod.mk.injEq] at hy
    refine ⟨ys, n', hy.1, hy.2, hyl, fun j f hj => ?_⟩
    obtain ⟨ho, hk⟩ := hone_of hone j f hj
    have hjl : j < fs.size := (Array.getElem?_eq_some_iff.1 hj).1
    have hcell := hat j hjl
    have hv : cs'[j]? = some (cs'[j]'(by omega)) := List.getElem?_eq_getElem (by omega)
    have h1 := hf j f hj
    rw [ho, hk] at h1
    have hone' : (cs'.drop j).take 1 = [cs'[j]'(by omega)] := by
      rw [List.drop_eq_getElem_cons (by omega)]
      rfl
    rw [hone'] at h1
    have hys : ys[j]? = some (ys[j]'(by omega)) := List.getElem?_eq_getElem (by omega)
    refine ⟨_, _, ?_, hys, h1.trans hys⟩
    rw [← Go.Deep.add_add, hcell, hv]
end

section
variable {H : Type} {enc : TypeId × Value → H} {w : World}
theorem cells5 : Try.prog.cellsOf 5 = 1 := by kernel_rfl
theorem cells48 : Try.prog.cellsOf 48 = 2 := by kernel_rfl
theorem bytes5 : Try.prog.bytesOf 5 = 1 := by kernel_rfl

/-- All weights of a datum are within the reach. -/
def Fits (t : TypeId) (d : DataW H) : Prop := ∀ k ∈ DataW.weights Try.prog t d, k ≤ reachBytes

theorem open_bytes {fuel : Nat} {v : Value} {x : DataW H × List MemPlace} (h : DataW.trod enc Try.prog w 0 (fun _ => true) true fuel 46 [v] = some x) (hw : Fits 46 x.1) :
    ∃ A c bs, v = .slice A bs.length c ∧ RB w (fun b => b < w.heap.size) A c bs := by
  rcases open_ints Try.underlying46 Try.underlying5 cells5 h with ⟨hcs, _⟩ | ⟨a, len, cap, zs, hcs, _, hl, hm, hz, hx, hcell, hwz⟩
  · simp at hcs
    exact ⟨none, 0, [], by simpa using hcs, RB.nil_ _ _⟩
  · simp at hcs hz
    have hb : zs.length ≤ reachBytes := by
      subst hx
      have := hw ((lits (H := H) .u8 (zs.take len)).length * 1 + (lits (H := H) .u8 (zs.drop len)).length * 1) (by simp [DataW.weights, Try.underlying46, bytes5])
      simp [lits] at this
      omega
    unfold reachBytes at hb
    have hwf : ∀ i (hi : i < zs.length), 0 ≤ zs[i] ∧ zs[i] < 256 := fun i hi => by
      have := bounds_u8 (hwz _ (List.getElem_mem hi))
      omega
    refine ⟨some a, cap, (zs.take len).map Int.toNat, ?_, ⟨by simp; omega, hm, by simp [bys], fun hn => ⟨a, rfl, ?_, fun j u hu => ?_⟩⟩, ?_, by simp; omega⟩
    · rw [hcs]; simp; omega
    · have h0 := hcell 0 (by simp at hn; omega)
      have := World.block_lt_of_cell? w _ h0
      rwa [block_of_add] at this
    · have hj : j < len := by
        have := (List.getElem?_eq_some_iff.1 hu).1
        simp [bys] at this
        omega
      have hjz : j < zs.length := by omega
      rw [hcell j hjz]
      have := hwf j hjz
      simp [bys, hj, List.getElem?_eq_getElem hjz] at hu
      rw [← hu]
      simp [List.getD, List.getElem?_eq_getElem hjz]
      omega
    · intro b hb
      obtain ⟨z, hz, rfl⟩ := List.mem_map.1 hb
      obtain ⟨i, hi, rfl⟩ := List.getElem_of_mem (List.mem_of_mem_take hz)
      have := hwf i hi
      omega

theorem pairs_get (f g : Nat → Value) : ∀ n, ((List.range n).flatMap fun i => [f i, g i]).length = n * 2 ∧ ∀ j, j < n → ((List.range n).flatMap fun i => [f i, g i])[j * 2]? = some (f j) ∧ ((List.range n).flatMap fun i => [f i, g i])[j * 2 + 1]? = some (g j) := by
  intro n
  induction n with
  | zero => exact ⟨rfl, fun j hj => absurd hj (by omega)⟩
  | succ n ih =>
    obtain ⟨h1, h2⟩ := ih
    rw [List.range_succ, List.flatMap_append]
    refine ⟨by rw [List.length_append, h1]; simp; omega, fun j hj => ?_⟩
    rcases Nat.lt_or_ge j n with hjn | hjn
    · rw [List.getElem?_append_left (by omega), List.getElem?_append_left (by omega)]
      exact h2 j hjn
    · obtain rfl : j = n := by omega
      rw [List.getElem?_append_right (by omega), List.getElem?_append_right (by omega), h1]
      simp

theorem hone48 : ∃ f0 f1, Try.prog.underlying 48 = some (.struct #[f0, f1]) ∧ oneCellFields Try.prog #[f0, f1] = true ∧ f0.type = 3 ∧ f1.type = 46 :=
  ⟨_, _, Try.underlying48, by kernel_rfl, rfl, rfl⟩

theorem open_attrs {fuel : Nat} {v : Value} {x : DataW H × List MemPlace} (h : DataW.trod enc Try.prog w 0 (fun _ => true) true fuel 24 [v] = some x) (hw : Fits 24 x.1) :
    ∃ A c l, v = .slice A l.length c ∧ RA w (fun b => b < w.heap.size) A c l := by
  obtain ⟨f0, f1, hu, hone, ht0, ht1⟩ := hone48
  rcases open_slice_fields Try.underlying24 hu hone cells48 h with ⟨hcs, _⟩ | ⟨a, len, cap, m, D, Pl, hcs, _, hl, hm, hmm, hx, hi⟩
  · simp at hcs
    exact ⟨none, 0, [], by simpa using hcs, RA.nil_ _ _⟩
  · simp at hcs hmm
    subst hmm
    have each : ∀ i, i < len → ∃ (y : Int × List Nat) (A : Option Addr) (c : Nat), w.cell? (a.add (i * 2 + 0)) = some (.int .i64 y.1) ∧ w.cell? (a.add (i * 2 + 1)) = some (.slice A y.2.length c) ∧ RB w (fun b => b < w.heap.size) A c y.2 := by
      intro i hil
      obtain ⟨ys, n, hD, hP, hyl, hf⟩ := hi i (by omega)
      obtain ⟨v0, y0, hc0, hy0, hr0⟩ := hf 0 f0 rfl
      obtain ⟨v1, y1, hc1, hy1, hr1⟩ := hf 1 f1 rfl
      rw [ht0] at hr0
      rw [ht1] at hr1
      obtain ⟨k, hk, _, _⟩ := DataW.trod_int Try.underlying3 hr0
      have hkv : v0 = .int .i64 k := by simpa using hk
      have hfit : Fits 46 y1.1 := by
        intro q hq
        apply hw
        rw [hx]
        have hmem : D i ∈ (List.range len).map D := List.mem_map.2 ⟨i, List.mem_range.2 hil, rfl⟩
        have hsub : q ∈ DataW.weights Try.prog 48 (D i) := by
          rw [hD]
          have hys : ys = [y0, y1] := by
            match ys, hyl with
            | [z0, z1], _ => simp at hy0 hy1; rw [hy0, hy1]
          rw [hys]
          simp only [DataW.weights, hu, List.map_cons, List.map_nil, DataW.weightsEach, ht1, List.mem_append]
          exact .inr (.inl hq)
        have hall : ∀ (ds : List (DataW H)) (d : DataW H), d ∈ ds → q ∈ DataW.weights Try.prog 48 d → q ∈ DataW.weightsAll Try.prog 48 ds := by
          intro ds
          induction ds with
          | nil => intro d hd; cases hd
          | cons e r ih =>
            intro d hd hq
            simp only [DataW.weightsAll, List.mem_append]
            rcases List.mem_cons.1 hd with rfl | hd
            · exact .inl hq
            · exact .inr (ih d hd hq)
        simp only [DataW.weights, Try.underlying24, List.mem_cons, List.mem_append]
        exact .inr (.inl (hall _ _ hmem hsub))
      obtain ⟨A, c, bs, hv, hb⟩ := open_bytes hr1 hfit
      exact ⟨(k, bs), A, c, by rw [hkv] at hc0; exact hc0, by rw [hv] at hc1; exact hc1, hb⟩
    obtain ⟨F, hF⟩ : ∃ F : Nat → (Int × List Nat) × Option Addr × Nat, ∀ i, i < len → w.cell? (a.add (i * 2 + 0)) = some (.int .i64 (F i).1.1) ∧ w.cell? (a.add (i * 2 + 1)) = some (.slice (F i).2.1 (F i).1.2.length (F i).2.2) ∧ RB w (fun b => b < w.heap.size) (F i).2.1 (F i).2.2 (F i).1.2 := by
      refine ⟨fun i => if h : i < len then ((each i h).choose, (each i h).choose_spec.choose, (each i h).choose_spec.choose_spec.choose) else ((0, []), none, 0), fun i h => ?_⟩
      simp only [h, dite_true]
      exact (each i h).choose_spec.choose_spec.choose_spec
    obtain ⟨hlen, hget⟩ := pairs_get (fun i => .int .i64 (F i).1.1) (fun i => .slice (F i).2.1 (F i).1.2.length (F i).2.2) len
    refine ⟨some a, m, (List.range len).map fun i => (F i).1, by rw [hcs]; simp, (List.range len).flatMap (fun i => [.int .i64 (F i).1.1, .slice (F i).2.1 (F i).1.2.length (F i).2.2]), ⟨by simp; omega, hm, ?_, fun hn => ⟨a, rfl, ?_, fun j u hu => ?_⟩⟩, fun j y hy => ?_⟩
    · rw [hlen]; simp
    · have h0 := (hF 0 (by simp at hn; omega)).1
      have := World.block_lt_of_cell? w _ h0
      rwa [block_of_add] at this
    · have hj : j < len * 2 := by
        have := (List.getElem?_eq_some_iff.1 hu).1
        omega
      obtain ⟨g0, g1⟩ := hget (j / 2) (by omega)
      obtain ⟨k0, k1, _⟩ := hF (j / 2) (by omega)
      rcases Nat.mod_two_eq_zero_or_one j with e | e
      · rw [show j / 2 * 2 = j by omega, hu] at g0
        rw [show j / 2 * 2 + 0 = j by omega] at k0
        rw [k0, ← g0]
      · rw [show j / 2 * 2 + 1 = j by omega, hu] at g1
        rw [show j / 2 * 2 + 1 = j by omega] at k1
        rw [k1, ← g1]
    · have hj : j < len := by
        have := (List.getElem?_eq_some_iff.1 hy).1
        simp at this
        exact this
      simp [hj] at hy
      subst hy
      obtain ⟨g0, g1⟩ := hget j hj
      exact ⟨g0, _, _, g1, (hF j hj).2.2⟩

/-- An attribute by value. -/
theorem open_attr {r : Reach} {b0 : Nat} {v : Value} {d : DataW H} {p : List MemPlace} (hv : Value.okWide Try.prog w r b0 48 v) (h : DataW.Trod enc Try.prog w 0 (fun _ => true) true 48 v d p) (hw : Fits 48 d) :
    ∃ (a : Int × List Nat) (A : Option Addr) (c : Nat), v = .agg #[.int .i64 a.1, .slice A a.2.length c] ∧ RB w (fun b => b < w.heap.size) A c a.2 := by
  obtain ⟨f0, f1, hu, hone, ht0, ht1⟩ := hone48
  obtain ⟨v0, v1, y0, y1, n, rfl, rfl, rfl, hr0, hr1⟩ := open_agg2 hu hone cells48 hv h
  rw [ht0] at hr0
  rw [ht1] at hr1
  obtain ⟨k, hk, _, _⟩ := DataW.trod_int Try.underlying3 hr0
  have hkv : v0 = .int .i64 k := by simpa using hk
  have hfit : Fits 46 y1.1 := by
    intro q hq
    apply hw
    simp only [DataW.weights, hu, List.map_cons, List.map_nil, DataW.weightsEach, ht1, List.mem_append]
    exact .inr (.inl hq)
  obtain ⟨A, c, bs, hv, hb⟩ := open_bytes hr1 hfit
  exact ⟨(k, bs), A, c, by rw [hkv, hv], hb⟩
end
end Go.Proofs.Ytpikikaoelnheaa
