/- Arguments opened: limbs and bytes that came in, as the walks want them. -/
import Derived.Test.YtldhmjfjbalakaaGreatUnit
import Derived.ProofKit
import Derived.OpenShut
import Derived.ShutString
import Derived.ChangeOld
import Derived.ChangeSame
import Derived.Deep.Slices
import Derived.SizedLaws
import Derived.Lib.SmallJoins
namespace Go.Proofs.YtldhmjfjbalakaaGreat
open Go.ChangeShapes Go.WideShapes Go.ChangeAt Go.RowKit Go.Deep Go.Joins

section
variable {H : Type} {enc : TypeId × Value → H} {w : World}
theorem cells8 : Tryz.prog.cellsOf 5 = 1 := by kernel_rfl
theorem bytes8 : Tryz.prog.bytesOf 5 = 1 := by kernel_rfl
theorem cells64 : Tryz.prog.cellsOf 90 = 1 := by kernel_rfl
theorem bytes64 : Tryz.prog.bytesOf 90 = 8 := by kernel_rfl

/-- All weights of a datum are within the reach. -/
def Fits (t : TypeId) (d : DataW H) : Prop := ∀ k ∈ DataW.weights Tryz.prog t d, k ≤ reachBytes

theorem open_bytes {fuel : Nat} {v : Value} {x : DataW H × List MemPlace} (h : DataW.trod enc Tryz.prog w 0 (fun _ => true) true fuel 22 [v] = some x) (hw : Fits 22 x.1) :
    ∃ A c bs, v = .slice A bs.length c ∧ RB w (fun b => b < w.heap.size) A c bs := by
  rcases open_ints Tryz.underlying22 Tryz.underlying5 cells8 h with ⟨hcs, _⟩ | ⟨a, len, cap, zs, hcs, _, hl, hm, hz, hx, hcell, hwz⟩
  · simp at hcs
    exact ⟨none, 0, [], by simpa using hcs, RB.nil_ _ _⟩
  · simp at hcs hz
    have hb : zs.length ≤ reachBytes := by
      subst hx
      have := hw ((lits (H := H) .u8 (zs.take len)).length * 1 + (lits (H := H) .u8 (zs.drop len)).length * 1) (by simp [DataW.weights, Tryz.underlying22, bytes8])
      simp [lits] at this
      omega
    unfold reachBytes at hb
    have hwf : ∀ i (hi : i < zs.length), 0 ≤ zs[i] ∧ zs[i] < 256 := fun i hi => by
      have := bounds_u8 (hwz _ (List.getElem_mem hi))
      omega
    refine ⟨some a, cap, (zs.take len).map Int.toNat, ?_, ⟨by simp; omega, hm, by simp [bys], fun hn => ⟨a, rfl, ?_, fun j u hu => ?_⟩⟩, ?_, by simp; omega⟩
    · rw [hcs]; simp; omega
    · have h0 := hcell 0 (by simp at hn; omega)
      have := World.block_lt_of_cell? w _ h0
      rwa [block_of_add] at this
    · have hj : j < len := by
        have := (List.getElem?_eq_some_iff.1 hu).1
        simp [bys] at this
        omega
      have hjz : j < zs.length := by omega
      rw [hcell j hjz]
      have := hwf j hjz
      simp [bys, hj, List.getElem?_eq_getElem hjz] at hu
      rw [← hu]
      simp [List.getD, List.getElem?_eq_getElem hjz]
      omega
    · intro b hb
      obtain ⟨z, hz, rfl⟩ := List.mem_map.1 hb
      obtain ⟨i, hi, rfl⟩ := List.getElem_of_mem (List.mem_of_mem_take hz)
      have := hwf i hi
      omega

theorem open_nats {fuel : Nat} {v : Value} {x : DataW H × List MemPlace} (h : DataW.trod enc Tryz.prog w 0 (fun _ => true) true fuel 91 [v] = some x) (hw : Fits 91 x.1) :
    ∃ A c l, v = .slice A l.length c ∧ RL w (fun b => b < w.heap.size) A c l := by
  rcases open_ints Tryz.underlying91 Tryz.underlying90 cells64 h with ⟨hcs, _⟩ | ⟨a, len, cap, zs, hcs, _, hl, hm, hz, hx, hcell, hwz⟩
  · simp at hcs
    exact ⟨none, 0, [], by simpa using hcs, RS.nil_ _ _ _, by simp, by simp⟩
  · simp at hcs hz
    have hb : zs.length * 8 ≤ reachBytes := by
      subst hx
      have := hw (((lits (H := H) .u64 (zs.take len)).length + (lits (H := H) .u64 (zs.drop len)).length) * 8) (by simp [DataW.weights, Tryz.underlying91, bytes64])
      simp [lits] at this
      omega
    unfold reachBytes at hb
    have hwf : ∀ i (hi : i < zs.length), 0 ≤ zs[i] ∧ zs[i] < 18446744073709551616 := fun i hi => by
      have := bounds_u64 (hwz _ (List.getElem_mem hi))
      omega
    refine ⟨some a, cap, (zs.take len).map Int.toNat, ?_, ⟨by simp; omega, hm, by simp [nts], fun hn => ⟨a, rfl, ?_, fun j u hu => ?_⟩⟩, ?_, by simp; omega⟩
    · rw [hcs]; simp; omega
    · have h0 := hcell 0 (by simp at hn; omega)
      have := World.block_lt_of_cell? w _ h0
      rwa [block_of_add] at this
    · have hj : j < len := by
        have := (List.getElem?_eq_some_iff.1 hu).1
        simp [nts] at this
        omega
      have hjz : j < zs.length := by omega
      rw [hcell j hjz]
      have := hwf j hjz
      simp [nts, hj, List.getElem?_eq_getElem hjz] at hu
      rw [← hu]
      simp [List.getD, List.getElem?_eq_getElem hjz]
      omega
    · intro b hb
      obtain ⟨z, hz, rfl⟩ := List.mem_map.1 hb
      obtain ⟨i, hi, rfl⟩ := List.getElem_of_mem (List.mem_of_mem_take hz)
      have := hwf i hi
      omega
end
end Go.Proofs.YtldhmjfjbalakaaGreat
