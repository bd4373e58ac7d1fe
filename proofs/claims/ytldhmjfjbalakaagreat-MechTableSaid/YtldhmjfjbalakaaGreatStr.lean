/- Bytes as a string. -/
import Derived.Test.YtldhmjfjbalakaaGreatBase
import Derived.Laws.BytesArg
import Derived.Lib.Bytes
namespace Go.Proofs.YtldhmjfjbalakaaGreat
open Go.RowKit

/-- Bytes as a string. -/
def strB (bs : List Nat) : ByteArray := strOfNums (bs.map fun b : Nat => (b : Int))
theorem strB_nil : strB [] = ByteArray.empty := rfl
theorem strB_inj {a b : List Nat} (ha : ∀ x ∈ a, x < 256) (hb : ∀ x ∈ b, x < 256) (h : (strB a).toList = (strB b).toList) : a = b := by
  have e : ∀ l : List Nat, (∀ x ∈ l, x < 256) → (strB l).toList.map UInt8.toNat = l := by
    intro l hl
    rw [strB, Lib.strOfNums_toList, Lib.bytesOf]
    simp only [List.map_map]
    conv => rhs; rw [← List.map_id l]
    apply List.map_congr_left
    intro x hx
    have := hl x hx
    simp
    omega
  rw [← e a ha, ← e b hb, h]

section
variable {w : World} {Q : Nat → Prop} {A : Option Addr} {c : Nat} {bs : List Nat}
theorem RB.str {P : Program} (h : RB w Q A c bs) (src e dst : TypeId) (hs : P.underlying src = some (.slice e)) (he : P.underlying e = some (.int .u8)) (hd : P.underlying dst = some .string) :
    (convert src dst (.slice A bs.length c)).run P w = .ok (.string (strB bs)) w := by
  rcases A with _ | ad
  · have hl : bs.length = 0 := by
      rcases Nat.eq_zero_or_pos bs.length with h0 | h0
      · exact h0
      · obtain ⟨ad, h, _⟩ := h.1.2.2.2 h0
        cases h
    obtain rfl := List.eq_nil_of_length_eq_zero hl
    rw [run_convert_bytes_nil w src e hs he _ _ dst hd]
    rfl
  · have hc : ∀ j v, (bys bs)[j]? = some v → w.cell? (ad.add j) = some v := by
      intro j v hj
      rcases Nat.eq_zero_or_pos bs.length with h0 | h0
      · obtain rfl := List.eq_nil_of_length_eq_zero h0
        simp [bys] at hj
      · obtain ⟨ad', h, _, hc⟩ := h.1.2.2.2 h0
        injection h with h
        subst h
        exact hc j v hj
    have hl : (loadCells ad bs.length).run P w = .ok ((bs.map fun b : Nat => (b : Int)).map (Value.int .u8)).toArray w := by
      have := run_loadCells_list (P := P) w ad (bys bs) hc
      simpa [bys, Function.comp_def] using this
    rw [run_convert_bytes_string w src dst e _ _ c hs he hd, run_bytesToString w _ _ c _ hl, foldl_push_bytes]
    simp [strB, strOfNums, ByteArray.empty, ByteArray.emptyWithCapacity]
    rfl
end

end Go.Proofs.YtldhmjfjbalakaaGreat
