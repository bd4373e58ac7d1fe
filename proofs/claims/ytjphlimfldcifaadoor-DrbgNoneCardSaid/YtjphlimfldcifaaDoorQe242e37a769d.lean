/- DrbgNone: the law answers true, whatever lies in memory, over the program's own table of constants. The card is tied. The table of hashes.k as the row lists it. -/
import Derived.Test.YtjphlimfldcifaaDoorQ226f770d90a9
import Derived.Test.YtjphlimfldcifaaDoorRows
import Derived.ProofKit
import Derived.LaidMore
import Derived.OpenShut
import Derived.MakeChecks
import Derived.Test.YtjphlimfldcifaaDoorCards
import Derived.Test.YtjphlimfldcifaaDoorTie
import Derived.Stop.Joined
import Derived.SevenTiedAt
namespace Go.Proofs.YtjphlimfldcifaaDoor
open Go.ChangeShapes Go.WideShapes Go.ChangeAt Go.RowKit
open Sha

theorem gK : Tryd.prog.globalNamed "bailey/hashes.k" = some 3 := by kernel_rfl
theorem tK : (Tryd.prog.globals[3]?).map (·.type) = some 132 := by kernel_rfl
def kOk (n : Nat) (i : Nat) : Bool := decide (n < 18446744073709551616 ∧ n / 4294967296 = (wd kk i).toNat)
theorem k_all : (List.range 64).all (fun i => match (Rows.laid_bailey_hashes_k (H := Unit)) with | .agg l => (match l[i]? with | some (.lit (.int .u64 n)) => decide (0 ≤ n) && kOk n.toNat i | _ => false) | _ => false) = true := by decide +kernel
theorem of_laid {W : World} (h : laidMetH Tryd.prog [("bailey/hashes.k", Rows.laid_bailey_hashes_k)] W) : KW W := by
 rw [MakeChecks.laidMetH_plain _ _ _ (by kernel_rfl)] at h
 obtain ⟨ps, ⟨g0, t0, cs0, f0, p0, q0, hg0, ht0, hv0, hd0, _⟩, _, _⟩ := h
 obtain rfl := Option.some.inj (gK.symm.trans hg0)
 obtain rfl := Option.some.inj (tK.symm.trans ht0)
 obtain ⟨xs, m, rfl, hx, hlen, hn, hel⟩ := DataW.trod_array Tryd.underlying132 hd0
 have c1 : Tryd.prog.cellsOf 51 = 1 := by kernel_rfl
 intro i hi
 have hi80 : i < xs.length := by omega
 have h0 := hel i (by omega)
 rw [List.getElem?_eq_getElem hi80] at h0
 obtain ⟨k, e1, e2, _⟩ := DataW.trod_int Tryd.underlying51 h0
 rw [c1, Nat.mul_one] at e1
 have hall := List.all_eq_true.1 k_all i (List.mem_range.2 hi)
 have hx1 := congrArg (fun z : DataW Unit × List MemPlace => z.1) hx
 simp only at hx1
 rw [hx1] at hall
 simp only [List.getElem?_map, List.getElem?_eq_getElem hi80, Option.map_some, e2, Bool.and_eq_true, kOk, decide_eq_true_eq] at hall
 obtain ⟨k0, k1, k2⟩ := hall
 have hc : cs0[i]? = some (.int .u64 k) := by
  have : (cs0.toList.drop i)[0]? = some (Value.int .u64 k) := by
   have h2 := congrArg (fun l : List Value => l[0]?) e1
   simpa using h2
  simpa using this
 refine ⟨k.toNat, ?_, k1, k2⟩
 rw [World.var?_cell hg0 hv0 i, hc, Int.toNat_of_nonneg k0]
theorem door_met (os : Os) (args : Array Value) : laidMetH Tryd.prog [("bailey/hashes.k", Rows.laid_bailey_hashes_k)] ((World.doorLaid Tryd.prog 14 os).forCall (fun _ _ => 0) ⟨#[], args, []⟩).memory :=
 laidMetH_of_parts3 (fuel := 8) (laidMet_of_run' 8 (by kernel_rfl) (by kernel_rfl)) (by kernel_rfl) (by kernel_rfl)
end Go.Proofs.YtjphlimfldcifaaDoor

namespace Go.Proofs.YtjphlimfldcifaaDoor.drbgNone
open Go.ChangeShapes Go.WideShapes Go.ChangeAt Go.RowKit

theorem own : ownKnob Tryd.prog.godebug = none := by kernel_rfl

set_option maxRecDepth 100000 in
theorem lifted (os : Os) (started : os.Started) (H : Type) (enc : TypeId × Value → H) :
 ReturnsInHanded {} Tryd.checked os 6 .any (fun w args => (Rows.drbgNoneSpec.pre enc Tryd.prog Tryd.f6 Rows.drbgNoneRow.domain false w args ∧ laidMetH Tryd.prog [("bailey/hashes.k", Rows.laid_bailey_hashes_k)] w) ∧ sizedMet enc Tryd.prog Tryd.f6 (OpenSpec.ofChange Rows.drbgNoneSpec) false w args) (Rows.drbgNoneSpec.post enc Tryd.prog Tryd.f6 false true false false) := by
 refine returnsInHanded_of_change_and (C := Tryd.checked) (X := fun w _ => laidMetH Tryd.prog [("bailey/hashes.k", Rows.laid_bailey_hashes_k)] w) (fun _ _ _ hh h => h.of_heap hh) own started (by kernel_rfl) Tryd.func6
  (ChangeSpec.witness_shaped (enc := enc) (C := Tryd.checked) (os := os) (X := fun w _ => laidMetH Tryd.prog [("bailey/hashes.k", Rows.laid_bailey_hashes_k)] w) false (World.doorLaid Tryd.prog 14 os) #[] 8 rfl (World.shaped_of_RefB (by kernel_rfl) (by kernel_rfl)) (by kernel_rfl) (by kernel_rfl) (by kernel_rfl) (door_met os _)) ?_
 intro W base args ds gs before hval0 hW hcnd hsz0 hL _
 have hk : KW W := of_laid hL
 have hW' := hW
 obtain ⟨p, q, hA0, hV, rfl, hfz, hnd⟩ := hW
 have hA : DataW.TrodAll enc Tryd.prog W 0 (fun _ => true) true Tryd.f6.params.toList args.toList ds p := hA0
 rw [Tryd.params6] at hA
 obtain ⟨hargs, rfl, rfl⟩ := trodAll_nil hA
 obtain rfl : args = #[] := by cases args; simp_all
 obtain ⟨rfl, rfl⟩ := trodVars_none hV
 refine (none_law W hk).mono fun e W' ⟨he, bel⟩ => ?_
 subst he
 exact ⟨_, rfl, _, _, _, [], _, [], hW', trodAll_mk1 (shut_bool Tryd.underlying4 _), trodAll_mk0, rfl, bel.frame _, fun h => by cases h⟩

theorem over : Rows.drbgNoneRow.holds Tryd.pinned (OpenSpec.ofChange Rows.drbgNoneSpec) :=
 OpenClaim.holds_of_wide 6 Tryd.f6 rfl rfl rfl rfl rfl rfl rfl ⟨rfl, rfl, rfl, rfl, rfl⟩ rfl rfl rfl rfl rfl (by kernel_rfl) Tryd.func6 (by kernel_rfl)
  (of_decide_eq_true (by kernel_rfl)) (by unfold Func.isWrapper; first | (rw [if_pos (by decide +kernel)]; kernel_rfl) | (rw [if_neg (by decide +kernel)]; exact ⟨rfl, rfl⟩))
  (fun os started H enc _ => lifted os started H enc)

theorem proved : Rows.DrbgNoneCardSaid :=
 Claim7.holds_tied_plain_at .later [] [.data] true (true, "3a377e8ca52d66c03c4166ec134ee19690ca3a488116915b06703020fb15e33e") false over (fun _ h => by cases h) (by kernel_rfl) (fun _ h => by cases h) drbgNone_row_tie rfl ⟨rfl, rfl⟩ (by kernel_rfl) rfl
  (fun f fn hf hfn => by
   obtain rfl : f = 6 := Option.some.inj ((show Tryd.prog.funcNamed "bailey/baileylaw4.DrbgNone" = some 6 by kernel_rfl).symm.trans hf) |>.symm
   obtain rfl : fn = Tryd.f6 := (Option.some.inj (Tryd.func6.symm.trans hfn)).symm
   exact ⟨by kernel_rfl, fun j t ht => by
    rw [Tryd.params6] at ht
    simp at ht⟩)
  (by kernel_rfl)
#print axioms proved
end Go.Proofs.YtjphlimfldcifaaDoor.drbgNone
