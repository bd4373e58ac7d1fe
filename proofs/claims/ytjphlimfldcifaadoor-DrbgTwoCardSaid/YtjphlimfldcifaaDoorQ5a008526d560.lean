/- DrbgTwo: for every tape and number the law answers true, and its arguments stay as they were, over the program's own table of constants. The card is tied. -/
import Derived.Test.YtjphlimfldcifaaDoorQ6d5db3448ed3
import Derived.Test.YtjphlimfldcifaaDoorCards
import Derived.Test.YtjphlimfldcifaaDoorTie
import Derived.ProofKit
import Derived.LaidMore
import Derived.OpenShut
import Derived.Stop.Joined
import Derived.SevenTiedAt
namespace Go.Proofs.YtjphlimfldcifaaDoor.drbgTwo
open Go.ChangeShapes Go.WideShapes Go.ChangeAt Go.RowKit

theorem own : ownKnob Tryd.prog.godebug = none := by kernel_rfl
theorem laidOut : laidOutB Tryd.prog = true := by kernel_rfl

set_option maxRecDepth 100000 in
theorem lifted (os : Os) (started : os.Started) (H : Type) (enc : TypeId × Value → H) :
 ReturnsInHanded {} Tryd.checked os 4 .any (fun w args => (Rows.drbgTwoSpec.pre enc Tryd.prog Tryd.f4 Rows.drbgTwoRow.domain false w args ∧ laidMetH Tryd.prog [("bailey/hashes.k", Rows.laid_bailey_hashes_k)] w) ∧ sizedMet enc Tryd.prog Tryd.f4 (OpenSpec.ofChange Rows.drbgTwoSpec) false w args) (Rows.drbgTwoSpec.post enc Tryd.prog Tryd.f4 false true false false) := by
 refine returnsInHanded_of_change_and (C := Tryd.checked) (X := fun w _ => laidMetH Tryd.prog [("bailey/hashes.k", Rows.laid_bailey_hashes_k)] w) (fun _ _ _ hh h => h.of_heap hh) own started (by kernel_rfl) Tryd.func4
  (ChangeSpec.witness_shaped (enc := enc) (C := Tryd.checked) (os := os) (X := fun w _ => laidMetH Tryd.prog [("bailey/hashes.k", Rows.laid_bailey_hashes_k)] w) false (World.doorLaid Tryd.prog 14 os) #[.slice none 0 0, .int .i64 0] 8 rfl (World.shaped_of_RefB (by kernel_rfl) (by kernel_rfl)) (by kernel_rfl) (by kernel_rfl) (by kernel_rfl) (door_met os _)) ?_
 intro W base args ds gs before hval0 hW hcnd hsz0 hL _
 have hk : KW W := of_laid hL
 have hval : ∀ (j : Nat) t v, Tryd.f4.params[j]? = some t → args[j]? = some v → Value.okWide Tryd.prog W .any base t v := hval0
 have hsz : (DataW.weightsEach Tryd.prog (Tryd.f4.params.toList ++ Rows.drbgTwoSpec.plain.varTypes Tryd.prog) (ds ++ gs)).all (· ≤ reachBytes) = true := hsz0
 have hW' := hW
 obtain ⟨p, q, hA0, hV, rfl, hfz, hnd⟩ := hW
 have hA : DataW.TrodAll enc Tryd.prog W 0 (fun _ => true) true Tryd.f4.params.toList args.toList ds p := hA0
 rw [Tryd.params4] at hA hval hsz
 obtain ⟨v0, vs0, d0, ds0, p0, q0, hargs, rfl, rfl, h0, r0⟩ := trodAll_cons hA
 obtain ⟨v1, vs1, d1, ds1, p1, q1, rfl, rfl, rfl, h1, r1⟩ := trodAll_cons r0
 obtain ⟨rfl, rfl, rfl⟩ := trodAll_nil r1
 obtain rfl : args = #[v0, v1] := by cases args; simp_all
 obtain ⟨rfl, rfl⟩ := trodVars_none hV
 have k0 := h0
 have lt0 : ∀ x ∈ p0, x.block < W.heap.size := by obtain ⟨m, hm⟩ := k0; exact DataW.trod_lt m _ _ _ hm
 have k1 := h1
 have lt1 : ∀ x ∈ p1, x.block < W.heap.size := by obtain ⟨m, hm⟩ := k1; exact DataW.trod_lt m _ _ _ hm
 have fit : ∀ (j : Nat) (t : TypeId) (d : DataW H), [22, 3][j]? = some t → [d0, d1][j]? = some d → Fits t d := fun j t d ht hd k hk => by
  have := List.all_eq_true.1 hsz k (DataW.weights_mem_each (ts := [22, 3]) (ds := [d0, d1]) ht hd k hk)
  simpa using this
 obtain ⟨a0, len0, cap0, e0⟩ := okWide_slice Tryd.underlying22 (hval 0 22 v0 rfl rfl)
 obtain ⟨A0, c0, l0, hv0, hR0⟩ : ∃ A c l, v0 = .slice A (List.length l) c ∧ RB W (fun b => b < W.heap.size) A c l := by
  obtain ⟨fuel, hf⟩ := h0
  rw [e0] at hf ⊢
  exact open_bytes hf (fit 0 _ _ rfl rfl)
 obtain ⟨n1, hv1, _, _, wf1⟩ := open_int Tryd.underlying3 (hval 1 3 v1 rfl rfl) h1
 clear hA0 hval0
 subst hv0 hv1
 refine (two_law A0 c0 l0 n1 W hk hR0).mono fun e W' ⟨he, bel⟩ => ?_
 subst he
 exact ⟨_, rfl, _, _, _, [], _, [], hW', trodAll_mk1 (shut_bool Tryd.underlying4 _), (trodAll_cons_mk (Below.trod laidOut (by kernel_rfl) (of_decide_eq_true (by kernel_rfl)) k0 bel lt0) (trodAll_cons_mk (Below.trod laidOut (by kernel_rfl) (of_decide_eq_true (by kernel_rfl)) k1 bel lt1) trodAll_mk0)), rfl, bel.frame _, fun h => by cases h⟩

theorem over : Rows.drbgTwoRow.holds Tryd.pinned (OpenSpec.ofChange Rows.drbgTwoSpec) :=
 OpenClaim.holds_of_wide 4 Tryd.f4 rfl rfl rfl rfl rfl rfl rfl ⟨rfl, rfl, rfl, rfl, rfl⟩ rfl rfl rfl rfl rfl (by kernel_rfl) Tryd.func4 (by kernel_rfl)
  (of_decide_eq_true (by kernel_rfl)) (by unfold Func.isWrapper; first | (rw [if_pos (by decide +kernel)]; kernel_rfl) | (rw [if_neg (by decide +kernel)]; exact ⟨rfl, rfl⟩))
  (fun os started H enc _ => lifted os started H enc)

theorem proved : Rows.DrbgTwoCardSaid :=
 Claim7.holds_tied_plain_at .later [] [.data] true (true, "3a377e8ca52d66c03c4166ec134ee19690ca3a488116915b06703020fb15e33e") false over (fun _ h => by cases h) (by kernel_rfl) (fun _ h => by cases h) drbgTwo_row_tie rfl ⟨rfl, rfl⟩ (by kernel_rfl) rfl
  (fun f fn hf hfn => by
   obtain rfl : f = 4 := Option.some.inj ((show Tryd.prog.funcNamed "bailey/baileylaw4.DrbgTwo" = some 4 by kernel_rfl).symm.trans hf) |>.symm
   obtain rfl : fn = Tryd.f4 := (Option.some.inj (Tryd.func4.symm.trans hfn)).symm
   exact ⟨by kernel_rfl, fun j t ht => by
    rw [Tryd.params4] at ht
    have hm : t ∈ [22, 3] := by simpa using Array.mem_of_getElem? ht
    have hall : ([22, 3].all fun u => !Tryd.prog.wantsStandIn u) = true := by kernel_rfl
    exact (show Tryd.prog.wantsStandIn t = false by simpa using List.all_eq_true.1 hall t hm)⟩)
  (by kernel_rfl)
#print axioms proved
end Go.Proofs.YtjphlimfldcifaaDoor.drbgTwo
