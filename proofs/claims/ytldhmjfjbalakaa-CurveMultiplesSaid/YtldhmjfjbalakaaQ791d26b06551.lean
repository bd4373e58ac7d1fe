/- CurveMultiples: for every curve and numbers the law answers true and leaves its arguments as they were. No condition. -/
import Derived.Test.YtldhmjfjbalakaaQf1389fa77872
set_option maxRecDepth 100000
set_option maxHeartbeats 16000000
namespace Go.Proofs.Ytldhmjfjbalakaa.curveMultiples
open Go.ChangeShapes Go.WideShapes Go.ChangeAt Go.RowKit
theorem own : ownKnob Try.prog.godebug = none := by kernel_rfl
theorem laidOut : laidOutB Try.prog = true := by kernel_rfl
theorem lifted (os : Os) (started : os.Started) (H : Type) (enc : TypeId × Value → H) :
 ReturnsInHanded {} Try.checked os 6 .any (Rows.curveMultiplesSpec.pre6 enc Try.prog Try.f6 Rows.curveMultiplesRow.domain false) (Rows.curveMultiplesSpec.post enc Try.prog Try.f6 false true false false) := by
 refine returnsInHanded_of_change_sized (C := Try.checked) own started (by kernel_rfl) Try.func6
  (ChangeSpec.witness6 (enc := enc) (C := Try.checked) false ⟨#[], #[.int .i64 0, .slice none 0 0, .bool false, .int .i64 0], []⟩ 8 (by kernel_rfl) (by kernel_rfl) (by kernel_rfl) (by kernel_rfl)) ?_
 intro W base args ds gs before hval0 hW hcnd hsz0 _
 have hval : ∀ (j : Nat) t v, Try.f6.params[j]? = some t → args[j]? = some v → Value.okWide Try.prog W .any base t v := hval0
 have hsz : (DataW.weightsEach Try.prog (Try.f6.params.toList ++ Rows.curveMultiplesSpec.plain.varTypes Try.prog) (ds ++ gs)).all (· ≤ reachBytes) = true := hsz0
 have hW' := hW
 obtain ⟨p, q, hA0, hV, rfl, hfz, hnd⟩ := hW
 have hA : DataW.TrodAll enc Try.prog W 0 (fun _ => true) true Try.f6.params.toList args.toList ds p := hA0
 rw [Try.params6] at hA hval hsz
 obtain ⟨v0, vs0, d0, ds0, p0, q0, hargs, rfl, rfl, h0, r0⟩ := trodAll_cons hA
 obtain ⟨v1, vs1, d1, ds1, p1, q1, rfl, rfl, rfl, h1, r1⟩ := trodAll_cons r0
 obtain ⟨v2, vs2, d2, ds2, p2, q2, rfl, rfl, rfl, h2, r2⟩ := trodAll_cons r1
 obtain ⟨v3, vs3, d3, ds3, p3, q3, rfl, rfl, rfl, h3, r3⟩ := trodAll_cons r2
 obtain ⟨rfl, rfl, rfl⟩ := trodAll_nil r3
 obtain rfl : args = #[v0, v1, v2, v3] := by cases args; simp_all
 obtain ⟨rfl, rfl⟩ := trodVars_none hV
 have k0 := h0
 have lt0 : ∀ x ∈ p0, x.block < W.heap.size := by obtain ⟨m, hm⟩ := k0; exact DataW.trod_lt m _ _ _ hm
 have k1 := h1
 have lt1 : ∀ x ∈ p1, x.block < W.heap.size := by obtain ⟨m, hm⟩ := k1; exact DataW.trod_lt m _ _ _ hm
 have k2 := h2
 have lt2 : ∀ x ∈ p2, x.block < W.heap.size := by obtain ⟨m, hm⟩ := k2; exact DataW.trod_lt m _ _ _ hm
 have k3 := h3
 have lt3 : ∀ x ∈ p3, x.block < W.heap.size := by obtain ⟨m, hm⟩ := k3; exact DataW.trod_lt m _ _ _ hm
 have fit : ∀ (j : Nat) (t : TypeId) (d : DataW H), [3, 23, 4, 3][j]? = some t → [d0, d1, d2, d3][j]? = some d → Fits t d := fun j t d ht hd k hk => by
  have := List.all_eq_true.1 hsz k (DataW.weights_mem_each (ts := [3, 23, 4, 3]) (ds := [d0, d1, d2, d3]) ht hd k hk)
  simpa using this
 obtain ⟨n0, hv0, _, _, wf0⟩ := open_int Try.underlying3 (hval 0 3 v0 rfl rfl) h0
 obtain ⟨a1, len1, cap1, e1⟩ := okWide_slice Try.underlying23 (hval 1 23 v1 rfl rfl)
 obtain ⟨A1, c1, l1, hv1, hR1⟩ : ∃ A c l, v1 = .slice A (List.length l) c ∧ RL W (fun b => b < W.heap.size) A c l := by
  obtain ⟨fuel, hf⟩ := h1
  rw [e1] at hf ⊢
  exact open_nats hf (fit 1 _ _ rfl rfl)
 obtain ⟨b2, hv2, _⟩ := open_bool Try.underlying4 (hval 2 4 v2 rfl rfl) h2
 obtain ⟨n3, hv3, _, _, wf3⟩ := open_int Try.underlying3 (hval 3 3 v3 rfl rfl) h3
 clear hA0 hval0
 subst hv0 hv1 hv2 hv3
 refine (mult_law b2 n3 W hR1 (fun b hb => hb)).mono fun e W' ⟨he, bel⟩ => ?_
 subst he
 exact ⟨_, rfl, _, _, _, [], _, [], hW', trodAll_mk1 (shut_bool Try.underlying4 _), (trodAll_cons_mk (Below.trod laidOut (by kernel_rfl) (of_decide_eq_true (by kernel_rfl)) k0 bel lt0) (trodAll_cons_mk (Below.trod laidOut (by kernel_rfl) (of_decide_eq_true (by kernel_rfl)) k1 bel lt1) (trodAll_cons_mk (Below.trod laidOut (by kernel_rfl) (of_decide_eq_true (by kernel_rfl)) k2 bel lt2) (trodAll_cons_mk (Below.trod laidOut (by kernel_rfl) (of_decide_eq_true (by kernel_rfl)) k3 bel lt3) trodAll_mk0)))), rfl, bel.frame _, fun h => by cases h⟩
theorem over : Rows.curveMultiplesRow.holds Try.pinned (OpenSpec.ofChange Rows.curveMultiplesSpec) :=
 OpenClaim.holds_of_wide 6 Try.f6 rfl rfl rfl rfl rfl rfl rfl ⟨rfl, rfl, rfl, rfl, rfl⟩ rfl rfl rfl rfl rfl (by kernel_rfl) Try.func6 (by kernel_rfl)
  (of_decide_eq_true (by kernel_rfl)) (by unfold Func.isWrapper; first | (rw [if_pos (by decide +kernel)]; kernel_rfl) | (rw [if_neg (by decide +kernel)]; exact ⟨rfl, rfl⟩))
  (fun os started H enc _ => lifted os started H enc)
theorem proved : Rows.CurveMultiplesSaid := over
#print axioms proved
end Go.Proofs.Ytldhmjfjbalakaa.curveMultiples
