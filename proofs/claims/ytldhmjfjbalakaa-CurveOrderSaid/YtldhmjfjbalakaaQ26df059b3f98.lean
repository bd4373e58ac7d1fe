/- curve: sums of multiples, and multiples by the order's neighbours. Plain: no code is walked here. curve: the base is on the curve, and its order's multiple is nowhere: reckoned. Plain. The two curves: the base is on the curve, and its order's multiple is nowhere. Plain. curve: the numbers of a point that may be nowhere. Plain. A rule for a region that draws its order and lays a value into a block that it has made, where one operation (an answer's second part) may come before the store or behind it. Nothing here speaks of the program. The reference's From, of lists however long: that it returns. The reference's points: From. append of bytes onto a row of the call's own. curve: Encode. curve: On, and Multiples' making. curve: twice the base of P-256, reckoned. begun: one point is told. CurveNumbers: the curves' numbers are the document's. curve: what Point, Mul and the reference's On answer of no curve. -/
import Derived.Test.YtldhmjfjbalakaaQ160c4b49e1db
namespace Go.Proofs.Ytldhmjfjbalakaa
open Gl

theorem on_onB {M : Nat} [NeZero M] {bb x y : Nat} (hx : x < M) (hy : y < M) (h : Oc (p := M) (ph bb) (ph x) (ph y)) : onB M bb x y = true := by
 unfold onB
 rw [decide_eq_true hx, decide_eq_true hy]
 refine decide_eq_true ?_
 have e : ph (p := M) (y * y) = ph ((x * x % M * x % M + M - 3 * x % M) % M + bb) := by
  rw [ph_mul, ph_add, ph_mod, ph_sub (by have := Nat.mod_lt (3 * x) (NeZero.lt (p := M)); omega), ph_add, ph_self, ph_mod, ph_mul, ph_mod, ph_mul, ph_mod, ph_mul]
  rw [show (ph (p := M) 3) = 3 from rfl]
  unfold Oc at h
  rw [h]
  grind
 exact congrArg Fin.val e
theorem onQ_natP {C : Crv} [NeZero C.M] {P : Pt C.M} (h : On (ph C.bb) P) : onQ C (natP P).isNone ((natP P).elim 0 (·.1)) ((natP P).elim 0 (·.2)) = true := by
 match P with
 | none => rfl
 | some (x, y) => exact on_onB x.isLt y.isLt (by show Oc (ph C.bb) (ph x.val) (ph y.val); rw [ph_of_val, ph_of_val]; exact h)
theorem on_mul {c : Int} {C : Crv} (hC : IsC c C) {bi : Bool} {x y E : Nat} {S : Option (Nat × Nat)} (ho : onQ C bi x y = true) (hS : rmulP C.M bi x y E = S) : onQ C S.isNone (S.elim 0 (·.1)) (S.elim 0 (·.2)) = true := by
 obtain ⟨_, hp, hv⟩ := hC.cv
 have h1 := onQ_onB ho
 have hP := onQ_on (M := C.M) (b := ph C.bb) rfl h1
 rw [rmul_rp hp hv hP (fun hb => (onB_lt (h1 hb)).2)] at hS
 subst hS
 exact onQ_natP (hv.on_nm hP E)
theorem ng_nat {M : Nat} [NeZero M] {P : Pt M} : natP (ng P) = if (natP P).isNone then none else some ((natP P).elim 0 (·.1), (M - (natP P).elim 0 (·.2)) % M) := by
  match P with
  | none => rfl
  | some (x, y) =>
    show some (x.val, (0 - y).val) = some (x.val, (M - y.val) % M)
    rw [Fin.sub_def]
    show some (x.val, (M - y.val + 0 % M) % M) = _
    rw [Nat.zero_mod, Nat.add_zero]
theorem natP_none {M : Nat} {P : Pt M} (h : natP P = none) : P = none := by
 match P with
 | none => rfl
 | some _ => exact absurd h (by simp [natP])
theorem ord_agree {c : Int} {C : Crv} (hC : IsC c C) {x y n k : Nat} {R : Option (Nat × Nat)} (ho : onQ C false x y = true) (hn : 0 < n) (hO : rmulP C.M false x y n = none) (hR : rmulP C.M false x y k = R) :
 negC C R.isNone (R.elim 0 (·.1)) (R.elim 0 (·.2)) = some (rmulP C.M R.isNone (R.elim 0 (·.1)) (R.elim 0 (·.2)) (n - 1)) ∧ rmulP C.M R.isNone (R.elim 0 (·.1)) (R.elim 0 (·.2)) (n + 1) = R := by
 obtain ⟨_, hp, hv⟩ := hC.cv
 have h1 := onQ_onB ho
 have hG := onQ_on (M := C.M) (b := ph C.bb) rfl h1
 have hl : false = false → y < C.M := fun hb => (onB_lt (h1 hb)).2
 rw [rmul_rp hp hv hG hl] at hO hR
 replace hO := natP_none hO
 obtain ⟨G, hg⟩ : ∃ G, toP (M := C.M) false x y = G := ⟨_, rfl⟩
 rw [hg] at hO hR hG
 obtain ⟨P, hP⟩ : ∃ P, nm ivp G k = P := ⟨_, rfl⟩
 have hPo : On (ph C.bb) P := by rw [← hP]; exact hv.on_nm hG k
 have hz : nm ivp P n = none := by rw [← hP, ← hv.nm_mul hG, Nat.mul_comm, hv.nm_mul hG, hO, nm_none]
 rw [hP] at hR
 subst hR
 have hr : ∀ E, rmulP C.M (natP P).isNone ((natP P).elim 0 (·.1)) ((natP P).elim 0 (·.2)) E = natP (nm ivp P E) := fun E => by
  have e := toP_natP (P := P)
  have := rmul_rp (bi := (natP P).isNone) (x := (natP P).elim 0 (·.1)) (y := (natP P).elim 0 (·.2)) hp hv (by rw [e]; exact hPo) (fun _ => by
   match P with
   | none => exact NeZero.lt
   | some (a, b) => exact b.isLt) E
  rw [e] at this
  exact this
 rw [hr, hr]
 have hm : nm ivp P (n - 1) = ng P := by
  have e : ad ivp (nm ivp P (n - 1)) P = none := by
   have : nm ivp P (n - 1 + 1) = none := by rw [Nat.sub_add_cancel hn]; exact hz
   exact this
  have a1 := hv.assoc (hv.on_nm hPo (n - 1)) hPo hPo.neg
  rw [e, hv.neg_ad hPo, ad_none] at a1
  exact a1.symm
 refine ⟨?_, ?_⟩
 · rw [hm, ng_nat]
   unfold negC
   rw [if_pos (onQ_natP hPo)]
 · show natP (ad ivp (nm ivp P n) P) = natP P
   rw [hz]
   rfl
end Go.Proofs.Ytldhmjfjbalakaa

namespace Go.Proofs.Ytldhmjfjbalakaa

def frc {α : Type} (n : Nat) (f : Nat → α) : α := Nat.rec (f 0) (fun m _ => f (m + 1)) n
theorem frc_eq {α : Type} (n : Nat) (f : Nat → α) : frc n f = f n := by cases n <;> rfl
def ordS (M qx qy E : Nat) : Nat → (Nat → Nat → Nat → Bool) → Bool
  | 0, f => f 0 0 0
  | k + 1, f => ordS M qx qy E k fun x y z =>
    frc (twP M x y z).1 fun x1 => frc (twP M x y z).2.1 fun y1 => frc (twP M x y z).2.2 fun z1 =>
      if (bitAt E k).2 = 1 then frc (mixP M x1 y1 z1 qx qy).1 fun x2 => frc (mixP M x1 y1 z1 qx qy).2.1 fun y2 => frc (mixP M x1 y1 z1 qx qy).2.2 fun z2 => f x2 y2 z2
      else f x1 y1 z1
theorem ordS_eq (M qx qy E : Nat) : ∀ k f, ordS M qx qy E k f = f (rmS M qx qy E k).1 (rmS M qx qy E k).2.1 (rmS M qx qy E k).2.2
  | 0, f => rfl
  | k + 1, f => by
    simp only [ordS, rmS]
    rw [ordS_eq M qx qy E k]
    simp only [frc_eq]
    split <;> rfl
theorem ord_of {M x y n : Nat} (h : ordS M x y n (nbits n) (fun _ _ z => z == 0) = true) : rmulP M false x y n = none := by
 rw [ordS_eq] at h
 unfold rmulP rdown
 rw [if_neg (by decide), if_pos (eq_of_beq h)]
theorem nbits_lim {x n : Nat} (h : x < 18446744073709551616 ^ n) : nbits x ≤ 64 * n := nbits_le (by rw [Nat.pow_mul]; exact h)
end Go.Proofs.Ytldhmjfjbalakaa

namespace Go.Proofs.Ytldhmjfjbalakaa

theorem IsC.base_on {c : Int} {C : Crv} (h : IsC c C) : onQ C false (val 18446744073709551616 C.xl) (val 18446744073709551616 C.yl) = true := by
 rcases h with ⟨_, rfl⟩ | ⟨_, rfl⟩ <;> kernel_rfl
theorem ord256 : ordS 115792089210356248762697446949407573530086143415290314195533631308867097853951 48439561293906451759052585252797914202762949526041747995844080717082404635286 36134250956749795798585127919587881956611106672985015071877198253568414405109 115792089210356248762697446949407573529996955224135760342422259061068512044369 256 (fun _ _ z => z == 0) = true := by kernel_rfl
theorem ord384 : ordS 39402006196394479212279040100143613805079739270465446667948293404245721771496870329047266088258938001861606973112319 26247035095799689268623156744566981891852923491109213387815615900925518854738050089022388053975719786650872476732087 8325710961489029985546751289520108179287853048861315594709205902480503199884419224438643760392947333078086511627871 39402006196394479212279040100143613805079739270465446667946905279627659399113263569398956308152294913554433653942643 384 (fun _ _ z => z == 0) = true := by kernel_rfl
theorem IsC.ord {c : Int} {C : Crv} (h : IsC c C) : rmulP C.M false (val 18446744073709551616 C.xl) (val 18446744073709551616 C.yl) (val 18446744073709551616 C.nl) = none := by
 refine ord_of ?_
 rcases h with ⟨_, rfl⟩ | ⟨_, rfl⟩
 · have e1 : c256.M = 115792089210356248762697446949407573530086143415290314195533631308867097853951 := by decide +kernel
   have e2 : val 18446744073709551616 c256.xl = 48439561293906451759052585252797914202762949526041747995844080717082404635286 := by decide +kernel
   have e3 : val 18446744073709551616 c256.yl = 36134250956749795798585127919587881956611106672985015071877198253568414405109 := by decide +kernel
   have e4 : val 18446744073709551616 c256.nl = 115792089210356248762697446949407573529996955224135760342422259061068512044369 := by decide +kernel
   have e5 : nbits 115792089210356248762697446949407573529996955224135760342422259061068512044369 = 256 := by decide +kernel
   rw [e1, e2, e3, e4, e5]
   exact ord256
 · have e1 : c384.M = 39402006196394479212279040100143613805079739270465446667948293404245721771496870329047266088258938001861606973112319 := by decide +kernel
   have e2 : val 18446744073709551616 c384.xl = 26247035095799689268623156744566981891852923491109213387815615900925518854738050089022388053975719786650872476732087 := by decide +kernel
   have e3 : val 18446744073709551616 c384.yl = 8325710961489029985546751289520108179287853048861315594709205902480503199884419224438643760392947333078086511627871 := by decide +kernel
   have e4 : val 18446744073709551616 c384.nl = 39402006196394479212279040100143613805079739270465446667946905279627659399113263569398956308152294913554433653942643 := by decide +kernel
   have e5 : nbits 39402006196394479212279040100143613805079739270465446667946905279627659399113263569398956308152294913554433653942643 = 384 := by decide +kernel
   rw [e1, e2, e3, e4, e5]
   exact ord384
theorem IsC.ord_pos {c : Int} {C : Crv} (h : IsC c C) : 0 < val 18446744073709551616 C.nl ∧ val 18446744073709551616 C.nl < 18446744073709551616 ^ 6 := by
 rcases h with ⟨_, rfl⟩ | ⟨_, rfl⟩ <;> exact ⟨by decide +kernel, by decide +kernel⟩
end Go.Proofs.Ytldhmjfjbalakaa

namespace Go.Proofs.Ytldhmjfjbalakaa
theorem IsC.opt_len {c : Int} {C : Crv} (hC : IsC c C) {U : Option (Nat × Nat)} (h : ∀ p, U = some p → p.1 < C.M ∧ p.2 < C.M) : (digs 18446744073709551616 (U.elim 0 (·.1))).length < 100000 ∧ (digs 18446744073709551616 (U.elim 0 (·.2))).length < 100000 := by
 cases hu : U with
 | none => exact ⟨by rw [show (Option.elim (none : Option (Nat × Nat)) 0 (·.1)) = 0 from rfl, digs_zero]; decide, by rw [show (Option.elim (none : Option (Nat × Nat)) 0 (·.2)) = 0 from rfl, digs_zero]; decide⟩
 | some p => exact ⟨hC.dlen (h p hu).1, hC.dlen (h p hu).2⟩
theorem opt_val (U : Option (Nat × Nat)) : (if U.isNone = true then 0 else val 18446744073709551616 (digs 18446744073709551616 (U.elim 0 (·.1)))) = U.elim 0 (·.1) ∧ (if U.isNone = true then 0 else val 18446744073709551616 (digs 18446744073709551616 (U.elim 0 (·.2)))) = U.elim 0 (·.2) := by
 rw [val_digs (by omega), val_digs (by omega)]
 cases U <;> exact ⟨rfl, rfl⟩
theorem IsC.mul_lt {c : Int} {C : Crv} (hC : IsC c C) {bi : Bool} {x y E : Nat} {U : Option (Nat × Nat)} (h : rmulP C.M bi x y E = U) : ∀ p, U = some p → p.1 < C.M ∧ p.2 < C.M := fun p hp => rmulP_lt (by have := hC.ptlt.2.2; omega) (h.trans hp)
end Go.Proofs.Ytldhmjfjbalakaa

namespace Go.Proofs.Ytldhmjfjbalakaa
open Go.RowKit
namespace Par
section
variable {P : Program} {ops : Array Oper} {Q : Exit → Act → World → Prop}

theorem act_go {M : Nat → Nat} {n : Nat} (hF : Form ops M n) {D : Nat → Bool} {f : Nat → Value} {a : Act} {i : Nat} (hnd : ∀ j, j < n → D j = true → nd M i j = true) :
    ∃ g, (∀ j, D j = true → g j = f j) ∧ put ops D f (List.range n) a = put ops (nd M i) g (List.range n) a ∧
      (i < n → ∀ v, (put ops (nd M i) g (List.range n) a).put (dst ops i) v = put ops (fun j => D j || j == i) (upd g i v) (List.range n) a) := by
  refine ⟨fun j => if D j = true then f j else ((dst ops j).map fun t => a.tmps.getD t undef).getD undef, fun j hj => by simp only [hj, if_true], ?_, fun hi v => ?_⟩
  · exact put_wide a List.nodup_range (fun p hp q hq => hF.own p q (List.mem_range.1 hp) (List.mem_range.1 hq)) (fun j hj hd => ⟨hnd j (List.mem_range.1 hj) hd, by simp only [hd, if_true]⟩) a
      (fun j _ hd t ht => by simp only [hd, Bool.false_eq_true, if_false, ht, Option.map_some, Option.getD_some])
  · rw [put_more (List.mem_range.2 hi) List.nodup_range (fun j hj hne => hF.own i j hi (List.mem_range.1 hj) (Ne.symm hne)) (by simp [nd])]
    refine (put_wide a List.nodup_range (fun p hp q hq => hF.own p q (List.mem_range.1 hp) (List.mem_range.1 hq)) (fun j hj hd => ⟨?_, rfl⟩) a (fun j hj hd t ht => ?_)).symm
    · rw [Bool.or_eq_true, beq_iff_eq] at hd
      rw [Bool.or_eq_true, beq_iff_eq]
      exact hd.imp (hnd j (List.mem_range.1 hj)) id
    · rw [Bool.or_eq_false_iff] at hd
      have hne : j ≠ i := by simpa using hd.2
      simp only [upd, hne, if_false, hd.1, Bool.false_eq_true, ht, Option.map_some, Option.getD_some]
theorem mask_eq {M : Nat → Nat} {j : Nat} {f g : Nat → Value} (h : ∀ k, (k = j ∨ (M j).testBit k = true) → f k = g k) : mask M j f = mask M j g := by
 funext k
 unfold mask
 split
 · rename_i hk
   rw [Bool.or_eq_true, beq_iff_eq] at hk
   exact h k hk
 · rfl
theorem ready_some {M : Nat → Nat} {n : Nat} (hF : Form ops M n) {listed : Array Bool} (hsz : listed.size = ops.size) {j : Nat} (hj : j < n) (hn : listed.getD j false = false) : Region.ready .any ops listed ≠ [] := by
  intro h
  have : ∀ k, k ≤ n → (∀ i, i < k → listed.getD i false = true) := by
    intro k
    induction k with
    | zero => intro _ i hi; omega
    | succ k ihk =>
      intro hk i hi
      by_cases hik : i < k
      · exact ihk (by omega) i hik
      · obtain rfl : i = k := by omega
        cases hd : listed.getD i false
        · exfalso
          have his : i < ops.size := by have := hF.le; omega
          have hmem : i ∈ Region.ready .any ops listed := by
            rw [mem_ready]
            have hil : i < listed.size := by omega
            exact ⟨by simpa [hil] using hd, _, Array.getElem?_eq_getElem his, fun e he hb => ihk (by omega) _ (hF.up i _ (Array.getElem?_eq_getElem his) e he hb)⟩
          rw [h] at hmem
          cases hmem
        · rfl
  rw [this n (Nat.le_refl _) j hj] at hn
  cases hn
theorem listed_all {n : Nat} {listed : Array Bool} (hsz : listed.size = ops.size) (hall : ∀ j, j < n → listed.getD j false = true) (hlt : ∀ j, listed.getD j false = true → j < n) : listed = upto ops.size n := by
 apply Array.ext
 · simp [upto, hsz]
 · intro k h1 h2
   simp only [upto, List.getElem_toArray, List.getElem_map, List.getElem_range]
   by_cases hk : k < n
   · have := hall k hk
     simpa [h1, hk] using this
   · cases hd : listed[k]
     · simp [hk]
     · exact absurd (hlt k (by simp [h1, hd])) hk
theorem set_new {listed : Array Bool} {i : Nat} (hil : i < listed.size) (j : Nat) : (listed.setIfInBounds i true).getD j false = (listed.getD j false || j == i) := by
 by_cases hji : j = i
 · subst hji; simp [hil]
 · rw [Go.getD_set_ne false (fun e => hji e.symm)]; simp [hji]

theorem hup' (f : Nat → Value) (i : Nat) (v : Value) (j : Nat) (hne : j ≠ i) : upd f i v j = f j := by simp only [upd, hne, if_false]
theorem parB {E : World → World → Prop} {n s u : Nat} {M : Nat → Nat} {R : Nat → (Nat → Value) → World → Prop} {S : (Nat → Value) → World → Prop} {cv : Value} {a : Act} {w : World} (hF : Form ops M n) (hu : u < n) (hus : u ≠ s)
    (hleaf : ∀ j, j < n → (M j).testBit u = false)
    (hpu : ∀ f X0 X, E w X0 → (∀ j, (M u).testBit j = true → R j (mask M j f) X0) → ∀ K : Act → World → Prop, K ((put ops (nd M u) f (List.range n) a).put (dst ops u) cv) X → wpOp P ops Q u K (put ops (nd M u) f (List.range n) a) X)
    (htail : ∀ f Y, f u = cv → S (mask M s f) Y → wpAny P .any ops Q (ops.size - n) (upto ops.size n) (put ops (fun _ => true) f (List.range n) a) Y) (hs : s < n) :
    ∀ (fuel : Nat) (listed : Array Bool) (f : Nat → Value) (a' : Act) (X0 Y : World), listed.size = ops.size →
      (∀ j o, ops[j]? = some o → listed.getD j false = true → ∀ e ∈ o.after, binds e = true → listed.getD e.on false = true) →
      (∀ j, listed.getD j false = true → j < n) → (∀ j, j < n → j ≠ u → listed.getD j false = true) → fuel + cnt (fun j => listed.getD j false) n = ops.size →
      E w X0 → (∀ j, j < s → j ≠ u → R j (mask M j f) X0) → (listed.getD u false = true → f u = cv) → S (mask M s f) Y → a' = put ops (fun j => listed.getD j false) f (List.range n) a →
      (∀ j, (M u).testBit j = true → j < s) → wpAny P .any ops Q fuel listed a' Y := by
  intro fuel
  induction fuel with
  | zero =>
    intro listed f a' X0 Y hsz hcl hlt hall hc hE hR hfu hS ha hlow
    have hcm : cnt (fun j => listed.getD j false) n ≤ n := cnt_le _ _
    have hnn : n = ops.size := by have := hF.le; omega
    have hlu : listed.getD u false = true := by
      cases h : listed.getD u false
      · have := cnt_lt (D := fun j => listed.getD j false) (i := u) h hu; omega
      · rfl
    have h1 := listed_all (ops := ops) hsz (fun j hj => by by_cases h : j = u; (rw [h]; exact hlu); exact hall j hj h) hlt
    have h2 := htail f Y (hfu hlu) hS
    have e0 : ops.size - n = 0 := by omega
    rw [e0] at h2
    rw [h1, ha]
    have e1 : put ops (fun j => listed.getD j false) f (List.range n) a = put ops (fun _ => true) f (List.range n) a := put_congr (fun j hj => ⟨by by_cases h : j = u; (rw [h]; exact hlu); exact hall j (List.mem_range.1 hj) h, rfl⟩) _
    rw [e1]
    exact h2
  | succ fuel ih =>
    intro listed f a' X0 Y hsz hcl hlt hall hc hE hR hfu hS ha hlow
    cases hlu : listed.getD u false
    · refine ⟨fun h => absurd h (ready_some hF hsz hu hlu), fun i hi => ?_⟩
      obtain ⟨hi0, o, ho, hdep⟩ := mem_ready.1 hi
      have his : i < ops.size := (Array.getElem?_eq_some_iff.1 ho).1
      have hil : i < listed.size := by omega
      have hid : listed.getD i false = false := by simpa [hil] using hi0
      have anc := fun i o ho hd k hk hb => anc hF hcl i i o (Nat.le_refl _) ho hd k hk hb
      have hiu : i = u := by
        rcases Nat.lt_or_ge i n with h | h
        · exact Decidable.byContradiction fun hne => by rw [hall i h hne] at hid; cases hid
        · have := anc i o ho hdep u (by have := hF.le; omega) (hF.late i h his u (by omega))
          rw [hlu] at this; cases this
      subst hiu
      have hnd : ∀ j, j < n → listed.getD j false = true → nd M i j = true := fun j hj hd => by
        have h1 : j ≠ i := fun e => by rw [e, hid] at hd; cases hd
        simp [nd, h1, hleaf j hj]
      obtain ⟨g, hg1, hg2, hg3⟩ := act_go (M := M) (a := a) (f := f) (D := fun j => listed.getD j false) hF hnd
      rw [ha, hg2]
      have hgf : ∀ j, j < n → j ≠ i → g j = f j := fun j hj hne => hg1 j (hall j hj hne)
      have hms : ∀ h : Nat → Value, (∀ j, j < n → j ≠ i → h j = f j) → ∀ j, j < n → j ≠ i → mask M j h = mask M j f := fun h hh j hj hne => mask_eq fun k hk => by
        rcases hk with rfl | hk
        · exact hh k hj hne
        · have hjs : j < ops.size := by have := hF.le; omega
          have := hF.bit j hjs k hk
          exact hh k (by omega) (fun e => by rw [e, hleaf j hj] at hk; cases hk)
      refine hpu g X0 Y hE (fun j hb => ?_) _ ?_
      · have hj := hlow j hb
        have hne : j ≠ i := fun e => by rw [e, hleaf i hu] at hb; cases hb
        rw [hms g hgf j (by omega) hne]
        exact hR j hj hne
      · rw [hg3 hu]
        have hnew := set_new hil
        have hup : ∀ j, j < n → j ≠ i → upd g i cv j = f j := fun j hj hne => by simp only [upd, hne, if_false]; exact hgf j hj hne
        refine ih _ (upd g i cv) _ X0 Y (by simpa using hsz) (fun j oj hoj hd e he hb => ?_) (fun j hd => ?_) (fun j hj hne => ?_) ?_ hE (fun j hj hne => ?_) (fun _ => by simp [upd]) ?_ ?_ hlow
        · rw [hnew] at hd ⊢
          rw [Bool.or_eq_true, beq_iff_eq] at hd ⊢
          rcases hd with hd | rfl
          · exact .inl (hcl j oj hoj hd e he hb)
          · rw [ho] at hoj; cases hoj; exact .inl (hdep e he hb)
        · rw [hnew, Bool.or_eq_true, beq_iff_eq] at hd
          rcases hd with hd | rfl
          · exact hlt j hd
          · exact hu
        · rw [hnew, hall j hj hne]; rfl
        · rw [cnt_more (D := fun j => listed.getD j false) (D' := fun j => (listed.setIfInBounds i true).getD j false) hid (by rw [hnew]; simp) (fun j hj => by show (listed.setIfInBounds i true).getD j false = listed.getD j false; rw [hnew]; simp [hj]) hu]
          omega
        · rw [hms _ hup j (by omega) hne]
          exact hR j hj hne
        · rw [hms _ hup s hs (Ne.symm hus)]
          exact hS
        · exact put_congr (fun j _ => ⟨(hnew j).symm, rfl⟩) _
    · have h1 := listed_all (ops := ops) hsz (fun j hj => by by_cases h : j = u; (rw [h]; exact hlu); exact hall j hj h) hlt
      have e1 : put ops (fun j => listed.getD j false) f (List.range n) a = put ops (fun _ => true) f (List.range n) a := put_congr (fun j hj => ⟨by by_cases h : j = u; (rw [h]; exact hlu); exact hall j (List.mem_range.1 hj) h, rfl⟩) _
      have hcm := cnt_full (D := fun j => listed.getD j false) (m := n) (fun j hj => by by_cases h : j = u; (rw [h]; exact hlu); exact hall j hj h)
      have h2 := htail f Y (hfu hlu) hS
      have e0 : ops.size - n = fuel + 1 := by omega
      rw [e0] at h2
      rw [h1, ha, e1]
      exact h2

theorem parS {E : World → World → Prop} (hE0 : ∀ w, E w w) (hE1 : ∀ a b c, E a b → E b c → E a c) (hE2 : ∀ a b, E a b → a.heap.size ≤ b.heap.size)
    {n s u : Nat} {M : Nat → Nat} {AL : Nat → Bool} {R : Nat → (Nat → Value) → World → Prop} {S : (Nat → Value) → World → Prop} {cv : Value} {a : Act} {w : World} (hF : Form ops M n) (hsn : s + 1 = n) (hds : dst ops s = none) (hu : u < s)
    (hleaf : ∀ j, j < n → (M j).testBit u = false) (hsto : ∀ k, k < s → k ≠ u → (M s).testBit k = true)
    (hR : ∀ j, j < n → ∀ f X, R j (mask M j f) X → ∀ Y, E X Y → R j (mask M j f) Y)
    (hstep : ∀ i, i < s → Step P ops Q E n M AL (fun j f X => R j (mask M j f) X) a w i)
    (hpu : ∀ f X0 X, E w X0 → (∀ j, (M u).testBit j = true → R j (mask M j f) X0) → ∀ K : Act → World → Prop, K ((put ops (nd M u) f (List.range n) a).put (dst ops u) cv) X → wpOp P ops Q u K (put ops (nd M u) f (List.range n) a) X)
    (hRc : ∀ f X, R u (mask M u f) X → f u = cv)
    (hst : ∀ f X, E w X → (∀ j, (M s).testBit j = true → R j (mask M j f) X) → (∀ j, (M s).testBit j = true → AL j = true → ∃ b, f j = .pointer (some ⟨b, 0, none⟩) ∧ b < X.heap.size) → ∀ K : Act → World → Prop, (∀ Y, S (mask M s f) Y → K (put ops (nd M s) f (List.range n) a) Y) → wpOp P ops Q s K (put ops (nd M s) f (List.range n) a) X)
    (htail : ∀ f Y, f u = cv → S (mask M s f) Y → wpAny P .any ops Q (ops.size - n) (upto ops.size n) (put ops (fun _ => true) f (List.range n) a) Y) :
    ∀ (fuel : Nat) (listed : Array Bool) (f : Nat → Value) (a' : Act) (X : World), listed.size = ops.size →
      (∀ j o, ops[j]? = some o → listed.getD j false = true → ∀ e ∈ o.after, binds e = true → listed.getD e.on false = true) →
      (∀ j, listed.getD j false = true → j < s) → fuel + cnt (fun j => listed.getD j false) n = ops.size →
      Inv ops E n M AL R a w (fun j => listed.getD j false) f a' X → wpAny P .any ops Q fuel listed a' X := by
  intro fuel
  induction fuel with
  | zero =>
    intro listed f a' X hsz hcl hlt hc hI
    exfalso
    have h1 : listed.getD s false = false := by
      cases h : listed.getD s false
      · rfl
      · have := hlt s h; omega
    have := cnt_lt (D := fun j => listed.getD j false) (i := s) h1 (m := n) (by omega)
    have := hF.le
    omega
  | succ fuel ih =>
    intro listed f a' X hsz hcl hlt hc hI
    have hsf : listed.getD s false = false := by
      cases h : listed.getD s false
      · rfl
      · have := hlt s h; omega
    refine ⟨fun h => absurd h (ready_some hF hsz (by omega) hsf), fun i hi => ?_⟩
    obtain ⟨hi0, o, ho, hdep⟩ := mem_ready.1 hi
    have his : i < ops.size := (Array.getElem?_eq_some_iff.1 ho).1
    have hil : i < listed.size := by omega
    have hid : listed.getD i false = false := by simpa [hil] using hi0
    have anc := fun i o ho hd k hk hb => anc hF hcl i i o (Nat.le_refl _) ho hd k (Nat.lt_of_lt_of_le hk hF.le) hb
    have him : i < n := by
      rcases Nat.lt_or_ge i n with h | h
      · exact h
      · have := anc i o ho hdep s (by omega) (hF.late i h his s (by omega))
        rw [hsf] at this; cases this
    have hnd : ∀ j, j < n → listed.getD j false = true → nd M i j = true := fun j hj hd => by
      have h1 : j ≠ i := fun e => by rw [e, hid] at hd; cases hd
      have hjs : j < ops.size := by have := hF.le; omega
      have h2 : (M j).testBit i = false := by
        cases hb : (M j).testBit i
        · rfl
        · have := anc j _ (Array.getElem?_eq_getElem hjs) (hcl j _ (Array.getElem?_eq_getElem hjs) hd) i him hb
          rw [hid] at this; cases this
      simp [nd, h1, h2]
    obtain ⟨g, hg1, hg2, hg3⟩ := act_go (M := M) (a := a) (f := f) (D := fun j => listed.getD j false) hF hnd
    have hmask : ∀ j, j < n → listed.getD j false = true → mask M j g = mask M j f := fun j hj hd => mask_eq fun k hk => by
      rcases hk with rfl | hk
      · exact hg1 k hd
      · have hjs : j < ops.size := by have := hF.le; omega
        have hkj := hF.bit j hjs k hk
        exact hg1 k (anc j _ (Array.getElem?_eq_getElem hjs) (hcl j _ (Array.getElem?_eq_getElem hjs) hd) k (by omega) hk)
    have hnew := set_new hil
    have hcl' : ∀ j oj, ops[j]? = some oj → (listed.setIfInBounds i true).getD j false = true → ∀ e ∈ oj.after, binds e = true → (listed.setIfInBounds i true).getD e.on false = true := fun j oj hoj hd e he hb => by
      rw [hnew] at hd ⊢
      rw [Bool.or_eq_true, beq_iff_eq] at hd ⊢
      rcases hd with hd | rfl
      · exact .inl (hcl j oj hoj hd e he hb)
      · rw [ho] at hoj; cases hoj; exact .inl (hdep e he hb)
    have hcnt : fuel + cnt (fun j => (listed.setIfInBounds i true).getD j false) n = ops.size := by
      rw [cnt_more (D := fun j => listed.getD j false) (D' := fun j => (listed.setIfInBounds i true).getD j false) hid (by rw [hnew]; simp) (fun j hj => by show (listed.setIfInBounds i true).getD j false = listed.getD j false; rw [hnew]; simp [hj]) him]
      omega
    rw [hI.act, hg2]
    by_cases hisx : i = s
    · subst hisx
      have hdone : ∀ j, j < i → j ≠ u → listed.getD j false = true := fun j hj hne => anc i o ho hdep j (by omega) (hsto j hj hne)
      refine hst g X hI.ext (fun j hb => ?_) (fun j hb hal => ?_) _ (fun Y hS => ?_)
      · have hj : j < i := hF.bit i his j hb
        have hd := anc i o ho hdep j (by omega) hb
        rw [hmask j (by omega) hd]
        exact hI.said j (by omega) hd
      · have hj : j < i := hF.bit i his j hb
        have hd := anc i o ho hdep j (by omega) hb
        obtain ⟨b, h1, h2⟩ := hI.at_ j (by omega) hd hal
        exact ⟨b, (hg1 j hd).trans h1, h2⟩
      · have ha := hg3 him undef
        rw [hds] at ha
        have ha' : put ops (nd M i) g (List.range n) a = put ops (fun j => (listed.setIfInBounds i true).getD j false) (upd g i undef) (List.range n) a := by
          refine Eq.trans ha (put_congr (fun j _ => ⟨(hnew j).symm, rfl⟩) _)
        have hup : ∀ j, j ≠ i → upd g i undef j = g j := fun j hne => by simp only [upd, hne, if_false]
        refine parB hF (by omega) (by omega) hleaf hpu (S := fun f Y => S (mask M i (upd f i (g i))) Y) (fun f Y hfu hS' => ?_) (s := i) him fuel _ (upd g i undef) _ X Y (by simpa using hsz) hcl' (fun j hd => ?_) (fun j hj hne => ?_) hcnt hI.ext (fun j hj hne => ?_) (fun hd => ?_) ?_ ha' (fun j hb => ?_)
        · have h1 : put ops (fun _ => true) f (List.range n) a = put ops (fun _ => true) (upd f i (g i)) (List.range n) a := by
            have : ∀ (l : List Nat) (a : Act), put ops (fun _ => true) f l a = put ops (fun _ => true) (upd f i (g i)) l a := fun l => by
              induction l with
              | nil => intro a; rfl
              | cons j l ih =>
                intro a
                simp only [put, if_true]
                by_cases hji : j = i
                · subst hji
                  rw [hds]
                  exact ih _
                · rw [hup' f i (g i) j hji]
                  exact ih _
            exact this _ _
          rw [h1]
          refine htail (upd f i (g i)) Y (by rw [hup' f i (g i) u (by omega)]; exact hfu) ?_
          have : mask M i (upd f i (g i)) = mask M i (upd (mask M i f) i (g i)) := mask_eq fun k hk => by
            by_cases hki : k = i
            · subst hki; simp [upd]
            · rw [hup' _ _ _ _ hki, hup' _ _ _ _ hki]
              have hb := hk.resolve_left hki
              simp [mask, hb]
          rw [this]
          exact hS'
        · rw [hnew, Bool.or_eq_true, beq_iff_eq] at hd
          rcases hd with hd | rfl
          · have := hlt j hd; omega
          · exact him
        · rw [hnew]
          by_cases hji : j = i
          · simp [hji]
          · rw [hdone j (by omega) hne]; rfl
        · have hd := hdone j hj hne
          have : mask M j (upd g i undef) = mask M j f := by
            rw [← hmask j (by omega) hd]
            refine mask_eq fun k hk => hup k fun e => ?_
            rcases hk with rfl | hk
            · omega
            · have hjs : j < ops.size := by have := hF.le; omega
              have := hF.bit j hjs k hk
              omega
          rw [this]
          exact hI.said j (by omega) hd
        · rw [hnew, Bool.or_eq_true, beq_iff_eq] at hd
          have hd' := hd.resolve_right (by omega)
          rw [hup u (by omega), hg1 u hd']
          exact hRc f X (hI.said u (by omega) hd')
        · have : mask M i (upd (mask M i (upd g i undef)) i (g i)) = mask M i g := mask_eq fun k hk => by
            by_cases hki : k = i
            · subst hki; simp [upd]
            · have hb := hk.resolve_left hki
              rw [hup' _ _ _ _ hki]
              simp [mask, hb, upd, hki]
          show S (mask M i (upd (mask M i (upd g i undef)) i (g i))) Y
          rw [this]
          exact hS
        · have hub : u < ops.size := by have := hF.le; omega
          have := hF.bit u hub j hb
          omega
    · have hi' : i < s := by omega
      refine hstep i hi' g X hI.ext (fun j hb => ?_) _ (fun a'' v X' ha hE hA hR' => ?_)
      · have hj : j < n := by have := hF.bit i his j hb; omega
        have hd := anc i o ho hdep j hj hb
        show R j (mask M j g) X
        rw [hmask j hj hd]
        exact hI.said j hj hd
      · have hnin : ∀ j, j < n → listed.getD j false = true → j ≠ i := fun j _ hd e => by rw [e, hid] at hd; cases hd
        have hupd : ∀ j, listed.getD j false = true → upd g i v j = f j := fun j hd => by
          have hne : j ≠ i := fun e => by rw [e, hid] at hd; cases hd
          simp only [upd, hne, if_false]; exact hg1 j hd
        have hupi : upd g i v i = v := by simp [upd]
        have hmk : ∀ j, j < n → listed.getD j false = true → mask M j (upd g i v) = mask M j f := fun j hj hd => by
          rw [← hmask j hj hd]
          refine mask_eq fun k hk => ?_
          have hne : k ≠ i := by
            rintro rfl
            rcases hk with rfl | hk
            · exact hnin _ hj hd rfl
            · have := hnd j hj hd
              simp [nd, hk] at this
          simp [upd, hne]
        refine ih _ (upd g i v) a'' X' (by simpa using hsz) hcl' (fun j hd => ?_) hcnt ⟨?_, hE1 _ _ _ hI.ext hE, fun j hj hd => ?_, fun j hj hd hal => ?_, fun j k hj hk hd hd' hal hal' hne => ?_⟩
        · rw [hnew, Bool.or_eq_true, beq_iff_eq] at hd
          rcases hd with hd | rfl
          · exact hlt j hd
          · exact hi'
        · rw [ha, hg3 him]
          exact put_congr (fun j _ => ⟨(hnew j).symm, rfl⟩) _
        · rw [hnew, Bool.or_eq_true, beq_iff_eq] at hd
          by_cases hold : listed.getD j false = true
          · rw [hmk j hj hold]
            exact hR j hj f X (hI.said j hj hold) X' hE
          · obtain rfl : j = i := hd.resolve_left hold
            exact hR' X' (hE0 _)
        · rw [hnew, Bool.or_eq_true, beq_iff_eq] at hd
          by_cases hold : listed.getD j false = true
          · obtain ⟨b, h1, h2⟩ := hI.at_ j hj hold hal
            exact ⟨b, (hupd j hold).trans h1, Nat.lt_of_lt_of_le h2 (hE2 _ _ hE)⟩
          · obtain rfl : j = i := hd.resolve_left hold
            rw [if_pos hal] at hA
            exact ⟨X.heap.size, hupi.trans hA.1, hA.2⟩
        · rw [hnew, Bool.or_eq_true, beq_iff_eq] at hd hd'
          have key : ∀ j k, j < n → listed.getD j false = true → AL j = true → AL k = true → k = i → upd g i v j ≠ upd g i v k := fun j k hj hold hal hal' hki heq => by
            subst hki
            rw [if_pos hal'] at hA
            obtain ⟨b, h1, h2⟩ := hI.at_ j hj hold hal
            rw [hupd j hold, hupi, h1, hA.1] at heq
            injection heq with heq
            injection heq with heq
            injection heq with heq
            omega
          by_cases hold : listed.getD j false = true
          · by_cases hold' : listed.getD k false = true
            · rw [hupd j hold, hupd k hold']
              exact hI.apart j k hj hk hold hold' hal hal' hne
            · exact key j k hj hold hal hal' (hd'.resolve_left hold')
          · have hji := hd.resolve_left hold
            by_cases hold' : listed.getD k false = true
            · exact fun e => key k j hk hold' hal' hal hji e.symm
            · exact absurd (hji.trans (hd'.resolve_left hold').symm) hne
end
section
variable {P : Program} {Q : Exit → Act → World → Prop}
def okS (ops : Array Oper) (M : Nat → Nat) (s u : Nat) (AL : List Nat) : Bool :=
 (dst ops s).isNone && decide (u < s) && !(AL.contains u) && ((List.range (s + 1)).all fun j => !(M j).testBit u) && ((List.range s).all fun k => k == u || (M s).testBit k)
structure PuO (P : Program) (ol : List Oper) (Q : Exit → Act → World → Prop) (E : World → World → Prop) (n : Nat) (L : List Nat) (R : Nat → (Nat → Value) → World → Prop) (a : Act) (w : World) (u : Nat) (cv : Value) (o : Oper) : Prop where
 out : ol[u]? = some o → ∀ f X0 X, E w X0 → (∀ j, (L.getD u 0).testBit j = true → R j (mask (fun i => L.getD i 0) j f) X0) → ∀ K : Act → World → Prop, K ((put ol.toArray (nd (fun i => L.getD i 0) u) f (List.range n) a).put (dst ol.toArray u) cv) X → wpOp P ol.toArray Q u K (put ol.toArray (nd (fun i => L.getD i 0) u) f (List.range n) a) X
theorem PuO.intro {ol : List Oper} {E : World → World → Prop} {n : Nat} {L : List Nat} {R : Nat → (Nat → Value) → World → Prop} {a : Act} {w : World} {u : Nat} {cv : Value} {o : Oper} (pl : List (Nat × Nat)) (hpl : sel ol.toArray (nd (fun i => L.getD i 0) u) (List.range n) = pl)
 (h : ∀ f X0 X, E w X0 → Way (∀ j, (L.getD u 0).testBit j = true → R j (mask (fun i => L.getD i 0) j f) X0) → ∀ K : Act → World → Prop, Way (K ((putL f pl a).put o.dst cv) X) →
  Way (if Region.wanted o (yielded ol.toArray (putL f pl a).tmps) = true then Oper.wp P o (putL f pl a) X K Q else K ((putL f pl a).put o.dst undef) X)) : PuO P ol Q E n L R a w u cv o := by
 refine ⟨fun ho f X0 X hX hR K hK => ?_⟩
 have ho' : ol.toArray[u]? = some o := by simpa using ho
 refine wpOp_step ho' fun K' hK' => ?_
 have h1 := h f X0 X hX ⟨hR⟩ K'
 rw [← hpl, ← put_sel] at h1
 refine (h1 ⟨hK' _ _ ?_⟩).out
 have : o.dst = dst ol.toArray u := by rw [dst, ho']; rfl
 rw [this]
 exact hK
inductive StepX (P : Program) (ol : List Oper) (Q : Exit → Act → World → Prop) (E : World → World → Prop) (n : Nat) (L AL : List Nat) (R : Nat → (Nat → Value) → World → Prop) (a : Act) (w : World) (u : Nat) (cv : Value) : Nat → Oper → Prop
 | step {i : Nat} {o : Oper} (hne : (i == u) = false) (h : StepO P ol Q E n L AL R a w i o) : StepX P ol Q E n L AL R a w u cv i o
 | pure {o : Oper} (h : PuO P ol Q E n L R a w u cv o) : StepX P ol Q E n L AL R a w u cv u o
inductive FinS (P : Program) (ol : List Oper) (Q : Exit → Act → World → Prop) (E : World → World → Prop) (s u : Nat) (cv : Value) (L AL : List Nat) (R : Nat → (Nat → Value) → World → Prop) (S : (Nat → Value) → World → Prop) (pl : List (Nat × Nat)) (a : Act) (w : World) : List Oper → Prop
  | intro {o : Oper} {l : List Oper}
    (hst : ∀ f X, E w X → Way (∀ j, (L.getD s 0).testBit j = true → R j (mask (fun i => L.getD i 0) j f) X) → Way (∀ j, (L.getD s 0).testBit j = true → AL.contains j = true → ∃ b, f j = .pointer (some ⟨b, 0, none⟩) ∧ b < X.heap.size) → ∀ K : Act → World → Prop, Way (∀ Y, S (mask (fun i => L.getD i 0) s f) Y → K (putL f pl a) Y) →
      Way (if Region.wanted o (yielded ol.toArray (putL f pl a).tmps) = true then Oper.wp P o (putL f pl a) X K Q else K ((putL f pl a).put o.dst undef) X))
    (htail : ∀ f Y, f u = cv → S (mask (fun i => L.getD i 0) s f) Y → Way (Chain P ol Q l (putL f pl a) Y)) : FinS P ol Q E s u cv L AL R S pl a w (o :: l)
theorem any_sto {E : World → World → Prop} (hE0 : ∀ w, E w w) (hE1 : ∀ a b c, E a b → E b c → E a c) (hE2 : ∀ a b, E a b → a.heap.size ≤ b.heap.size)
    {ol : List Oper} {a : Act} {w X0 : World} (hX0 : E w X0) (s u : Nat) (cv : Value) (L AL : List Nat) (R : Nat → (Nat → Value) → World → Prop) (S : (Nat → Value) → World → Prop) (hok : ok ol.toArray (fun i => L.getD i 0) (s + 1) = true) (hokS : okS ol.toArray (fun i => L.getD i 0) s u AL = true)
    (hRc : ∀ f X, R u f X ↔ f u = cv) (pl : List (Nat × Nat)) (hpl : sel ol.toArray (fun _ => true) (List.range (s + 1)) = pl) (hpl2 : sel ol.toArray (nd (fun i => L.getD i 0) s) (List.range (s + 1)) = pl)
    (hstep : AllOps (StepX P ol Q E (s + 1) L AL R a w u cv) (FinS P ol Q E s u cv L AL R S pl a w) 0 s ol) : wpAny P .any ol.toArray Q ol.toArray.size (Array.replicate ol.toArray.size false) a X0 := by
  have hF := ok.form hok
  unfold okS at hokS
  simp only [Bool.and_eq_true, decide_eq_true_eq, List.all_eq_true, List.mem_range, Bool.not_eq_true', Bool.or_eq_true, beq_iff_eq, Option.isNone_iff_eq_none] at hokS
  obtain ⟨⟨⟨⟨h1, h2⟩, h3⟩, h4⟩, h5⟩ := hokS
  have hss : s < ol.toArray.size := by have := hF.le; omega
  have hus : u < ol.length := by simp at hss; omega
  have hpure : PuO P ol Q E (s + 1) L R a w u cv ol[u] := by
    obtain ⟨o, g1, g2⟩ := hstep.out u h2
    rw [Nat.zero_add] at g2
    cases g2 with
    | step hne _ => simp at hne
    | pure h => rw [List.getElem?_eq_getElem hus] at g1; injection g1 with g1; rw [g1]; exact h
  have hpu := hpure.out (List.getElem?_eq_getElem hus)
  obtain ⟨o, l, hol, hst, htail⟩ : ∃ o l, ol.drop s = o :: l ∧ (∀ f X, E w X → Way (∀ j, (L.getD s 0).testBit j = true → R j (mask (fun i => L.getD i 0) j f) X) → Way (∀ j, (L.getD s 0).testBit j = true → AL.contains j = true → ∃ b, f j = .pointer (some ⟨b, 0, none⟩) ∧ b < X.heap.size) → ∀ K : Act → World → Prop, Way (∀ Y, S (mask (fun i => L.getD i 0) s f) Y → K (putL f pl a) Y) →
      Way (if Region.wanted o (yielded ol.toArray (putL f pl a).tmps) = true then Oper.wp P o (putL f pl a) X K Q else K ((putL f pl a).put o.dst undef) X)) ∧
    (∀ f Y, f u = cv → S (mask (fun i => L.getD i 0) s f) Y → Way (Chain P ol Q l (putL f pl a) Y)) := by
    have := hstep.end_
    generalize ol.drop s = d at this
    cases this with
    | intro hst htail => exact ⟨_, _, rfl, hst, htail⟩
  have hosl : s < ol.length := by simpa using hss
  rw [List.drop_eq_getElem_cons hosl] at hol
  injection hol with ho1 ho2
  subst ho1 ho2
  refine parS hE0 hE1 hE2 (R := fun j f X => ∀ Y, E X Y → R j f Y) (S := S) (cv := cv) (M := fun i => L.getD i 0) (AL := fun i => AL.contains i) (n := s + 1) (s := s) (u := u) (a := a) (w := w) hF rfl h1 h2 (fun j hj => h4 j hj) (fun k hk hne => (h5 k hk).resolve_left hne) (fun j _ f X h Y hY Z hZ => h Z (hE1 _ _ _ hY hZ))
    (fun i hi => ?_) (fun f X1 X hX hR K hK => hpu f X1 X hX (fun j hj => hR j hj X1 (hE0 _)) K hK) (fun f X h => (hRc _ _).1 (h X (hE0 _)) |> fun h => by simpa [mask] using h) (fun f X hX hR hal K hK => ?_) (fun f Y hfu hS => ?_) ol.toArray.size _ (fun _ => undef) a X0 (by simp) (fun j o _ h => (by rw [none_] at h; cases h)) (fun j h => (by rw [none_] at h; cases h)) ?_ ⟨?_, hX0, fun j _ h => (by rw [none_] at h; cases h), fun j _ h => (by rw [none_] at h; cases h), fun j k _ _ h => (by rw [none_] at h; cases h)⟩
  · by_cases hiu : i = u
    · subst hiu
      intro f X hX hR K hK
      refine hpu f X X hX (fun j hj => hR j hj X (hE0 _)) K (hK _ cv X rfl (hE0 _) (by show (if AL.contains i = true then _ else True); rw [if_neg (by rw [h3]; decide)]; trivial) (fun Y _ Z _ => (hRc _ _).2 (by simp [mask, upd])))
    · obtain ⟨o, g1, g2⟩ := hstep.out i hi
      rw [Nat.zero_add] at g2
      cases g2 with
      | step hne h =>
        intro f X hX hR K hK
        exact h.out g1 f X hX (fun j hj => hR j hj X (hE0 _)) K (fun a' v X' ha hE hA hR' => hK a' v X' ha hE hA (fun Y hY Z hZ => hR' Z (hE1 _ _ _ hY hZ)))
      | pure h => exact absurd rfl hiu
  · have ho' : ol.toArray[s]? = some ol[s] := by simp [hosl]
    refine wpOp_step ho' fun K' hK' => ?_
    rw [put_sel, hpl2] at hK ⊢
    exact (hst f X hX ⟨fun j hj => hR j hj X (hE0 _)⟩ ⟨hal⟩ K' ⟨fun Y hS => hK' _ _ (hK Y hS)⟩).out
  · rw [put_sel, hpl]
    exact Chain.sound hF (ol.toArray.size - (s + 1)) (s + 1) _ Y (Nat.le_refl _) (by omega) (htail f Y hfu hS).out
  · have : ∀ n, cnt (fun j => (Array.replicate ol.toArray.size false).getD j false) n = 0 := fun n => by
      induction n with
      | zero => rfl
      | succ n ih => rw [cnt, ih, none_]; rfl
    rw [this]; rfl
  · have : ∀ (l : List Nat) (a : Act), put ol.toArray (fun j => (Array.replicate ol.toArray.size false).getD j false) (fun _ => undef) l a = a := fun l => by
      induction l with
      | nil => intro a; rfl
      | cons j l ih => intro a; rw [put, none_]; exact ih _
    exact (this _ _).symm
theorem sto_end {K : Act → World → Prop} {S : World → Prop} {A b : Act} {Y : World} (hK : Way (∀ Y, S Y → K A Y)) (he : b = A) (hS : S Y) : K b Y := he ▸ hK.out Y hS
theorem pu_end {K : Act → World → Prop} {A b : Act} {X : World} (hK : Way (K A X)) (he : b = A) : K b X := he ▸ hK.out
theorem region_sto {ol : List Oper} {id : Nat} {a : Act} {w : World} (hm : P.follows .mixedOrders = true) (s u : Nat) (cv : Value) (L AL : List Nat) (R : Nat → (Nat → Value) → World → Prop) (S : (Nat → Value) → World → Prop) (hok : ok ol.toArray (fun i => L.getD i 0) (s + 1) = true) (hokS : okS ol.toArray (fun i => L.getD i 0) s u AL = true)
 (hRc : ∀ f X, R u f X ↔ f u = cv) (pl : List (Nat × Nat)) (hpl : sel ol.toArray (fun _ => true) (List.range (s + 1)) = pl) (hpl2 : sel ol.toArray (nd (fun i => L.getD i 0) s) (List.range (s + 1)) = pl)
 (hstep : AllOps (StepX P ol Q Ext (s + 1) L AL R a w u cv) (FinS P ol Q Ext s u cv L AL R S pl a w) 0 s ol) : (Code.region id ol.toArray true).wp P Q a w :=
 wp_region_any hm (any_sto Ext.refl (fun _ _ _ => Ext.trans) (fun _ _ => Ext.bsize) (Ext.drew w) s u cv L AL R S hok hokS hRc pl hpl hpl2 hstep)
end
end Par
end Go.Proofs.Ytldhmjfjbalakaa

namespace Go.Proofs.Ytldhmjfjbalakaa
open Go.RowKit

theorem RS.of_blk {w : World} {g : Nat} {l : List Nat} {c : Nat} (h : Blk w g l) (hc : l.length ≤ c) (hc' : c ≤ maxLen) : RS w (fun _ => True) 1 (some ⟨g, 0, none⟩) l.length c (nts l) :=
 ⟨hc, hc', by simp [nts], fun hn => ⟨_, rfl, trivial, fun j u hu => by
  have hj : j < l.length := by have := (List.getElem?_eq_some_iff.1 hu).1; simpa [nts] using this
  have := h.cell (i := j) hj
  rw [nts_get hj] at hu
  injection hu with hu
  subst hu
  rw [add_blk]
  exact this⟩⟩
end Go.Proofs.Ytldhmjfjbalakaa

namespace Go.Proofs.Ytldhmjfjbalakaa
open Go.RowKit

set_option maxRecDepth 100000 in
set_option maxHeartbeats 4000000 in
theorem rfrom_n {p : Value} {bi : Bool} {a b : List Nat} (w : World) (hp : APn w p bi a b) (hla : a.length < 100000) (hlb : b.length < 100000) : Calls Try.prog 14 #[p] w fun e w' => ∃ o, e = .returned o ∧
 RPv w' o bi (if bi then 0 else val 18446744073709551616 a) (if bi then 0 else val 18446744073709551616 b) ∧ Ext w w' := by
 obtain ⟨A, A', ca, cb, rfl, hx, hy⟩ := hp
 obtain ⟨W0, hW0⟩ : ∃ W0, W0 = (w.alloc (.cells #[.bool bi, .slice A a.length ca, .slice A' b.length cb] 27)).alloc (.cells #[.bool false, .slice none 0 0, .slice none 0 0] 34) := ⟨_, rfl⟩
 obtain ⟨q, hq⟩ : ∃ q, w.heap.size = q := ⟨_, rfl⟩
 have hE0 : Ext w W0 := by rw [hW0]; exact (Ext.alloc _ _).trans (Ext.alloc _ _)
 obtain ⟨h1, h2, hz0⟩ := two_at2 w (.cells #[.bool bi, .slice A a.length ca, .slice A' b.length cb] 27) (.cells #[.bool false, .slice none 0 0, .slice none 0 0] 34)
 rw [← hW0, hq] at h1 h2 hz0
 have p0 := blk_cell h1 0
 have p1 := blk_cell h1 1
 have p2 := blk_cell h1 2
 simp only [List.getElem?_toArray, List.getElem?_cons_zero, List.getElem?_cons_succ] at p0 p1 p2
 have Hx := Lib.hid (RN.up hx hE0)
 have Hy := Lib.hid (RN.up hy hE0)
 have HE0 := Lib.hid hE0
 clear hx hy hE0 hz0 h1
 cases bi
 case true =>
  go_enter Try.func14, Try.ntmps14
  go_upto_region 1 with fail
  rw [← hW0]
  have Hq := Lib.hid hq
  clear hW0 hq
  go_upto_region 2 with fail
  refine Par.region_txt 1 [0, 1] [] (fun j f X => match j with
   | 0 => f 0 = .agg #[.bool true, .slice none 0 0, .slice none 0 0]
   | _ => True) (by kernel_rfl) [(5, 0)] (by kernel_rfl) ?_
  refine Par.v0 1 0 ?_
  refine Par.AllOps.fin ⟨fun f X hX hR hal hap => ?_⟩
  have e0 : f 0 = _ := hR 0 (by decide)
  simp only [yA, yB, yD, yE, e0]
  clear hR hal hap e0
  refine Par.Chain.next (fun K hK => ⟨Par.want (by kernel_rfl) (wp_storeV (cs' := #[.bool true, .slice none 0 0, .slice none 0 0]) (t := 34) 34 (.tmp 2) (.tmp 5) rfl rfl rfl rfl (hX.at_ h2) infoRP rfl (pt_one _ _ _ _ _ _ _) (fun Y hY1 hY2 hY3 => hK.out _ _ ?_))⟩)
  refine Par.Chain.done ?_
  go_wp2
  exact end_rpt rfl rfl rfl hY1 ⟨_, rfl, RPv.inf_ _, hY2.ext (HE0.out.trans hX) (by have := Hq.out; omega)⟩
 case false =>
  go_enter Try.func14, Try.ntmps14
  go_upto_region 1 with fail
  rw [← hW0]
  have Hq := Lib.hid hq
  clear hW0 hq
  go_upto_region 3 with fail
  refine Par.region_ext (by kernel_rfl) 7 [0, 1, 3, 0, 8, 31, 63, 127] [] (fun j f X => match j with
   | 0 => f 0 = .pointer (some ⟨q, 1, none⟩)
   | 1 => f 1 = .slice A a.length ca
   | 2 => ∃ B c, f 2 = .slice B (digs 4294967296 (val 18446744073709551616 a)).length c ∧ RU X B c (digs 4294967296 (val 18446744073709551616 a))
   | 3 => f 3 = .pointer (some ⟨q, 2, none⟩)
   | 4 => f 4 = .slice A' b.length cb
   | 5 => ∃ B c, f 5 = .slice B (digs 4294967296 (val 18446744073709551616 b)).length c ∧ RU X B c (digs 4294967296 (val 18446744073709551616 b))
   | 6 => f 6 = .agg #[.bool false, f 2, f 5]
   | _ => True) (by kernel_rfl) [(6, 0), (7, 1), (8, 2), (9, 3), (10, 4), (11, 5), (12, 6)] (by kernel_rfl) ?_
  refine Par.v0 1 6 ?_
  refine Par.ld1 2 5 0 p1 ?_
  refine Par.c0 3 4 (fun f => #[f 1]) (F' := 19) (fun f X hX hR => ?_) ?_
  · have e1 : f 1 = _ := hR.out 1 rfl
    simp only [e1]
    refine (from_any _ A ca a X (RN.up Hx.out hX) (fun _ h => h) hla).mono ?_
    rintro e w2 ⟨B, c, rfl, h, hB⟩
    exact ⟨(.slice B (digs 4294967296 (val 18446744073709551616 a)).length c), rfl, hB, fun Y hY => ⟨B, c, rfl, RN.up h.ru hY⟩⟩
  refine Par.v0 4 3 ?_
  refine Par.ld1 5 2 3 p2 ?_
  refine Par.c0 6 1 (fun f => #[f 4]) (F' := 19) (fun f X hX hR => ?_) ?_
  · have e4 : f 4 = _ := hR.out 4 rfl
    simp only [e4]
    refine (from_any _ A' cb b X (RN.up Hy.out hX) (fun _ h => h) hlb).mono ?_
    rintro e w2 ⟨B, c, rfl, h, hB⟩
    exact ⟨(.slice B (digs 4294967296 (val 18446744073709551616 b)).length c), rfl, hB, fun Y hY => ⟨B, c, rfl, RN.up h.ru hY⟩⟩
  refine Par.S 7 0 [(6, 0), (7, 1), (8, 2), (9, 3), (10, 4), (11, 5)] (fun f X hX hR K hK => ?_) ?_
  · obtain ⟨B2, c2, (e2 : f 2 = _), h_2⟩ := hR.out 2 rfl
    obtain ⟨B5, c5, (e5 : f 5 = _), h_5⟩ := hR.out 5 rfl
    simp only [yA, yB, yC, yD, yE, e2, e5]
    refine ⟨?_⟩
    go_simp
    exact hK.out _ (.agg #[.bool false, f 2, f 5]) _ (by simp only [yA, yB, yC, yD, yE, e2, e5]) (Ext.refl _) trivial (fun _ _ => rfl)
  refine Par.AllOps.fin ⟨fun f X hX hR hal hap => ?_⟩
  obtain ⟨B2, c2, (e2 : f 2 = _), h_2⟩ := hR 2 (by decide)
  obtain ⟨B5, c5, (e5 : f 5 = _), h_5⟩ := hR 5 (by decide)
  have e6 : f 6 = .agg #[.bool false, f 2, f 5] := hR 6 (by decide)
  simp only [yA, yB, yD, yE, e2, e5, e6]
  clear hR hal hap e2 e5 e6
  refine Par.Chain.next (fun K hK => ⟨Par.want (by kernel_rfl) (wp_storeV (cs' := #[.bool false, .slice B2 (digs 4294967296 (val 18446744073709551616 a)).length c2, .slice B5 (digs 4294967296 (val 18446744073709551616 b)).length c5]) (t := 34) 34 (.tmp 2) (.tmp 12) rfl rfl rfl rfl (hX.at_ h2) infoRP rfl (pt_one _ _ _ _ _ _ _) (fun Y hY1 hY2 hY3 => hK.out _ _ ?_))⟩)
  refine Par.Chain.done ?_
  go_wp2
  exact end_rpt rfl rfl rfl hY1 ⟨_, rfl, ⟨_, _, _, _, rfl, h_2.offJ hY2 (hX.at_ h2) (by kernel_rfl), h_5.offJ hY2 (hX.at_ h2) (by kernel_rfl)⟩, hY2.ext (HE0.out.trans hX) (by have := Hq.out; omega)⟩
end Go.Proofs.Ytldhmjfjbalakaa

namespace Go.Proofs.Ytldhmjfjbalakaa
open Go.RowKit

def OW (w : World) (base : Nat) (A : Option Addr) (c : Nat) (bs : List Nat) : Prop := w.ownsRow base 5 1 (.slice A bs.length c) bs.length (bys bs) ∧ ∀ b ∈ bs, b < 256
theorem own_base {w : World} {base n size : Nat} {e : TypeId} {v : Value} {cs : List Value} (h : w.ownsRow base e size v n cs) (k : Nat) (hk : v.ownBlock = some k) : base ≤ k := by
 rcases h.2 with ⟨rfl, rfl⟩ | ⟨g, cap, cur, rfl, hg, _⟩
 · cases hk
 · simp [Value.ownBlock] at hk
   omega
theorem OW.rb {w : World} {base : Nat} {A : Option Addr} {c : Nat} {bs : List Nat} (h : OW w base A c bs) (hl : bs.length ≤ 100000000) : RB w (In base w.heap.size) A c bs := ⟨RS.of_own h.1, h.2, by omega⟩
theorem OW.lit (w : World) (b : Nat) (hb : b < 256) : OW (w.alloc (.cells #[.int .u8 (b : Int)] 5)) w.heap.size (some ⟨w.heap.size, 0, none⟩) 1 [b] :=
 ⟨World.ownsRow_lit w #[.int .u8 (b : Int)] 1 (Nat.le_refl _) (by unfold maxLen; omega) rfl, by simp; exact hb⟩
theorem OW.ext {w X : World} {base : Nat} {A : Option Addr} {c : Nat} {bs : List Nat} (h : OW w base A c bs) (hE : w.grownBy X none) : OW X base A c bs := ⟨own_kept h.1 hE, h.2⟩
theorem RB.upE {w X : World} {A : Option Addr} {c : Nat} {bs : List Nat} (h : RB w (fun b => b < w.heap.size) A c bs) (hE : Ext w X) : RB X (fun b => b < X.heap.size) A c bs := (h.below hE (fun _ hb => hb)).mono fun _ hb => Nat.lt_of_lt_of_le hb hE.bsize
section
variable {w : World} {ops : Array Oper} {rest : List Oper} {o : Oper} {a : Act} {Q : Exit → Act → World → Prop}
theorem app8 (hgd : o.guard = none) (s x : Operand) (ho : o.op = .call { callee := .builtin .append, args := #[s, x], argTypes := #[49, 49] }) (base : Nat) {A Au : Option Addr} {c cu : Nat} {bs cs : List Nat} {B : Nat → Prop}
 (hs : a.eval s = .slice A bs.length c) (hown : OW w base A c bs) (hx : a.eval x = .slice Au cs.length cu) (hr : RB w B Au cu cs) (hl : bs.length + cs.length ≤ 100000000) (hbase : base ≤ w.heap.size)
 (h : ∀ A' c' w', OW w' base A' c' (bs ++ cs) → Below base w w' → wpList Try.prog ops Q rest (a.put o.dst (.slice A' (bs ++ cs).length c')) w') : wpList Try.prog ops Q (o :: rest) a w := by
 obtain ⟨i0, hi, hz0, hz1, hz2⟩ := info_parts info8
 refine wpList_append_rs w hgd s x 49 ho base 5 i0 (.int .u8 0) 1 1 Try.underlying49 hi hz0 hz1 hz2 rfl (by decide) _ bs.length (bys bs) hs hown.1 B Au cs.length cu (bys cs) hx hr.1 (by intro u hu; obtain ⟨b, _, rfl⟩ := List.mem_map.1 hu; rfl) (bs.length + cs.length) rfl (by unfold maxLen; omega) (by omega) hbase ?_
 intro A' c' w' h1 h2 h3
 have hlen : (bs ++ cs).length = bs.length + cs.length := List.length_append
 refine (hlen ▸ h A' c' w' ⟨?_, ?_⟩ ?_ : _)
 · rw [hlen, show bys (bs ++ cs) = bys bs ++ bys cs by simp [bys]]
   exact h1
 · intro b hb
   rcases List.mem_append.1 hb with hb | hb
   · exact hown.2 b hb
   · exact hr.2.1 b hb
 · exact Below.grown (Below.refl base w) h2 hbase (own_base hown.1)
end
end Go.Proofs.Ytldhmjfjbalakaa

namespace Go.Proofs.Ytldhmjfjbalakaa
open Go.RowKit

def encC (C : Crv) (bi : Bool) (x y : Nat) : Option (List Nat) := if onQ C bi x y = true then some (if bi then [0] else 4 :: (bytesOf x C.size ++ bytesOf y C.size)) else none
theorem Crv.Fine.bits {C : Crv} (h : C.Fine) {x : Nat} (hx : x < C.M) : nbits x ≤ 8 * C.size := nbits_le (Nat.lt_of_lt_of_le (Nat.lt_trans hx h.room) (by rw [pow256]; exact Nat.le_refl _))
theorem bytesOf_len (x n : Nat) : (bytesOf x n).length = n := by simp [bytesOf]
set_option maxRecDepth 100000 in
set_option maxHeartbeats 8000000 in
theorem encode_c {c : Int} {C : Crv} (hC : IsC c C) {p : Value} {bi : Bool} {x y : Nat} (w : World) (hp : APt w p bi x y) :
 Calls Try.prog 26 #[.int .i64 c, p] w fun e w' => ∃ A1 c1, e = .returned (.tuple #[.slice A1 ((encC C bi x y).getD []).length c1, .bool (encC C bi x y).isSome]) ∧ RB w' (In w.heap.size w'.heap.size) A1 c1 ((encC C bi x y).getD []) ∧ Ext w w' := by
 obtain ⟨A, A', ca, cb, a, b, rfl, ha, hb, hx, hy⟩ := hp
 have hp : APt w (.agg #[.bool bi, .slice A a.length ca, .slice A' b.length cb]) bi x y := ⟨A, A', ca, cb, a, b, rfl, ha, hb, hx, hy⟩
 obtain ⟨W0, hW0⟩ : ∃ W0, W0 = w.alloc (.cells #[.bool bi, .slice A a.length ca, .slice A' b.length cb] 27) := ⟨_, rfl⟩
 obtain ⟨q, hq⟩ : ∃ q, w.heap.size = q := ⟨_, rfl⟩
 have hE0 : Ext w W0 := by rw [hW0]; exact Ext.alloc _ _
 have h1 := heap_alloc_new w (.cells #[.bool bi, .slice A a.length ca, .slice A' b.length cb] 27)
 rw [← hW0, hq] at h1
 have hp0 := Lib.hid (hp.ext hE0)
 have HE0 := Lib.hid hE0
 have HC := Lib.hid hC
 have Ha := Lib.hid (RN.up ha hE0)
 have Hb := Lib.hid (RN.up hb hE0)
 have Hx := Lib.hid hx
 have Hy := Lib.hid hy
 rw [hq]
 obtain ⟨res, hres⟩ : ∃ o, encC C bi x y = o := ⟨_, rfl⟩
 rw [hres]
 have Hres := Lib.hid hres
 clear hp hE0 hC hres ha hb hx hy
 go_enter Try.func26, Try.ntmps26
 go_upto_region 1 with fail
 rw [← hW0]
 have Hq := Lib.hid hq
 clear hW0 hq
 obtain ⟨o1, ho1⟩ : ∃ o, onQ C bi x y = o := ⟨_, rfl⟩
 have Ho1 := Lib.hid ho1
 clear ho1
 go_upto_region 2 with (go_at_call 42; refine (of_c HC.out _).mono ?_; rintro e wa ⟨k, rfl, hk, hE1⟩)
 have HE1 := Lib.hid hE1
 replace h1 := hE1.at_ h1
 clear hE1
 cases o1
 case false =>
  obtain rfl : res = none := by rw [← Hres.out, encC, if_neg (by rw [Ho1.out]; decide)]
  refine Par.region_txt 4 [0, 0, 3, 7] [] (fun j f X => match j with
   | 0 => f 0 = .pointer (some ⟨k, 0, none⟩)
   | 1 => f 1 = .agg #[.bool bi, .slice A a.length ca, .slice A' b.length cb]
   | 2 => f 2 = .bool false
   | 3 => f 3 = .bool true
   | _ => True) (by kernel_rfl) [(13, 0), (14, 1), (15, 2), (16, 3)] (by kernel_rfl) ?_
  refine Par.v0 1 3 ?_
  refine lV0 2 2 h1 infoP ?_
  refine Par.c0 3 1 (fun f => #[f 0, f 1]) (F' := 43) (fun f X hX hR => ?_) ?_
  · have e0 : f 0 = _ := hR.out 0 rfl
    have e1 : f 1 = _ := hR.out 1 rfl
    simp only [e0, e1]
    refine (on_j (hk.ext hX) HC.out.fine (hp0.out.ext (HE1.out.trans hX))).mono ?_
    rw [Ho1.out]
    rintro e w2 ⟨rfl, hB⟩
    exact ⟨_, rfl, hB, fun _ _ => rfl⟩
  refine Par.v1 4 0 2 ?_
  refine Par.AllOps.fin ⟨fun f X hX hR hal hap => ?_⟩
  have e3 : f 3 = _ := hR 3 (by decide)
  simp only [yA, yB, yD, yE, e3]
  clear hR hal hap e3
  refine Par.Chain.done ?_
  go_wp2
  go_ret2
  exact ⟨none, 0, rfl, RB.nil_ _ _, (HE0.out.trans HE1.out).trans hX⟩
 case true =>
  cases bi
  case true =>
   obtain rfl : res = some [0] := by rw [← Hres.out, encC, if_pos Ho1.out]; rfl
   refine Par.region_txt 4 [0, 0, 3, 7] [] (fun j f X => match j with
    | 0 => f 0 = .pointer (some ⟨k, 0, none⟩)
    | 1 => f 1 = .agg #[.bool true, .slice A a.length ca, .slice A' b.length cb]
    | 2 => f 2 = .bool true
    | 3 => f 3 = .bool false
    | _ => True) (by kernel_rfl) [(13, 0), (14, 1), (15, 2), (16, 3)] (by kernel_rfl) ?_
   refine Par.v0 1 3 ?_
   refine lV0 2 2 h1 infoP ?_
   refine Par.c0 3 1 (fun f => #[f 0, f 1]) (F' := 43) (fun f X hX hR => ?_) ?_
   · have e0 : f 0 = _ := hR.out 0 rfl
     have e1 : f 1 = _ := hR.out 1 rfl
     simp only [e0, e1]
     refine (on_j (hk.ext hX) HC.out.fine (hp0.out.ext (HE1.out.trans hX))).mono ?_
     rw [Ho1.out]
     rintro e w2 ⟨rfl, hB⟩
     exact ⟨_, rfl, hB, fun _ _ => rfl⟩
   refine Par.v1 4 0 2 ?_
   refine Par.AllOps.fin ⟨fun f X hX hR hal hap => ?_⟩
   have e3 : f 3 = _ := hR 3 (by decide)
   simp only [yA, yB, yD, yE, e3]
   clear hR hal hap e3
   refine Par.Chain.done ?_
   have c0 := blk_cell (hX.at_ h1) 0
   simp only [List.getElem?_toArray, List.getElem?_cons_zero] at c0
   have HX := Lib.hid ((HE0.out.trans HE1.out).trans hX)
   clear hX h1
   rename World => X2
   have hw := OW.lit X2 0 (by omega)
   go_wp2
   go_ret2
   have := HX.out.bsize
   have := Hq.out
   exact ⟨_, _, rfl, (hw.rb (by simp)).mono (fun b hb => ⟨by have := hb.1; omega, hb.2⟩), HX.out.trans (Ext.alloc _ _)⟩
  case false =>
   obtain ⟨hxM, hyM⟩ := onQ_lt Ho1.out rfl
   obtain rfl : res = some (4 :: (bytesOf x C.size ++ bytesOf y C.size)) := by rw [← Hres.out, encC, if_pos Ho1.out]; rfl
   refine Par.region_txt 4 [0, 0, 3, 7] [] (fun j f X => match j with
    | 0 => f 0 = .pointer (some ⟨k, 0, none⟩)
    | 1 => f 1 = .agg #[.bool false, .slice A a.length ca, .slice A' b.length cb]
    | 2 => f 2 = .bool true
    | 3 => f 3 = .bool false
    | _ => True) (by kernel_rfl) [(13, 0), (14, 1), (15, 2), (16, 3)] (by kernel_rfl) ?_
   refine Par.v0 1 3 ?_
   refine lV0 2 2 h1 infoP ?_
   refine Par.c0 3 1 (fun f => #[f 0, f 1]) (F' := 43) (fun f X hX hR => ?_) ?_
   · have e0 : f 0 = _ := hR.out 0 rfl
     have e1 : f 1 = _ := hR.out 1 rfl
     simp only [e0, e1]
     refine (on_j (hk.ext hX) HC.out.fine (hp0.out.ext (HE1.out.trans hX))).mono ?_
     rw [Ho1.out]
     rintro e w2 ⟨rfl, hB⟩
     exact ⟨_, rfl, hB, fun _ _ => rfl⟩
   refine Par.v1 4 0 2 ?_
   refine Par.AllOps.fin ⟨fun f X hX hR hal hap => ?_⟩
   have e3 : f 3 = _ := hR 3 (by decide)
   simp only [yA, yB, yD, yE, e3]
   clear hR hal hap e3
   refine Par.Chain.done ?_
   have hk2 := hk.ext hX
   have ks := hk2.size
   have HX := Lib.hid hX
   have HEX := Lib.hid ((HE0.out.trans HE1.out).trans hX)
   replace h1 := hX.at_ h1
   have c0 := blk_cell h1 0
   have c1 := blk_cell h1 1
   have c2 := blk_cell h1 2
   simp only [List.getElem?_toArray, List.getElem?_cons_zero, List.getElem?_cons_succ] at c0 c1 c2
   have HM := Lib.hid HC.out.fine
   clear hX h1
   rename World => X2
   go_upto_region 6 with fail
   refine Par.region_ext (by kernel_rfl) 12 [0, 1, 0, 4, 12, 28, 63, 127, 255, 255, 511, 2047] [] (fun j f X => match j with
    | 0 => f 0 = .pointer (some ⟨q, 1, none⟩)
    | 1 => f 1 = .slice A a.length ca
    | 2 => f 2 = .pointer (some ⟨k, 0, none⟩)
    | 3 => f 3 = .pointer (some ⟨k, 0, none⟩)
    | 4 => f 4 = .pointer (some ⟨k, 0, none⟩)
    | 5 => f 5 = .int .i64 (C.size : Int)
    | 6 => ∃ A1, f 6 = .tuple #[.slice A1 C.size C.size, .bool true] ∧ RB X (fun b => b < X.heap.size) A1 C.size (bytesOf x C.size)
    | 7 => ∃ A1, f 7 = .tuple #[.slice A1 C.size C.size, .bool true] ∧ RB X (fun b => b < X.heap.size) A1 C.size (bytesOf x C.size)
    | 8 => ∃ A1, f 8 = .slice A1 C.size C.size ∧ RB X (fun b => b < X.heap.size) A1 C.size (bytesOf x C.size)
    | 9 => f 9 = .bool true
    | 10 => ∃ A1, f 10 = .slice A1 C.size C.size ∧ RB X (fun b => b < X.heap.size) A1 C.size (bytesOf x C.size)
    | 11 => f 11 = .bool true
    | _ => True) (by kernel_rfl) [(21, 0), (22, 1), (23, 2), (24, 3), (25, 4), (26, 5), (27, 6), (20, 7), (28, 8), (29, 9), (7, 10), (8, 11)] (by kernel_rfl) ?_
   refine Par.v0 1 11 ?_
   refine Par.ld1 2 10 0 c1 ?_
   refine Par.v0 3 9 ?_
   refine Par.v1 4 8 2 ?_
   refine Par.v1 5 7 3 ?_
   refine Par.ld1 6 6 4 ks ?_
   refine Par.c0 7 5 (fun f => #[f 1, f 5]) (F' := 61) (fun f X hX hR => ?_) ?_
   · have e1 : f 1 = _ := hR.out 1 rfl
     have e5 : f 5 = _ := hR.out 5 rfl
     simp only [e1, e5]
     refine (bytes_yes _ A ca a C.size X (RN.up Ha.out ((HE1.out.trans HX.out).trans hX)) (fun b hb => hb) (by have := HM.out.small; omega) (by rw [Hx.out]; exact HM.out.bits hxM)).mono ?_
     rw [Hx.out]
     rintro e w2 ⟨A1, rfl, hO, hB⟩
     exact ⟨_, rfl, hB, fun Y hY => ⟨A1, rfl, RB.upE (hO.mono fun b hb => hb.2) hY⟩⟩
   refine Par.S 8 4 [(21, 0), (22, 1), (23, 2), (24, 3), (25, 4), (26, 5), (27, 6)] (fun f X hX hR K hK => ?_) ?_
   · obtain ⟨A6, (e6 : f 6 = _), o6⟩ := hR.out 6 rfl
     simp only [yA, yB, yC, yD, yE, e6]
     refine ⟨?_⟩
     go_simp
     exact hK.out _ _ _ (by simp only [yA, yB, yC, yD, yE, e6]) (Ext.refl _) trivial (fun Y hY => ⟨A6, rfl, o6.upE hY⟩)
   refine Par.S 9 3 [(21, 0), (22, 1), (23, 2), (24, 3), (25, 4), (26, 5), (27, 6), (20, 7), (29, 9)] (fun f X hX hR K hK => ?_) ?_
   · obtain ⟨A7, (e7 : f 7 = _), o7⟩ := hR.out 7 rfl
     simp only [yA, yB, yC, yD, yE, e7]
     refine ⟨?_⟩
     go_simp
     exact hK.out _ _ _ (by simp only [yA, yB, yC, yD, yE, e7]) (Ext.refl _) trivial (fun Y hY => ⟨A7, rfl, o7.upE hY⟩)
   refine Par.S 10 2 [(21, 0), (22, 1), (23, 2), (24, 3), (25, 4), (26, 5), (27, 6), (20, 7), (28, 8), (7, 10)] (fun f X hX hR K hK => ?_) ?_
   · obtain ⟨A7, (e7 : f 7 = _), o7⟩ := hR.out 7 rfl
     simp only [yA, yB, yC, yD, yE, e7]
     refine ⟨?_⟩
     go_simp
     exact Par.k hK (s := by simp only [yA, yB, yC, yD, yE, e7])
   refine Par.S 11 1 [(21, 0), (22, 1), (23, 2), (24, 3), (25, 4), (26, 5), (27, 6), (20, 7), (28, 8), (29, 9)] (fun f X hX hR K hK => ?_) ?_
   · obtain ⟨A8, (e8 : f 8 = _), o8⟩ := hR.out 8 rfl
     simp only [yA, yB, yC, yD, yE, e8]
     refine ⟨?_⟩
     go_simp
     exact hK.out _ _ _ (by simp only [yA, yB, yC, yD, yE, e8]) (Ext.refl _) trivial (fun Y hY => ⟨A8, rfl, o8.upE hY⟩)
   refine Par.v1 12 0 9 ?_
   refine Par.AllOps.fin ⟨fun f X hX hR hal hap => ?_⟩
   obtain ⟨A6, (e6 : f 6 = _), o6⟩ := hR 6 (by decide)
   obtain ⟨A7, (e7 : f 7 = _), o7⟩ := hR 7 (by decide)
   obtain ⟨A8, (e8 : f 8 = _), o8⟩ := hR 8 (by decide)
   obtain ⟨Bx, (e10 : f 10 = _), o10⟩ := hR 10 (by decide)
   simp only [yA, yB, yD, yE, e6, e7, e8, e10]
   clear hR hal hap e6 e7 e8 e10
   refine Par.Chain.done ?_
   have HXY := Lib.hid hX
   replace c2 := hX.cell c2
   replace ks := hX.cell ks
   have HOx := Lib.hid o10
   clear hX o6 o7 o8 o10 c0 c1
   rename World => X3
   go_upto_region 7 with fail
   refine Par.region_ext (by kernel_rfl) 12 [0, 1, 0, 4, 12, 28, 63, 127, 255, 255, 511, 2047] [] (fun j f X => match j with
    | 0 => f 0 = .pointer (some ⟨q, 2, none⟩)
    | 1 => f 1 = .slice A' b.length cb
    | 2 => f 2 = .pointer (some ⟨k, 0, none⟩)
    | 3 => f 3 = .pointer (some ⟨k, 0, none⟩)
    | 4 => f 4 = .pointer (some ⟨k, 0, none⟩)
    | 5 => f 5 = .int .i64 (C.size : Int)
    | 6 => ∃ A1, f 6 = .tuple #[.slice A1 C.size C.size, .bool true] ∧ RB X (fun b => b < X.heap.size) A1 C.size (bytesOf y C.size)
    | 7 => ∃ A1, f 7 = .tuple #[.slice A1 C.size C.size, .bool true] ∧ RB X (fun b => b < X.heap.size) A1 C.size (bytesOf y C.size)
    | 8 => ∃ A1, f 8 = .slice A1 C.size C.size ∧ RB X (fun b => b < X.heap.size) A1 C.size (bytesOf y C.size)
    | 9 => f 9 = .bool true
    | 10 => ∃ A1, f 10 = .slice A1 C.size C.size ∧ RB X (fun b => b < X.heap.size) A1 C.size (bytesOf y C.size)
    | 11 => f 11 = .bool true
    | _ => True) (by kernel_rfl) [(31, 0), (32, 1), (33, 2), (34, 3), (35, 4), (36, 5), (37, 6), (30, 7), (38, 8), (39, 9), (9, 10), (10, 11)] (by kernel_rfl) ?_
   refine Par.v0 1 11 ?_
   refine Par.ld1 2 10 0 c2 ?_
   refine Par.v0 3 9 ?_
   refine Par.v1 4 8 2 ?_
   refine Par.v1 5 7 3 ?_
   refine Par.ld1 6 6 4 ks ?_
   refine Par.c0 7 5 (fun f => #[f 1, f 5]) (F' := 61) (fun f X hX hR => ?_) ?_
   · have e1 : f 1 = _ := hR.out 1 rfl
     have e5 : f 5 = _ := hR.out 5 rfl
     simp only [e1, e5]
     refine (bytes_yes _ A' cb b C.size X (RN.up Hb.out (((HE1.out.trans HX.out).trans HXY.out).trans hX)) (fun b hb => hb) (by have := HM.out.small; omega) (by rw [Hy.out]; exact HM.out.bits hyM)).mono ?_
     rw [Hy.out]
     rintro e w2 ⟨A1, rfl, hO, hB⟩
     exact ⟨_, rfl, hB, fun Y hY => ⟨A1, rfl, RB.upE (hO.mono fun b hb => hb.2) hY⟩⟩
   refine Par.S 8 4 [(31, 0), (32, 1), (33, 2), (34, 3), (35, 4), (36, 5), (37, 6)] (fun f X hX hR K hK => ?_) ?_
   · obtain ⟨A6, (e6 : f 6 = _), o6⟩ := hR.out 6 rfl
     simp only [yA, yB, yC, yD, yE, e6]
     refine ⟨?_⟩
     go_simp
     exact hK.out _ _ _ (by simp only [yA, yB, yC, yD, yE, e6]) (Ext.refl _) trivial (fun Y hY => ⟨A6, rfl, o6.upE hY⟩)
   refine Par.S 9 3 [(31, 0), (32, 1), (33, 2), (34, 3), (35, 4), (36, 5), (37, 6), (30, 7), (39, 9)] (fun f X hX hR K hK => ?_) ?_
   · obtain ⟨A7, (e7 : f 7 = _), o7⟩ := hR.out 7 rfl
     simp only [yA, yB, yC, yD, yE, e7]
     refine ⟨?_⟩
     go_simp
     exact hK.out _ _ _ (by simp only [yA, yB, yC, yD, yE, e7]) (Ext.refl _) trivial (fun Y hY => ⟨A7, rfl, o7.upE hY⟩)
   refine Par.S 10 2 [(31, 0), (32, 1), (33, 2), (34, 3), (35, 4), (36, 5), (37, 6), (30, 7), (38, 8), (9, 10)] (fun f X hX hR K hK => ?_) ?_
   · obtain ⟨A7, (e7 : f 7 = _), o7⟩ := hR.out 7 rfl
     simp only [yA, yB, yC, yD, yE, e7]
     refine ⟨?_⟩
     go_simp
     exact Par.k hK (s := by simp only [yA, yB, yC, yD, yE, e7])
   refine Par.S 11 1 [(31, 0), (32, 1), (33, 2), (34, 3), (35, 4), (36, 5), (37, 6), (30, 7), (38, 8), (39, 9)] (fun f X hX hR K hK => ?_) ?_
   · obtain ⟨A8, (e8 : f 8 = _), o8⟩ := hR.out 8 rfl
     simp only [yA, yB, yC, yD, yE, e8]
     refine ⟨?_⟩
     go_simp
     exact hK.out _ _ _ (by simp only [yA, yB, yC, yD, yE, e8]) (Ext.refl _) trivial (fun Y hY => ⟨A8, rfl, o8.upE hY⟩)
   refine Par.v1 12 0 9 ?_
   refine Par.AllOps.fin ⟨fun f X hX hR hal hap => ?_⟩
   obtain ⟨A6, (e6 : f 6 = _), o6⟩ := hR 6 (by decide)
   obtain ⟨A7, (e7 : f 7 = _), o7⟩ := hR 7 (by decide)
   obtain ⟨A8, (e8 : f 8 = _), o8⟩ := hR 8 (by decide)
   obtain ⟨By, (e10 : f 10 = _), o10⟩ := hR 10 (by decide)
   simp only [yA, yB, yD, yE, e6, e7, e8, e10]
   clear hR hal hap e6 e7 e8 e10
   refine Par.Chain.done ?_
   have HXZ := Lib.hid hX
   have hx8 := Lib.hid (HOx.out.upE hX)
   have hy8 := Lib.hid o10
   clear hX o6 o7 o8 o10 c2 ks
   rename World => X4
   obtain ⟨B0, hB0⟩ : ∃ B, X4.heap.size = B := ⟨_, rfl⟩
   have hl : OW (X4.alloc (.cells #[.int .u8 4] 5)) X4.heap.size (some ⟨X4.heap.size, 0, none⟩) 1 [4] := OW.lit X4 4 (by omega)
   have hA := Ext.alloc X4 (.cells #[.int .u8 4] 5)
   have hx9 := Lib.hid ((hx8.out).below hA (fun b hb => hb))
   have hy9 := Lib.hid ((hy8.out).below hA (fun b hb => hb))
   have hz9 : (X4.alloc (.cells #[.int .u8 4] 5)).heap.size = B0 + 1 := by rw [World.size_alloc, hB0]
   have HA := Lib.hid hA
   rw [hB0] at hl
   have Hl := Lib.hid hl
   have HB0 := Lib.hid hB0
   have lx := bytesOf_len x C.size
   have ly := bytesOf_len y C.size
   have HS := Lib.hid lx
   have HT := Lib.hid ly
   have Hsm := Lib.hid HM.out.small
   have Hz9 := Lib.hid hz9
   clear hl hA hz9 lx ly
   go_upto_region 8 with fail


   go_wp2_with (at_builtin; first
    | (refine app8 rfl (.tmp 40) (.tmp 41) rfl B0 rfl Hl.out (by rw [HS.out]; rfl) hx9.out (by rw [HS.out]; have := Hsm.out; simp; omega) (by have := Hz9.out; omega) ?_; intro A1 c1 w1 hw1 hb1; have Hw1 := Lib.hid hw1; have Hb1 := Lib.hid hb1; clear hw1 hb1)
    | (refine app8 rfl (.tmp 42) (.tmp 43) rfl B0 rfl Hw1.out (by rw [HT.out]; rfl) (hy9.out.below Hb1.out (fun b hb => by have := HB0.out; omega)) (by rw [List.length_append, HS.out, HT.out]; have := Hsm.out; simp; omega) (by have := Hz9.out; have := Hb1.out.size; omega) ?_; intro A2 c2 w2 hw2 hb2; have Hw2 := Lib.hid hw2; have Hb2 := Lib.hid hb2; clear hw2 hb2))
   go_ret2
   have hEx := (HEX.out.trans HXY.out).trans HXZ.out
   have hq : q ≤ B0 := by have := hEx.bsize; have := Hq.out; omega
   have hrb := Hw2.out.rb (by rw [List.length_append, List.length_append, HS.out, HT.out]; have := Hsm.out; simp; omega)
   refine ⟨A2, c2, ?_, hrb.mono (fun b hb => ⟨by have := hb.1; omega, hb.2⟩), Below.trans (hEx.trans HA.out) (Below.mono (Hb1.out.trans Hb2.out) (by have := hEx.bsize; omega))⟩
   show _ = Ending.returned (.tuple #[.slice A2 (4 :: (bytesOf x C.size ++ bytesOf y C.size)).length c2, .bool true])
   rw [List.length_cons, List.length_append]
   rfl
end Go.Proofs.Ytldhmjfjbalakaa

namespace Go.Proofs.Ytldhmjfjbalakaa
open Go.RowKit

set_option maxRecDepth 100000 in
set_option maxHeartbeats 4000000 in
theorem onx_c {c : Int} {C : Crv} (hC : IsC c C) {p : Value} {bi : Bool} {x y : Nat} (w : World) (hp : APt w p bi x y) :
 Calls Try.prog 37 #[.int .i64 c, p] w fun e w' => e = .returned (.bool (onQ C bi x y)) ∧ Ext w w' := by
 obtain ⟨p1, p2, rfl⟩ := apt_agg hp
 obtain ⟨W0, hW0⟩ : ∃ W0, W0 = w.alloc (.cells #[.bool bi, p1, p2] 27) := ⟨_, rfl⟩
 obtain ⟨q, hq⟩ : ∃ q, w.heap.size = q := ⟨_, rfl⟩
 have hE0 : Ext w W0 := by rw [hW0]; exact Ext.alloc _ _
 have h1 := heap_alloc_new w (.cells #[.bool bi, p1, p2] 27)
 rw [← hW0, hq] at h1
 have hp0 := Lib.hid (hp.ext hE0)
 have HE0 := Lib.hid hE0
 have HC := Lib.hid hC
 obtain ⟨res, hres⟩ : ∃ o, onQ C bi x y = o := ⟨_, rfl⟩
 rw [hres]
 have Hres := Lib.hid hres
 clear hp hE0 hC hres
 go_enter Try.func37, Try.ntmps37
 go_upto_region 1 with fail
 rw [← hW0]
 clear hW0 hq
 refine Par.region_ext (by kernel_rfl) 5 [0, 1, 0, 7, 15] [] (fun j f X => match j with
  | 0 => f 0 = .int .i64 c
  | 1 => ∃ k, f 1 = .pointer (some ⟨k, 0, none⟩) ∧ OfC C X k
  | 2 => f 2 = .agg #[.bool bi, p1, p2]
  | 3 => f 3 = .bool res
  | 4 => f 4 = .bool res
  | _ => True) (by kernel_rfl) [(5, 0), (6, 1), (7, 2), (8, 3), (4, 4)] (by kernel_rfl) ?_
 refine Par.v0 1 4 ?_
 refine Par.c0 2 3 (fun f => #[f 0]) (F' := 42) (fun f X hX hR => ?_) ?_
 · have e0 : f 0 = .int .i64 c := hR.out 0 rfl
   simp only [e0]
   refine (of_c HC.out X).mono ?_
   rintro e w2 ⟨k, rfl, hk, hB⟩
   exact ⟨_, rfl, hB, fun Y hY => ⟨k, rfl, hk.ext hY⟩⟩
 refine lV0 3 2 h1 infoP ?_
 refine Par.c0 4 1 (fun f => #[f 1, f 2]) (F' := 43) (fun f X hX hR => ?_) ?_
 · obtain ⟨k1, e1, hk1⟩ : ∃ k, f 1 = .pointer (some ⟨k, 0, none⟩) ∧ OfC C X k := hR.out 1 rfl
   have e2 : f 2 = .agg #[.bool bi, p1, p2] := hR.out 2 rfl
   simp only [e1, e2]
   refine (on_j hk1 HC.out.fine (hp0.out.ext hX)).mono ?_
   rw [Hres.out]
   rintro e w2 ⟨rfl, hB⟩
   exact ⟨_, rfl, hB, fun _ _ => rfl⟩
 refine Par.v1 5 0 3 ?_
 refine Par.AllOps.fin ⟨fun f X hX hR hal hap => ?_⟩
 obtain ⟨k1, e1, hk1⟩ : ∃ k, f 1 = .pointer (some ⟨k, 0, none⟩) ∧ OfC C X k := hR 1 (by decide)
 have e4 : f 4 = .bool res := hR 4 (by decide)
 simp only [Par.putL, Act.put, List.setIfInBounds_toArray, List.set_cons_succ, List.set_cons_zero, e1, e4]
 clear hR hal hap e1 e4
 refine Par.Chain.done ?_
 go_wp2
 go_ret
 exact ⟨rfl, HE0.out.trans hX⟩
theorem multiples_any (c : Int) {bi : Bool} {p1 p2 : Value} (w : World) :
 Calls Try.prog 30 #[.int .i64 c, .agg #[.bool bi, p1, p2]] w fun e w' => e = .returned (.func (.func 65) #[] #[.pointer (some ⟨w.heap.size, 0, none⟩), .pointer (some ⟨w.heap.size + 1, 0, none⟩)]) ∧
  w' = (w.alloc (.cells #[.int .i64 c] 3)).alloc (.cells #[.bool bi, p1, p2] 27) := by
 go_enter Try.func30, Try.ntmps30
 go_wp2
 go_ret
 exact ⟨rfl, rfl⟩
end Go.Proofs.Ytldhmjfjbalakaa

namespace Go.Proofs.Ytldhmjfjbalakaa
open Go.RowKit

def downE (M k x y z : Nat) : Option (Nat × Nat) := if z % M = 0 then none else some (mm M x (mm M (Pm.pw M z k (M - 2)) (Pm.pw M z k (M - 2))) % M, mm M y (mm M (mm M (Pm.pw M z k (M - 2)) (Pm.pw M z k (M - 2))) (Pm.pw M z k (M - 2))) % M)
theorem down_eval {M k x y z : Nat} (hk : M - 2 < 2 ^ k) : downP M x y z = downE M k x y z := by
 unfold downP downE
 split
 · rfl
 · rw [Pm.pw_eq k _ hk]
   have h1 : mm M (z ^ (M - 2)) (z ^ (M - 2)) = mm M (z ^ (M - 2) % M) (z ^ (M - 2) % M) := by simp only [mm]; rw [← Nat.mul_mod]
   have h2 : ∀ a, mm M a (z ^ (M - 2)) = mm M a (z ^ (M - 2) % M) := fun a => by simp only [mm]; rw [Nat.mul_mod, Nat.mul_mod a (z ^ (M - 2) % M), Nat.mod_mod]
   simp only [h1, h2]
def bx : Nat := 48439561293906451759052585252797914202762949526041747995844080717082404635286
def by_ : Nat := 36134250956749795798585127919587881956611106672985015071877198253568414405109
def x2 : Nat := 56515219790691171413109057904011688695424810155802929973526481321309856242040
def y2 : Nat := 3377031843712258259223711451491452598088675519751548567112458094635497583569
def p256 : Nat := 115792089210356248762697446949407573530086143415290314195533631308867097853951
theorem c256_M : c256.M = p256 := by kernel_rfl
theorem c256_x : val 18446744073709551616 c256.xl = bx := by kernel_rfl
theorem c256_y : val 18446744073709551616 c256.yl = by_ := by kernel_rfl
theorem on_base : onQ c256 false bx by_ = true := by kernel_rfl
theorem on_two : onQ c256 false x2 y2 = true := by kernel_rfl
theorem mul_two : mulC c256 false bx by_ 2 = some (some (x2, y2)) := by
 rw [mulC, if_pos on_base, if_pos (by decide +kernel)]
 rw [downT, down_eval (k := 256) (by rw [c256_M]; decide +kernel)]
 kernel_rfl
theorem add_two : addC c256 false bx by_ false bx by_ = some (some (x2, y2)) := by
 rw [addC, if_pos on_base, if_pos on_base]
 rw [downT, down_eval (k := 256) (by rw [c256_M]; decide +kernel)]
 kernel_rfl
def eb : List Nat := 4 :: (bytesOf x2 32 ++ bytesOf y2 32)
theorem eb_len : eb.length = 65 := by kernel_rfl
theorem enc_two : encC c256 false x2 y2 = some eb := by
 rw [encC, if_pos on_two]
 rfl
theorem dec_two : decC c256 eb = some (some (x2, y2)) := by kernel_rfl
theorem digs_x2 : digs 18446744073709551616 x2 = [11964737083406719352, 13873736548487404341, 9967090510939364035, 9003393950442278782] := by
 rw [show x2 = val 18446744073709551616 [11964737083406719352, 13873736548487404341, 9967090510939364035, 9003393950442278782] by kernel_rfl]
 exact digs_val (by omega) (by decide) (by decide)
theorem nl_len : c256.nl.length = 4 := rfl
end Go.Proofs.Ytldhmjfjbalakaa

namespace Go.Proofs.Ytldhmjfjbalakaa
open Go.RowKit

theorem isC1 : IsC 1 c256 := Or.inl ⟨rfl, rfl⟩
theorem isC2 : IsC 2 c384 := Or.inr ⟨rfl, rfl⟩
def PB (X : World) (b : Nat) (bi : Bool) (x y : Nat) : Prop := ∃ p1 p2, X.heap[b]? = some (.cells #[.bool bi, p1, p2] 27 (0, 0)) ∧ APt X (.agg #[.bool bi, p1, p2]) bi x y
theorem PB.ext {X Y : World} {b : Nat} {bi : Bool} {x y : Nat} (h : PB X b bi x y) (hE : Ext X Y) : PB Y b bi x y := let ⟨p1, p2, h1, h2⟩ := h; ⟨p1, p2, hE.at_ h1, h2.ext hE⟩
theorem neq_nilP (w : World) (f : Fn) (a b : Array Value) : (binOp .neq 59 (.func f a b) .nilFunc).run Try.prog w = .ok (.bool true) w := by kernel_rfl
set_option maxRecDepth 100000 in
set_option maxHeartbeats 8000000 in
theorem begun9_any (w : World) : Calls Try.prog 10 #[] w fun e w' => e = .returned (.bool true) ∧ Ext w w' := by
 go_enter Try.func10, Try.ntmps10
 go_upto_region 2 with (go_at_call 20; refine (base_c isC1 _).mono ?_; rintro e w1 ⟨A, cc, A', cc', rfl, hA, hA', hE1⟩)
 have hp1 : APt w1 (.agg #[.bool false, .slice A c256.xl.length cc, .slice A' c256.yl.length cc']) false bx by_ := ⟨A, A', cc, cc', _, _, rfl, hA, hA', c256_x, c256_y⟩
 generalize Value.slice A c256.xl.length cc = s1 at *
 generalize Value.slice A' c256.yl.length cc' = s2 at *
 have hb1 := heap_alloc_new w1 (.cells #[.bool false, s1, s2] 27)
 have hA1 := Ext.alloc w1 (.cells #[.bool false, s1, s2] 27)
 replace hp1 := hp1.ext hA1
 have HE1 := Lib.hid (hE1.trans hA1)
 generalize hV1 : w1.alloc (.cells #[.bool false, s1, s2] 27) = V1 at *
 obtain ⟨b1, hq1⟩ : ∃ b, w1.heap.size = b := ⟨_, rfl⟩
 rw [hq1] at hb1 ⊢
 have Hp1 := Lib.hid hp1
 have hA2 := Ext.alloc V1 (.cells #[.int .u64 2] 72)
 have htwo : RU (V1.alloc (.cells #[.int .u64 2] 72)) (some ⟨V1.heap.size, 0, none⟩) 1 [2] := (RN.one V1 2 (by omega)).mono (fun b hb => by rw [World.size_alloc]; exact hb.2)
 have hmul := mul_c isC1 (n := [2]) (E := 2) (V1.alloc (.cells #[.int .u64 2] 72)) (hp1.ext hA2) htwo rfl
 rw [mul_two, show [2].length = 1 from rfl] at hmul
 have Hmul := Lib.hid hmul
 replace hb1 := hA2.at_ hb1
 have HE2 := Lib.hid (HE1.out.trans hA2)
 replace Hp1 := Lib.hid (Hp1.out.ext hA2)
 obtain ⟨z10, z11, z12, q10, q11, q12⟩ := pt_facts hb1
 clear hA hA' hE1 hA1 hV1 hq1 hp1 htwo hmul hA2 HE1
 go_upto_region 3 with (go_at_call 15; refine Hmul.out.mono ?_; rintro e w2 ⟨o2, rfl, ⟨A2, k2, A2', k2', rfl, hx2, hy2⟩, hE2⟩)
 replace hb1 := hE2.at_ hb1
 replace Hp1 := Lib.hid (Hp1.out.ext hE2)
 have hp2 : APt w2 (.agg #[.bool false, .slice A2 (digs 18446744073709551616 x2).length k2, .slice A2' (digs 18446744073709551616 y2).length k2']) false x2 y2 := ⟨A2, A2', k2, k2', _, _, rfl, hx2.ru, hy2.ru, val_digs (by omega) _, val_digs (by omega) _⟩
 generalize Value.slice A2 (digs 18446744073709551616 x2).length k2 = s3 at *
 generalize Value.slice A2' (digs 18446744073709551616 y2).length k2' = s4 at *
 have hb2 := heap_alloc_new w2 (.cells #[.bool false, s3, s4] 27)
 have hA2 := Ext.alloc w2 (.cells #[.bool false, s3, s4] 27)
 generalize hV2 : w2.alloc (.cells #[.bool false, s3, s4] 27) = V2 at *
 obtain ⟨b2, hq2⟩ : ∃ b, w2.heap.size = b := ⟨_, rfl⟩
 rw [hq2] at hb2 ⊢
 have Hp2 := Lib.hid (hp2.ext hA2)
 have HE3 := Lib.hid ((HE2.out.trans hE2).trans hA2)
 replace hb1 := hA2.at_ hb1
 replace Hp1 := Lib.hid (Hp1.out.ext hA2)
 obtain ⟨z10, z11, z12, q10, q11, q12⟩ := pt_facts hb1
 have hadd := add_c isC1 V2 Hp1.out Hp1.out
 rw [add_two] at hadd
 have Hadd := Lib.hid hadd
 clear hx2 hy2 hE2 hp2 hA2 hV2 hq2 Hmul HE2 hadd
 go_upto_region 4 with (go_at_call 21; refine Hadd.out.mono ?_; rintro e w3 ⟨o3, rfl, ⟨A3, k3, A3', k3', rfl, hx3, hy3⟩, hE3⟩)
 replace hb1 := hE3.at_ hb1
 replace hb2 := hE3.at_ hb2
 have hp3 : APt w3 (.agg #[.bool false, .slice A3 (digs 18446744073709551616 x2).length k3, .slice A3' (digs 18446744073709551616 y2).length k3']) false x2 y2 := ⟨A3, A3', k3, k3', _, _, rfl, hx3.ru, hy3.ru, val_digs (by omega) _, val_digs (by omega) _⟩
 generalize Value.slice A3 (digs 18446744073709551616 x2).length k3 = s5 at *
 generalize Value.slice A3' (digs 18446744073709551616 y2).length k3' = s6 at *
 have hb3 := heap_alloc_new w3 (.cells #[.bool false, s5, s6] 27)
 have hA3 := Ext.alloc w3 (.cells #[.bool false, s5, s6] 27)
 generalize hV3 : w3.alloc (.cells #[.bool false, s5, s6] 27) = V3 at *
 obtain ⟨b3, hq3⟩ : ∃ b, w3.heap.size = b := ⟨_, rfl⟩
 rw [hq3] at hb3 ⊢
 replace hb1 := hA3.at_ hb1
 replace hb2 := hA3.at_ hb2
 replace Hp2 := Lib.hid (Hp2.out.ext (hE3.trans hA3))
 have Hp3 := Lib.hid (hp3.ext hA3)
 have HE4 := Lib.hid (HE3.out.trans (hE3.trans hA3))
 obtain ⟨y10, y11, y12, r10, r11, r12⟩ := pt_facts hb2
 have henc := encode_c isC1 V3 Hp2.out
 rw [enc_two, Option.getD_some, eb_len] at henc
 have Henc := Lib.hid henc
 clear hx3 hy3 hE3 hp3 hA3 hV3 hq3 Hadd HE3 henc Hp1 z10 z11 z12 q10 q11 q12
 go_upto_region 5 with (go_at_call 26; refine Henc.out.mono ?_; rintro e w4 ⟨A4, k4, rfl, hr4, hE4⟩)
 replace hb1 := hE4.at_ hb1
 replace hb3 := hE4.at_ hb3
 have HE5 := Lib.hid (HE4.out.trans hE4)
 replace Hp3 := Lib.hid (Hp3.out.ext hE4)
 have hdec := decode_c isC1 _ A4 k4 _ w4 hr4 (fun b hb => hb.2)
 rw [eb_len, dec_two] at hdec
 have Hdec := Lib.hid hdec
 clear hr4 hE4 Henc HE4 hdec hb2 y10 y11 y12 r10 r11 r12 Hp2
 go_upto_region 6 with (go_at_call 27; refine Hdec.out.mono ?_; rintro e w5 ⟨o5, rfl, ⟨A5, k5, A5', k5', rfl, hx5, hy5⟩, hE5⟩)
 replace hb1 := hE5.at_ hb1
 replace hb3 := hE5.at_ hb3
 rw [digs_x2]
 rw [show [11964737083406719352, 13873736548487404341, 9967090510939364035, 9003393950442278782].length = 4 from rfl]
 generalize Value.slice A5' (digs 18446744073709551616 y2).length k5' = s8 at *
 have hb8 := heap_alloc_new w5 (.cells #[.bool false, .slice A5 4 k5, s8] 27)
 have hA8 := Ext.alloc w5 (.cells #[.bool false, .slice A5 4 k5, s8] 27)
 generalize hV8 : w5.alloc (.cells #[.bool false, .slice A5 4 k5, s8] 27) = V8 at *
 obtain ⟨b8, hq8⟩ : ∃ b, w5.heap.size = b := ⟨_, rfl⟩
 rw [hq8] at hb8 ⊢
 have HE6 := Lib.hid (HE5.out.trans (hE5.trans hA8))
 replace Hp3 := Lib.hid (Hp3.out.ext (hE5.trans hA8))
 replace hb1 := hA8.at_ hb1
 replace hb3 := hA8.at_ hb3
 obtain ⟨z10, z11, z12, q10, q11, q12⟩ := pt_facts hb1
 clear hx5 hy5 hE5 hA8 hV8 hq8 Hdec HE5
 go_upto_region 7 with (go_at_call 30; refine (multiples_any 1 V8).mono ?_; rintro e w6 ⟨rfl, hw6⟩; have hE6 : Ext V8 w6 := (by rw [hw6]; exact (Ext.alloc _ _).trans (Ext.alloc _ _)); clear hw6)
 replace hb3 := hE6.at_ hb3
 replace hb8 := hE6.at_ hb8
 obtain ⟨y30, y31, y32, r30, r31, r32⟩ := pt_facts hb3
 obtain ⟨y80, y81, y82, r80, r81, r82⟩ := pt_facts hb8
 have hon := onx_c isC1 w6 (Hp3.out.ext hE6)
 rw [on_two] at hon
 have Hon := Lib.hid hon
 have HE7 := Lib.hid (HE6.out.trans hE6)
 have hnn := fun W => neq_nilP W (.func 65) #[] #[.pointer (some ⟨V8.heap.size, 0, none⟩), .pointer (some ⟨V8.heap.size + 1, 0, none⟩)]
 clear hb1 z10 z11 z12 q10 q11 q12 hE6 hon HE6
 go_wp2_with (first
  | (go_at_call 37; refine Hon.out.mono ?_; rintro e w7 ⟨rfl, hE7⟩; have x81 := hE7.cell y81)
  | (go_at_call 35; refine (size_c isC2 _).mono ?_; rintro e w8 ⟨rfl, hE8⟩; rw [show ((c384.size : Nat) : Int) = 48 from rfl])
  | (go_at_call 24; refine (order_c isC1 _).mono ?_; rintro e w9 ⟨A9, k9, rfl, hr9, hE9⟩; rw [nl_len]))
 go_ret
 exact ⟨rfl, ((HE7.out.trans hE7).trans hE8).trans hE9⟩
end Go.Proofs.Ytldhmjfjbalakaa

namespace Go.Proofs.Ytldhmjfjbalakaa
open Go.RowKit

def IsU (c : Int) (C : Crv) : Prop := IsC c C ∨ (c ≠ 1 ∧ c ≠ 2 ∧ C = c0)
theorem isU (c : Int) : ∃ C, IsU c C := by
 by_cases h1 : c = 1
 · exact ⟨c256, Or.inl (Or.inl ⟨h1, rfl⟩)⟩
 · by_cases h2 : c = 2
   · exact ⟨c384, Or.inl (Or.inr ⟨h2, rfl⟩)⟩
   · exact ⟨c0, Or.inr ⟨h1, h2, rfl⟩⟩
structure Crv.Norm (C : Crv) : Prop where
 p : digs 18446744073709551616 C.M = C.pl
 n : digs 18446744073709551616 (val 18446744073709551616 C.nl) = C.nl
 x : digs 18446744073709551616 (val 18446744073709551616 C.xl) = C.xl
 y : digs 18446744073709551616 (val 18446744073709551616 C.yl) = C.yl
def Crv.inf (C : Crv) : Bool := C.size == 0
theorem IsC.inf {c : Int} {C : Crv} (h : IsC c C) : C.inf = false := by
 rcases h with ⟨_, rfl⟩ | ⟨_, rfl⟩ <;> rfl
theorem six_facts {W : World} {g : Nat} {ty : TypeId} {x0 x1 x2 x3 x4 x5 : Value} (h : W.heap[g]? = some (.cells #[x0, x1, x2, x3, x4, x5] ty (0, 0))) :
 W.cell? ⟨g, 0, none⟩ = some x0 ∧ W.cell? ⟨g, 1, none⟩ = some x1 ∧ W.cell? ⟨g, 2, none⟩ = some x2 ∧ W.cell? ⟨g, 3, none⟩ = some x3 ∧ W.cell? ⟨g, 4, none⟩ = some x4 ∧ W.cell? ⟨g, 5, none⟩ = some x5 :=
 ⟨blk_cell h 0, blk_cell h 1, blk_cell h 2, blk_cell h 3, blk_cell h 4, blk_cell h 5⟩
end Go.Proofs.Ytldhmjfjbalakaa

namespace Go.Proofs.Ytldhmjfjbalakaa
open Go.RowKit

set_option maxRecDepth 100000 in
set_option maxHeartbeats 4000000 in
theorem point_none {c : Int} (g1 : c ≠ 1) (g2 : c ≠ 2) (A : Option Addr) (n cap : Nat) (sp : Bool) (w : World) :
 Calls Try.prog 12 #[.int .i64 c, .slice A n cap, .bool sp] w fun e w' => e = .returned (.agg #[.bool false, .slice A n cap, .slice A n cap]) ∧ Ext w w' := by
 have hr := heap_alloc_new w (.cells #[.bool false, .slice none 0 0, .slice none 0 0] 27)
 have hA0 := Ext.alloc w (.cells #[.bool false, .slice none 0 0, .slice none 0 0] 27)
 obtain ⟨W0, hW0⟩ : ∃ W0, W0 = w.alloc (.cells #[.bool false, .slice none 0 0, .slice none 0 0] 27) := ⟨_, rfl⟩
 obtain ⟨b0, hb0⟩ : ∃ b, w.heap.size = b := ⟨_, rfl⟩
 rw [← hW0, hb0] at hr
 rw [← hW0] at hA0
 have HA0 := Lib.hid hA0
 clear hA0
 go_enter Try.func12, Try.ntmps12
 go_upto_region 1 with fail
 rw [← hW0]
 have Hb0 := Lib.hid hb0
 clear hW0 hb0
 go_upto_region 2 with (go_at_call 13; refine (refOf_none g1 g2 _).mono ?_; rintro e w2 ⟨v, rfl, ⟨Ap, An, Ab, Ax, Ay, cp, cn, cb, cx, cy, rfl, hp, hn, hb, hx, hy⟩, hE2⟩)
 have hc0 := heap_alloc_new w2 (.cells #[.slice Ap (digs 4294967296 c0.M).length cp, .slice An (digs 4294967296 (val 18446744073709551616 c0.nl)).length cn, .slice Ab (digs 4294967296 c0.bb).length cb, .slice Ax (digs 4294967296 (val 18446744073709551616 c0.xl)).length cx, .slice Ay (digs 4294967296 (val 18446744073709551616 c0.yl)).length cy, .int .i64 (c0.size : Int)] 31)
 have hA := Ext.alloc w2 (.cells #[.slice Ap (digs 4294967296 c0.M).length cp, .slice An (digs 4294967296 (val 18446744073709551616 c0.nl)).length cn, .slice Ab (digs 4294967296 c0.bb).length cb, .slice Ax (digs 4294967296 (val 18446744073709551616 c0.xl)).length cx, .slice Ay (digs 4294967296 (val 18446744073709551616 c0.yl)).length cy, .int .i64 (c0.size : Int)] 31)
 replace hr := hA.at_ (hE2.at_ hr)
 have HE := Lib.hid (HA0.out.trans (hE2.trans hA))
 generalize hV1 : w2.alloc (.cells #[.slice Ap (digs 4294967296 c0.M).length cp, .slice An (digs 4294967296 (val 18446744073709551616 c0.nl)).length cn, .slice Ab (digs 4294967296 c0.bb).length cb, .slice Ax (digs 4294967296 (val 18446744073709551616 c0.xl)).length cx, .slice Ay (digs 4294967296 (val 18446744073709551616 c0.yl)).length cy, .int .i64 (c0.size : Int)] 31) = V1 at *
 obtain ⟨b1, hq1⟩ : ∃ b, w2.heap.size = b := ⟨_, rfl⟩
 rw [hq1] at hc0 ⊢
 clear hV1 hq1 hp hn hb hx hy hE2 hA HA0
 have z5 := blk_cell hc0 5
 rw [show c0.size = 0 by rfl] at z5
 obtain ⟨y0, y1, y2, f0, f1, f2⟩ := pt_facts hr
 go_wp2
 exact end_p rfl rfl rfl (pt_set hr _ _ _) ⟨rfl, pt_ext HE.out (by have := Hb0.out; omega) _ _ _⟩
end Go.Proofs.Ytldhmjfjbalakaa
