/- curve: the program's and the reference's multiples and sums of points are the group's: their numbers agree. Plain: no code is walked here. curve: of the two curves, the program's multiples and sums of points are the reference's. Plain: no code is walked here. curve: sums of multiples, and multiples by the order's neighbours. Plain: no code is walked here. A rule for a region that draws its order and lays a value into a block that it has made, where one operation (an answer's second part) may come before the store or behind it. Nothing here speaks of the program. curve: the base is on the curve, and its order's multiple is nowhere: reckoned. Plain. The two curves: the base is on the curve, and its order's multiple is nowhere. Plain. The reference's points: Base, From, Is. The reference's From, of lists however long: that it returns. The reference's points: From. append of bytes onto a row of the call's own. curve: Encode. curve: On, and Multiples' making. curve: twice the base of P-256, reckoned. -/
import Derived.Test.YtldhmjfjbalakaaPS11
namespace Go.Proofs.Ytldhmjfjbalakaa
namespace Gl
section
variable {M : Nat} [NeZero M] {b : Fin M}
theorem ph_mm (x y : Nat) : ph (p := M) (mm M x y) = ph x * ph y := by rw [mm, ph_mod, ph_mul]
theorem ph_am (x y : Nat) : ph (p := M) (am M x y) = ph x + ph y := by rw [am, ph_mod, ph_add]
theorem ph_sm (x y : Nat) : ph (p := M) (sm M x y) = ph x - ph y := by
  rw [sm, ph_mod, ph_sub (by have := Nat.mod_lt y (NeZero.lt (p := M)); omega), ph_add, ph_self, ph_mod]
  grind
theorem sm_lt (x y : Nat) : sm M x y < M := Nat.mod_lt _ NeZero.lt
theorem mm_lt (x y : Nat) : mm M x y < M := Nat.mod_lt _ NeZero.lt
theorem ph_lt0 {x : Nat} (hx : x < M) : ph (p := M) x = 0 ↔ x = 0 := by rw [ph_zero, Nat.mod_eq_of_lt hx]
def RpN (J : Nat × Nat × Nat) (P : Pt M) : Prop := Rp (ph J.1) (ph J.2.1) (ph J.2.2) P
theorem RpN.zero (x y : Nat) : RpN (M := M) (x, y, 0) none := Or.inl ⟨ph0, rfl⟩
theorem RpN.of_zero {J : Nat × Nat × Nat} {P : Pt M} (h : RpN J P) (hz : J.2.2 % M = 0) : P = none := h.none_iff.1 (ph_zero.2 hz)
theorem dblP_rp (h : Cv ivp b) {x y z : Nat} {P : Pt M} (hr : RpN (x, y, z) P) (hP : On b P) : RpN (dblP M x y z) (ad ivp P P) := by
  refine h.dbl hr hP rfl ?_ ?_ ?_
  · simp only [dblP, ph_mm, ph_am, ph_sm]
    rw [show (ph (p := M) 3) = 3 from rfl]
    grind
  · simp only [dblP, ph_mm, ph_am, ph_sm]
    rw [show (ph (p := M) 3) = 3 from rfl]
    grind
  · simp only [dblP, ph_mm, ph_am, ph_sm]
    grind
theorem Rp.split {X Y Z : Fin M} {P : Pt M} (h : Rp X Y Z P) (hz : Z ≠ 0) : ∃ x y, P = some (x, y) ∧ X = x * (Z * Z) ∧ Y = y * (Z * Z * Z) := h.elim (fun e => absurd e.1 hz) (·.2)
theorem addQ_rp (h : Cv ivp b) {x1 y1 z1 x2 y2 z2 : Nat} {P Q : Pt M} (hr : RpN (x1, y1, z1) P) (hs : RpN (x2, y2, z2) Q) (hP : On b P) (hQ : On b Q) (hz1 : ¬ z1 % M = 0) (hz2 : ¬ z2 % M = 0) : RpN (addQ M x1 y1 z1 x2 y2 z2) (ad ivp P Q) := by
  have n1 : ph (p := M) z1 ≠ 0 := fun e => hz1 (ph_zero.1 e)
  have n2 : ph (p := M) z2 ≠ 0 := fun e => hz2 (ph_zero.1 e)
  obtain ⟨px, py, rfl, e1, e2⟩ := Rp.split hr n1
  obtain ⟨qx, qy, rfl, e3, e4⟩ := Rp.split hs n2
  obtain ⟨a1, a2, a3⟩ := h.add (X' := ph (addQ M x1 y1 z1 x2 y2 z2).1) (Y' := ph (addQ M x1 y1 z1 x2 y2 z2).2.1) (Z' := ph (addQ M x1 y1 z1 x2 y2 z2).2.2) n1 n2 e1 e2 e3 e4 hP hQ rfl rfl rfl rfl
  have c1 : ∀ u3 u4 : Nat, ph (p := M) u3 = ph x1 * (ph z2 * ph z2) → ph (p := M) u4 = ph x2 * (ph z1 * ph z1) → (sm M u4 u3 % M = 0 ↔ px = qx) := fun u3 u4 g3 g4 => by rw [← a1, ← g3, ← g4, ← ph_zero, ph_sm]
  have c2 : ∀ u6 u8 : Nat, ph (p := M) u6 = ph y1 * (ph z2 * ph z2 * ph z2) → ph (p := M) u8 = ph y2 * (ph z1 * ph z1 * ph z1) → (sm M u8 u6 % M = 0 ↔ py = qy) := fun u6 u8 g6 g8 => by rw [← a2, ← g6, ← g8, ← ph_zero, ph_sm]
  have d1 := c1 (mm M x1 (mm M z2 z2)) (mm M x2 (mm M z1 z1)) (by simp only [ph_mm]) (by simp only [ph_mm])
  have d2 := c2 (mm M y1 (mm M (mm M z2 z2) z2)) (mm M y2 (mm M (mm M z1 z1) z1)) (by simp only [ph_mm]) (by simp only [ph_mm])
  clear c1 c2
  by_cases hx : px = qx
  · by_cases hy : py = qy
    · subst hx hy
      have e : addQ M x1 y1 z1 x2 y2 z2 = dblP M x1 y1 z1 := by
        simp only [addQ]
        rw [if_pos (d1.2 rfl), if_pos (d2.2 rfl)]
      rw [e]
      exact dblP_rp h hr hP
    · subst hx
      have e : addQ M x1 y1 z1 x2 y2 z2 = (1, 1, 0) := by
        simp only [addQ]
        rw [if_pos (d1.2 rfl), if_neg (fun g => hy (d2.1 g))]
      rw [e, ad_opp hy]
      exact RpN.zero _ _
  · have hn : ¬ sm M (mm M x2 (mm M z1 z1)) (mm M x1 (mm M z2 z2)) % M = 0 := fun g => hx (d1.1 g)
    refine a3 (fun g => hx (a1.1 g)) ?_ ?_ ?_
    · simp only [addQ]
      rw [if_neg hn]
      simp only [ph_mm, ph_am, ph_sm]
    · simp only [addQ]
      rw [if_neg hn]
      simp only [ph_mm, ph_am, ph_sm]
    · simp only [addQ]
      rw [if_neg hn]
      simp only [ph_mm, ph_sm]
theorem addT_rp (h : Cv ivp b) {p q : Nat × Nat × Nat} {P Q : Pt M} (hr : RpN p P) (hs : RpN q Q) (hP : On b P) (hQ : On b Q) : RpN (addT M p q) (ad ivp P Q) := by
  unfold addT addP
  by_cases h1 : p.2.2 % M = 0
  · rw [if_pos h1, hr.of_zero h1]
    exact hs
  · rw [if_neg h1]
    by_cases h2 : q.2.2 % M = 0
    · rw [if_pos h2, hs.of_zero h2, ad_none]
      exact hr
    · rw [if_neg h2]
      exact addQ_rp h hr hs hP hQ h1 h2
theorem dblT_rp (h : Cv ivp b) {p : Nat × Nat × Nat} {P : Pt M} (hr : RpN p P) (hP : On b P) : RpN (dblT M p) (ad ivp P P) := dblP_rp h hr hP
theorem tabP_rp (h : Cv ivp b) {p : Nat × Nat × Nat} {P : Pt M} (hr : RpN p P) (hP : On b P) : ∀ k, RpN (tabP M p k) (nm ivp P k)
  | 0 => RpN.zero _ _
  | 1 => hr
  | k + 2 => addT_rp h (tabP_rp h hr hP (k + 1)) hr (h.on_nm hP _) hP
theorem mulS_rp (h : Cv ivp b) {p : Nat × Nat × Nat} {P : Pt M} (hr : RpN p P) (hP : On b P) (E : Nat) : ∀ k, k ≤ nbits E → ∃ a, RpN (mulS M p E k).1 (nm ivp P a) ∧ topOf E k = a + (mulS M p E k).2
  | 0, _ => ⟨0, RpN.zero _ _, by rw [topOf_zero]; rfl⟩
  | k + 1, hk => by
    obtain ⟨a, h1, h2⟩ := mulS_rp h hr hP E k (by omega)
    have hd := dblT_rp h h1 (h.on_nm hP a)
    rw [← h.nm_two hP] at hd
    have ht := topOf_succ (E := E) (k := k) (by omega)
    simp only [mulS]
    split
    · refine ⟨2 * a + (2 * (mulS M p E k).2 + (bitAt E k).2), ?_, ?_⟩
      · rw [h.nm_add hP]
        exact addT_rp h hd (tabP_rp h hr hP _) (h.on_nm hP _) (h.on_nm hP _)
      · show topOf E (k + 1) = _ + 0
        omega
    · exact ⟨2 * a, hd, by show topOf E (k + 1) = 2 * a + (2 * (mulS M p E k).2 + (bitAt E k).2); omega⟩
theorem mulS_end (M : Nat) (p : Nat × Nat × Nat) (E : Nat) : (mulS M p E (nbits E)).2 = 0 := by
  obtain ⟨n, hn⟩ : ∃ n, nbits E = n := ⟨_, rfl⟩
  rw [hn]
  match n with
  | 0 => rfl
  | k + 1 =>
    simp only [mulS]
    rw [if_pos (by show (nbits E - 1 - k) % 4 = 0; rw [hn, show k + 1 - 1 - k = 0 by omega])]
theorem mulS_fin (h : Cv ivp b) {p : Nat × Nat × Nat} {P : Pt M} (hr : RpN p P) (hP : On b P) (E : Nat) : RpN (mulS M p E (nbits E)).1 (nm ivp P E) := by
  obtain ⟨a, h1, h2⟩ := mulS_rp h hr hP E _ (Nat.le_refl _)
  rw [topOf_all, mulS_end] at h2
  obtain rfl : E = a := h2
  exact h1

theorem twP_rp (h : Cv ivp b) {x y z : Nat} {P : Pt M} (hr : RpN (x, y, z) P) (hP : On b P) (_hy : y < M) (hz : z < M) : RpN (twP M x y z) (ad ivp P P) ∧ (twP M x y z).2.1 < M ∧ (twP M x y z).2.2 < M := by
  unfold twP
  have hM : 0 < M := NeZero.lt
  by_cases h1 : z = 0
  · rw [if_pos h1]
    have := hr.of_zero (by show z % M = 0; rw [h1]; exact Nat.zero_mod _)
    subst this
    exact ⟨RpN.zero _ _, hM, hM⟩
  · rw [if_neg h1]
    have n1 : ph (p := M) z ≠ 0 := fun e => h1 ((ph_lt0 hz).1 e)
    by_cases h2 : y = 0
    · exfalso
      obtain ⟨px, py, rfl, e1, e2⟩ := Rp.split hr n1
      have : ph (p := M) y = 0 := by rw [h2]; exact ph0
      rw [show ph (x, y, z).2.1 = ph (p := M) y from rfl, this] at e2
      exact h.nz (h.y0 hP) (h.nz (h.nz n1 n1) n1) e2.symm
    · rw [if_neg h2]
      refine ⟨h.dbl hr hP rfl ?_ ?_ ?_, sm_lt _ _, mm_lt _ _⟩
      · simp only [ph_mm, ph_am, ph_sm]
        rw [show (ph (p := M) 3) = 3 from rfl, show (ph (p := M) 4) = 4 from rfl]
        grind
      · simp only [ph_mm, ph_am, ph_sm]
        rw [show (ph (p := M) 3) = 3 from rfl, show (ph (p := M) 4) = 4 from rfl, show (ph (p := M) 8) = 8 from rfl]
      · simp only [ph_mm]
        rw [show (ph (p := M) 2) = 2 from rfl]
        grind
theorem mixP_rp (h : Cv ivp b) {x y z qx qy : Nat} {P : Pt M} (hr : RpN (x, y, z) P) (hP : On b P) (hQ : Oc b (ph qx) (ph qy)) (hy : y < M) (hz : z < M) (hqy : qy < M) (h1M : 1 < M) : RpN (mixP M x y z qx qy) (ad ivp P (some (ph qx, ph qy))) ∧ (mixP M x y z qx qy).2.1 < M ∧ (mixP M x y z qx qy).2.2 < M := by
  have hM : 0 < M := NeZero.lt
  unfold mixP
  by_cases h1 : z = 0
  · rw [if_pos h1]
    have := hr.of_zero (by show z % M = 0; rw [h1]; exact Nat.zero_mod _)
    subst this
    exact ⟨Rp.up h.one _ _, hqy, h1M⟩
  · rw [if_neg h1]
    have n1 : ph (p := M) z ≠ 0 := fun e => h1 ((ph_lt0 hz).1 e)
    obtain ⟨px, py, rfl, e1, e2⟩ := Rp.split hr n1
    have c0 : ∀ u v : Nat, (sm M u v = 0 ↔ ph (p := M) u - ph v = 0) := fun u v => by rw [← ph_sm, ph_lt0 (sm_lt u v)]
    obtain ⟨a1, a2, a3⟩ := h.add (X1 := ph x) (Y1 := ph y) (Z1 := ph z) (X2 := ph qx) (Y2 := ph qy) (Z2 := 1) (x2 := ph qx) (y2 := ph qy) (X' := ph (mixP M x y z qx qy).1) (Y' := ph (mixP M x y z qx qy).2.1) (Z' := ph (mixP M x y z qx qy).2.2) n1 h.one e1 e2 (by grind) (by grind) hP hQ rfl rfl rfl rfl
    have d1 : sm M (mm M qx (mm M z z)) x = 0 ↔ px = ph qx := by
      rw [← a1, c0]
      simp only [ph_mm]
      rw [show ph (p := M) x * (1 * 1) = ph x by grind]
    have d2 : sm M (mm M qy (mm M (mm M z z) z)) y = 0 ↔ py = ph qy := by
      rw [← a2, c0]
      simp only [ph_mm]
      rw [show ph (p := M) y * (1 * 1 * 1) = ph y by grind]
    simp only
    by_cases hx : px = ph qx
    · rw [if_pos (d1.2 hx)]
      by_cases hyy : py = ph qy
      · rw [if_pos (d2.2 hyy)]
        subst hx hyy
        exact twP_rp h hr hP hy hz
      · rw [if_neg (fun g => hyy (d2.1 g))]
        subst hx
        rw [ad_opp hyy]
        exact ⟨RpN.zero _ _, hM, hM⟩
    · have hn : ¬ sm M (mm M qx (mm M z z)) x = 0 := fun g => hx (d1.1 g)
      rw [if_neg hn]
      refine ⟨?_, sm_lt _ _, mm_lt _ _⟩
      have em : mixP M x y z qx qy = (sm M (sm M (sm M (mm M (sm M (mm M qy (mm M (mm M z z) z)) y) (sm M (mm M qy (mm M (mm M z z) z)) y)) (mm M (mm M (sm M (mm M qx (mm M z z)) x) (sm M (mm M qx (mm M z z)) x)) (sm M (mm M qx (mm M z z)) x))) (mm M x (mm M (sm M (mm M qx (mm M z z)) x) (sm M (mm M qx (mm M z z)) x)))) (mm M x (mm M (sm M (mm M qx (mm M z z)) x) (sm M (mm M qx (mm M z z)) x))),
          sm M (mm M (sm M (mm M qy (mm M (mm M z z) z)) y) (sm M (mm M x (mm M (sm M (mm M qx (mm M z z)) x) (sm M (mm M qx (mm M z z)) x))) (sm M (sm M (sm M (mm M (sm M (mm M qy (mm M (mm M z z) z)) y) (sm M (mm M qy (mm M (mm M z z) z)) y)) (mm M (mm M (sm M (mm M qx (mm M z z)) x) (sm M (mm M qx (mm M z z)) x)) (sm M (mm M qx (mm M z z)) x))) (mm M x (mm M (sm M (mm M qx (mm M z z)) x) (sm M (mm M qx (mm M z z)) x)))) (mm M x (mm M (sm M (mm M qx (mm M z z)) x) (sm M (mm M qx (mm M z z)) x)))))) (mm M y (mm M (mm M (sm M (mm M qx (mm M z z)) x) (sm M (mm M qx (mm M z z)) x)) (sm M (mm M qx (mm M z z)) x))), mm M z (sm M (mm M qx (mm M z z)) x)) := by
        unfold mixP
        rw [if_neg h1]
        simp only
        rw [if_neg hn]
      rw [em] at a3
      refine a3 (fun g => hx (a1.1 g)) ?_ ?_ ?_
      · simp only [ph_mm, ph_sm]
        clear a1 a2 a3 d1 d2 e1 e2 em
        grind
      · simp only [ph_mm, ph_sm]
        clear a1 a2 a3 d1 d2 e1 e2 em
        grind
      · simp only [ph_mm, ph_sm]
        clear a1 a2 a3 d1 d2 e1 e2 em
        grind
theorem rmS_rp (h : Cv ivp b) {qx qy : Nat} (hQ : Oc b (ph qx) (ph qy)) (hqy : qy < M) (h1M : 1 < M) (E : Nat) : ∀ k, k ≤ nbits E → RpN (M := M) (rmS M qx qy E k) (nm ivp (some (ph qx, ph qy)) (topOf E k)) ∧ (rmS M qx qy E k).2.1 < M ∧ (rmS M qx qy E k).2.2 < M
  | 0, _ => ⟨by rw [topOf_zero]; exact RpN.zero _ _, NeZero.lt, NeZero.lt⟩
  | k + 1, hk => by
    obtain ⟨g1, g2, g3⟩ := rmS_rp h hQ hqy h1M E k (by omega)
    have hP : On b (some (ph qx, ph qy)) := hQ
    obtain ⟨d1, d2, d3⟩ := twP_rp h g1 (h.on_nm hP _) g2 g3
    rw [← h.nm_two hP] at d1
    have ht := topOf_succ (E := E) (k := k) (by omega)
    have hb : (bitAt E k).2 < 2 := Nat.mod_lt _ (by omega)
    simp only [rmS]
    split
    · rename_i hb1
      rw [ht, hb1]
      exact mixP_rp h d1 (h.on_nm hP _) hQ d2 d3 hqy h1M
    · rename_i hb1
      rw [ht, show (bitAt E k).2 = 0 by omega]
      exact ⟨d1, d2, d3⟩

/-- The numbers of a point. -/
def natP (P : Pt M) : Option (Nat × Nat) := P.map fun q => (q.1.val, q.2.val)
def toP (bi : Bool) (x y : Nat) : Pt M := if bi then none else some (ph x, ph y)
theorem toP_natP {P : Pt M} : toP (natP P).isNone ((natP P).elim 0 (·.1)) ((natP P).elim 0 (·.2)) = P := by
  match P with
  | none => rfl
  | some (x, y) => show some (ph x.val, ph y.val) = _; rw [ph_of_val, ph_of_val]
omit [NeZero M] in
theorem mod_ne {z : Nat} (hz : ¬ z % M = 0) : ¬ M ∣ z := fun h => hz (Nat.mod_eq_zero_of_dvd h)
theorem downT_rp (hp : Pm.Prime M) {J : Nat × Nat × Nat} {P : Pt M} (hr : RpN J P) : downT M J = natP P := by
  unfold downT downP
  by_cases h1 : J.2.2 % M = 0
  · rw [if_pos h1, hr.of_zero h1]; rfl
  · rw [if_neg h1]
    have n1 : ph (p := M) J.2.2 ≠ 0 := fun e => h1 (ph_zero.1 e)
    obtain ⟨x, y, rfl, -, -⟩ := Rp.split hr n1
    have hv : ph (p := M) J.2.2 * ph (J.2.2 ^ (M - 2)) = 1 := by
      have := Pm.inv_mul hp (mod_ne h1)
      rw [← ph_mod (J.2.2 ^ (M - 2)), ← ph_mul, ← ph_mod (J.2.2 * _), this]
      exact ph1
    obtain ⟨b1, b2⟩ := Rp.back hr hv
    show some (_, _) = some (x.val, y.val)
    have e1 : ph (p := M) (mm M J.1 (mm M (J.2.2 ^ (M - 2)) (J.2.2 ^ (M - 2)))) = x := by simp only [ph_mm]; exact b1
    have e2 : ph (p := M) (mm M J.2.1 (mm M (mm M (J.2.2 ^ (M - 2)) (J.2.2 ^ (M - 2))) (J.2.2 ^ (M - 2)))) = y := by simp only [ph_mm]; exact b2
    rw [← e1, ← e2, ph_val, ph_val]

theorem invLoop_ok (x : Nat) : ∀ (n r s t u : Nat), s ≤ n → ph (p := M) r = ph t * ph x → ph (p := M) s = ph u * ph x → (invLoop M r s t u).1 = Nat.gcd r s ∧ ph (p := M) (invLoop M r s t u).1 = ph (invLoop M r s t u).2 * ph x := by
  intro n
  induction n with
  | zero =>
    intro r s t u hs h1 h2
    obtain rfl : s = 0 := by omega
    rw [invLoop_zero, Nat.gcd_zero_right]
    exact ⟨rfl, h1⟩
  | succ n ih =>
    intro r s t u hs h1 h2
    rcases Nat.eq_zero_or_pos s with rfl | h0
    · rw [invLoop_zero, Nat.gcd_zero_right]; exact ⟨rfl, h1⟩
    · rw [invLoop_step (by omega)]
      have hr : ph (p := M) (r % s) = ph ((t + M - r / s * u % M) % M) * ph x := by
        have hd := Nat.div_add_mod r s
        have e1 : ph (p := M) r = ph s * ph (r / s) + ph (r % s) := by rw [← ph_mul, ← ph_add, hd]
        rw [ph_mod, ph_sub (by have := Nat.mod_lt (r / s * u) (NeZero.lt (p := M)); omega), ph_add, ph_self, ph_mod, ph_mul]
        clear ih hd
        grind
      obtain ⟨g1, g2⟩ := ih s (r % s) u _ (by have := Nat.mod_lt r h0; omega) h2 hr
      refine ⟨?_, g2⟩
      rw [g1, Nat.gcd_comm r s]
      rw [Nat.gcd_comm s (r % s), ← Nat.gcd_rec]
theorem inv_ok (hp : Pm.Prime M) {z : Nat} (hz : ¬ z % M = 0) : ph (p := M) z * ph (invNum z M).1 = 1 := by
  obtain ⟨g1, g2⟩ := invLoop_ok (M := M) z (z % M) M (z % M) 0 1 (Nat.le_refl _) (by rw [ph_self, ph0]; grind) (by rw [ph_mod, ph1]; grind)
  have hg : Nat.gcd M (z % M) = 1 := hp.coprime (fun hd => hz (by have := Nat.eq_zero_of_dvd_of_lt hd (Nat.mod_lt _ NeZero.lt); exact this))
  rw [hg] at g1
  unfold invNum
  rw [if_pos g1]
  rw [g1, ph1] at g2
  show ph z * ph (invLoop M M (z % M) 0 1).2 = 1
  rw [g2]
  grind
theorem rdown_rp (hp : Pm.Prime M) {J : Nat × Nat × Nat} {P : Pt M} (hr : RpN J P) (hz : J.2.2 < M) : rdown M J.1 J.2.1 J.2.2 = natP P := by
  unfold rdown
  by_cases h1 : J.2.2 = 0
  · rw [if_pos h1, hr.of_zero (by rw [h1]; exact Nat.zero_mod _)]; rfl
  · rw [if_neg h1]
    have n0 : ¬ J.2.2 % M = 0 := by rwa [Nat.mod_eq_of_lt hz]
    have n1 : ph (p := M) J.2.2 ≠ 0 := fun e => n0 (ph_zero.1 e)
    obtain ⟨x, y, rfl, -, -⟩ := Rp.split hr n1
    have hv := inv_ok hp n0
    obtain ⟨iv, hiv⟩ : ∃ iv, (invNum J.2.2 M).1 = iv := ⟨_, rfl⟩
    rw [hiv] at hv ⊢
    obtain ⟨b1, b2⟩ := Rp.back hr hv
    show some (_, _) = some (x.val, y.val)
    have e1 : ph (p := M) (mm M J.1 (mm M iv iv)) = x := by simp only [ph_mm]; exact b1
    have e2 : ph (p := M) (mm M J.2.1 (mm M (mm M iv iv) iv)) = y := by simp only [ph_mm]; exact b2
    have f1 := congrArg Fin.val e1
    have f2 := congrArg Fin.val e2
    rw [ph_val, Nat.mod_eq_of_lt (mm_lt _ _)] at f1 f2
    rw [← f1, ← f2]
theorem upP_rp (h1 : (1 : Fin M) ≠ 0) (bi : Bool) (x y : Nat) : RpN (M := M) (upP bi x y) (toP bi x y) := by
  cases bi
  · exact Rp.up h1 _ _
  · exact RpN.zero _ _
/-- The program's multiple. -/
theorem mul_rp (hp : Pm.Prime M) (h : Cv ivp b) {bi : Bool} {x y : Nat} (hP : On b (toP bi x y)) (E : Nat) : downT M (mulS M (upP bi x y) E (nbits E)).1 = natP (M := M) (nm ivp (toP bi x y) E) :=
  downT_rp hp (mulS_fin h (upP_rp h.one bi x y) hP E)
theorem nm_none (n : Nat) : nm ivp (none : Pt M) n = none := by
  induction n with
  | zero => rfl
  | succ n ih => show ad ivp (nm ivp none n) none = none; rw [ih]; rfl
/-- The reference's. -/
theorem rmul_rp (hp : Pm.Prime M) (h : Cv ivp b) {bi : Bool} {x y : Nat} (hP : On b (toP bi x y)) (hy : bi = false → y < M) (E : Nat) : rmulP M bi x y E = natP (M := M) (nm ivp (toP bi x y) E) := by
  unfold rmulP
  cases bi
  · obtain ⟨h1, h2, h3⟩ := rmS_rp h hP (hy rfl) hp.two E _ (Nat.le_refl _)
    rw [topOf_all] at h1
    exact rdown_rp hp h1 h3
  · show none = natP (nm ivp none E)
    rw [nm_none]
    rfl
/-- The program's sum. -/
theorem add_rp (hp : Pm.Prime M) (h : Cv ivp b) {bi bj : Bool} {x y u v : Nat} (hP : On b (toP bi x y)) (hQ : On b (toP bj u v)) : downT M (addT M (upP bi x y) (upP bj u v)) = natP (M := M) (ad ivp (toP bi x y) (toP bj u v)) :=
  downT_rp hp (addT_rp h (upP_rp h.one bi x y) (upP_rp h.one bj u v) hP hQ)
/-- A point that the curve's test takes is on the curve. -/
theorem onB_on {bb : Nat} (hb : b = ph bb) {x y : Nat} (h : onB M bb x y = true) : Oc b (ph x) (ph y) := by
  unfold onB at h
  rw [Bool.and_eq_true, Bool.and_eq_true] at h
  have e := congrArg (ph (p := M)) (of_decide_eq_true h.2)
  rw [ph_mod, ph_mul, ph_mod, ph_add, ph_mod, ph_sub (by have := Nat.mod_lt (3 * x) (NeZero.lt (p := M)); omega), ph_add, ph_self, ph_mod, ph_mul, ph_mod, ph_mul, ph_mod, ph_mul] at e
  rw [show (ph (p := M) 3) = 3 from rfl] at e
  unfold Oc
  rw [e, hb]
  grind
theorem onQ_on {bb : Nat} (hb : b = ph bb) {bi : Bool} {x y : Nat} (h : bi = false → onB M bb x y = true) : On b (toP bi x y) := by
  cases bi
  · exact onB_on hb (h rfl)
  · trivial
end
end Gl
end Go.Proofs.Ytldhmjfjbalakaa

namespace Go.Proofs.Ytldhmjfjbalakaa
open Gl

theorem IsC.cv {c : Int} {C : Crv} (h : IsC c C) : ∃ _ : NeZero C.M, Pm.Prime C.M ∧ Cv (p := C.M) ivp (ph C.bb) := by
  rcases h with ⟨_, rfl⟩ | ⟨_, rfl⟩
  · have e : c256.M = 115792089210356248762697446949407573530086143415290314195533631308867097853951 := by decide +kernel
    have eb : c256.bb = 41058363725152142129326129780047268409114441015993725554835256314039467401291 := by decide +kernel
    rw [e, eb]
    exact ⟨⟨by decide⟩, Pm.p256, cv_of Pm.p256 (by decide) root256⟩
  · have e : c384.M = 39402006196394479212279040100143613805079739270465446667948293404245721771496870329047266088258938001861606973112319 := by decide +kernel
    have eb : c384.bb = 27580193559959705877849011840389048093056905856361568521428707301988689241309860865136260764883745107765439761230575 := by decide +kernel
    rw [e, eb]
    exact ⟨⟨by decide⟩, Pm.p384, cv_of Pm.p384 (by decide) root384⟩
theorem onQ_onB {C : Crv} {bi : Bool} {x y : Nat} (ho : onQ C bi x y = true) : bi = false → onB C.M C.bb x y = true := by
  rintro rfl
  exact ho
/-- A multiple is the reference's. -/
theorem mul_agree {c : Int} {C : Crv} (hC : IsC c C) {bi : Bool} {x y E : Nat} (ho : onQ C bi x y = true) (hE : nbits E ≤ 4096) : mulC C bi x y E = some (rmulP C.M bi x y E) := by
  obtain ⟨_, hp, hv⟩ := hC.cv
  have h1 := onQ_onB ho
  have hP := onQ_on (M := C.M) (b := ph C.bb) rfl h1
  unfold mulC
  rw [if_pos ho, if_pos hE, mul_rp hp hv hP, rmul_rp hp hv hP (fun hb => (onB_lt (h1 hb)).2)]
end Go.Proofs.Ytldhmjfjbalakaa

namespace Go.Proofs.Ytldhmjfjbalakaa
open Gl

theorem on_onB {M : Nat} [NeZero M] {bb x y : Nat} (hx : x < M) (hy : y < M) (h : Oc (p := M) (ph bb) (ph x) (ph y)) : onB M bb x y = true := by
  unfold onB
  rw [decide_eq_true hx, decide_eq_true hy]
  refine decide_eq_true ?_
  have e : ph (p := M) (y * y) = ph ((x * x % M * x % M + M - 3 * x % M) % M + bb) := by
    rw [ph_mul, ph_add, ph_mod, ph_sub (by have := Nat.mod_lt (3 * x) (NeZero.lt (p := M)); omega), ph_add, ph_self, ph_mod, ph_mul, ph_mod, ph_mul, ph_mod, ph_mul]
    rw [show (ph (p := M) 3) = 3 from rfl]
    unfold Oc at h
    rw [h]
    grind
  exact congrArg Fin.val e
theorem onQ_natP {C : Crv} [NeZero C.M] {P : Pt C.M} (h : On (ph C.bb) P) : onQ C (natP P).isNone ((natP P).elim 0 (·.1)) ((natP P).elim 0 (·.2)) = true := by
  match P with
  | none => rfl
  | some (x, y) => exact on_onB x.isLt y.isLt (by show Oc (ph C.bb) (ph x.val) (ph y.val); rw [ph_of_val, ph_of_val]; exact h)
/-- The sum of two multiples. -/
theorem sum_agree {c : Int} {C : Crv} (hC : IsC c C) {bi : Bool} {x y J K : Nat} {S T U : Option (Nat × Nat)} (ho : onQ C bi x y = true) (hS : rmulP C.M bi x y J = S) (hT : rmulP C.M bi x y K = T) (hU : rmulP C.M bi x y (J + K) = U) :
    addC C S.isNone (S.elim 0 (·.1)) (S.elim 0 (·.2)) T.isNone (T.elim 0 (·.1)) (T.elim 0 (·.2)) = some U := by
  obtain ⟨_, hp, hv⟩ := hC.cv
  have h1 := onQ_onB ho
  have hP := onQ_on (M := C.M) (b := ph C.bb) rfl h1
  have hl : bi = false → y < C.M := fun hb => (onB_lt (h1 hb)).2
  rw [rmul_rp hp hv hP hl] at hS hT hU
  subst hS hT hU
  unfold addC
  have hJ := hv.on_nm hP J
  have hK := hv.on_nm hP K
  rw [if_pos (onQ_natP hJ), if_pos (onQ_natP hK), add_rp hp hv (by rw [toP_natP]; exact hJ) (by rw [toP_natP]; exact hK), toP_natP, toP_natP, ← hv.nm_add hP]
end Go.Proofs.Ytldhmjfjbalakaa

namespace Go.Proofs.Ytldhmjfjbalakaa
open Go.RowKit
namespace Par
section
variable {P : Program} {ops : Array Oper} {Q : Exit → Act → World → Prop}

theorem act_go {M : Nat → Nat} {n : Nat} (hF : Form ops M n) {D : Nat → Bool} {f : Nat → Value} {a : Act} {i : Nat} (hnd : ∀ j, j < n → D j = true → nd M i j = true) :
    ∃ g, (∀ j, D j = true → g j = f j) ∧ put ops D f (List.range n) a = put ops (nd M i) g (List.range n) a ∧
      (i < n → ∀ v, (put ops (nd M i) g (List.range n) a).put (dst ops i) v = put ops (fun j => D j || j == i) (upd g i v) (List.range n) a) := by
  refine ⟨fun j => if D j = true then f j else ((dst ops j).map fun t => a.tmps.getD t undef).getD undef, fun j hj => by simp only [hj, if_true], ?_, fun hi v => ?_⟩
  · exact put_wide a List.nodup_range (fun p hp q hq => hF.own p q (List.mem_range.1 hp) (List.mem_range.1 hq)) (fun j hj hd => ⟨hnd j (List.mem_range.1 hj) hd, by simp only [hd, if_true]⟩) a
      (fun j _ hd t ht => by simp only [hd, Bool.false_eq_true, if_false, ht, Option.map_some, Option.getD_some])
  · rw [put_more (List.mem_range.2 hi) List.nodup_range (fun j hj hne => hF.own i j hi (List.mem_range.1 hj) (Ne.symm hne)) (by simp [nd])]
    refine (put_wide a List.nodup_range (fun p hp q hq => hF.own p q (List.mem_range.1 hp) (List.mem_range.1 hq)) (fun j hj hd => ⟨?_, rfl⟩) a (fun j hj hd t ht => ?_)).symm
    · rw [Bool.or_eq_true, beq_iff_eq] at hd
      rw [Bool.or_eq_true, beq_iff_eq]
      exact hd.imp (hnd j (List.mem_range.1 hj)) id
    · rw [Bool.or_eq_false_iff] at hd
      have hne : j ≠ i := by simpa using hd.2
      simp only [upd, hne, if_false, hd.1, Bool.false_eq_true, ht, Option.map_some, Option.getD_some]
theorem mask_eq {M : Nat → Nat} {j : Nat} {f g : Nat → Value} (h : ∀ k, (k = j ∨ (M j).testBit k = true) → f k = g k) : mask M j f = mask M j g := by
  funext k
  unfold mask
  split
  · rename_i hk
    rw [Bool.or_eq_true, beq_iff_eq] at hk
    exact h k hk
  · rfl
theorem ready_some {M : Nat → Nat} {n : Nat} (hF : Form ops M n) {listed : Array Bool} (hsz : listed.size = ops.size) {j : Nat} (hj : j < n) (hn : listed.getD j false = false) : Region.ready .any ops listed ≠ [] := by
  intro h
  have : ∀ k, k ≤ n → (∀ i, i < k → listed.getD i false = true) := by
    intro k
    induction k with
    | zero => intro _ i hi; omega
    | succ k ihk =>
      intro hk i hi
      by_cases hik : i < k
      · exact ihk (by omega) i hik
      · obtain rfl : i = k := by omega
        cases hd : listed.getD i false
        · exfalso
          have his : i < ops.size := by have := hF.le; omega
          have hmem : i ∈ Region.ready .any ops listed := by
            rw [mem_ready]
            have hil : i < listed.size := by omega
            exact ⟨by simpa [hil] using hd, _, Array.getElem?_eq_getElem his, fun e he hb => ihk (by omega) _ (hF.up i _ (Array.getElem?_eq_getElem his) e he hb)⟩
          rw [h] at hmem
          cases hmem
        · rfl
  rw [this n (Nat.le_refl _) j hj] at hn
  cases hn
theorem listed_all {n : Nat} {listed : Array Bool} (hsz : listed.size = ops.size) (hall : ∀ j, j < n → listed.getD j false = true) (hlt : ∀ j, listed.getD j false = true → j < n) : listed = upto ops.size n := by
  apply Array.ext
  · simp [upto, hsz]
  · intro k h1 h2
    simp only [upto, List.getElem_toArray, List.getElem_map, List.getElem_range]
    by_cases hk : k < n
    · have := hall k hk
      simpa [h1, hk] using this
    · cases hd : listed[k]
      · simp [hk]
      · exact absurd (hlt k (by simp [h1, hd])) hk
theorem set_new {listed : Array Bool} {i : Nat} (hil : i < listed.size) (j : Nat) : (listed.setIfInBounds i true).getD j false = (listed.getD j false || j == i) := by
  by_cases hji : j = i
  · subst hji; simp [hil]
  · rw [Go.getD_set_ne false (fun e => hji e.symm)]; simp [hji]

theorem hup' (f : Nat → Value) (i : Nat) (v : Value) (j : Nat) (hne : j ≠ i) : upd f i v j = f j := by simp only [upd, hne, if_false]
/-- Behind the store. -/
theorem parB {E : World → World → Prop} {n s u : Nat} {M : Nat → Nat} {R : Nat → (Nat → Value) → World → Prop} {S : (Nat → Value) → World → Prop} {cv : Value} {a : Act} {w : World} (hF : Form ops M n) (hu : u < n) (hus : u ≠ s)
    (hleaf : ∀ j, j < n → (M j).testBit u = false)
    (hpu : ∀ f X0 X, E w X0 → (∀ j, (M u).testBit j = true → R j (mask M j f) X0) → ∀ K : Act → World → Prop, K ((put ops (nd M u) f (List.range n) a).put (dst ops u) cv) X → wpOp P ops Q u K (put ops (nd M u) f (List.range n) a) X)
    (htail : ∀ f Y, f u = cv → S (mask M s f) Y → wpAny P .any ops Q (ops.size - n) (upto ops.size n) (put ops (fun _ => true) f (List.range n) a) Y) (hs : s < n) :
    ∀ (fuel : Nat) (listed : Array Bool) (f : Nat → Value) (a' : Act) (X0 Y : World), listed.size = ops.size →
      (∀ j o, ops[j]? = some o → listed.getD j false = true → ∀ e ∈ o.after, binds e = true → listed.getD e.on false = true) →
      (∀ j, listed.getD j false = true → j < n) → (∀ j, j < n → j ≠ u → listed.getD j false = true) → fuel + cnt (fun j => listed.getD j false) n = ops.size →
      E w X0 → (∀ j, j < s → j ≠ u → R j (mask M j f) X0) → (listed.getD u false = true → f u = cv) → S (mask M s f) Y → a' = put ops (fun j => listed.getD j false) f (List.range n) a →
      (∀ j, (M u).testBit j = true → j < s) → wpAny P .any ops Q fuel listed a' Y := by
  intro fuel
  induction fuel with
  | zero =>
    intro listed f a' X0 Y hsz hcl hlt hall hc hE hR hfu hS ha hlow
    have hcm : cnt (fun j => listed.getD j false) n ≤ n := cnt_le _ _
    have hnn : n = ops.size := by have := hF.le; omega
    have hlu : listed.getD u false = true := by
      cases h : listed.getD u false
      · have := cnt_lt (D := fun j => listed.getD j false) (i := u) h hu; omega
      · rfl
    have h1 := listed_all (ops := ops) hsz (fun j hj => by by_cases h : j = u; (rw [h]; exact hlu); exact hall j hj h) hlt
    have h2 := htail f Y (hfu hlu) hS
    have e0 : ops.size - n = 0 := by omega
    rw [e0] at h2
    rw [h1, ha]
    have e1 : put ops (fun j => listed.getD j false) f (List.range n) a = put ops (fun _ => true) f (List.range n) a := put_congr (fun j hj => ⟨by by_cases h : j = u; (rw [h]; exact hlu); exact hall j (List.mem_range.1 hj) h, rfl⟩) _
    rw [e1]
    exact h2
  | succ fuel ih =>
    intro listed f a' X0 Y hsz hcl hlt hall hc hE hR hfu hS ha hlow
    cases hlu : listed.getD u false
    · refine ⟨fun h => absurd h (ready_some hF hsz hu hlu), fun i hi => ?_⟩
      obtain ⟨hi0, o, ho, hdep⟩ := mem_ready.1 hi
      have his : i < ops.size := (Array.getElem?_eq_some_iff.1 ho).1
      have hil : i < listed.size := by omega
      have hid : listed.getD i false = false := by simpa [hil] using hi0
      have anc := fun i o ho hd k hk hb => anc hF hcl i i o (Nat.le_refl _) ho hd k hk hb
      have hiu : i = u := by
        rcases Nat.lt_or_ge i n with h | h
        · exact Decidable.byContradiction fun hne => by rw [hall i h hne] at hid; cases hid
        · have := anc i o ho hdep u (by have := hF.le; omega) (hF.late i h his u (by omega))
          rw [hlu] at this; cases this
      subst hiu
      have hnd : ∀ j, j < n → listed.getD j false = true → nd M i j = true := fun j hj hd => by
        have h1 : j ≠ i := fun e => by rw [e, hid] at hd; cases hd
        simp [nd, h1, hleaf j hj]
      obtain ⟨g, hg1, hg2, hg3⟩ := act_go (M := M) (a := a) (f := f) (D := fun j => listed.getD j false) hF hnd
      rw [ha, hg2]
      have hgf : ∀ j, j < n → j ≠ i → g j = f j := fun j hj hne => hg1 j (hall j hj hne)
      have hms : ∀ h : Nat → Value, (∀ j, j < n → j ≠ i → h j = f j) → ∀ j, j < n → j ≠ i → mask M j h = mask M j f := fun h hh j hj hne => mask_eq fun k hk => by
        rcases hk with rfl | hk
        · exact hh k hj hne
        · have hjs : j < ops.size := by have := hF.le; omega
          have := hF.bit j hjs k hk
          exact hh k (by omega) (fun e => by rw [e, hleaf j hj] at hk; cases hk)
      refine hpu g X0 Y hE (fun j hb => ?_) _ ?_
      · have hj := hlow j hb
        have hne : j ≠ i := fun e => by rw [e, hleaf i hu] at hb; cases hb
        rw [hms g hgf j (by omega) hne]
        exact hR j hj hne
      · rw [hg3 hu]
        have hnew := set_new hil
        have hup : ∀ j, j < n → j ≠ i → upd g i cv j = f j := fun j hj hne => by simp only [upd, hne, if_false]; exact hgf j hj hne
        refine ih _ (upd g i cv) _ X0 Y (by simpa using hsz) (fun j oj hoj hd e he hb => ?_) (fun j hd => ?_) (fun j hj hne => ?_) ?_ hE (fun j hj hne => ?_) (fun _ => by simp [upd]) ?_ ?_ hlow
        · rw [hnew] at hd ⊢
          rw [Bool.or_eq_true, beq_iff_eq] at hd ⊢
          rcases hd with hd | rfl
          · exact .inl (hcl j oj hoj hd e he hb)
          · rw [ho] at hoj; cases hoj; exact .inl (hdep e he hb)
        · rw [hnew, Bool.or_eq_true, beq_iff_eq] at hd
          rcases hd with hd | rfl
          · exact hlt j hd
          · exact hu
        · rw [hnew, hall j hj hne]; rfl
        · rw [cnt_more (D := fun j => listed.getD j false) (D' := fun j => (listed.setIfInBounds i true).getD j false) hid (by rw [hnew]; simp) (fun j hj => by show (listed.setIfInBounds i true).getD j false = listed.getD j false; rw [hnew]; simp [hj]) hu]
          omega
        · rw [hms _ hup j (by omega) hne]
          exact hR j hj hne
        · rw [hms _ hup s hs (Ne.symm hus)]
          exact hS
        · exact put_congr (fun j _ => ⟨(hnew j).symm, rfl⟩) _
    · have h1 := listed_all (ops := ops) hsz (fun j hj => by by_cases h : j = u; (rw [h]; exact hlu); exact hall j hj h) hlt
      have e1 : put ops (fun j => listed.getD j false) f (List.range n) a = put ops (fun _ => true) f (List.range n) a := put_congr (fun j hj => ⟨by by_cases h : j = u; (rw [h]; exact hlu); exact hall j (List.mem_range.1 hj) h, rfl⟩) _
      have hcm := cnt_full (D := fun j => listed.getD j false) (m := n) (fun j hj => by by_cases h : j = u; (rw [h]; exact hlu); exact hall j hj h)
      have h2 := htail f Y (hfu hlu) hS
      have e0 : ops.size - n = fuel + 1 := by omega
      rw [e0] at h2
      rw [h1, ha, e1]
      exact h2

theorem parS {E : World → World → Prop} (hE0 : ∀ w, E w w) (hE1 : ∀ a b c, E a b → E b c → E a c) (hE2 : ∀ a b, E a b → a.heap.size ≤ b.heap.size)
    {n s u : Nat} {M : Nat → Nat} {AL : Nat → Bool} {R : Nat → (Nat → Value) → World → Prop} {S : (Nat → Value) → World → Prop} {cv : Value} {a : Act} {w : World} (hF : Form ops M n) (hsn : s + 1 = n) (hds : dst ops s = none) (hu : u < s)
    (hleaf : ∀ j, j < n → (M j).testBit u = false) (hsto : ∀ k, k < s → k ≠ u → (M s).testBit k = true)
    (hR : ∀ j, j < n → ∀ f X, R j (mask M j f) X → ∀ Y, E X Y → R j (mask M j f) Y)
    (hstep : ∀ i, i < s → Step P ops Q E n M AL (fun j f X => R j (mask M j f) X) a w i)
    (hpu : ∀ f X0 X, E w X0 → (∀ j, (M u).testBit j = true → R j (mask M j f) X0) → ∀ K : Act → World → Prop, K ((put ops (nd M u) f (List.range n) a).put (dst ops u) cv) X → wpOp P ops Q u K (put ops (nd M u) f (List.range n) a) X)
    (hRc : ∀ f X, R u (mask M u f) X → f u = cv)
    (hst : ∀ f X, E w X → (∀ j, (M s).testBit j = true → R j (mask M j f) X) → (∀ j, (M s).testBit j = true → AL j = true → ∃ b, f j = .pointer (some ⟨b, 0, none⟩) ∧ b < X.heap.size) → ∀ K : Act → World → Prop, (∀ Y, S (mask M s f) Y → K (put ops (nd M s) f (List.range n) a) Y) → wpOp P ops Q s K (put ops (nd M s) f (List.range n) a) X)
    (htail : ∀ f Y, f u = cv → S (mask M s f) Y → wpAny P .any ops Q (ops.size - n) (upto ops.size n) (put ops (fun _ => true) f (List.range n) a) Y) :
    ∀ (fuel : Nat) (listed : Array Bool) (f : Nat → Value) (a' : Act) (X : World), listed.size = ops.size →
      (∀ j o, ops[j]? = some o → listed.getD j false = true → ∀ e ∈ o.after, binds e = true → listed.getD e.on false = true) →
      (∀ j, listed.getD j false = true → j < s) → fuel + cnt (fun j => listed.getD j false) n = ops.size →
      Inv ops E n M AL R a w (fun j => listed.getD j false) f a' X → wpAny P .any ops Q fuel listed a' X := by
  intro fuel
  induction fuel with
  | zero =>
    intro listed f a' X hsz hcl hlt hc hI
    exfalso
    have h1 : listed.getD s false = false := by
      cases h : listed.getD s false
      · rfl
      · have := hlt s h; omega
    have := cnt_lt (D := fun j => listed.getD j false) (i := s) h1 (m := n) (by omega)
    have := hF.le
    omega
  | succ fuel ih =>
    intro listed f a' X hsz hcl hlt hc hI
    have hsf : listed.getD s false = false := by
      cases h : listed.getD s false
      · rfl
      · have := hlt s h; omega
    refine ⟨fun h => absurd h (ready_some hF hsz (by omega) hsf), fun i hi => ?_⟩
    obtain ⟨hi0, o, ho, hdep⟩ := mem_ready.1 hi
    have his : i < ops.size := (Array.getElem?_eq_some_iff.1 ho).1
    have hil : i < listed.size := by omega
    have hid : listed.getD i false = false := by simpa [hil] using hi0
    have anc := fun i o ho hd k hk hb => anc hF hcl i i o (Nat.le_refl _) ho hd k (Nat.lt_of_lt_of_le hk hF.le) hb
    have him : i < n := by
      rcases Nat.lt_or_ge i n with h | h
      · exact h
      · have := anc i o ho hdep s (by omega) (hF.late i h his s (by omega))
        rw [hsf] at this; cases this
    have hnd : ∀ j, j < n → listed.getD j false = true → nd M i j = true := fun j hj hd => by
      have h1 : j ≠ i := fun e => by rw [e, hid] at hd; cases hd
      have hjs : j < ops.size := by have := hF.le; omega
      have h2 : (M j).testBit i = false := by
        cases hb : (M j).testBit i
        · rfl
        · have := anc j _ (Array.getElem?_eq_getElem hjs) (hcl j _ (Array.getElem?_eq_getElem hjs) hd) i him hb
          rw [hid] at this; cases this
      simp [nd, h1, h2]
    obtain ⟨g, hg1, hg2, hg3⟩ := act_go (M := M) (a := a) (f := f) (D := fun j => listed.getD j false) hF hnd
    have hmask : ∀ j, j < n → listed.getD j false = true → mask M j g = mask M j f := fun j hj hd => mask_eq fun k hk => by
      rcases hk with rfl | hk
      · exact hg1 k hd
      · have hjs : j < ops.size := by have := hF.le; omega
        have hkj := hF.bit j hjs k hk
        exact hg1 k (anc j _ (Array.getElem?_eq_getElem hjs) (hcl j _ (Array.getElem?_eq_getElem hjs) hd) k (by omega) hk)
    have hnew := set_new hil
    have hcl' : ∀ j oj, ops[j]? = some oj → (listed.setIfInBounds i true).getD j false = true → ∀ e ∈ oj.after, binds e = true → (listed.setIfInBounds i true).getD e.on false = true := fun j oj hoj hd e he hb => by
      rw [hnew] at hd ⊢
      rw [Bool.or_eq_true, beq_iff_eq] at hd ⊢
      rcases hd with hd | rfl
      · exact .inl (hcl j oj hoj hd e he hb)
      · rw [ho] at hoj; cases hoj; exact .inl (hdep e he hb)
    have hcnt : fuel + cnt (fun j => (listed.setIfInBounds i true).getD j false) n = ops.size := by
      rw [cnt_more (D := fun j => listed.getD j false) (D' := fun j => (listed.setIfInBounds i true).getD j false) hid (by rw [hnew]; simp) (fun j hj => by show (listed.setIfInBounds i true).getD j false = listed.getD j false; rw [hnew]; simp [hj]) him]
      omega
    rw [hI.act, hg2]
    by_cases hisx : i = s
    · subst hisx
      have hdone : ∀ j, j < i → j ≠ u → listed.getD j false = true := fun j hj hne => anc i o ho hdep j (by omega) (hsto j hj hne)
      refine hst g X hI.ext (fun j hb => ?_) (fun j hb hal => ?_) _ (fun Y hS => ?_)
      · have hj : j < i := hF.bit i his j hb
        have hd := anc i o ho hdep j (by omega) hb
        rw [hmask j (by omega) hd]
        exact hI.said j (by omega) hd
      · have hj : j < i := hF.bit i his j hb
        have hd := anc i o ho hdep j (by omega) hb
        obtain ⟨b, h1, h2⟩ := hI.at_ j (by omega) hd hal
        exact ⟨b, (hg1 j hd).trans h1, h2⟩
      · have ha := hg3 him undef
        rw [hds] at ha
        have ha' : put ops (nd M i) g (List.range n) a = put ops (fun j => (listed.setIfInBounds i true).getD j false) (upd g i undef) (List.range n) a := by
          refine Eq.trans ha (put_congr (fun j _ => ⟨(hnew j).symm, rfl⟩) _)
        have hup : ∀ j, j ≠ i → upd g i undef j = g j := fun j hne => by simp only [upd, hne, if_false]
        refine parB hF (by omega) (by omega) hleaf hpu (S := fun f Y => S (mask M i (upd f i (g i))) Y) (fun f Y hfu hS' => ?_) (s := i) him fuel _ (upd g i undef) _ X Y (by simpa using hsz) hcl' (fun j hd => ?_) (fun j hj hne => ?_) hcnt hI.ext (fun j hj hne => ?_) (fun hd => ?_) ?_ ha' (fun j hb => ?_)
        · have h1 : put ops (fun _ => true) f (List.range n) a = put ops (fun _ => true) (upd f i (g i)) (List.range n) a := by
            have : ∀ (l : List Nat) (a : Act), put ops (fun _ => true) f l a = put ops (fun _ => true) (upd f i (g i)) l a := fun l => by
              induction l with
              | nil => intro a; rfl
              | cons j l ih =>
                intro a
                simp only [put, if_true]
                by_cases hji : j = i
                · subst hji
                  rw [hds]
                  exact ih _
                · rw [hup' f i (g i) j hji]
                  exact ih _
            exact this _ _
          rw [h1]
          refine htail (upd f i (g i)) Y (by rw [hup' f i (g i) u (by omega)]; exact hfu) ?_
          have : mask M i (upd f i (g i)) = mask M i (upd (mask M i f) i (g i)) := mask_eq fun k hk => by
            by_cases hki : k = i
            · subst hki; simp [upd]
            · rw [hup' _ _ _ _ hki, hup' _ _ _ _ hki]
              have hb := hk.resolve_left hki
              simp [mask, hb]
          rw [this]
          exact hS'
        · rw [hnew, Bool.or_eq_true, beq_iff_eq] at hd
          rcases hd with hd | rfl
          · have := hlt j hd; omega
          · exact him
        · rw [hnew]
          by_cases hji : j = i
          · simp [hji]
          · rw [hdone j (by omega) hne]; rfl
        · have hd := hdone j hj hne
          have : mask M j (upd g i undef) = mask M j f := by
            rw [← hmask j (by omega) hd]
            refine mask_eq fun k hk => hup k fun e => ?_
            rcases hk with rfl | hk
            · omega
            · have hjs : j < ops.size := by have := hF.le; omega
              have := hF.bit j hjs k hk
              omega
          rw [this]
          exact hI.said j (by omega) hd
        · rw [hnew, Bool.or_eq_true, beq_iff_eq] at hd
          have hd' := hd.resolve_right (by omega)
          rw [hup u (by omega), hg1 u hd']
          exact hRc f X (hI.said u (by omega) hd')
        · have : mask M i (upd (mask M i (upd g i undef)) i (g i)) = mask M i g := mask_eq fun k hk => by
            by_cases hki : k = i
            · subst hki; simp [upd]
            · have hb := hk.resolve_left hki
              rw [hup' _ _ _ _ hki]
              simp [mask, hb, upd, hki]
          show S (mask M i (upd (mask M i (upd g i undef)) i (g i))) Y
          rw [this]
          exact hS
        · have hub : u < ops.size := by have := hF.le; omega
          have := hF.bit u hub j hb
          omega
    · have hi' : i < s := by omega
      refine hstep i hi' g X hI.ext (fun j hb => ?_) _ (fun a'' v X' ha hE hA hR' => ?_)
      · have hj : j < n := by have := hF.bit i his j hb; omega
        have hd := anc i o ho hdep j hj hb
        show R j (mask M j g) X
        rw [hmask j hj hd]
        exact hI.said j hj hd
      · have hnin : ∀ j, j < n → listed.getD j false = true → j ≠ i := fun j _ hd e => by rw [e, hid] at hd; cases hd
        have hupd : ∀ j, listed.getD j false = true → upd g i v j = f j := fun j hd => by
          have hne : j ≠ i := fun e => by rw [e, hid] at hd; cases hd
          simp only [upd, hne, if_false]; exact hg1 j hd
        have hupi : upd g i v i = v := by simp [upd]
        have hmk : ∀ j, j < n → listed.getD j false = true → mask M j (upd g i v) = mask M j f := fun j hj hd => by
          rw [← hmask j hj hd]
          refine mask_eq fun k hk => ?_
          have hne : k ≠ i := by
            rintro rfl
            rcases hk with rfl | hk
            · exact hnin _ hj hd rfl
            · have := hnd j hj hd
              simp [nd, hk] at this
          simp [upd, hne]
        refine ih _ (upd g i v) a'' X' (by simpa using hsz) hcl' (fun j hd => ?_) hcnt ⟨?_, hE1 _ _ _ hI.ext hE, fun j hj hd => ?_, fun j hj hd hal => ?_, fun j k hj hk hd hd' hal hal' hne => ?_⟩
        · rw [hnew, Bool.or_eq_true, beq_iff_eq] at hd
          rcases hd with hd | rfl
          · exact hlt j hd
          · exact hi'
        · rw [ha, hg3 him]
          exact put_congr (fun j _ => ⟨(hnew j).symm, rfl⟩) _
        · rw [hnew, Bool.or_eq_true, beq_iff_eq] at hd
          by_cases hold : listed.getD j false = true
          · rw [hmk j hj hold]
            exact hR j hj f X (hI.said j hj hold) X' hE
          · obtain rfl : j = i := hd.resolve_left hold
            exact hR' X' (hE0 _)
        · rw [hnew, Bool.or_eq_true, beq_iff_eq] at hd
          by_cases hold : listed.getD j false = true
          · obtain ⟨b, h1, h2⟩ := hI.at_ j hj hold hal
            exact ⟨b, (hupd j hold).trans h1, Nat.lt_of_lt_of_le h2 (hE2 _ _ hE)⟩
          · obtain rfl : j = i := hd.resolve_left hold
            rw [if_pos hal] at hA
            exact ⟨X.heap.size, hupi.trans hA.1, hA.2⟩
        · rw [hnew, Bool.or_eq_true, beq_iff_eq] at hd hd'
          have key : ∀ j k, j < n → listed.getD j false = true → AL j = true → AL k = true → k = i → upd g i v j ≠ upd g i v k := fun j k hj hold hal hal' hki heq => by
            subst hki
            rw [if_pos hal'] at hA
            obtain ⟨b, h1, h2⟩ := hI.at_ j hj hold hal
            rw [hupd j hold, hupi, h1, hA.1] at heq
            injection heq with heq
            injection heq with heq
            injection heq with heq
            omega
          by_cases hold : listed.getD j false = true
          · by_cases hold' : listed.getD k false = true
            · rw [hupd j hold, hupd k hold']
              exact hI.apart j k hj hk hold hold' hal hal' hne
            · exact key j k hj hold hal hal' (hd'.resolve_left hold')
          · have hji := hd.resolve_left hold
            by_cases hold' : listed.getD k false = true
            · exact fun e => key k j hk hold' hal' hal hji e.symm
            · exact absurd (hji.trans (hd'.resolve_left hold').symm) hne
end
section
variable {P : Program} {Q : Exit → Act → World → Prop}
def okS (ops : Array Oper) (M : Nat → Nat) (s u : Nat) (AL : List Nat) : Bool :=
  (dst ops s).isNone && decide (u < s) && !(AL.contains u) && ((List.range (s + 1)).all fun j => !(M j).testBit u) && ((List.range s).all fun k => k == u || (M s).testBit k)
/-- The operation that may come before the store or behind it: its answer is the same always. -/
structure PuO (P : Program) (ol : List Oper) (Q : Exit → Act → World → Prop) (E : World → World → Prop) (n : Nat) (L : List Nat) (R : Nat → (Nat → Value) → World → Prop) (a : Act) (w : World) (u : Nat) (cv : Value) (o : Oper) : Prop where
  out : ol[u]? = some o → ∀ f X0 X, E w X0 → (∀ j, (L.getD u 0).testBit j = true → R j (mask (fun i => L.getD i 0) j f) X0) → ∀ K : Act → World → Prop, K ((put ol.toArray (nd (fun i => L.getD i 0) u) f (List.range n) a).put (dst ol.toArray u) cv) X → wpOp P ol.toArray Q u K (put ol.toArray (nd (fun i => L.getD i 0) u) f (List.range n) a) X
theorem PuO.intro {ol : List Oper} {E : World → World → Prop} {n : Nat} {L : List Nat} {R : Nat → (Nat → Value) → World → Prop} {a : Act} {w : World} {u : Nat} {cv : Value} {o : Oper} (pl : List (Nat × Nat)) (hpl : sel ol.toArray (nd (fun i => L.getD i 0) u) (List.range n) = pl)
    (h : ∀ f X0 X, E w X0 → Way (∀ j, (L.getD u 0).testBit j = true → R j (mask (fun i => L.getD i 0) j f) X0) → ∀ K : Act → World → Prop, Way (K ((putL f pl a).put o.dst cv) X) →
      Way (if Region.wanted o (yielded ol.toArray (putL f pl a).tmps) = true then Oper.wp P o (putL f pl a) X K Q else K ((putL f pl a).put o.dst undef) X)) : PuO P ol Q E n L R a w u cv o := by
  refine ⟨fun ho f X0 X hX hR K hK => ?_⟩
  have ho' : ol.toArray[u]? = some o := by simpa using ho
  refine wpOp_step ho' fun K' hK' => ?_
  have h1 := h f X0 X hX ⟨hR⟩ K'
  rw [← hpl, ← put_sel] at h1
  refine (h1 ⟨hK' _ _ ?_⟩).out
  have : o.dst = dst ol.toArray u := by rw [dst, ho']; rfl
  rw [this]
  exact hK
/-- An operation of such a region. -/
inductive StepX (P : Program) (ol : List Oper) (Q : Exit → Act → World → Prop) (E : World → World → Prop) (n : Nat) (L AL : List Nat) (R : Nat → (Nat → Value) → World → Prop) (a : Act) (w : World) (u : Nat) (cv : Value) : Nat → Oper → Prop
  | step {i : Nat} {o : Oper} (hne : (i == u) = false) (h : StepO P ol Q E n L AL R a w i o) : StepX P ol Q E n L AL R a w u cv i o
  | pure {o : Oper} (h : PuO P ol Q E n L R a w u cv o) : StepX P ol Q E n L AL R a w u cv u o
/-- The store, and what is behind it. -/
inductive FinS (P : Program) (ol : List Oper) (Q : Exit → Act → World → Prop) (E : World → World → Prop) (s u : Nat) (cv : Value) (L AL : List Nat) (R : Nat → (Nat → Value) → World → Prop) (S : (Nat → Value) → World → Prop) (pl : List (Nat × Nat)) (a : Act) (w : World) : List Oper → Prop
  | intro {o : Oper} {l : List Oper}
    (hst : ∀ f X, E w X → Way (∀ j, (L.getD s 0).testBit j = true → R j (mask (fun i => L.getD i 0) j f) X) → Way (∀ j, (L.getD s 0).testBit j = true → AL.contains j = true → ∃ b, f j = .pointer (some ⟨b, 0, none⟩) ∧ b < X.heap.size) → ∀ K : Act → World → Prop, Way (∀ Y, S (mask (fun i => L.getD i 0) s f) Y → K (putL f pl a) Y) →
      Way (if Region.wanted o (yielded ol.toArray (putL f pl a).tmps) = true then Oper.wp P o (putL f pl a) X K Q else K ((putL f pl a).put o.dst undef) X))
    (htail : ∀ f Y, f u = cv → S (mask (fun i => L.getD i 0) s f) Y → Way (Chain P ol Q l (putL f pl a) Y)) : FinS P ol Q E s u cv L AL R S pl a w (o :: l)
theorem any_sto {E : World → World → Prop} (hE0 : ∀ w, E w w) (hE1 : ∀ a b c, E a b → E b c → E a c) (hE2 : ∀ a b, E a b → a.heap.size ≤ b.heap.size)
    {ol : List Oper} {a : Act} {w X0 : World} (hX0 : E w X0) (s u : Nat) (cv : Value) (L AL : List Nat) (R : Nat → (Nat → Value) → World → Prop) (S : (Nat → Value) → World → Prop) (hok : ok ol.toArray (fun i => L.getD i 0) (s + 1) = true) (hokS : okS ol.toArray (fun i => L.getD i 0) s u AL = true)
    (hRc : ∀ f X, R u f X ↔ f u = cv) (pl : List (Nat × Nat)) (hpl : sel ol.toArray (fun _ => true) (List.range (s + 1)) = pl) (hpl2 : sel ol.toArray (nd (fun i => L.getD i 0) s) (List.range (s + 1)) = pl)
    (hstep : AllOps (StepX P ol Q E (s + 1) L AL R a w u cv) (FinS P ol Q E s u cv L AL R S pl a w) 0 s ol) : wpAny P .any ol.toArray Q ol.toArray.size (Array.replicate ol.toArray.size false) a X0 := by
  have hF := ok.form hok
  unfold okS at hokS
  simp only [Bool.and_eq_true, decide_eq_true_eq, List.all_eq_true, List.mem_range, Bool.not_eq_true', Bool.or_eq_true, beq_iff_eq, Option.isNone_iff_eq_none] at hokS
  obtain ⟨⟨⟨⟨h1, h2⟩, h3⟩, h4⟩, h5⟩ := hokS
  have hss : s < ol.toArray.size := by have := hF.le; omega
  have hus : u < ol.length := by simp at hss; omega
  have hpure : PuO P ol Q E (s + 1) L R a w u cv ol[u] := by
    obtain ⟨o, g1, g2⟩ := hstep.out u h2
    rw [Nat.zero_add] at g2
    cases g2 with
    | step hne _ => simp at hne
    | pure h => rw [List.getElem?_eq_getElem hus] at g1; injection g1 with g1; rw [g1]; exact h
  have hpu := hpure.out (List.getElem?_eq_getElem hus)
  obtain ⟨o, l, hol, hst, htail⟩ : ∃ o l, ol.drop s = o :: l ∧ (∀ f X, E w X → Way (∀ j, (L.getD s 0).testBit j = true → R j (mask (fun i => L.getD i 0) j f) X) → Way (∀ j, (L.getD s 0).testBit j = true → AL.contains j = true → ∃ b, f j = .pointer (some ⟨b, 0, none⟩) ∧ b < X.heap.size) → ∀ K : Act → World → Prop, Way (∀ Y, S (mask (fun i => L.getD i 0) s f) Y → K (putL f pl a) Y) →
      Way (if Region.wanted o (yielded ol.toArray (putL f pl a).tmps) = true then Oper.wp P o (putL f pl a) X K Q else K ((putL f pl a).put o.dst undef) X)) ∧
    (∀ f Y, f u = cv → S (mask (fun i => L.getD i 0) s f) Y → Way (Chain P ol Q l (putL f pl a) Y)) := by
    have := hstep.end_
    generalize ol.drop s = d at this
    cases this with
    | intro hst htail => exact ⟨_, _, rfl, hst, htail⟩
  have hosl : s < ol.length := by simpa using hss
  rw [List.drop_eq_getElem_cons hosl] at hol
  injection hol with ho1 ho2
  subst ho1 ho2
  refine parS hE0 hE1 hE2 (R := fun j f X => ∀ Y, E X Y → R j f Y) (S := S) (cv := cv) (M := fun i => L.getD i 0) (AL := fun i => AL.contains i) (n := s + 1) (s := s) (u := u) (a := a) (w := w) hF rfl h1 h2 (fun j hj => h4 j hj) (fun k hk hne => (h5 k hk).resolve_left hne) (fun j _ f X h Y hY Z hZ => h Z (hE1 _ _ _ hY hZ))
    (fun i hi => ?_) (fun f X1 X hX hR K hK => hpu f X1 X hX (fun j hj => hR j hj X1 (hE0 _)) K hK) (fun f X h => (hRc _ _).1 (h X (hE0 _)) |> fun h => by simpa [mask] using h) (fun f X hX hR hal K hK => ?_) (fun f Y hfu hS => ?_) ol.toArray.size _ (fun _ => undef) a X0 (by simp) (fun j o _ h => (by rw [none_] at h; cases h)) (fun j h => (by rw [none_] at h; cases h)) ?_ ⟨?_, hX0, fun j _ h => (by rw [none_] at h; cases h), fun j _ h => (by rw [none_] at h; cases h), fun j k _ _ h => (by rw [none_] at h; cases h)⟩
  · by_cases hiu : i = u
    · subst hiu
      intro f X hX hR K hK
      refine hpu f X X hX (fun j hj => hR j hj X (hE0 _)) K (hK _ cv X rfl (hE0 _) (by show (if AL.contains i = true then _ else True); rw [if_neg (by rw [h3]; decide)]; trivial) (fun Y _ Z _ => (hRc _ _).2 (by simp [mask, upd])))
    · obtain ⟨o, g1, g2⟩ := hstep.out i hi
      rw [Nat.zero_add] at g2
      cases g2 with
      | step hne h =>
        intro f X hX hR K hK
        exact h.out g1 f X hX (fun j hj => hR j hj X (hE0 _)) K (fun a' v X' ha hE hA hR' => hK a' v X' ha hE hA (fun Y hY Z hZ => hR' Z (hE1 _ _ _ hY hZ)))
      | pure h => exact absurd rfl hiu
  · have ho' : ol.toArray[s]? = some ol[s] := by simp [hosl]
    refine wpOp_step ho' fun K' hK' => ?_
    rw [put_sel, hpl2] at hK ⊢
    exact (hst f X hX ⟨fun j hj => hR j hj X (hE0 _)⟩ ⟨hal⟩ K' ⟨fun Y hS => hK' _ _ (hK Y hS)⟩).out
  · rw [put_sel, hpl]
    exact Chain.sound hF (ol.toArray.size - (s + 1)) (s + 1) _ Y (Nat.le_refl _) (by omega) (htail f Y hfu hS).out
  · have : ∀ n, cnt (fun j => (Array.replicate ol.toArray.size false).getD j false) n = 0 := fun n => by
      induction n with
      | zero => rfl
      | succ n ih => rw [cnt, ih, none_]; rfl
    rw [this]; rfl
  · have : ∀ (l : List Nat) (a : Act), put ol.toArray (fun j => (Array.replicate ol.toArray.size false).getD j false) (fun _ => undef) l a = a := fun l => by
      induction l with
      | nil => intro a; rfl
      | cons j l ih => intro a; rw [put, none_]; exact ih _
    exact (this _ _).symm
theorem sto_end {K : Act → World → Prop} {S : World → Prop} {A b : Act} {Y : World} (hK : Way (∀ Y, S Y → K A Y)) (he : b = A) (hS : S Y) : K b Y := he ▸ hK.out Y hS
theorem pu_end {K : Act → World → Prop} {A b : Act} {X : World} (hK : Way (K A X)) (he : b = A) : K b X := he ▸ hK.out
/-- A region that draws its order, and stores at last what it has made. -/
theorem region_sto {ol : List Oper} {id : Nat} {a : Act} {w : World} (hm : P.follows .mixedOrders = true) (s u : Nat) (cv : Value) (L AL : List Nat) (R : Nat → (Nat → Value) → World → Prop) (S : (Nat → Value) → World → Prop) (hok : ok ol.toArray (fun i => L.getD i 0) (s + 1) = true) (hokS : okS ol.toArray (fun i => L.getD i 0) s u AL = true)
    (hRc : ∀ f X, R u f X ↔ f u = cv) (pl : List (Nat × Nat)) (hpl : sel ol.toArray (fun _ => true) (List.range (s + 1)) = pl) (hpl2 : sel ol.toArray (nd (fun i => L.getD i 0) s) (List.range (s + 1)) = pl)
    (hstep : AllOps (StepX P ol Q Ext (s + 1) L AL R a w u cv) (FinS P ol Q Ext s u cv L AL R S pl a w) 0 s ol) : (Code.region id ol.toArray true).wp P Q a w :=
  wp_region_any hm (any_sto Ext.refl (fun _ _ _ => Ext.trans) (fun _ _ => Ext.bsize) (Ext.drew w) s u cv L AL R S hok hokS hRc pl hpl hpl2 hstep)
end
end Par
end Go.Proofs.Ytldhmjfjbalakaa

namespace Go.Proofs.Ytldhmjfjbalakaa

/-- A function at a number that is reckoned first. -/
def frc {α : Type} (n : Nat) (f : Nat → α) : α := Nat.rec (f 0) (fun m _ => f (m + 1)) n
theorem frc_eq {α : Type} (n : Nat) (f : Nat → α) : frc n f = f n := by cases n <;> rfl
/-- The reference's steps, each number reckoned as it comes: from the bits behind. -/
def ordS (M qx qy E : Nat) : Nat → (Nat → Nat → Nat → Bool) → Bool
  | 0, f => f 0 0 0
  | k + 1, f => ordS M qx qy E k fun x y z =>
    frc (twP M x y z).1 fun x1 => frc (twP M x y z).2.1 fun y1 => frc (twP M x y z).2.2 fun z1 =>
      if (bitAt E k).2 = 1 then frc (mixP M x1 y1 z1 qx qy).1 fun x2 => frc (mixP M x1 y1 z1 qx qy).2.1 fun y2 => frc (mixP M x1 y1 z1 qx qy).2.2 fun z2 => f x2 y2 z2
      else f x1 y1 z1
theorem ordS_eq (M qx qy E : Nat) : ∀ k f, ordS M qx qy E k f = f (rmS M qx qy E k).1 (rmS M qx qy E k).2.1 (rmS M qx qy E k).2.2
  | 0, f => rfl
  | k + 1, f => by
    simp only [ordS, rmS]
    rw [ordS_eq M qx qy E k]
    simp only [frc_eq]
    split <;> rfl
theorem ord_of {M x y n : Nat} (h : ordS M x y n (nbits n) (fun _ _ z => z == 0) = true) : rmulP M false x y n = none := by
  rw [ordS_eq] at h
  unfold rmulP rdown
  rw [if_neg (by decide), if_pos (eq_of_beq h)]
theorem nbits_lim {x n : Nat} (h : x < 18446744073709551616 ^ n) : nbits x ≤ 64 * n := nbits_le (by rw [Nat.pow_mul]; exact h)
end Go.Proofs.Ytldhmjfjbalakaa

namespace Go.Proofs.Ytldhmjfjbalakaa

theorem IsC.base_on {c : Int} {C : Crv} (h : IsC c C) : onQ C false (val 18446744073709551616 C.xl) (val 18446744073709551616 C.yl) = true := by
  rcases h with ⟨_, rfl⟩ | ⟨_, rfl⟩ <;> kernel_rfl
theorem ord256 : ordS 115792089210356248762697446949407573530086143415290314195533631308867097853951 48439561293906451759052585252797914202762949526041747995844080717082404635286 36134250956749795798585127919587881956611106672985015071877198253568414405109 115792089210356248762697446949407573529996955224135760342422259061068512044369 256 (fun _ _ z => z == 0) = true := by kernel_rfl
theorem ord384 : ordS 39402006196394479212279040100143613805079739270465446667948293404245721771496870329047266088258938001861606973112319 26247035095799689268623156744566981891852923491109213387815615900925518854738050089022388053975719786650872476732087 8325710961489029985546751289520108179287853048861315594709205902480503199884419224438643760392947333078086511627871 39402006196394479212279040100143613805079739270465446667946905279627659399113263569398956308152294913554433653942643 384 (fun _ _ z => z == 0) = true := by kernel_rfl
theorem IsC.ord {c : Int} {C : Crv} (h : IsC c C) : rmulP C.M false (val 18446744073709551616 C.xl) (val 18446744073709551616 C.yl) (val 18446744073709551616 C.nl) = none := by
  refine ord_of ?_
  rcases h with ⟨_, rfl⟩ | ⟨_, rfl⟩
  · have e1 : c256.M = 115792089210356248762697446949407573530086143415290314195533631308867097853951 := by decide +kernel
    have e2 : val 18446744073709551616 c256.xl = 48439561293906451759052585252797914202762949526041747995844080717082404635286 := by decide +kernel
    have e3 : val 18446744073709551616 c256.yl = 36134250956749795798585127919587881956611106672985015071877198253568414405109 := by decide +kernel
    have e4 : val 18446744073709551616 c256.nl = 115792089210356248762697446949407573529996955224135760342422259061068512044369 := by decide +kernel
    have e5 : nbits 115792089210356248762697446949407573529996955224135760342422259061068512044369 = 256 := by decide +kernel
    rw [e1, e2, e3, e4, e5]
    exact ord256
  · have e1 : c384.M = 39402006196394479212279040100143613805079739270465446667948293404245721771496870329047266088258938001861606973112319 := by decide +kernel
    have e2 : val 18446744073709551616 c384.xl = 26247035095799689268623156744566981891852923491109213387815615900925518854738050089022388053975719786650872476732087 := by decide +kernel
    have e3 : val 18446744073709551616 c384.yl = 8325710961489029985546751289520108179287853048861315594709205902480503199884419224438643760392947333078086511627871 := by decide +kernel
    have e4 : val 18446744073709551616 c384.nl = 39402006196394479212279040100143613805079739270465446667946905279627659399113263569398956308152294913554433653942643 := by decide +kernel
    have e5 : nbits 39402006196394479212279040100143613805079739270465446667946905279627659399113263569398956308152294913554433653942643 = 384 := by decide +kernel
    rw [e1, e2, e3, e4, e5]
    exact ord384
theorem IsC.ord_bits {c : Int} {C : Crv} (h : IsC c C) : nbits (val 18446744073709551616 C.nl) ≤ 4096 := by
  rcases h with ⟨_, rfl⟩ | ⟨_, rfl⟩ <;> decide +kernel
end Go.Proofs.Ytldhmjfjbalakaa

namespace Go.Proofs.Ytldhmjfjbalakaa
open Go.RowKit

/-- The reference's point: whether it is nowhere, and two numbers. -/
def RPv (w : World) (v : Value) (bi : Bool) (x y : Nat) : Prop := ∃ (A A' : Option Addr) (c c' : Nat), v = .agg #[.bool bi, .slice A (digs 4294967296 x).length c, .slice A' (digs 4294967296 y).length c'] ∧ RU w A c (digs 4294967296 x) ∧ RU w A' c' (digs 4294967296 y)
theorem RPv.ext {w X : World} {v : Value} {bi : Bool} {x y : Nat} (h : RPv w v bi x y) (hE : Ext w X) : RPv X v bi x y := by
 obtain ⟨A, A', c, c', rfl, h1, h2⟩ := h
 exact ⟨A, A', c, c', rfl, RN.up h1 hE, RN.up h2 hE⟩
theorem RPv.inf_ (w : World) : RPv w infV true 0 0 := ⟨none, none, 0, 0, by rw [digs_zero]; rfl, RN.nil0 _, RN.nil0 _⟩
theorem RPU.pv {w : World} {v : Value} {o : Option (Nat × Nat)} (h : RPU w v o) : RPv w v o.isNone (o.elim 0 (·.1)) (o.elim 0 (·.2)) := by
 cases o with
 | none => cases h; exact RPv.inf_ w
 | some p =>
  obtain ⟨A, c, A', c', rfl, h1, h2⟩ := h
  exact ⟨A, A', c, c', rfl, h1, h2⟩
/-- The point's list of limbs is a number's. -/
def APn (w : World) (v : Value) (bi : Bool) (a b : List Nat) : Prop := ∃ (A A' : Option Addr) (c c' : Nat), v = .agg #[.bool bi, .slice A a.length c, .slice A' b.length c'] ∧ RU w A c a ∧ RU w A' c' b
theorem APn.ext {w X : World} {v : Value} {bi : Bool} {a b : List Nat} (h : APn w v bi a b) (hE : Ext w X) : APn X v bi a b := by
 obtain ⟨A, A', c, c', rfl, h1, h2⟩ := h
 exact ⟨A, A', c, c', rfl, RN.up h1 hE, RN.up h2 hE⟩
theorem APn.pt {w : World} {v : Value} {bi : Bool} {a b : List Nat} (h : APn w v bi a b) : APt w v bi (val 18446744073709551616 a) (val 18446744073709551616 b) := by
 obtain ⟨A, A', c, c', rfl, h1, h2⟩ := h
 exact ⟨A, A', c, c', a, b, rfl, h1, h2, rfl, rfl⟩
theorem APt.pn {w : World} {v : Value} {bi : Bool} {x y : Nat} (h : APt w v bi x y) : ∃ a b, APn w v bi a b ∧ val 18446744073709551616 a = x ∧ val 18446744073709551616 b = y := by
 obtain ⟨A, A', c, c', a, b, rfl, h1, h2, h3, h4⟩ := h
 exact ⟨a, b, ⟨A, A', c, c', rfl, h1, h2⟩, h3, h4⟩
theorem PtV.pn {w : World} {base : Nat} {v : Value} {o : Option (Nat × Nat)} (h : PtV w base v o) : APn w v o.isNone (digs 18446744073709551616 (o.elim 0 (·.1))) (digs 18446744073709551616 (o.elim 0 (·.2))) := by
 cases o with
 | none =>
  cases h
  exact ⟨none, none, 0, 0, by show infV = .agg #[.bool true, .slice none (digs 18446744073709551616 0).length 0, .slice none (digs 18446744073709551616 0).length 0]; rw [digs_zero]; rfl, by show RU w none 0 (digs 18446744073709551616 0); rw [digs_zero]; exact RN.nil_ _ _, by show RU w none 0 (digs 18446744073709551616 0); rw [digs_zero]; exact RN.nil_ _ _⟩
 | some p =>
  obtain ⟨A, c, A', c', rfl, h1, h2⟩ := h
  exact ⟨A, A', c, c', rfl, h1.ru, h2.ru⟩
set_option maxRecDepth 100000 in
set_option maxHeartbeats 8000000 in
theorem ris_n {p r : Value} {bi bj : Bool} {a b : List Nat} {u v : Nat} (w : World) (hp : APn w p bi a b) (hr : RPv w r bj u v) : Calls Try.prog 17 #[p, r] w fun e w' => e = .returned (.bool (bi == bj && decide (a = digs 18446744073709551616 u) && decide (b = digs 18446744073709551616 v))) ∧ Ext w w' := by
 obtain ⟨A, A', c, c', rfl, ha, hb⟩ := hp
 obtain ⟨B, B', k, k', rfl, hu, hv⟩ := hr
 obtain ⟨W0, hW0⟩ : ∃ W0, W0 = (w.alloc (.cells #[.bool bi, .slice A a.length c, .slice A' b.length c'] 27)).alloc (.cells #[.bool bj, .slice B (digs 4294967296 u).length k, .slice B' (digs 4294967296 v).length k'] 34) := ⟨_, rfl⟩
 obtain ⟨q, hq⟩ : ∃ q, w.heap.size = q := ⟨_, rfl⟩
 have hE0 : Ext w W0 := by rw [hW0]; exact (Ext.alloc _ _).trans (Ext.alloc _ _)
 obtain ⟨h1, h2, hz0⟩ := two_at2 w (.cells #[.bool bi, .slice A a.length c, .slice A' b.length c'] 27) (.cells #[.bool bj, .slice B (digs 4294967296 u).length k, .slice B' (digs 4294967296 v).length k'] 34)
 rw [← hW0, hq] at h1 h2 hz0
 have p0 := blk_cell h1 0
 have p1 := blk_cell h1 1
 have p2 := blk_cell h1 2
 have r0 := blk_cell h2 0
 have r1 := blk_cell h2 1
 have r2 := blk_cell h2 2
 simp only [List.getElem?_toArray, List.getElem?_cons_zero, List.getElem?_cons_succ] at p0 p1 p2 r0 r1 r2
 have Ha := Lib.hid (RN.up ha hE0)
 have Hb := Lib.hid (RN.up hb hE0)
 have Hu := Lib.hid (RN.up hu hE0)
 have Hv := Lib.hid (RN.up hv hE0)
 have HE0 := Lib.hid hE0
 obtain ⟨z1, hz1⟩ : ∃ z, decide (a = digs 18446744073709551616 u) = z := ⟨_, rfl⟩
 obtain ⟨z2, hz2⟩ : ∃ z, decide (b = digs 18446744073709551616 v) = z := ⟨_, rfl⟩
 rw [hz1, hz2]
 have Hz1 := Lib.hid hz1
 have Hz2 := Lib.hid hz2
 obtain ⟨z0, hz⟩ : ∃ z, (bi == bj) = z := ⟨_, rfl⟩
 rw [hz]
 have hbeq : (bi == bj) = z0 := hz
 have Hz := Lib.hid hz
 clear ha hb hu hv hE0 hz0 h1 h2 hz1 hz2 hz
 cases z0
 case false =>
  go_enter Try.func17, Try.ntmps17
  go_upto_region 1 with fail
  rw [← hW0]
  have Hq := Lib.hid hq
  clear hW0 hq
  refine Par.region_txt 20 [0, 1, 0, 4, 15, 31, 63, 127, 63, 319, 1023, 2047, 4095, 8191, 16383, 8191, 40959, 131071, 262143, 524287] [] (fun j f X => match j with
   | 0 => f 0 = .pointer (some ⟨q, 0, none⟩)
   | 1 => f 1 = .bool bi
   | 2 => f 2 = .pointer (some ⟨q + 1, 0, none⟩)
   | 3 => f 3 = .bool bj
   | 4 => f 4 = .bool false
   | 5 => f 5 = .bool false
   | 6 => f 6 = undef
   | 7 => f 7 = undef
   | 8 => f 8 = undef
   | 9 => f 9 = undef
   | 10 => f 10 = undef
   | 11 => f 11 = .bool false
   | 12 => f 12 = .bool false
   | 13 => f 13 = undef
   | 14 => f 14 = undef
   | 15 => f 15 = undef
   | 16 => f 16 = undef
   | 17 => f 17 = undef
   | 18 => f 18 = .bool false
   | 19 => f 19 = .bool false
   | _ => True) (by kernel_rfl) [(5, 0), (6, 1), (7, 2), (8, 3), (9, 4), (10, 5), (11, 6), (12, 7), (13, 8), (14, 9), (15, 10), (16, 11), (17, 12), (18, 13), (19, 14), (20, 15), (21, 16), (22, 17), (23, 18), (4, 19)] (by kernel_rfl) ?_
  refine Par.v0 1 19 ?_
  refine Par.ld1 2 18 0 p0 ?_
  refine Par.v0 3 17 ?_
  refine Par.ld1 4 16 2 r0 ?_
  refine Par.S 5 15 [(5, 0), (6, 1), (7, 2), (8, 3)] (fun f X hX hR K hK => ?_) ?_
  · have e1 : f 1 = _ := hR.out 1 rfl
    have e3 : f 3 = _ := hR.out 3 rfl
    have hbe := Hz.out
    simp only [yA, yB, yC, yD, yE, e1, e3]
    refine ⟨?_⟩
    go_simp
    exact Par.k hK (s := by simp only [yA, yB, yC, yD, yE, e1, e3])
  refine Par.v1 6 14 4 ?_
  refine Par.sk 7 13 5 ?_
  refine Par.sk 8 12 5 ?_
  refine Par.sk 9 11 5 ?_
  refine Par.sk 10 10 5 ?_
  refine Par.sk 11 9 5 ?_
  refine Par.v2 12 8 5 10 ?_
  refine Par.v1 13 7 11 ?_
  refine Par.sk 14 6 12 ?_
  refine Par.sk 15 5 12 ?_
  refine Par.sk 16 4 12 ?_
  refine Par.sk 17 3 12 ?_
  refine Par.sk 18 2 12 ?_
  refine Par.v2 19 1 12 17 ?_
  refine Par.v1 20 0 18 ?_
  refine Par.AllOps.fin ⟨fun f X hX hR hal hap => ?_⟩
  have e19 : f 19 = _ := hR 19 (by decide)
  simp only [yA, yB, yD, yE, e19]
  clear hR hal hap e19
  refine Par.Chain.done ?_
  go_wp2
  go_ret
  exact ⟨rfl, HE0.out.trans hX⟩
 case true =>
  cases z1
  case false =>
   go_enter Try.func17, Try.ntmps17
   go_upto_region 1 with fail
   rw [← hW0]
   have Hq := Lib.hid hq
   clear hW0 hq
   refine Par.region_txt 20 [0, 1, 0, 4, 15, 31, 63, 127, 63, 319, 1023, 2047, 4095, 8191, 16383, 8191, 40959, 131071, 262143, 524287] [] (fun j f X => match j with
    | 0 => f 0 = .pointer (some ⟨q, 0, none⟩)
    | 1 => f 1 = .bool bi
    | 2 => f 2 = .pointer (some ⟨q + 1, 0, none⟩)
    | 3 => f 3 = .bool bj
    | 4 => f 4 = .bool true
    | 5 => f 5 = .bool true
    | 6 => f 6 = .pointer (some ⟨q, 1, none⟩)
    | 7 => f 7 = .slice A a.length c
    | 8 => f 8 = .pointer (some ⟨q + 1, 1, none⟩)
    | 9 => f 9 = .slice B (digs 4294967296 u).length k
    | 10 => f 10 = .bool false
    | 11 => f 11 = .bool false
    | 12 => f 12 = .bool false
    | 13 => f 13 = undef
    | 14 => f 14 = undef
    | 15 => f 15 = undef
    | 16 => f 16 = undef
    | 17 => f 17 = undef
    | 18 => f 18 = .bool false
    | 19 => f 19 = .bool false
    | _ => True) (by kernel_rfl) [(5, 0), (6, 1), (7, 2), (8, 3), (9, 4), (10, 5), (11, 6), (12, 7), (13, 8), (14, 9), (15, 10), (16, 11), (17, 12), (18, 13), (19, 14), (20, 15), (21, 16), (22, 17), (23, 18), (4, 19)] (by kernel_rfl) ?_
   refine Par.v0 1 19 ?_
   refine Par.ld1 2 18 0 p0 ?_
   refine Par.v0 3 17 ?_
   refine Par.ld1 4 16 2 r0 ?_
   refine Par.S 5 15 [(5, 0), (6, 1), (7, 2), (8, 3)] (fun f X hX hR K hK => ?_) ?_
   · have e1 : f 1 = _ := hR.out 1 rfl
     have e3 : f 3 = _ := hR.out 3 rfl
     have hbe := Hz.out
     simp only [yA, yB, yC, yD, yE, e1, e3]
     refine ⟨?_⟩
     go_simp
     exact Par.k hK (s := by simp only [yA, yB, yC, yD, yE, e1, e3])
   refine Par.v1 6 14 4 ?_
   refine Par.v1 7 13 5 ?_
   refine Par.S 8 12 [(5, 0), (6, 1), (7, 2), (8, 3), (9, 4), (10, 5), (11, 6), (13, 8), (14, 9)] (fun f X hX hR K hK => ?_) ?_
   · have e5 : f 5 = _ := hR.out 5 rfl
     have e6 : f 6 = _ := hR.out 6 rfl
     have x0 := hX.cell p1
     simp only [yA, yB, yC, yD, yE, e5, e6]
     refine ⟨Par.want (by kernel_rfl) ?_⟩
     go_simp
     exact Par.k hK (s := by simp only [yA, yB, yC, yD, yE, e5, e6])
   refine Par.v1 9 11 5 ?_
   refine Par.S 10 10 [(5, 0), (6, 1), (7, 2), (8, 3), (9, 4), (10, 5), (11, 6), (12, 7), (13, 8)] (fun f X hX hR K hK => ?_) ?_
   · have e5 : f 5 = _ := hR.out 5 rfl
     have e8 : f 8 = _ := hR.out 8 rfl
     have x0 := hX.cell r1
     simp only [yA, yB, yC, yD, yE, e5, e8]
     refine ⟨Par.want (by kernel_rfl) ?_⟩
     go_simp
     exact Par.k hK (s := by simp only [yA, yB, yC, yD, yE, e5, e8])
   refine Par.S 11 9 [(5, 0), (6, 1), (7, 2), (8, 3), (9, 4), (10, 5), (11, 6), (12, 7), (13, 8), (14, 9)] (fun f X hX hR K hK => ?_) ?_
   · have e5 : f 5 = _ := hR.out 5 rfl
     have e7 : f 7 = _ := hR.out 7 rfl
     have e9 : f 9 = _ := hR.out 9 rfl
     simp only [yA, yB, yC, yD, yE, e5, e7, e9]
     refine ⟨Par.want (by kernel_rfl) ?_⟩
     go_simp
     refine (is_bool _ _ A B c k a u X (RN.up Ha.out hX) (RN.up Hu.out hX) (fun _ h => h) (fun _ h => h)).mono ?_
     rw [Hz1.out]
     rintro e w2 ⟨rfl, hB⟩
     exact hK.out _ _ _ (by simp only [yA, yB, yC, yD, yE, e5, e7, e9]) hB trivial (fun _ _ => rfl)
   refine Par.v2 12 8 5 10 ?_
   refine Par.v1 13 7 11 ?_
   refine Par.sk 14 6 12 ?_
   refine Par.sk 15 5 12 ?_
   refine Par.sk 16 4 12 ?_
   refine Par.sk 17 3 12 ?_
   refine Par.sk 18 2 12 ?_
   refine Par.v2 19 1 12 17 ?_
   refine Par.v1 20 0 18 ?_
   refine Par.AllOps.fin ⟨fun f X hX hR hal hap => ?_⟩
   have e19 : f 19 = _ := hR 19 (by decide)
   simp only [yA, yB, yD, yE, e19]
   clear hR hal hap e19
   refine Par.Chain.done ?_
   go_wp2
   go_ret
   exact ⟨rfl, HE0.out.trans hX⟩
  case true =>
   go_enter Try.func17, Try.ntmps17
   go_upto_region 1 with fail
   rw [← hW0]
   have Hq := Lib.hid hq
   clear hW0 hq
   refine Par.region_txt 20 [0, 1, 0, 4, 15, 31, 63, 127, 63, 319, 1023, 2047, 4095, 8191, 16383, 8191, 40959, 131071, 262143, 524287] [] (fun j f X => match j with
    | 0 => f 0 = .pointer (some ⟨q, 0, none⟩)
    | 1 => f 1 = .bool bi
    | 2 => f 2 = .pointer (some ⟨q + 1, 0, none⟩)
    | 3 => f 3 = .bool bj
    | 4 => f 4 = .bool true
    | 5 => f 5 = .bool true
    | 6 => f 6 = .pointer (some ⟨q, 1, none⟩)
    | 7 => f 7 = .slice A a.length c
    | 8 => f 8 = .pointer (some ⟨q + 1, 1, none⟩)
    | 9 => f 9 = .slice B (digs 4294967296 u).length k
    | 10 => f 10 = .bool true
    | 11 => f 11 = .bool true
    | 12 => f 12 = .bool true
    | 13 => f 13 = .pointer (some ⟨q, 2, none⟩)
    | 14 => f 14 = .slice A' b.length c'
    | 15 => f 15 = .pointer (some ⟨q + 1, 2, none⟩)
    | 16 => f 16 = .slice B' (digs 4294967296 v).length k'
    | 17 => f 17 = .bool z2
    | 18 => f 18 = .bool z2
    | 19 => f 19 = .bool z2
    | _ => True) (by kernel_rfl) [(5, 0), (6, 1), (7, 2), (8, 3), (9, 4), (10, 5), (11, 6), (12, 7), (13, 8), (14, 9), (15, 10), (16, 11), (17, 12), (18, 13), (19, 14), (20, 15), (21, 16), (22, 17), (23, 18), (4, 19)] (by kernel_rfl) ?_
   refine Par.v0 1 19 ?_
   refine Par.ld1 2 18 0 p0 ?_
   refine Par.v0 3 17 ?_
   refine Par.ld1 4 16 2 r0 ?_
   refine Par.S 5 15 [(5, 0), (6, 1), (7, 2), (8, 3)] (fun f X hX hR K hK => ?_) ?_
   · have e1 : f 1 = _ := hR.out 1 rfl
     have e3 : f 3 = _ := hR.out 3 rfl
     have hbe := Hz.out
     simp only [yA, yB, yC, yD, yE, e1, e3]
     refine ⟨?_⟩
     go_simp
     exact Par.k hK (s := by simp only [yA, yB, yC, yD, yE, e1, e3])
   refine Par.v1 6 14 4 ?_
   refine Par.v1 7 13 5 ?_
   refine Par.S 8 12 [(5, 0), (6, 1), (7, 2), (8, 3), (9, 4), (10, 5), (11, 6), (13, 8), (14, 9)] (fun f X hX hR K hK => ?_) ?_
   · have e5 : f 5 = _ := hR.out 5 rfl
     have e6 : f 6 = _ := hR.out 6 rfl
     have x0 := hX.cell p1
     simp only [yA, yB, yC, yD, yE, e5, e6]
     refine ⟨Par.want (by kernel_rfl) ?_⟩
     go_simp
     exact Par.k hK (s := by simp only [yA, yB, yC, yD, yE, e5, e6])
   refine Par.v1 9 11 5 ?_
   refine Par.S 10 10 [(5, 0), (6, 1), (7, 2), (8, 3), (9, 4), (10, 5), (11, 6), (12, 7), (13, 8)] (fun f X hX hR K hK => ?_) ?_
   · have e5 : f 5 = _ := hR.out 5 rfl
     have e8 : f 8 = _ := hR.out 8 rfl
     have x0 := hX.cell r1
     simp only [yA, yB, yC, yD, yE, e5, e8]
     refine ⟨Par.want (by kernel_rfl) ?_⟩
     go_simp
     exact Par.k hK (s := by simp only [yA, yB, yC, yD, yE, e5, e8])
   refine Par.S 11 9 [(5, 0), (6, 1), (7, 2), (8, 3), (9, 4), (10, 5), (11, 6), (12, 7), (13, 8), (14, 9)] (fun f X hX hR K hK => ?_) ?_
   · have e5 : f 5 = _ := hR.out 5 rfl
     have e7 : f 7 = _ := hR.out 7 rfl
     have e9 : f 9 = _ := hR.out 9 rfl
     simp only [yA, yB, yC, yD, yE, e5, e7, e9]
     refine ⟨Par.want (by kernel_rfl) ?_⟩
     go_simp
     refine (is_bool _ _ A B c k a u X (RN.up Ha.out hX) (RN.up Hu.out hX) (fun _ h => h) (fun _ h => h)).mono ?_
     rw [Hz1.out]
     rintro e w2 ⟨rfl, hB⟩
     exact hK.out _ _ _ (by simp only [yA, yB, yC, yD, yE, e5, e7, e9]) hB trivial (fun _ _ => rfl)
   refine Par.v2 12 8 5 10 ?_
   refine Par.v1 13 7 11 ?_
   refine Par.v1 14 6 12 ?_
   refine Par.S 15 5 [(5, 0), (6, 1), (7, 2), (8, 3), (9, 4), (10, 5), (11, 6), (12, 7), (13, 8), (14, 9), (15, 10), (16, 11), (17, 12), (18, 13), (20, 15), (21, 16)] (fun f X hX hR K hK => ?_) ?_
   · have e12 : f 12 = _ := hR.out 12 rfl
     have e13 : f 13 = _ := hR.out 13 rfl
     have x0 := hX.cell p2
     simp only [yA, yB, yC, yD, yE, e12, e13]
     refine ⟨Par.want (by kernel_rfl) ?_⟩
     go_simp
     exact Par.k hK (s := by simp only [yA, yB, yC, yD, yE, e12, e13])
   refine Par.v1 16 4 12 ?_
   refine Par.S 17 3 [(5, 0), (6, 1), (7, 2), (8, 3), (9, 4), (10, 5), (11, 6), (12, 7), (13, 8), (14, 9), (15, 10), (16, 11), (17, 12), (18, 13), (19, 14), (20, 15)] (fun f X hX hR K hK => ?_) ?_
   · have e12 : f 12 = _ := hR.out 12 rfl
     have e15 : f 15 = _ := hR.out 15 rfl
     have x0 := hX.cell r2
     simp only [yA, yB, yC, yD, yE, e12, e15]
     refine ⟨Par.want (by kernel_rfl) ?_⟩
     go_simp
     exact Par.k hK (s := by simp only [yA, yB, yC, yD, yE, e12, e15])
   refine Par.S 18 2 [(5, 0), (6, 1), (7, 2), (8, 3), (9, 4), (10, 5), (11, 6), (12, 7), (13, 8), (14, 9), (15, 10), (16, 11), (17, 12), (18, 13), (19, 14), (20, 15), (21, 16)] (fun f X hX hR K hK => ?_) ?_
   · have e12 : f 12 = _ := hR.out 12 rfl
     have e14 : f 14 = _ := hR.out 14 rfl
     have e16 : f 16 = _ := hR.out 16 rfl
     simp only [yA, yB, yC, yD, yE, e12, e14, e16]
     refine ⟨Par.want (by kernel_rfl) ?_⟩
     go_simp
     refine (is_bool _ _ A' B' c' k' b v X (RN.up Hb.out hX) (RN.up Hv.out hX) (fun _ h => h) (fun _ h => h)).mono ?_
     rw [Hz2.out]
     rintro e w2 ⟨rfl, hB⟩
     exact hK.out _ _ _ (by simp only [yA, yB, yC, yD, yE, e12, e14, e16]) hB trivial (fun _ _ => rfl)
   refine Par.v2 19 1 12 17 ?_
   refine Par.v1 20 0 18 ?_
   refine Par.AllOps.fin ⟨fun f X hX hR hal hap => ?_⟩
   have e19 : f 19 = _ := hR 19 (by decide)
   simp only [yA, yB, yD, yE, e19]
   clear hR hal hap e19
   refine Par.Chain.done ?_
   go_wp2
   go_ret
   exact ⟨rfl, HE0.out.trans hX⟩
end Go.Proofs.Ytldhmjfjbalakaa

namespace Go.Proofs.Ytldhmjfjbalakaa
open Go.RowKit

theorem RS.of_blk {w : World} {g : Nat} {l : List Nat} {c : Nat} (h : Blk w g l) (hc : l.length ≤ c) (hc' : c ≤ maxLen) : RS w (fun _ => True) 1 (some ⟨g, 0, none⟩) l.length c (nts l) :=
  ⟨hc, hc', by simp [nts], fun hn => ⟨_, rfl, trivial, fun j u hu => by
    have hj : j < l.length := by have := (List.getElem?_eq_some_iff.1 hu).1; simpa [nts] using this
    have := h.cell (i := j) hj
    rw [nts_get hj] at hu
    injection hu with hu
    subst hu
    rw [add_blk]
    exact this⟩⟩
end Go.Proofs.Ytldhmjfjbalakaa

namespace Go.Proofs.Ytldhmjfjbalakaa
open Go.RowKit

set_option maxRecDepth 100000 in
set_option maxHeartbeats 4000000 in
theorem rfrom_n {p : Value} {bi : Bool} {a b : List Nat} (w : World) (hp : APn w p bi a b) (hla : a.length < 100000) (hlb : b.length < 100000) : Calls Try.prog 14 #[p] w fun e w' => ∃ o, e = .returned o ∧
 RPv w' o bi (if bi then 0 else val 18446744073709551616 a) (if bi then 0 else val 18446744073709551616 b) ∧ Ext w w' := by
 obtain ⟨A, A', ca, cb, rfl, hx, hy⟩ := hp
 obtain ⟨W0, hW0⟩ : ∃ W0, W0 = (w.alloc (.cells #[.bool bi, .slice A a.length ca, .slice A' b.length cb] 27)).alloc (.cells #[.bool false, .slice none 0 0, .slice none 0 0] 34) := ⟨_, rfl⟩
 obtain ⟨q, hq⟩ : ∃ q, w.heap.size = q := ⟨_, rfl⟩
 have hE0 : Ext w W0 := by rw [hW0]; exact (Ext.alloc _ _).trans (Ext.alloc _ _)
 obtain ⟨h1, h2, hz0⟩ := two_at2 w (.cells #[.bool bi, .slice A a.length ca, .slice A' b.length cb] 27) (.cells #[.bool false, .slice none 0 0, .slice none 0 0] 34)
 rw [← hW0, hq] at h1 h2 hz0
 have p0 := blk_cell h1 0
 have p1 := blk_cell h1 1
 have p2 := blk_cell h1 2
 simp only [List.getElem?_toArray, List.getElem?_cons_zero, List.getElem?_cons_succ] at p0 p1 p2
 have Hx := Lib.hid (RN.up hx hE0)
 have Hy := Lib.hid (RN.up hy hE0)
 have HE0 := Lib.hid hE0
 clear hx hy hE0 hz0 h1
 cases bi
 case true =>
  go_enter Try.func14, Try.ntmps14
  go_upto_region 1 with fail
  rw [← hW0]
  have Hq := Lib.hid hq
  clear hW0 hq
  go_upto_region 2 with fail
  refine Par.region_txt 1 [0, 1] [] (fun j f X => match j with
   | 0 => f 0 = .agg #[.bool true, .slice none 0 0, .slice none 0 0]
   | _ => True) (by kernel_rfl) [(5, 0)] (by kernel_rfl) ?_
  refine Par.v0 1 0 ?_
  refine Par.AllOps.fin ⟨fun f X hX hR hal hap => ?_⟩
  have e0 : f 0 = _ := hR 0 (by decide)
  simp only [yA, yB, yD, yE, e0]
  clear hR hal hap e0
  refine Par.Chain.next (fun K hK => ⟨Par.want (by kernel_rfl) (wp_storeV (cs' := #[.bool true, .slice none 0 0, .slice none 0 0]) (t := 34) 34 (.tmp 2) (.tmp 5) rfl rfl rfl rfl (hX.at_ h2) infoRP rfl (pt_one _ _ _ _ _ _ _) (fun Y hY1 hY2 hY3 => hK.out _ _ ?_))⟩)
  refine Par.Chain.done ?_
  go_wp2
  exact end_rpt rfl rfl rfl hY1 ⟨_, rfl, RPv.inf_ _, hY2.ext (HE0.out.trans hX) (by have := Hq.out; omega)⟩
 case false =>
  go_enter Try.func14, Try.ntmps14
  go_upto_region 1 with fail
  rw [← hW0]
  have Hq := Lib.hid hq
  clear hW0 hq
  go_upto_region 3 with fail
  refine Par.region_ext (by kernel_rfl) 7 [0, 1, 3, 0, 8, 31, 63, 127] [] (fun j f X => match j with
   | 0 => f 0 = .pointer (some ⟨q, 1, none⟩)
   | 1 => f 1 = .slice A a.length ca
   | 2 => ∃ B c, f 2 = .slice B (digs 4294967296 (val 18446744073709551616 a)).length c ∧ RU X B c (digs 4294967296 (val 18446744073709551616 a))
   | 3 => f 3 = .pointer (some ⟨q, 2, none⟩)
   | 4 => f 4 = .slice A' b.length cb
   | 5 => ∃ B c, f 5 = .slice B (digs 4294967296 (val 18446744073709551616 b)).length c ∧ RU X B c (digs 4294967296 (val 18446744073709551616 b))
   | 6 => f 6 = .agg #[.bool false, f 2, f 5]
   | _ => True) (by kernel_rfl) [(6, 0), (7, 1), (8, 2), (9, 3), (10, 4), (11, 5), (12, 6)] (by kernel_rfl) ?_
  refine Par.v0 1 6 ?_
  refine Par.ld1 2 5 0 p1 ?_
  refine Par.S 3 4 [(6, 0), (7, 1), (9, 3), (10, 4)] (fun f X hX hR K hK => ?_) ?_
  · have e1 : f 1 = _ := hR.out 1 rfl
    simp only [yA, yB, yC, yD, yE, e1]
    refine ⟨?_⟩
    go_simp
    refine (from_any _ A ca a X (RN.up Hx.out hX) (fun _ h => h) hla).mono ?_
    rintro e w2 ⟨B, c, rfl, h, hB⟩
    exact hK.out _ (.slice B (digs 4294967296 (val 18446744073709551616 a)).length c) _ (by simp only [yA, yB, yC, yD, yE, e1]) hB trivial (fun Y hY => ⟨B, c, rfl, RN.up h.ru hY⟩)
  refine Par.v0 4 3 ?_
  refine Par.ld1 5 2 3 p2 ?_
  refine Par.S 6 1 [(6, 0), (7, 1), (8, 2), (9, 3), (10, 4)] (fun f X hX hR K hK => ?_) ?_
  · have e4 : f 4 = _ := hR.out 4 rfl
    simp only [yA, yB, yC, yD, yE, e4]
    refine ⟨?_⟩
    go_simp
    refine (from_any _ A' cb b X (RN.up Hy.out hX) (fun _ h => h) hlb).mono ?_
    rintro e w2 ⟨B, c, rfl, h, hB⟩
    exact hK.out _ (.slice B (digs 4294967296 (val 18446744073709551616 b)).length c) _ (by simp only [yA, yB, yC, yD, yE, e4]) hB trivial (fun Y hY => ⟨B, c, rfl, RN.up h.ru hY⟩)
  refine Par.S 7 0 [(6, 0), (7, 1), (8, 2), (9, 3), (10, 4), (11, 5)] (fun f X hX hR K hK => ?_) ?_
  · obtain ⟨B2, c2, (e2 : f 2 = _), h_2⟩ := hR.out 2 rfl
    obtain ⟨B5, c5, (e5 : f 5 = _), h_5⟩ := hR.out 5 rfl
    simp only [yA, yB, yC, yD, yE, e2, e5]
    refine ⟨?_⟩
    go_simp
    exact hK.out _ (.agg #[.bool false, f 2, f 5]) _ (by simp only [yA, yB, yC, yD, yE, e2, e5]) (Ext.refl _) trivial (fun _ _ => rfl)
  refine Par.AllOps.fin ⟨fun f X hX hR hal hap => ?_⟩
  obtain ⟨B2, c2, (e2 : f 2 = _), h_2⟩ := hR 2 (by decide)
  obtain ⟨B5, c5, (e5 : f 5 = _), h_5⟩ := hR 5 (by decide)
  have e6 : f 6 = .agg #[.bool false, f 2, f 5] := hR 6 (by decide)
  simp only [yA, yB, yD, yE, e2, e5, e6]
  clear hR hal hap e2 e5 e6
  refine Par.Chain.next (fun K hK => ⟨Par.want (by kernel_rfl) (wp_storeV (cs' := #[.bool false, .slice B2 (digs 4294967296 (val 18446744073709551616 a)).length c2, .slice B5 (digs 4294967296 (val 18446744073709551616 b)).length c5]) (t := 34) 34 (.tmp 2) (.tmp 12) rfl rfl rfl rfl (hX.at_ h2) infoRP rfl (pt_one _ _ _ _ _ _ _) (fun Y hY1 hY2 hY3 => hK.out _ _ ?_))⟩)
  refine Par.Chain.done ?_
  go_wp2
  exact end_rpt rfl rfl rfl hY1 ⟨_, rfl, ⟨_, _, _, _, rfl, h_2.offJ hY2 (hX.at_ h2) (by kernel_rfl), h_5.offJ hY2 (hX.at_ h2) (by kernel_rfl)⟩, hY2.ext (HE0.out.trans hX) (by have := Hq.out; omega)⟩
end Go.Proofs.Ytldhmjfjbalakaa

namespace Go.Proofs.Ytldhmjfjbalakaa
open Go.RowKit

/-- A row of bytes of the call's own. -/
def OW (w : World) (base : Nat) (A : Option Addr) (c : Nat) (bs : List Nat) : Prop := w.ownsRow base 5 1 (.slice A bs.length c) bs.length (bys bs) ∧ ∀ b ∈ bs, b < 256
theorem own_base {w : World} {base n size : Nat} {e : TypeId} {v : Value} {cs : List Value} (h : w.ownsRow base e size v n cs) (k : Nat) (hk : v.ownBlock = some k) : base ≤ k := by
  rcases h.2 with ⟨rfl, rfl⟩ | ⟨g, cap, cur, rfl, hg, _⟩
  · cases hk
  · simp [Value.ownBlock] at hk
    omega
theorem OW.rb {w : World} {base : Nat} {A : Option Addr} {c : Nat} {bs : List Nat} (h : OW w base A c bs) (hl : bs.length ≤ 100000000) : RB w (In base w.heap.size) A c bs := ⟨RS.of_own h.1, h.2, by omega⟩
theorem OW.lit (w : World) (b : Nat) (hb : b < 256) : OW (w.alloc (.cells #[.int .u8 (b : Int)] 5)) w.heap.size (some ⟨w.heap.size, 0, none⟩) 1 [b] :=
  ⟨World.ownsRow_lit w #[.int .u8 (b : Int)] 1 (Nat.le_refl _) (by unfold maxLen; omega) rfl, by simp; exact hb⟩
theorem OW.ext {w X : World} {base : Nat} {A : Option Addr} {c : Nat} {bs : List Nat} (h : OW w base A c bs) (hE : w.grownBy X none) : OW X base A c bs := ⟨own_kept h.1 hE, h.2⟩
theorem RB.upE {w X : World} {A : Option Addr} {c : Nat} {bs : List Nat} (h : RB w (fun b => b < w.heap.size) A c bs) (hE : Ext w X) : RB X (fun b => b < X.heap.size) A c bs := (h.below hE (fun _ hb => hb)).mono fun _ hb => Nat.lt_of_lt_of_le hb hE.bsize
section
variable {w : World} {ops : Array Oper} {rest : List Oper} {o : Oper} {a : Act} {Q : Exit → Act → World → Prop}
theorem app8 (hgd : o.guard = none) (s x : Operand) (ho : o.op = .call { callee := .builtin .append, args := #[s, x], argTypes := #[49, 49] }) (base : Nat) {A Au : Option Addr} {c cu : Nat} {bs cs : List Nat} {B : Nat → Prop}
    (hs : a.eval s = .slice A bs.length c) (hown : OW w base A c bs) (hx : a.eval x = .slice Au cs.length cu) (hr : RB w B Au cu cs) (hl : bs.length + cs.length ≤ 100000000) (hbase : base ≤ w.heap.size)
    (h : ∀ A' c' w', OW w' base A' c' (bs ++ cs) → Below base w w' → wpList Try.prog ops Q rest (a.put o.dst (.slice A' (bs ++ cs).length c')) w') : wpList Try.prog ops Q (o :: rest) a w := by
  obtain ⟨i0, hi, hz0, hz1, hz2⟩ := info_parts info8
  refine wpList_append_rs w hgd s x 49 ho base 5 i0 (.int .u8 0) 1 1 Try.underlying49 hi hz0 hz1 hz2 rfl (by decide) _ bs.length (bys bs) hs hown.1 B Au cs.length cu (bys cs) hx hr.1 (by intro u hu; obtain ⟨b, _, rfl⟩ := List.mem_map.1 hu; rfl) (bs.length + cs.length) rfl (by unfold maxLen; omega) (by omega) hbase ?_
  intro A' c' w' h1 h2 h3
  have hlen : (bs ++ cs).length = bs.length + cs.length := List.length_append
  refine (hlen ▸ h A' c' w' ⟨?_, ?_⟩ ?_ : _)
  · rw [hlen, show bys (bs ++ cs) = bys bs ++ bys cs by simp [bys]]
    exact h1
  · intro b hb
    rcases List.mem_append.1 hb with hb | hb
    · exact hown.2 b hb
    · exact hr.2.1 b hb
  · exact Below.grown (Below.refl base w) h2 hbase (own_base hown.1)
end
end Go.Proofs.Ytldhmjfjbalakaa

namespace Go.Proofs.Ytldhmjfjbalakaa
open Go.RowKit

/-- What Encode answers. -/
def encC (C : Crv) (bi : Bool) (x y : Nat) : Option (List Nat) := if onQ C bi x y = true then some (if bi then [0] else 4 :: (bytesOf x C.size ++ bytesOf y C.size)) else none
theorem Crv.Fine.bits {C : Crv} (h : C.Fine) {x : Nat} (hx : x < C.M) : nbits x ≤ 8 * C.size := nbits_le (Nat.lt_of_lt_of_le (Nat.lt_trans hx h.room) (by rw [pow256]; exact Nat.le_refl _))
theorem bytesOf_len (x n : Nat) : (bytesOf x n).length = n := by simp [bytesOf]
set_option maxRecDepth 100000 in
set_option maxHeartbeats 8000000 in
theorem encode_c {c : Int} {C : Crv} (hC : IsC c C) {p : Value} {bi : Bool} {x y : Nat} (w : World) (hp : APt w p bi x y) :
 Calls Try.prog 26 #[.int .i64 c, p] w fun e w' => ∃ A1 c1, e = .returned (.tuple #[.slice A1 ((encC C bi x y).getD []).length c1, .bool (encC C bi x y).isSome]) ∧ RB w' (In w.heap.size w'.heap.size) A1 c1 ((encC C bi x y).getD []) ∧ Ext w w' := by
 obtain ⟨A, A', ca, cb, a, b, rfl, ha, hb, hx, hy⟩ := hp
 have hp : APt w (.agg #[.bool bi, .slice A a.length ca, .slice A' b.length cb]) bi x y := ⟨A, A', ca, cb, a, b, rfl, ha, hb, hx, hy⟩
 obtain ⟨W0, hW0⟩ : ∃ W0, W0 = w.alloc (.cells #[.bool bi, .slice A a.length ca, .slice A' b.length cb] 27) := ⟨_, rfl⟩
 obtain ⟨q, hq⟩ : ∃ q, w.heap.size = q := ⟨_, rfl⟩
 have hE0 : Ext w W0 := by rw [hW0]; exact Ext.alloc _ _
 have h1 := heap_alloc_new w (.cells #[.bool bi, .slice A a.length ca, .slice A' b.length cb] 27)
 rw [← hW0, hq] at h1
 have hp0 := Lib.hid (hp.ext hE0)
 have HE0 := Lib.hid hE0
 have HC := Lib.hid hC
 have Ha := Lib.hid (RN.up ha hE0)
 have Hb := Lib.hid (RN.up hb hE0)
 have Hx := Lib.hid hx
 have Hy := Lib.hid hy
 rw [hq]
 obtain ⟨res, hres⟩ : ∃ o, encC C bi x y = o := ⟨_, rfl⟩
 rw [hres]
 have Hres := Lib.hid hres
 clear hp hE0 hC hres ha hb hx hy
 go_enter Try.func26, Try.ntmps26
 go_upto_region 1 with fail
 rw [← hW0]
 have Hq := Lib.hid hq
 clear hW0 hq
 obtain ⟨o1, ho1⟩ : ∃ o, onQ C bi x y = o := ⟨_, rfl⟩
 have Ho1 := Lib.hid ho1
 clear ho1
 go_upto_region 2 with (go_at_call 42; refine (of_c HC.out _).mono ?_; rintro e wa ⟨k, rfl, hk, hE1⟩)
 have HE1 := Lib.hid hE1
 replace h1 := hE1.at_ h1
 clear hE1
 cases o1
 case false =>
  obtain rfl : res = none := by rw [← Hres.out, encC, if_neg (by rw [Ho1.out]; decide)]
  refine Par.region_txt 4 [0, 0, 3, 7] [] (fun j f X => match j with
   | 0 => f 0 = .pointer (some ⟨k, 0, none⟩)
   | 1 => f 1 = .agg #[.bool bi, .slice A a.length ca, .slice A' b.length cb]
   | 2 => f 2 = .bool false
   | 3 => f 3 = .bool true
   | _ => True) (by kernel_rfl) [(13, 0), (14, 1), (15, 2), (16, 3)] (by kernel_rfl) ?_
  refine Par.v0 1 3 ?_
  refine lV0 2 2 h1 infoP ?_
  refine Par.S 3 1 [(13, 0), (14, 1)] (fun f X hX hR K hK => ?_) ?_
  · have e0 : f 0 = _ := hR.out 0 rfl
    have e1 : f 1 = _ := hR.out 1 rfl
    simp only [yA, yB, yC, yD, yE, e0, e1]
    refine ⟨?_⟩
    go_simp
    refine (on_j (hk.ext hX) HC.out.fine (hp0.out.ext (HE1.out.trans hX))).mono ?_
    rw [Ho1.out]
    rintro e w2 ⟨rfl, hB⟩
    exact hK.out _ _ _ (by simp only [yA, yB, yC, yD, yE, e0, e1]) hB trivial (fun _ _ => rfl)
  refine Par.v1 4 0 2 ?_
  refine Par.AllOps.fin ⟨fun f X hX hR hal hap => ?_⟩
  have e3 : f 3 = _ := hR 3 (by decide)
  simp only [yA, yB, yD, yE, e3]
  clear hR hal hap e3
  refine Par.Chain.done ?_
  go_wp2
  go_ret2
  exact ⟨none, 0, rfl, RB.nil_ _ _, (HE0.out.trans HE1.out).trans hX⟩
 case true =>
  cases bi
  case true =>
   obtain rfl : res = some [0] := by rw [← Hres.out, encC, if_pos Ho1.out]; rfl
   refine Par.region_txt 4 [0, 0, 3, 7] [] (fun j f X => match j with
    | 0 => f 0 = .pointer (some ⟨k, 0, none⟩)
    | 1 => f 1 = .agg #[.bool true, .slice A a.length ca, .slice A' b.length cb]
    | 2 => f 2 = .bool true
    | 3 => f 3 = .bool false
    | _ => True) (by kernel_rfl) [(13, 0), (14, 1), (15, 2), (16, 3)] (by kernel_rfl) ?_
   refine Par.v0 1 3 ?_
   refine lV0 2 2 h1 infoP ?_
   refine Par.S 3 1 [(13, 0), (14, 1)] (fun f X hX hR K hK => ?_) ?_
   · have e0 : f 0 = _ := hR.out 0 rfl
     have e1 : f 1 = _ := hR.out 1 rfl
     simp only [yA, yB, yC, yD, yE, e0, e1]
     refine ⟨?_⟩
     go_simp
     refine (on_j (hk.ext hX) HC.out.fine (hp0.out.ext (HE1.out.trans hX))).mono ?_
     rw [Ho1.out]
     rintro e w2 ⟨rfl, hB⟩
     exact hK.out _ _ _ (by simp only [yA, yB, yC, yD, yE, e0, e1]) hB trivial (fun _ _ => rfl)
   refine Par.v1 4 0 2 ?_
   refine Par.AllOps.fin ⟨fun f X hX hR hal hap => ?_⟩
   have e3 : f 3 = _ := hR 3 (by decide)
   simp only [yA, yB, yD, yE, e3]
   clear hR hal hap e3
   refine Par.Chain.done ?_
   have c0 := blk_cell (hX.at_ h1) 0
   simp only [List.getElem?_toArray, List.getElem?_cons_zero] at c0
   have HX := Lib.hid ((HE0.out.trans HE1.out).trans hX)
   clear hX h1
   rename World => X2
   have hw := OW.lit X2 0 (by omega)
   go_wp2
   go_ret2
   have := HX.out.bsize
   have := Hq.out
   exact ⟨_, _, rfl, (hw.rb (by simp)).mono (fun b hb => ⟨by have := hb.1; omega, hb.2⟩), HX.out.trans (Ext.alloc _ _)⟩
  case false =>
   obtain ⟨hxM, hyM⟩ := onQ_lt Ho1.out rfl
   obtain rfl : res = some (4 :: (bytesOf x C.size ++ bytesOf y C.size)) := by rw [← Hres.out, encC, if_pos Ho1.out]; rfl
   refine Par.region_txt 4 [0, 0, 3, 7] [] (fun j f X => match j with
    | 0 => f 0 = .pointer (some ⟨k, 0, none⟩)
    | 1 => f 1 = .agg #[.bool false, .slice A a.length ca, .slice A' b.length cb]
    | 2 => f 2 = .bool true
    | 3 => f 3 = .bool false
    | _ => True) (by kernel_rfl) [(13, 0), (14, 1), (15, 2), (16, 3)] (by kernel_rfl) ?_
   refine Par.v0 1 3 ?_
   refine lV0 2 2 h1 infoP ?_
   refine Par.S 3 1 [(13, 0), (14, 1)] (fun f X hX hR K hK => ?_) ?_
   · have e0 : f 0 = _ := hR.out 0 rfl
     have e1 : f 1 = _ := hR.out 1 rfl
     simp only [yA, yB, yC, yD, yE, e0, e1]
     refine ⟨?_⟩
     go_simp
     refine (on_j (hk.ext hX) HC.out.fine (hp0.out.ext (HE1.out.trans hX))).mono ?_
     rw [Ho1.out]
     rintro e w2 ⟨rfl, hB⟩
     exact hK.out _ _ _ (by simp only [yA, yB, yC, yD, yE, e0, e1]) hB trivial (fun _ _ => rfl)
   refine Par.v1 4 0 2 ?_
   refine Par.AllOps.fin ⟨fun f X hX hR hal hap => ?_⟩
   have e3 : f 3 = _ := hR 3 (by decide)
   simp only [yA, yB, yD, yE, e3]
   clear hR hal hap e3
   refine Par.Chain.done ?_
   have hk2 := hk.ext hX
   have ks := hk2.size
   have HX := Lib.hid hX
   have HEX := Lib.hid ((HE0.out.trans HE1.out).trans hX)
   replace h1 := hX.at_ h1
   have c0 := blk_cell h1 0
   have c1 := blk_cell h1 1
   have c2 := blk_cell h1 2
   simp only [List.getElem?_toArray, List.getElem?_cons_zero, List.getElem?_cons_succ] at c0 c1 c2
   have HM := Lib.hid HC.out.fine
   clear hX h1
   rename World => X2
   go_upto_region 6 with fail
   refine Par.region_ext (by kernel_rfl) 12 [0, 1, 0, 4, 12, 28, 63, 127, 255, 255, 511, 2047] [] (fun j f X => match j with
    | 0 => f 0 = .pointer (some ⟨q, 1, none⟩)
    | 1 => f 1 = .slice A a.length ca
    | 2 => f 2 = .pointer (some ⟨k, 0, none⟩)
    | 3 => f 3 = .pointer (some ⟨k, 0, none⟩)
    | 4 => f 4 = .pointer (some ⟨k, 0, none⟩)
    | 5 => f 5 = .int .i64 (C.size : Int)
    | 6 => ∃ A1, f 6 = .tuple #[.slice A1 C.size C.size, .bool true] ∧ RB X (fun b => b < X.heap.size) A1 C.size (bytesOf x C.size)
    | 7 => ∃ A1, f 7 = .tuple #[.slice A1 C.size C.size, .bool true] ∧ RB X (fun b => b < X.heap.size) A1 C.size (bytesOf x C.size)
    | 8 => ∃ A1, f 8 = .slice A1 C.size C.size ∧ RB X (fun b => b < X.heap.size) A1 C.size (bytesOf x C.size)
    | 9 => f 9 = .bool true
    | 10 => ∃ A1, f 10 = .slice A1 C.size C.size ∧ RB X (fun b => b < X.heap.size) A1 C.size (bytesOf x C.size)
    | 11 => f 11 = .bool true
    | _ => True) (by kernel_rfl) [(21, 0), (22, 1), (23, 2), (24, 3), (25, 4), (26, 5), (27, 6), (20, 7), (28, 8), (29, 9), (7, 10), (8, 11)] (by kernel_rfl) ?_
   refine Par.v0 1 11 ?_
   refine Par.ld1 2 10 0 c1 ?_
   refine Par.v0 3 9 ?_
   refine Par.v1 4 8 2 ?_
   refine Par.v1 5 7 3 ?_
   refine Par.ld1 6 6 4 ks ?_
   refine Par.S 7 5 [(21, 0), (22, 1), (23, 2), (24, 3), (25, 4), (26, 5)] (fun f X hX hR K hK => ?_) ?_
   · have e1 : f 1 = _ := hR.out 1 rfl
     have e5 : f 5 = _ := hR.out 5 rfl
     simp only [yA, yB, yC, yD, yE, e1, e5]
     refine ⟨?_⟩
     go_simp
     refine (bytes_yes _ A ca a C.size X (RN.up Ha.out ((HE1.out.trans HX.out).trans hX)) (fun b hb => hb) (by have := HM.out.small; omega) (by rw [Hx.out]; exact HM.out.bits hxM)).mono ?_
     rw [Hx.out]
     rintro e w2 ⟨A1, rfl, hO, hB⟩
     exact hK.out _ _ _ (by simp only [yA, yB, yC, yD, yE, e1, e5]) hB trivial (fun Y hY => ⟨A1, rfl, RB.upE (hO.mono fun b hb => hb.2) hY⟩)
   refine Par.S 8 4 [(21, 0), (22, 1), (23, 2), (24, 3), (25, 4), (26, 5), (27, 6)] (fun f X hX hR K hK => ?_) ?_
   · obtain ⟨A6, (e6 : f 6 = _), o6⟩ := hR.out 6 rfl
     simp only [yA, yB, yC, yD, yE, e6]
     refine ⟨?_⟩
     go_simp
     exact hK.out _ _ _ (by simp only [yA, yB, yC, yD, yE, e6]) (Ext.refl _) trivial (fun Y hY => ⟨A6, rfl, o6.upE hY⟩)
   refine Par.S 9 3 [(21, 0), (22, 1), (23, 2), (24, 3), (25, 4), (26, 5), (27, 6), (20, 7), (29, 9)] (fun f X hX hR K hK => ?_) ?_
   · obtain ⟨A7, (e7 : f 7 = _), o7⟩ := hR.out 7 rfl
     simp only [yA, yB, yC, yD, yE, e7]
     refine ⟨?_⟩
     go_simp
     exact hK.out _ _ _ (by simp only [yA, yB, yC, yD, yE, e7]) (Ext.refl _) trivial (fun Y hY => ⟨A7, rfl, o7.upE hY⟩)
   refine Par.S 10 2 [(21, 0), (22, 1), (23, 2), (24, 3), (25, 4), (26, 5), (27, 6), (20, 7), (28, 8), (7, 10)] (fun f X hX hR K hK => ?_) ?_
   · obtain ⟨A7, (e7 : f 7 = _), o7⟩ := hR.out 7 rfl
     simp only [yA, yB, yC, yD, yE, e7]
     refine ⟨?_⟩
     go_simp
     exact Par.k hK (s := by simp only [yA, yB, yC, yD, yE, e7])
   refine Par.S 11 1 [(21, 0), (22, 1), (23, 2), (24, 3), (25, 4), (26, 5), (27, 6), (20, 7), (28, 8), (29, 9)] (fun f X hX hR K hK => ?_) ?_
   · obtain ⟨A8, (e8 : f 8 = _), o8⟩ := hR.out 8 rfl
     simp only [yA, yB, yC, yD, yE, e8]
     refine ⟨?_⟩
     go_simp
     exact hK.out _ _ _ (by simp only [yA, yB, yC, yD, yE, e8]) (Ext.refl _) trivial (fun Y hY => ⟨A8, rfl, o8.upE hY⟩)
   refine Par.v1 12 0 9 ?_
   refine Par.AllOps.fin ⟨fun f X hX hR hal hap => ?_⟩
   obtain ⟨A6, (e6 : f 6 = _), o6⟩ := hR 6 (by decide)
   obtain ⟨A7, (e7 : f 7 = _), o7⟩ := hR 7 (by decide)
   obtain ⟨A8, (e8 : f 8 = _), o8⟩ := hR 8 (by decide)
   obtain ⟨Bx, (e10 : f 10 = _), o10⟩ := hR 10 (by decide)
   simp only [yA, yB, yD, yE, e6, e7, e8, e10]
   clear hR hal hap e6 e7 e8 e10
   refine Par.Chain.done ?_
   have HXY := Lib.hid hX
   replace c2 := hX.cell c2
   replace ks := hX.cell ks
   have HOx := Lib.hid o10
   clear hX o6 o7 o8 o10 c0 c1
   rename World => X3
   go_upto_region 7 with fail
   refine Par.region_ext (by kernel_rfl) 12 [0, 1, 0, 4, 12, 28, 63, 127, 255, 255, 511, 2047] [] (fun j f X => match j with
    | 0 => f 0 = .pointer (some ⟨q, 2, none⟩)
    | 1 => f 1 = .slice A' b.length cb
    | 2 => f 2 = .pointer (some ⟨k, 0, none⟩)
    | 3 => f 3 = .pointer (some ⟨k, 0, none⟩)
    | 4 => f 4 = .pointer (some ⟨k, 0, none⟩)
    | 5 => f 5 = .int .i64 (C.size : Int)
    | 6 => ∃ A1, f 6 = .tuple #[.slice A1 C.size C.size, .bool true] ∧ RB X (fun b => b < X.heap.size) A1 C.size (bytesOf y C.size)
    | 7 => ∃ A1, f 7 = .tuple #[.slice A1 C.size C.size, .bool true] ∧ RB X (fun b => b < X.heap.size) A1 C.size (bytesOf y C.size)
    | 8 => ∃ A1, f 8 = .slice A1 C.size C.size ∧ RB X (fun b => b < X.heap.size) A1 C.size (bytesOf y C.size)
    | 9 => f 9 = .bool true
    | 10 => ∃ A1, f 10 = .slice A1 C.size C.size ∧ RB X (fun b => b < X.heap.size) A1 C.size (bytesOf y C.size)
    | 11 => f 11 = .bool true
    | _ => True) (by kernel_rfl) [(31, 0), (32, 1), (33, 2), (34, 3), (35, 4), (36, 5), (37, 6), (30, 7), (38, 8), (39, 9), (9, 10), (10, 11)] (by kernel_rfl) ?_
   refine Par.v0 1 11 ?_
   refine Par.ld1 2 10 0 c2 ?_
   refine Par.v0 3 9 ?_
   refine Par.v1 4 8 2 ?_
   refine Par.v1 5 7 3 ?_
   refine Par.ld1 6 6 4 ks ?_
   refine Par.S 7 5 [(31, 0), (32, 1), (33, 2), (34, 3), (35, 4), (36, 5)] (fun f X hX hR K hK => ?_) ?_
   · have e1 : f 1 = _ := hR.out 1 rfl
     have e5 : f 5 = _ := hR.out 5 rfl
     simp only [yA, yB, yC, yD, yE, e1, e5]
     refine ⟨?_⟩
     go_simp
     refine (bytes_yes _ A' cb b C.size X (RN.up Hb.out (((HE1.out.trans HX.out).trans HXY.out).trans hX)) (fun b hb => hb) (by have := HM.out.small; omega) (by rw [Hy.out]; exact HM.out.bits hyM)).mono ?_
     rw [Hy.out]
     rintro e w2 ⟨A1, rfl, hO, hB⟩
     exact hK.out _ _ _ (by simp only [yA, yB, yC, yD, yE, e1, e5]) hB trivial (fun Y hY => ⟨A1, rfl, RB.upE (hO.mono fun b hb => hb.2) hY⟩)
   refine Par.S 8 4 [(31, 0), (32, 1), (33, 2), (34, 3), (35, 4), (36, 5), (37, 6)] (fun f X hX hR K hK => ?_) ?_
   · obtain ⟨A6, (e6 : f 6 = _), o6⟩ := hR.out 6 rfl
     simp only [yA, yB, yC, yD, yE, e6]
     refine ⟨?_⟩
     go_simp
     exact hK.out _ _ _ (by simp only [yA, yB, yC, yD, yE, e6]) (Ext.refl _) trivial (fun Y hY => ⟨A6, rfl, o6.upE hY⟩)
   refine Par.S 9 3 [(31, 0), (32, 1), (33, 2), (34, 3), (35, 4), (36, 5), (37, 6), (30, 7), (39, 9)] (fun f X hX hR K hK => ?_) ?_
   · obtain ⟨A7, (e7 : f 7 = _), o7⟩ := hR.out 7 rfl
     simp only [yA, yB, yC, yD, yE, e7]
     refine ⟨?_⟩
     go_simp
     exact hK.out _ _ _ (by simp only [yA, yB, yC, yD, yE, e7]) (Ext.refl _) trivial (fun Y hY => ⟨A7, rfl, o7.upE hY⟩)
   refine Par.S 10 2 [(31, 0), (32, 1), (33, 2), (34, 3), (35, 4), (36, 5), (37, 6), (30, 7), (38, 8), (9, 10)] (fun f X hX hR K hK => ?_) ?_
   · obtain ⟨A7, (e7 : f 7 = _), o7⟩ := hR.out 7 rfl
     simp only [yA, yB, yC, yD, yE, e7]
     refine ⟨?_⟩
     go_simp
     exact Par.k hK (s := by simp only [yA, yB, yC, yD, yE, e7])
   refine Par.S 11 1 [(31, 0), (32, 1), (33, 2), (34, 3), (35, 4), (36, 5), (37, 6), (30, 7), (38, 8), (39, 9)] (fun f X hX hR K hK => ?_) ?_
   · obtain ⟨A8, (e8 : f 8 = _), o8⟩ := hR.out 8 rfl
     simp only [yA, yB, yC, yD, yE, e8]
     refine ⟨?_⟩
     go_simp
     exact hK.out _ _ _ (by simp only [yA, yB, yC, yD, yE, e8]) (Ext.refl _) trivial (fun Y hY => ⟨A8, rfl, o8.upE hY⟩)
   refine Par.v1 12 0 9 ?_
   refine Par.AllOps.fin ⟨fun f X hX hR hal hap => ?_⟩
   obtain ⟨A6, (e6 : f 6 = _), o6⟩ := hR 6 (by decide)
   obtain ⟨A7, (e7 : f 7 = _), o7⟩ := hR 7 (by decide)
   obtain ⟨A8, (e8 : f 8 = _), o8⟩ := hR 8 (by decide)
   obtain ⟨By, (e10 : f 10 = _), o10⟩ := hR 10 (by decide)
   simp only [yA, yB, yD, yE, e6, e7, e8, e10]
   clear hR hal hap e6 e7 e8 e10
   refine Par.Chain.done ?_
   have HXZ := Lib.hid hX
   have hx8 := Lib.hid (HOx.out.upE hX)
   have hy8 := Lib.hid o10
   clear hX o6 o7 o8 o10 c2 ks
   rename World => X4
   obtain ⟨B0, hB0⟩ : ∃ B, X4.heap.size = B := ⟨_, rfl⟩
   have hl : OW (X4.alloc (.cells #[.int .u8 4] 5)) X4.heap.size (some ⟨X4.heap.size, 0, none⟩) 1 [4] := OW.lit X4 4 (by omega)
   have hA := Ext.alloc X4 (.cells #[.int .u8 4] 5)
   have hx9 := Lib.hid ((hx8.out).below hA (fun b hb => hb))
   have hy9 := Lib.hid ((hy8.out).below hA (fun b hb => hb))
   have hz9 : (X4.alloc (.cells #[.int .u8 4] 5)).heap.size = B0 + 1 := by rw [World.size_alloc, hB0]
   have HA := Lib.hid hA
   rw [hB0] at hl
   have Hl := Lib.hid hl
   have HB0 := Lib.hid hB0
   have lx := bytesOf_len x C.size
   have ly := bytesOf_len y C.size
   have HS := Lib.hid lx
   have HT := Lib.hid ly
   have Hsm := Lib.hid HM.out.small
   have Hz9 := Lib.hid hz9
   clear hl hA hz9 lx ly
   go_upto_region 8 with fail


   go_wp2_with (at_builtin; first
    | (refine app8 rfl (.tmp 40) (.tmp 41) rfl B0 rfl Hl.out (by rw [HS.out]; rfl) hx9.out (by rw [HS.out]; have := Hsm.out; simp; omega) (by have := Hz9.out; omega) ?_; intro A1 c1 w1 hw1 hb1; have Hw1 := Lib.hid hw1; have Hb1 := Lib.hid hb1; clear hw1 hb1)
    | (refine app8 rfl (.tmp 42) (.tmp 43) rfl B0 rfl Hw1.out (by rw [HT.out]; rfl) (hy9.out.below Hb1.out (fun b hb => by have := HB0.out; omega)) (by rw [List.length_append, HS.out, HT.out]; have := Hsm.out; simp; omega) (by have := Hz9.out; have := Hb1.out.size; omega) ?_; intro A2 c2 w2 hw2 hb2; have Hw2 := Lib.hid hw2; have Hb2 := Lib.hid hb2; clear hw2 hb2))
   go_ret2
   have hEx := (HEX.out.trans HXY.out).trans HXZ.out
   have hq : q ≤ B0 := by have := hEx.bsize; have := Hq.out; omega
   have hrb := Hw2.out.rb (by rw [List.length_append, List.length_append, HS.out, HT.out]; have := Hsm.out; simp; omega)
   refine ⟨A2, c2, ?_, hrb.mono (fun b hb => ⟨by have := hb.1; omega, hb.2⟩), Below.trans (hEx.trans HA.out) (Below.mono (Hb1.out.trans Hb2.out) (by have := hEx.bsize; omega))⟩
   show _ = Ending.returned (.tuple #[.slice A2 (4 :: (bytesOf x C.size ++ bytesOf y C.size)).length c2, .bool true])
   rw [List.length_cons, List.length_append]
   rfl
end Go.Proofs.Ytldhmjfjbalakaa

namespace Go.Proofs.Ytldhmjfjbalakaa
open Go.RowKit

set_option maxRecDepth 100000 in
set_option maxHeartbeats 4000000 in
theorem onx_c {c : Int} {C : Crv} (hC : IsC c C) {p : Value} {bi : Bool} {x y : Nat} (w : World) (hp : APt w p bi x y) :
 Calls Try.prog 37 #[.int .i64 c, p] w fun e w' => e = .returned (.bool (onQ C bi x y)) ∧ Ext w w' := by
 obtain ⟨p1, p2, rfl⟩ := apt_agg hp
 obtain ⟨W0, hW0⟩ : ∃ W0, W0 = w.alloc (.cells #[.bool bi, p1, p2] 27) := ⟨_, rfl⟩
 obtain ⟨q, hq⟩ : ∃ q, w.heap.size = q := ⟨_, rfl⟩
 have hE0 : Ext w W0 := by rw [hW0]; exact Ext.alloc _ _
 have h1 := heap_alloc_new w (.cells #[.bool bi, p1, p2] 27)
 rw [← hW0, hq] at h1
 have hp0 := Lib.hid (hp.ext hE0)
 have HE0 := Lib.hid hE0
 have HC := Lib.hid hC
 obtain ⟨res, hres⟩ : ∃ o, onQ C bi x y = o := ⟨_, rfl⟩
 rw [hres]
 have Hres := Lib.hid hres
 clear hp hE0 hC hres
 go_enter Try.func37, Try.ntmps37
 go_upto_region 1 with fail
 rw [← hW0]
 clear hW0 hq
 refine Par.region_ext (by kernel_rfl) 5 [0, 1, 0, 7, 15] [] (fun j f X => match j with
  | 0 => f 0 = .int .i64 c
  | 1 => ∃ k, f 1 = .pointer (some ⟨k, 0, none⟩) ∧ OfC C X k
  | 2 => f 2 = .agg #[.bool bi, p1, p2]
  | 3 => f 3 = .bool res
  | 4 => f 4 = .bool res
  | _ => True) (by kernel_rfl) [(5, 0), (6, 1), (7, 2), (8, 3), (4, 4)] (by kernel_rfl) ?_
 refine Par.v0 1 4 ?_
 refine Par.S 2 3 [(5, 0), (7, 2)] (fun f X hX hR K hK => ?_) ?_
 · have e0 : f 0 = _ := hR.out 0 rfl
   simp only [yA, yB, yC, yD, yE, e0]
   refine ⟨?_⟩
   go_simp
   refine (of_c HC.out X).mono ?_
   rintro e w2 ⟨k, rfl, hk, hB⟩
   exact hK.out _ _ _ (by simp only [yA, yB, yC, yD, yE, e0]) hB trivial (fun Y hY => ⟨k, rfl, hk.ext hY⟩)
 refine lV0 3 2 h1 infoP ?_
 refine Par.S 4 1 [(5, 0), (6, 1), (7, 2)] (fun f X hX hR K hK => ?_) ?_
 · obtain ⟨k1, (e1 : f 1 = _), hk1⟩ := hR.out 1 rfl
   have e2 : f 2 = _ := hR.out 2 rfl
   simp only [yA, yB, yC, yD, yE, e1, e2]
   refine ⟨?_⟩
   go_simp
   refine (on_j hk1 HC.out.fine (hp0.out.ext hX)).mono ?_
   rw [Hres.out]
   rintro e w2 ⟨rfl, hB⟩
   exact hK.out _ _ _ (by simp only [yA, yB, yC, yD, yE, e1, e2]) hB trivial (fun _ _ => rfl)
 refine Par.v1 5 0 3 ?_
 refine Par.AllOps.fin ⟨fun f X hX hR hal hap => ?_⟩
 obtain ⟨k1, (e1 : f 1 = _), hk1⟩ := hR 1 (by decide)
 have e4 : f 4 = _ := hR 4 (by decide)
 simp only [yA, yB, yD, yE, e1, e4]
 clear hR hal hap e1 e4
 refine Par.Chain.done ?_
 go_wp2
 go_ret
 exact ⟨rfl, HE0.out.trans hX⟩
theorem multiples_any (c : Int) {bi : Bool} {p1 p2 : Value} (w : World) :
 Calls Try.prog 30 #[.int .i64 c, .agg #[.bool bi, p1, p2]] w fun e w' => e = .returned (.func (.func 65) #[] #[.pointer (some ⟨w.heap.size, 0, none⟩), .pointer (some ⟨w.heap.size + 1, 0, none⟩)]) ∧
  w' = (w.alloc (.cells #[.int .i64 c] 3)).alloc (.cells #[.bool bi, p1, p2] 27) := by
 go_enter Try.func30, Try.ntmps30
 go_wp2
 go_ret
 exact ⟨rfl, rfl⟩
end Go.Proofs.Ytldhmjfjbalakaa

namespace Go.Proofs.Ytldhmjfjbalakaa
open Go.RowKit

/-- down, by powers modulo the prime. -/
def downE (M k x y z : Nat) : Option (Nat × Nat) := if z % M = 0 then none else some (mm M x (mm M (Pm.pw M z k (M - 2)) (Pm.pw M z k (M - 2))) % M, mm M y (mm M (mm M (Pm.pw M z k (M - 2)) (Pm.pw M z k (M - 2))) (Pm.pw M z k (M - 2))) % M)
theorem down_eval {M k x y z : Nat} (hk : M - 2 < 2 ^ k) : downP M x y z = downE M k x y z := by
  unfold downP downE
  split
  · rfl
  · rw [Pm.pw_eq k _ hk]
    have h1 : mm M (z ^ (M - 2)) (z ^ (M - 2)) = mm M (z ^ (M - 2) % M) (z ^ (M - 2) % M) := by simp only [mm]; rw [← Nat.mul_mod]
    have h2 : ∀ a, mm M a (z ^ (M - 2)) = mm M a (z ^ (M - 2) % M) := fun a => by simp only [mm]; rw [Nat.mul_mod, Nat.mul_mod a (z ^ (M - 2) % M), Nat.mod_mod]
    simp only [h1, h2]
def bx : Nat := 48439561293906451759052585252797914202762949526041747995844080717082404635286
def by_ : Nat := 36134250956749795798585127919587881956611106672985015071877198253568414405109
def x2 : Nat := 56515219790691171413109057904011688695424810155802929973526481321309856242040
def y2 : Nat := 3377031843712258259223711451491452598088675519751548567112458094635497583569
def p256 : Nat := 115792089210356248762697446949407573530086143415290314195533631308867097853951
theorem c256_M : c256.M = p256 := by kernel_rfl
theorem c256_x : val 18446744073709551616 c256.xl = bx := by kernel_rfl
theorem c256_y : val 18446744073709551616 c256.yl = by_ := by kernel_rfl
theorem on_base : onQ c256 false bx by_ = true := by kernel_rfl
theorem on_two : onQ c256 false x2 y2 = true := by kernel_rfl
theorem mul_two : mulC c256 false bx by_ 2 = some (some (x2, y2)) := by
  rw [mulC, if_pos on_base, if_pos (by decide +kernel)]
  rw [downT, down_eval (k := 256) (by rw [c256_M]; decide +kernel)]
  kernel_rfl
theorem add_two : addC c256 false bx by_ false bx by_ = some (some (x2, y2)) := by
  rw [addC, if_pos on_base, if_pos on_base]
  rw [downT, down_eval (k := 256) (by rw [c256_M]; decide +kernel)]
  kernel_rfl
def eb : List Nat := 4 :: (bytesOf x2 32 ++ bytesOf y2 32)
theorem eb_len : eb.length = 65 := by kernel_rfl
theorem enc_two : encC c256 false x2 y2 = some eb := by
  rw [encC, if_pos on_two]
  rfl
theorem dec_two : decC c256 eb = some (some (x2, y2)) := by kernel_rfl
theorem digs_x2 : digs 18446744073709551616 x2 = [11964737083406719352, 13873736548487404341, 9967090510939364035, 9003393950442278782] := by
  rw [show x2 = val 18446744073709551616 [11964737083406719352, 13873736548487404341, 9967090510939364035, 9003393950442278782] by kernel_rfl]
  exact digs_val (by omega) (by decide) (by decide)
theorem nl_len : c256.nl.length = 4 := rfl
end Go.Proofs.Ytldhmjfjbalakaa
